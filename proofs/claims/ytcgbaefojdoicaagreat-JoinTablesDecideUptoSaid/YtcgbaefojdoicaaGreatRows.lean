/-
  No cell of these rows narrows 'for every input' (looked for: loops, veiled, ifaces, maps, wideKeys, modest, calm, conditions, laid).
  DERIVED. THE GIVEN ROWS OF THIS SEAT. 6 by the template 'for every input the law returns true; each argument reads behind the call as it read before'; 0 by the template 'total and deterministic' (their statements: YtcgbaefojdoicaaGreatTotals.lean).
  GIVEN WITH THE SEED: the statements are not yours to turn. If you find one false, say at which input.
  Laid BY PROGRAM, IN A SANDBOX (cutbox-rows.mjs): the forced cells as the released guide's own fill.sh prints them over the translation b92038744ab729b3… (all of the seat's roots in one cut). By AI agents, Wed Nov 11 2026. No macro, syntax, notation, axiom, sorry.
-/
import Derived.Test.YtcgbaefojdoicaaGreatChecked
import GoSem.Claim
import GoSem.ClaimJoined
import GoSem.ClaimMapViews
import Derived.JoinedTies
import Derived.KernelRfl
namespace Go.Proofs.YtcgbaefojdoicaaGreat
/- THE CELL 'sum', in the pinned program and in every row, IS THE sha256 OF THE DUMP (.gsa) THAT YtcgbaefojdoicaaGreatProg.lean LOADS. Nothing in Lean hashes anything: it is a label: what it is worth is what the hold of that sum in a sandbox is worth. -/
noncomputable def Tryz.pinned : Pinned := { name := "ytcgbaefojdoicaagreat", sum := "b92038744ab729b3b68ba46b3597a2153ae36b049ee16a054688d01fe3bc7508", checked := Tryz.checked }
namespace Rows
def none {H : Type} : Left H := { results := [], args := [] }

/-- 'firetowerlaw07.JoinRests': WHATEVER THE INPUT: true; the input reads as it did. -/
def joinRestsSpec : ChangeSpec := { name := "joinRests", fn := fun _ => fun
  | [d1, d2, d3] => { results := [.lit (.bool true)], args := [d1, d2, d3] }
  | _ => none }
def joinRestsRow : OpenClaim := { program := "ytcgbaefojdoicaagreat", sum := "b92038744ab729b3b68ba46b3597a2153ae36b049ee16a054688d01fe3bc7508", func := "firetower/firetowerlaw07.JoinRests", spec := "joinRests", unfollowed := true, recurses := true, apart := false }
def JoinRestsSaid : Prop := joinRestsRow.holds Tryz.pinned (OpenSpec.ofChange joinRestsSpec)

/-- ITS FALSE NEIGHBOUR: 'it returns false'. Refute it at one input. -/
def joinRestsWrong : ChangeSpec := { name := "joinRests", fn := fun _ => fun
  | [d1, d2, d3] => { results := [.lit (.bool false)], args := [d1, d2, d3] }
  | _ => none }
def JoinRestsWrongFalsely : Prop := joinRestsRow.holds Tryz.pinned (OpenSpec.ofChange joinRestsWrong)

/-- 'firetowerlaw07.JoinLeasts': WHATEVER THE INPUT: true; the input reads as it did. -/
def joinLeastsSpec : ChangeSpec := { name := "joinLeasts", fn := fun _ => fun
  | [d1, d2, d3, d4] => { results := [.lit (.bool true)], args := [d1, d2, d3, d4] }
  | _ => none }
def joinLeastsRow : OpenClaim := { program := "ytcgbaefojdoicaagreat", sum := "b92038744ab729b3b68ba46b3597a2153ae36b049ee16a054688d01fe3bc7508", func := "firetower/firetowerlaw07.JoinLeasts", spec := "joinLeasts", unfollowed := true, recurses := true, apart := false }
def JoinLeastsSaid : Prop := joinLeastsRow.holds Tryz.pinned (OpenSpec.ofChange joinLeastsSpec)

/-- ITS FALSE NEIGHBOUR: 'it returns false'. Refute it at one input. -/
def joinLeastsWrong : ChangeSpec := { name := "joinLeasts", fn := fun _ => fun
  | [d1, d2, d3, d4] => { results := [.lit (.bool false)], args := [d1, d2, d3, d4] }
  | _ => none }
def JoinLeastsWrongFalsely : Prop := joinLeastsRow.holds Tryz.pinned (OpenSpec.ofChange joinLeastsWrong)

/-- 'firetowerlaw07.JoinCheckVerdicts': WHATEVER THE INPUT: true; the input reads as it did. -/
def joinCheckVerdictsSpec : ChangeSpec := { name := "joinCheckVerdicts", fn := fun _ => fun
  | [d1, d2, d3, d4, d5] => { results := [.lit (.bool true)], args := [d1, d2, d3, d4, d5] }
  | _ => none }
def joinCheckVerdictsRow : OpenClaim := { program := "ytcgbaefojdoicaagreat", sum := "b92038744ab729b3b68ba46b3597a2153ae36b049ee16a054688d01fe3bc7508", func := "firetower/firetowerlaw07.JoinCheckVerdicts", spec := "joinCheckVerdicts", unfollowed := true, recurses := true, apart := false }
def JoinCheckVerdictsSaid : Prop := joinCheckVerdictsRow.holds Tryz.pinned (OpenSpec.ofChange joinCheckVerdictsSpec)

/-- ITS FALSE NEIGHBOUR: 'it returns false'. Refute it at one input. -/
def joinCheckVerdictsWrong : ChangeSpec := { name := "joinCheckVerdicts", fn := fun _ => fun
  | [d1, d2, d3, d4, d5] => { results := [.lit (.bool false)], args := [d1, d2, d3, d4, d5] }
  | _ => none }
def JoinCheckVerdictsWrongFalsely : Prop := joinCheckVerdictsRow.holds Tryz.pinned (OpenSpec.ofChange joinCheckVerdictsWrong)

/-- 'firetowerlaw07.JoinCounts': WHATEVER THE INPUT: true; the input reads as it did. -/
def joinCountsSpec : ChangeSpec := { name := "joinCounts", fn := fun _ => fun
  | [d1, d2, d3] => { results := [.lit (.bool true)], args := [d1, d2, d3] }
  | _ => none }
def joinCountsRow : OpenClaim := { program := "ytcgbaefojdoicaagreat", sum := "b92038744ab729b3b68ba46b3597a2153ae36b049ee16a054688d01fe3bc7508", func := "firetower/firetowerlaw07.JoinCounts", spec := "joinCounts", unfollowed := true, recurses := true, apart := false }
def JoinCountsSaid : Prop := joinCountsRow.holds Tryz.pinned (OpenSpec.ofChange joinCountsSpec)

/-- ITS FALSE NEIGHBOUR: 'it returns false'. Refute it at one input. -/
def joinCountsWrong : ChangeSpec := { name := "joinCounts", fn := fun _ => fun
  | [d1, d2, d3] => { results := [.lit (.bool false)], args := [d1, d2, d3] }
  | _ => none }
def JoinCountsWrongFalsely : Prop := joinCountsRow.holds Tryz.pinned (OpenSpec.ofChange joinCountsWrong)

/-- 'firetowerlaw07.JoinCheckTables': WHATEVER THE INPUT: true; the input reads as it did. -/
def joinCheckTablesSpec : ChangeSpec := { name := "joinCheckTables", fn := fun _ => fun
  | [d1, d2, d3, d4, d5, d6] => { results := [.lit (.bool true)], args := [d1, d2, d3, d4, d5, d6] }
  | _ => none }
def joinCheckTablesRow : OpenClaim := { program := "ytcgbaefojdoicaagreat", sum := "b92038744ab729b3b68ba46b3597a2153ae36b049ee16a054688d01fe3bc7508", func := "firetower/firetowerlaw07.JoinCheckTables", spec := "joinCheckTables", unfollowed := true, recurses := true, apart := false }
def JoinCheckTablesSaid : Prop := joinCheckTablesRow.holds Tryz.pinned (OpenSpec.ofChange joinCheckTablesSpec)

/-- ITS FALSE NEIGHBOUR: 'it returns false'. Refute it at one input. -/
def joinCheckTablesWrong : ChangeSpec := { name := "joinCheckTables", fn := fun _ => fun
  | [d1, d2, d3, d4, d5, d6] => { results := [.lit (.bool false)], args := [d1, d2, d3, d4, d5, d6] }
  | _ => none }
def JoinCheckTablesWrongFalsely : Prop := joinCheckTablesRow.holds Tryz.pinned (OpenSpec.ofChange joinCheckTablesWrong)

/-- 'firetowerlaw07.JoinTablesDecide': WHATEVER THE INPUT: true; the input reads as it did. -/
def joinTablesDecideSpec : ChangeSpec := { name := "joinTablesDecide", fn := fun _ => fun
  | [d1, d2, d3, d4, d5, d6, d7, d8] => { results := [.lit (.bool true)], args := [d1, d2, d3, d4, d5, d6, d7, d8] }
  | _ => none }
def joinTablesDecideRow : OpenClaim := { program := "ytcgbaefojdoicaagreat", sum := "b92038744ab729b3b68ba46b3597a2153ae36b049ee16a054688d01fe3bc7508", func := "firetower/firetowerlaw07.JoinTablesDecide", spec := "joinTablesDecide", unfollowed := true, recurses := true, apart := false }
def JoinTablesDecideSaid : Prop := joinTablesDecideRow.holds Tryz.pinned (OpenSpec.ofChange joinTablesDecideSpec)

/-- ITS FALSE NEIGHBOUR: 'it returns false'. Refute it at one input. -/
def joinTablesDecideWrong : ChangeSpec := { name := "joinTablesDecide", fn := fun _ => fun
  | [d1, d2, d3, d4, d5, d6, d7, d8] => { results := [.lit (.bool false)], args := [d1, d2, d3, d4, d5, d6, d7, d8] }
  | _ => none }
def JoinTablesDecideWrongFalsely : Prop := joinTablesDecideRow.holds Tryz.pinned (OpenSpec.ofChange joinTablesDecideWrong)

/- THE SECOND FORM. 'bulk': how many values and letters a reading holds, each counted each time it is reached (what is shared counts as often as it is met; a slice's spare places count too). A statement '..UptoSaid' is the law's where the arguments, and the package variables that the reading takes, are together of bulk at most 1048576: NARROWER than '..Said'. Prove '..Said' where nothing that the law and all that it calls make is longer than what came in: it says more and counts as full. Else prove '..UptoSaid'. A law counts once. -/
mutual
def uptoBulk {H : Type} : DataW H → Nat
  | .lit (.string bytes) => bytes.length + 1
  | .lit _ => 1
  | .nil => 1
  | .ptr d => uptoBulk d + 1
  | .slice elems spare => uptoBulkAll elems + uptoBulkAll spare + 1
  | .agg parts => uptoBulkAll parts + 1
  | .iface _ d => uptoBulk d + 1
  | .map entries => uptoBulkEntries entries + 1
  | .held _ => 1
def uptoBulkAll {H : Type} : List (DataW H) → Nat
  | [] => 0
  | d :: r => uptoBulk d + uptoBulkAll r
def uptoBulkEntries {H : Type} : List (Lit × DataW H) → Nat
  | [] => 0
  | x :: r => uptoBulkEntry x + uptoBulkEntries r
def uptoBulkEntry {H : Type} : Lit × DataW H → Nat
  | (.string bytes, d) => bytes.length + uptoBulk d + 1
  | (_, d) => uptoBulk d + 1
 end
def uptoSmall : (H : Type) → List (DataW H) → Bool := fun _ ds => decide (uptoBulkAll ds ≤ 1048576)
def OpenSpec.upto (s : _root_.Go.ChangeSpec) : _root_.Go.OpenSpec := { _root_.Go.OpenSpec.ofChange s with cond := some uptoSmall }

/-- 'firetowerlaw07.JoinRests', WHERE WHAT IT READS IS OF BULK AT MOST 1048576: true; the input reads as it did. -/
def joinRestsUptoRow : OpenClaim := { program := "ytcgbaefojdoicaagreat", sum := "b92038744ab729b3b68ba46b3597a2153ae36b049ee16a054688d01fe3bc7508", func := "firetower/firetowerlaw07.JoinRests", spec := "joinRests", unfollowed := true, recurses := true, apart := false, narrowed := true }
def JoinRestsUptoSaid : Prop := joinRestsUptoRow.holds Tryz.pinned (OpenSpec.upto joinRestsSpec)

/-- 'firetowerlaw07.JoinLeasts', WHERE WHAT IT READS IS OF BULK AT MOST 1048576: true; the input reads as it did. -/
def joinLeastsUptoRow : OpenClaim := { program := "ytcgbaefojdoicaagreat", sum := "b92038744ab729b3b68ba46b3597a2153ae36b049ee16a054688d01fe3bc7508", func := "firetower/firetowerlaw07.JoinLeasts", spec := "joinLeasts", unfollowed := true, recurses := true, apart := false, narrowed := true }
def JoinLeastsUptoSaid : Prop := joinLeastsUptoRow.holds Tryz.pinned (OpenSpec.upto joinLeastsSpec)

/-- 'firetowerlaw07.JoinCheckVerdicts', WHERE WHAT IT READS IS OF BULK AT MOST 1048576: true; the input reads as it did. -/
def joinCheckVerdictsUptoRow : OpenClaim := { program := "ytcgbaefojdoicaagreat", sum := "b92038744ab729b3b68ba46b3597a2153ae36b049ee16a054688d01fe3bc7508", func := "firetower/firetowerlaw07.JoinCheckVerdicts", spec := "joinCheckVerdicts", unfollowed := true, recurses := true, apart := false, narrowed := true }
def JoinCheckVerdictsUptoSaid : Prop := joinCheckVerdictsUptoRow.holds Tryz.pinned (OpenSpec.upto joinCheckVerdictsSpec)

/-- 'firetowerlaw07.JoinCounts', WHERE WHAT IT READS IS OF BULK AT MOST 1048576: true; the input reads as it did. -/
def joinCountsUptoRow : OpenClaim := { program := "ytcgbaefojdoicaagreat", sum := "b92038744ab729b3b68ba46b3597a2153ae36b049ee16a054688d01fe3bc7508", func := "firetower/firetowerlaw07.JoinCounts", spec := "joinCounts", unfollowed := true, recurses := true, apart := false, narrowed := true }
def JoinCountsUptoSaid : Prop := joinCountsUptoRow.holds Tryz.pinned (OpenSpec.upto joinCountsSpec)

/-- 'firetowerlaw07.JoinCheckTables', WHERE WHAT IT READS IS OF BULK AT MOST 1048576: true; the input reads as it did. -/
def joinCheckTablesUptoRow : OpenClaim := { program := "ytcgbaefojdoicaagreat", sum := "b92038744ab729b3b68ba46b3597a2153ae36b049ee16a054688d01fe3bc7508", func := "firetower/firetowerlaw07.JoinCheckTables", spec := "joinCheckTables", unfollowed := true, recurses := true, apart := false, narrowed := true }
def JoinCheckTablesUptoSaid : Prop := joinCheckTablesUptoRow.holds Tryz.pinned (OpenSpec.upto joinCheckTablesSpec)

/-- 'firetowerlaw07.JoinTablesDecide', WHERE WHAT IT READS IS OF BULK AT MOST 1048576: true; the input reads as it did. -/
def joinTablesDecideUptoRow : OpenClaim := { program := "ytcgbaefojdoicaagreat", sum := "b92038744ab729b3b68ba46b3597a2153ae36b049ee16a054688d01fe3bc7508", func := "firetower/firetowerlaw07.JoinTablesDecide", spec := "joinTablesDecide", unfollowed := true, recurses := true, apart := false, narrowed := true }
def JoinTablesDecideUptoSaid : Prop := joinTablesDecideUptoRow.holds Tryz.pinned (OpenSpec.upto joinTablesDecideSpec)

end Rows
end Go.Proofs.YtcgbaefojdoicaaGreat
