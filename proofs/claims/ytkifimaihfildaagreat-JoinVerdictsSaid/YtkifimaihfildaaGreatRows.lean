/-
  No cell of these rows narrows 'for every input' (looked for: loops, veiled, ifaces, maps, wideKeys, modest, calm, conditions, laid).
  DERIVED. THE GIVEN ROWS OF THIS SEAT. 5 by the template 'for every input the law returns true; each argument reads behind the call as it read before'; 0 by the template 'total and deterministic' (their statements: YtkifimaihfildaaGreatTotals.lean).
  GIVEN WITH THE SEED: the statements are not yours to turn. If you find one false, say at which input.
  Laid BY PROGRAM, IN A SANDBOX (cutbox-rows.mjs): the forced cells as the released guide's own fill.sh prints them over the translation 08afd786cb0fd2ca… (all of the seat's roots in one cut). By AI agents, Wed Nov 11 2026. No macro, syntax, notation, axiom, sorry.
-/
import Derived.Test.YtkifimaihfildaaGreatChecked
import GoSem.Claim
import GoSem.ClaimJoined
import GoSem.ClaimMapViews
import Derived.JoinedTies
import Derived.KernelRfl
namespace Go.Proofs.YtkifimaihfildaaGreat
/- THE CELL 'sum', in the pinned program and in every row, IS THE sha256 OF THE DUMP (.gsa) THAT YtkifimaihfildaaGreatProg.lean LOADS. Nothing in Lean hashes anything: it is a label: what it is worth is what the hold of that sum in a sandbox is worth. -/
noncomputable def Tryz.pinned : Pinned := { name := "ytkifimaihfildaagreat", sum := "08afd786cb0fd2ca4f7025cdc55ee299071b24ba9bddebfaece91a4e905f4a02", checked := Tryz.checked }
namespace Rows
def none {H : Type} : Left H := { results := [], args := [] }

/-- 'firetowerlaw07.JoinTables': WHATEVER THE INPUT: true; the input reads as it did. -/
def joinTablesSpec : ChangeSpec := { name := "joinTables", fn := fun _ => fun
  | [d] => { results := [.lit (.bool true)], args := [d] }
  | _ => none }
def joinTablesRow : OpenClaim := { program := "ytkifimaihfildaagreat", sum := "08afd786cb0fd2ca4f7025cdc55ee299071b24ba9bddebfaece91a4e905f4a02", func := "firetower/firetowerlaw07.JoinTables", spec := "joinTables", unfollowed := true, recurses := true, plainKeys := false, apart := false }
def JoinTablesSaid : Prop := joinTablesRow.holds Tryz.pinned (OpenSpec.ofChange joinTablesSpec)

/-- ITS FALSE NEIGHBOUR: 'it returns false'. Refute it at one input. -/
def joinTablesWrong : ChangeSpec := { name := "joinTables", fn := fun _ => fun
  | [d] => { results := [.lit (.bool false)], args := [d] }
  | _ => none }
def JoinTablesWrongFalsely : Prop := joinTablesRow.holds Tryz.pinned (OpenSpec.ofChange joinTablesWrong)

/-- 'firetowerlaw07.JoinVerdicts': WHATEVER THE INPUT: true; the input reads as it did. -/
def joinVerdictsSpec : ChangeSpec := { name := "joinVerdicts", fn := fun _ => fun
  | [d1, d2, d3] => { results := [.lit (.bool true)], args := [d1, d2, d3] }
  | _ => none }
def joinVerdictsRow : OpenClaim := { program := "ytkifimaihfildaagreat", sum := "08afd786cb0fd2ca4f7025cdc55ee299071b24ba9bddebfaece91a4e905f4a02", func := "firetower/firetowerlaw07.JoinVerdicts", spec := "joinVerdicts", unfollowed := true, recurses := true, plainKeys := false, apart := false }
def JoinVerdictsSaid : Prop := joinVerdictsRow.holds Tryz.pinned (OpenSpec.ofChange joinVerdictsSpec)

/-- ITS FALSE NEIGHBOUR: 'it returns false'. Refute it at one input. -/
def joinVerdictsWrong : ChangeSpec := { name := "joinVerdicts", fn := fun _ => fun
  | [d1, d2, d3] => { results := [.lit (.bool false)], args := [d1, d2, d3] }
  | _ => none }
def JoinVerdictsWrongFalsely : Prop := joinVerdictsRow.holds Tryz.pinned (OpenSpec.ofChange joinVerdictsWrong)

/-- 'firetowerlaw07.JoinCells': WHATEVER THE INPUT: true; the input reads as it did. -/
def joinCellsSpec : ChangeSpec := { name := "joinCells", fn := fun _ => fun
  | [d1, d2] => { results := [.lit (.bool true)], args := [d1, d2] }
  | _ => none }
def joinCellsRow : OpenClaim := { program := "ytkifimaihfildaagreat", sum := "08afd786cb0fd2ca4f7025cdc55ee299071b24ba9bddebfaece91a4e905f4a02", func := "firetower/firetowerlaw07.JoinCells", spec := "joinCells", unfollowed := true, recurses := true, plainKeys := false, apart := false }
def JoinCellsSaid : Prop := joinCellsRow.holds Tryz.pinned (OpenSpec.ofChange joinCellsSpec)

/-- ITS FALSE NEIGHBOUR: 'it returns false'. Refute it at one input. -/
def joinCellsWrong : ChangeSpec := { name := "joinCells", fn := fun _ => fun
  | [d1, d2] => { results := [.lit (.bool false)], args := [d1, d2] }
  | _ => none }
def JoinCellsWrongFalsely : Prop := joinCellsRow.holds Tryz.pinned (OpenSpec.ofChange joinCellsWrong)

/-- 'firetowerlaw07.JoinParts': WHATEVER THE INPUT: true; the input reads as it did. -/
def joinPartsSpec : ChangeSpec := { name := "joinParts", fn := fun _ => fun
  | [d1, d2, d3] => { results := [.lit (.bool true)], args := [d1, d2, d3] }
  | _ => none }
def joinPartsRow : OpenClaim := { program := "ytkifimaihfildaagreat", sum := "08afd786cb0fd2ca4f7025cdc55ee299071b24ba9bddebfaece91a4e905f4a02", func := "firetower/firetowerlaw07.JoinParts", spec := "joinParts", unfollowed := true, recurses := true, plainKeys := false, apart := false }
def JoinPartsSaid : Prop := joinPartsRow.holds Tryz.pinned (OpenSpec.ofChange joinPartsSpec)

/-- ITS FALSE NEIGHBOUR: 'it returns false'. Refute it at one input. -/
def joinPartsWrong : ChangeSpec := { name := "joinParts", fn := fun _ => fun
  | [d1, d2, d3] => { results := [.lit (.bool false)], args := [d1, d2, d3] }
  | _ => none }
def JoinPartsWrongFalsely : Prop := joinPartsRow.holds Tryz.pinned (OpenSpec.ofChange joinPartsWrong)

/-- 'firetowerlaw07.JoinPartitions': WHATEVER THE INPUT: true; the input reads as it did. -/
def joinPartitionsSpec : ChangeSpec := { name := "joinPartitions", fn := fun _ => fun
  | [d1, d2] => { results := [.lit (.bool true)], args := [d1, d2] }
  | _ => none }
def joinPartitionsRow : OpenClaim := { program := "ytkifimaihfildaagreat", sum := "08afd786cb0fd2ca4f7025cdc55ee299071b24ba9bddebfaece91a4e905f4a02", func := "firetower/firetowerlaw07.JoinPartitions", spec := "joinPartitions", unfollowed := true, recurses := true, plainKeys := false, apart := false }
def JoinPartitionsSaid : Prop := joinPartitionsRow.holds Tryz.pinned (OpenSpec.ofChange joinPartitionsSpec)

/-- ITS FALSE NEIGHBOUR: 'it returns false'. Refute it at one input. -/
def joinPartitionsWrong : ChangeSpec := { name := "joinPartitions", fn := fun _ => fun
  | [d1, d2] => { results := [.lit (.bool false)], args := [d1, d2] }
  | _ => none }
def JoinPartitionsWrongFalsely : Prop := joinPartitionsRow.holds Tryz.pinned (OpenSpec.ofChange joinPartitionsWrong)

/- THE SECOND FORM. 'bulk': how many values and letters a reading holds, each counted each time it is reached (what is shared counts as often as it is met; a slice's spare places count too). A statement '..UptoSaid' is the law's where the arguments, and the package variables that the reading takes, are together of bulk at most 1048576: NARROWER than '..Said'. Prove '..Said' where nothing that the law and all that it calls make is longer than what came in: it says more and counts as full. Else prove '..UptoSaid'. A law counts once. -/
mutual
def uptoBulk {H : Type} : DataW H → Nat
  | .lit (.string bytes) => bytes.length + 1
  | .lit _ => 1
  | .nil => 1
  | .ptr d => uptoBulk d + 1
  | .slice elems spare => uptoBulkAll elems + uptoBulkAll spare + 1
  | .agg parts => uptoBulkAll parts + 1
  | .iface _ d => uptoBulk d + 1
  | .map entries => uptoBulkEntries entries + 1
  | .held _ => 1
def uptoBulkAll {H : Type} : List (DataW H) → Nat
  | [] => 0
  | d :: r => uptoBulk d + uptoBulkAll r
def uptoBulkEntries {H : Type} : List (Lit × DataW H) → Nat
  | [] => 0
  | x :: r => uptoBulkEntry x + uptoBulkEntries r
def uptoBulkEntry {H : Type} : Lit × DataW H → Nat
  | (.string bytes, d) => bytes.length + uptoBulk d + 1
  | (_, d) => uptoBulk d + 1
 end
def uptoSmall : (H : Type) → List (DataW H) → Bool := fun _ ds => decide (uptoBulkAll ds ≤ 1048576)
def OpenSpec.upto (s : _root_.Go.ChangeSpec) : _root_.Go.OpenSpec := { _root_.Go.OpenSpec.ofChange s with cond := some uptoSmall }

/-- 'firetowerlaw07.JoinTables', WHERE WHAT IT READS IS OF BULK AT MOST 1048576: true; the input reads as it did. -/
def joinTablesUptoRow : OpenClaim := { program := "ytkifimaihfildaagreat", sum := "08afd786cb0fd2ca4f7025cdc55ee299071b24ba9bddebfaece91a4e905f4a02", func := "firetower/firetowerlaw07.JoinTables", spec := "joinTables", unfollowed := true, recurses := true, plainKeys := false, apart := false, narrowed := true }
def JoinTablesUptoSaid : Prop := joinTablesUptoRow.holds Tryz.pinned (OpenSpec.upto joinTablesSpec)

/-- 'firetowerlaw07.JoinVerdicts', WHERE WHAT IT READS IS OF BULK AT MOST 1048576: true; the input reads as it did. -/
def joinVerdictsUptoRow : OpenClaim := { program := "ytkifimaihfildaagreat", sum := "08afd786cb0fd2ca4f7025cdc55ee299071b24ba9bddebfaece91a4e905f4a02", func := "firetower/firetowerlaw07.JoinVerdicts", spec := "joinVerdicts", unfollowed := true, recurses := true, plainKeys := false, apart := false, narrowed := true }
def JoinVerdictsUptoSaid : Prop := joinVerdictsUptoRow.holds Tryz.pinned (OpenSpec.upto joinVerdictsSpec)

/-- 'firetowerlaw07.JoinCells', WHERE WHAT IT READS IS OF BULK AT MOST 1048576: true; the input reads as it did. -/
def joinCellsUptoRow : OpenClaim := { program := "ytkifimaihfildaagreat", sum := "08afd786cb0fd2ca4f7025cdc55ee299071b24ba9bddebfaece91a4e905f4a02", func := "firetower/firetowerlaw07.JoinCells", spec := "joinCells", unfollowed := true, recurses := true, plainKeys := false, apart := false, narrowed := true }
def JoinCellsUptoSaid : Prop := joinCellsUptoRow.holds Tryz.pinned (OpenSpec.upto joinCellsSpec)

/-- 'firetowerlaw07.JoinParts', WHERE WHAT IT READS IS OF BULK AT MOST 1048576: true; the input reads as it did. -/
def joinPartsUptoRow : OpenClaim := { program := "ytkifimaihfildaagreat", sum := "08afd786cb0fd2ca4f7025cdc55ee299071b24ba9bddebfaece91a4e905f4a02", func := "firetower/firetowerlaw07.JoinParts", spec := "joinParts", unfollowed := true, recurses := true, plainKeys := false, apart := false, narrowed := true }
def JoinPartsUptoSaid : Prop := joinPartsUptoRow.holds Tryz.pinned (OpenSpec.upto joinPartsSpec)

/-- 'firetowerlaw07.JoinPartitions', WHERE WHAT IT READS IS OF BULK AT MOST 1048576: true; the input reads as it did. -/
def joinPartitionsUptoRow : OpenClaim := { program := "ytkifimaihfildaagreat", sum := "08afd786cb0fd2ca4f7025cdc55ee299071b24ba9bddebfaece91a4e905f4a02", func := "firetower/firetowerlaw07.JoinPartitions", spec := "joinPartitions", unfollowed := true, recurses := true, plainKeys := false, apart := false, narrowed := true }
def JoinPartitionsUptoSaid : Prop := joinPartitionsUptoRow.holds Tryz.pinned (OpenSpec.upto joinPartitionsSpec)

end Rows
end Go.Proofs.YtkifimaihfildaaGreat
