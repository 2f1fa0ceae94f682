/-
  No cell of these rows narrows 'for every input' (looked for: loops, veiled, ifaces, maps, wideKeys, modest, calm, conditions, laid).
  DERIVED. THE GIVEN ROWS OF THIS SEAT. 3 by the template 'for every input the law returns true; each argument reads behind the call as it read before'; 0 by the template 'total and deterministic' (their statements: YtcmghlfakcppkaaGreatTotals.lean).
  GIVEN WITH THE SEED: the statements are not yours to turn. If you find one false, say at which input.
  Laid BY PROGRAM, IN A SANDBOX (cutbox-rows.mjs): the forced cells as the released guide's own fill.sh prints them over the translation f025e13def854d39… (all of the seat's roots in one cut). By AI agents, Wed Nov 11 2026. No macro, syntax, notation, axiom, sorry.
-/
import Derived.Test.YtcmghlfakcppkaaGreatChecked
import GoSem.Claim
import GoSem.ClaimJoined
import GoSem.ClaimMapViews
import Derived.JoinedTies
import Derived.KernelRfl
namespace Go.Proofs.YtcmghlfakcppkaaGreat
/- THE CELL 'sum', in the pinned program and in every row, IS THE sha256 OF THE DUMP (.gsa) THAT YtcmghlfakcppkaaGreatProg.lean LOADS. Nothing in Lean hashes anything: it is a label: what it is worth is what the hold of that sum in a sandbox is worth. -/
noncomputable def Tryz.pinned : Pinned := { name := "ytcmghlfakcppkaagreat", sum := "f025e13def854d39c9d3df98ca0bdb7b591c7d373270bb801571f5cdd9d298bc", checked := Tryz.checked }
namespace Rows
def none {H : Type} : Left H := { results := [], args := [] }

/-- 'firetowerlaw07.JoinGroupsHold': WHATEVER THE INPUT: true; the input reads as it did. -/
def joinGroupsHoldSpec : ChangeSpec := { name := "joinGroupsHold", fn := fun _ => fun
  | [d1, d2, d3] => { results := [.lit (.bool true)], args := [d1, d2, d3] }
  | _ => none }
def joinGroupsHoldRow : OpenClaim := { program := "ytcmghlfakcppkaagreat", sum := "f025e13def854d39c9d3df98ca0bdb7b591c7d373270bb801571f5cdd9d298bc", func := "firetower/firetowerlaw07.JoinGroupsHold", spec := "joinGroupsHold", unfollowed := true, recurses := true, plainKeys := false, apart := false }
def JoinGroupsHoldSaid : Prop := joinGroupsHoldRow.holds Tryz.pinned (OpenSpec.ofChange joinGroupsHoldSpec)

/-- ITS FALSE NEIGHBOUR: 'it returns false'. Refute it at one input. -/
def joinGroupsHoldWrong : ChangeSpec := { name := "joinGroupsHold", fn := fun _ => fun
  | [d1, d2, d3] => { results := [.lit (.bool false)], args := [d1, d2, d3] }
  | _ => none }
def JoinGroupsHoldWrongFalsely : Prop := joinGroupsHoldRow.holds Tryz.pinned (OpenSpec.ofChange joinGroupsHoldWrong)

/-- 'firetowerlaw07.JoinTruth': WHATEVER THE INPUT: true; the input reads as it did. -/
def joinTruthSpec : ChangeSpec := { name := "joinTruth", fn := fun _ => fun
  | [d1, d2, d3, d4, d5] => { results := [.lit (.bool true)], args := [d1, d2, d3, d4, d5] }
  | _ => none }
def joinTruthRow : OpenClaim := { program := "ytcmghlfakcppkaagreat", sum := "f025e13def854d39c9d3df98ca0bdb7b591c7d373270bb801571f5cdd9d298bc", func := "firetower/firetowerlaw07.JoinTruth", spec := "joinTruth", unfollowed := true, recurses := true, plainKeys := false, apart := false }
def JoinTruthSaid : Prop := joinTruthRow.holds Tryz.pinned (OpenSpec.ofChange joinTruthSpec)

/-- ITS FALSE NEIGHBOUR: 'it returns false'. Refute it at one input. -/
def joinTruthWrong : ChangeSpec := { name := "joinTruth", fn := fun _ => fun
  | [d1, d2, d3, d4, d5] => { results := [.lit (.bool false)], args := [d1, d2, d3, d4, d5] }
  | _ => none }
def JoinTruthWrongFalsely : Prop := joinTruthRow.holds Tryz.pinned (OpenSpec.ofChange joinTruthWrong)

/-- 'firetowerlaw07.JoinGroups': WHATEVER THE INPUT: true; the input reads as it did. -/
def joinGroupsSpec : ChangeSpec := { name := "joinGroups", fn := fun _ => fun
  | [d1, d2] => { results := [.lit (.bool true)], args := [d1, d2] }
  | _ => none }
def joinGroupsRow : OpenClaim := { program := "ytcmghlfakcppkaagreat", sum := "f025e13def854d39c9d3df98ca0bdb7b591c7d373270bb801571f5cdd9d298bc", func := "firetower/firetowerlaw07.JoinGroups", spec := "joinGroups", unfollowed := true, recurses := true, plainKeys := false, apart := false }
def JoinGroupsSaid : Prop := joinGroupsRow.holds Tryz.pinned (OpenSpec.ofChange joinGroupsSpec)

/-- ITS FALSE NEIGHBOUR: 'it returns false'. Refute it at one input. -/
def joinGroupsWrong : ChangeSpec := { name := "joinGroups", fn := fun _ => fun
  | [d1, d2] => { results := [.lit (.bool false)], args := [d1, d2] }
  | _ => none }
def JoinGroupsWrongFalsely : Prop := joinGroupsRow.holds Tryz.pinned (OpenSpec.ofChange joinGroupsWrong)

/- THE SECOND FORM. 'bulk': how many values and letters a reading holds, each counted each time it is reached (what is shared counts as often as it is met; a slice's spare places count too). A statement '..UptoSaid' is the law's where the arguments, and the package variables that the reading takes, are together of bulk at most 1048576: NARROWER than '..Said'. Prove '..Said' where nothing that the law and all that it calls make is longer than what came in: it says more and counts as full. Else prove '..UptoSaid'. A law counts once. -/
mutual
def uptoBulk {H : Type} : DataW H → Nat
  | .lit (.string bytes) => bytes.length + 1
  | .lit _ => 1
  | .nil => 1
  | .ptr d => uptoBulk d + 1
  | .slice elems spare => uptoBulkAll elems + uptoBulkAll spare + 1
  | .agg parts => uptoBulkAll parts + 1
  | .iface _ d => uptoBulk d + 1
  | .map entries => uptoBulkEntries entries + 1
  | .held _ => 1
def uptoBulkAll {H : Type} : List (DataW H) → Nat
  | [] => 0
  | d :: r => uptoBulk d + uptoBulkAll r
def uptoBulkEntries {H : Type} : List (Lit × DataW H) → Nat
  | [] => 0
  | x :: r => uptoBulkEntry x + uptoBulkEntries r
def uptoBulkEntry {H : Type} : Lit × DataW H → Nat
  | (.string bytes, d) => bytes.length + uptoBulk d + 1
  | (_, d) => uptoBulk d + 1
 end
def uptoSmall : (H : Type) → List (DataW H) → Bool := fun _ ds => decide (uptoBulkAll ds ≤ 1048576)
def OpenSpec.upto (s : _root_.Go.ChangeSpec) : _root_.Go.OpenSpec := { _root_.Go.OpenSpec.ofChange s with cond := some uptoSmall }

/-- 'firetowerlaw07.JoinGroupsHold', WHERE WHAT IT READS IS OF BULK AT MOST 1048576: true; the input reads as it did. -/
def joinGroupsHoldUptoRow : OpenClaim := { program := "ytcmghlfakcppkaagreat", sum := "f025e13def854d39c9d3df98ca0bdb7b591c7d373270bb801571f5cdd9d298bc", func := "firetower/firetowerlaw07.JoinGroupsHold", spec := "joinGroupsHold", unfollowed := true, recurses := true, plainKeys := false, apart := false, narrowed := true }
def JoinGroupsHoldUptoSaid : Prop := joinGroupsHoldUptoRow.holds Tryz.pinned (OpenSpec.upto joinGroupsHoldSpec)

/-- 'firetowerlaw07.JoinTruth', WHERE WHAT IT READS IS OF BULK AT MOST 1048576: true; the input reads as it did. -/
def joinTruthUptoRow : OpenClaim := { program := "ytcmghlfakcppkaagreat", sum := "f025e13def854d39c9d3df98ca0bdb7b591c7d373270bb801571f5cdd9d298bc", func := "firetower/firetowerlaw07.JoinTruth", spec := "joinTruth", unfollowed := true, recurses := true, plainKeys := false, apart := false, narrowed := true }
def JoinTruthUptoSaid : Prop := joinTruthUptoRow.holds Tryz.pinned (OpenSpec.upto joinTruthSpec)

/-- 'firetowerlaw07.JoinGroups', WHERE WHAT IT READS IS OF BULK AT MOST 1048576: true; the input reads as it did. -/
def joinGroupsUptoRow : OpenClaim := { program := "ytcmghlfakcppkaagreat", sum := "f025e13def854d39c9d3df98ca0bdb7b591c7d373270bb801571f5cdd9d298bc", func := "firetower/firetowerlaw07.JoinGroups", spec := "joinGroups", unfollowed := true, recurses := true, plainKeys := false, apart := false, narrowed := true }
def JoinGroupsUptoSaid : Prop := joinGroupsUptoRow.holds Tryz.pinned (OpenSpec.upto joinGroupsSpec)

end Rows
end Go.Proofs.YtcmghlfakcppkaaGreat
