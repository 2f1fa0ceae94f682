/-
  No cell of these rows narrows 'for every input' (looked for: loops, veiled, ifaces, maps, wideKeys, modest, calm, conditions, laid).
  DERIVED. THE GIVEN ROWS OF THIS SEAT. 3 by the template 'for every input the law returns true; each argument reads behind the call as it read before'; 0 by the template 'total and deterministic' (their statements: YtifanmdehepddaaGreatTotals.lean).
  GIVEN WITH THE SEED: the statements are not yours to turn. If you find one false, say at which input.
  Laid BY PROGRAM, IN A SANDBOX (cutbox-rows.mjs): the forced cells as the released guide's own fill.sh prints them over the translation ce525bd945fd613c… (all of the seat's roots in one cut). By AI agents, Wed Nov 11 2026. No macro, syntax, notation, axiom, sorry.
-/
import Derived.Test.YtifanmdehepddaaGreatChecked
import GoSem.Claim
import GoSem.ClaimJoined
import GoSem.ClaimMapViews
import Derived.JoinedTies
import Derived.KernelRfl
namespace Go.Proofs.YtifanmdehepddaaGreat
/- THE CELL 'sum', in the pinned program and in every row, IS THE sha256 OF THE DUMP (.gsa) THAT YtifanmdehepddaaGreatProg.lean LOADS. Nothing in Lean hashes anything: it is a label: what it is worth is what the hold of that sum in a sandbox is worth. -/
noncomputable def Tryz.pinned : Pinned := { name := "ytifanmdehepddaagreat", sum := "ce525bd945fd613cc372ad062e720454191367d71f2582055251421ae9d34e31", checked := Tryz.checked }
namespace Rows
def none {H : Type} : Left H := { results := [], args := [] }

/-- 'firetowerlaw06.CellLeast': WHATEVER THE INPUT: true; the input reads as it did. -/
def cellLeastSpec : ChangeSpec := { name := "cellLeast", fn := fun _ => fun
  | [d1, d2] => { results := [.lit (.bool true)], args := [d1, d2] }
  | _ => none }
def cellLeastRow : OpenClaim := { program := "ytifanmdehepddaagreat", sum := "ce525bd945fd613cc372ad062e720454191367d71f2582055251421ae9d34e31", func := "firetower/firetowerlaw06.CellLeast", spec := "cellLeast", unfollowed := true, recurses := true, apart := false }
def CellLeastSaid : Prop := cellLeastRow.holds Tryz.pinned (OpenSpec.ofChange cellLeastSpec)

/-- ITS FALSE NEIGHBOUR: 'it returns false'. Refute it at one input. -/
def cellLeastWrong : ChangeSpec := { name := "cellLeast", fn := fun _ => fun
  | [d1, d2] => { results := [.lit (.bool false)], args := [d1, d2] }
  | _ => none }
def CellLeastWrongFalsely : Prop := cellLeastRow.holds Tryz.pinned (OpenSpec.ofChange cellLeastWrong)

/-- 'firetowerlaw06.CellPlaces': WHATEVER THE INPUT: true; the input reads as it did. -/
def cellPlacesSpec : ChangeSpec := { name := "cellPlaces", fn := fun _ => fun
  | [d1, d2, d3] => { results := [.lit (.bool true)], args := [d1, d2, d3] }
  | _ => none }
def cellPlacesRow : OpenClaim := { program := "ytifanmdehepddaagreat", sum := "ce525bd945fd613cc372ad062e720454191367d71f2582055251421ae9d34e31", func := "firetower/firetowerlaw06.CellPlaces", spec := "cellPlaces", unfollowed := true, recurses := true, apart := false }
def CellPlacesSaid : Prop := cellPlacesRow.holds Tryz.pinned (OpenSpec.ofChange cellPlacesSpec)

/-- ITS FALSE NEIGHBOUR: 'it returns false'. Refute it at one input. -/
def cellPlacesWrong : ChangeSpec := { name := "cellPlaces", fn := fun _ => fun
  | [d1, d2, d3] => { results := [.lit (.bool false)], args := [d1, d2, d3] }
  | _ => none }
def CellPlacesWrongFalsely : Prop := cellPlacesRow.holds Tryz.pinned (OpenSpec.ofChange cellPlacesWrong)

/-- 'firetowerlaw06.CellChecks': WHATEVER THE INPUT: true; the input reads as it did. -/
def cellChecksSpec : ChangeSpec := { name := "cellChecks", fn := fun _ => fun
  | [d1, d2, d3, d4] => { results := [.lit (.bool true)], args := [d1, d2, d3, d4] }
  | _ => none }
def cellChecksRow : OpenClaim := { program := "ytifanmdehepddaagreat", sum := "ce525bd945fd613cc372ad062e720454191367d71f2582055251421ae9d34e31", func := "firetower/firetowerlaw06.CellChecks", spec := "cellChecks", unfollowed := true, recurses := true, apart := false }
def CellChecksSaid : Prop := cellChecksRow.holds Tryz.pinned (OpenSpec.ofChange cellChecksSpec)

/-- ITS FALSE NEIGHBOUR: 'it returns false'. Refute it at one input. -/
def cellChecksWrong : ChangeSpec := { name := "cellChecks", fn := fun _ => fun
  | [d1, d2, d3, d4] => { results := [.lit (.bool false)], args := [d1, d2, d3, d4] }
  | _ => none }
def CellChecksWrongFalsely : Prop := cellChecksRow.holds Tryz.pinned (OpenSpec.ofChange cellChecksWrong)

/- THE SECOND FORM. 'bulk': how many values and letters a reading holds, each counted each time it is reached (what is shared counts as often as it is met; a slice's spare places count too). A statement '..UptoSaid' is the law's where the arguments, and the package variables that the reading takes, are together of bulk at most 1048576: NARROWER than '..Said'. Prove '..Said' where nothing that the law and all that it calls make is longer than what came in: it says more and counts as full. Else prove '..UptoSaid'. A law counts once. -/
mutual
def uptoBulk {H : Type} : DataW H → Nat
  | .lit (.string bytes) => bytes.length + 1
  | .lit _ => 1
  | .nil => 1
  | .ptr d => uptoBulk d + 1
  | .slice elems spare => uptoBulkAll elems + uptoBulkAll spare + 1
  | .agg parts => uptoBulkAll parts + 1
  | .iface _ d => uptoBulk d + 1
  | .map entries => uptoBulkEntries entries + 1
  | .held _ => 1
def uptoBulkAll {H : Type} : List (DataW H) → Nat
  | [] => 0
  | d :: r => uptoBulk d + uptoBulkAll r
def uptoBulkEntries {H : Type} : List (Lit × DataW H) → Nat
  | [] => 0
  | x :: r => uptoBulkEntry x + uptoBulkEntries r
def uptoBulkEntry {H : Type} : Lit × DataW H → Nat
  | (.string bytes, d) => bytes.length + uptoBulk d + 1
  | (_, d) => uptoBulk d + 1
 end
def uptoSmall : (H : Type) → List (DataW H) → Bool := fun _ ds => decide (uptoBulkAll ds ≤ 1048576)
def OpenSpec.upto (s : _root_.Go.ChangeSpec) : _root_.Go.OpenSpec := { _root_.Go.OpenSpec.ofChange s with cond := some uptoSmall }

/-- 'firetowerlaw06.CellLeast', WHERE WHAT IT READS IS OF BULK AT MOST 1048576: true; the input reads as it did. -/
def cellLeastUptoRow : OpenClaim := { program := "ytifanmdehepddaagreat", sum := "ce525bd945fd613cc372ad062e720454191367d71f2582055251421ae9d34e31", func := "firetower/firetowerlaw06.CellLeast", spec := "cellLeast", unfollowed := true, recurses := true, apart := false, narrowed := true }
def CellLeastUptoSaid : Prop := cellLeastUptoRow.holds Tryz.pinned (OpenSpec.upto cellLeastSpec)

/-- 'firetowerlaw06.CellPlaces', WHERE WHAT IT READS IS OF BULK AT MOST 1048576: true; the input reads as it did. -/
def cellPlacesUptoRow : OpenClaim := { program := "ytifanmdehepddaagreat", sum := "ce525bd945fd613cc372ad062e720454191367d71f2582055251421ae9d34e31", func := "firetower/firetowerlaw06.CellPlaces", spec := "cellPlaces", unfollowed := true, recurses := true, apart := false, narrowed := true }
def CellPlacesUptoSaid : Prop := cellPlacesUptoRow.holds Tryz.pinned (OpenSpec.upto cellPlacesSpec)

/-- 'firetowerlaw06.CellChecks', WHERE WHAT IT READS IS OF BULK AT MOST 1048576: true; the input reads as it did. -/
def cellChecksUptoRow : OpenClaim := { program := "ytifanmdehepddaagreat", sum := "ce525bd945fd613cc372ad062e720454191367d71f2582055251421ae9d34e31", func := "firetower/firetowerlaw06.CellChecks", spec := "cellChecks", unfollowed := true, recurses := true, apart := false, narrowed := true }
def CellChecksUptoSaid : Prop := cellChecksUptoRow.holds Tryz.pinned (OpenSpec.upto cellChecksSpec)

end Rows
end Go.Proofs.YtifanmdehepddaaGreat
