/-
  No cell of these rows narrows 'for every input' (looked for: loops, veiled, ifaces, maps, wideKeys, modest, calm, conditions, laid).
  DERIVED. THE GIVEN ROWS OF THIS SEAT. 4 by the template 'for every input the law returns true; each argument reads behind the call as it read before'; 0 by the template 'total and deterministic' (their statements: YtooepbnecjepnaaGreatTotals.lean).
  GIVEN WITH THE SEED: the statements are not yours to turn. If you find one false, say at which input.
  Laid BY PROGRAM, IN A SANDBOX (cutbox-rows.mjs): the forced cells as the released guide's own fill.sh prints them over the translation 814a75e0b4d60f35… (all of the seat's roots in one cut). By AI agents, Wed Nov 11 2026. No macro, syntax, notation, axiom, sorry.
-/
import Derived.Test.YtooepbnecjepnaaGreatChecked
import GoSem.Claim
import GoSem.ClaimJoined
import GoSem.ClaimMapViews
import Derived.JoinedTies
import Derived.KernelRfl
namespace Go.Proofs.YtooepbnecjepnaaGreat
/- THE CELL 'sum', in the pinned program and in every row, IS THE sha256 OF THE DUMP (.gsa) THAT YtooepbnecjepnaaGreatProg.lean LOADS. Nothing in Lean hashes anything: it is a label: what it is worth is what the hold of that sum in a sandbox is worth. -/
noncomputable def Tryz.pinned : Pinned := { name := "ytooepbnecjepnaagreat", sum := "814a75e0b4d60f35c578babf6922b45dd3b762dfa757ba71a787282f6214ac25", checked := Tryz.checked }
namespace Rows
def none {H : Type} : Left H := { results := [], args := [] }

/-- 'firetowerlaw06.CellMost': WHATEVER THE INPUT: true; the input reads as it did. -/
def cellMostSpec : ChangeSpec := { name := "cellMost", fn := fun _ => fun
  | [d1, d2, d3, d4] => { results := [.lit (.bool true)], args := [d1, d2, d3, d4] }
  | _ => none }
def cellMostRow : OpenClaim := { program := "ytooepbnecjepnaagreat", sum := "814a75e0b4d60f35c578babf6922b45dd3b762dfa757ba71a787282f6214ac25", func := "firetower/firetowerlaw06.CellMost", spec := "cellMost", unfollowed := true, recurses := true, apart := false }
def CellMostSaid : Prop := cellMostRow.holds Tryz.pinned (OpenSpec.ofChange cellMostSpec)

/-- ITS FALSE NEIGHBOUR: 'it returns false'. Refute it at one input. -/
def cellMostWrong : ChangeSpec := { name := "cellMost", fn := fun _ => fun
  | [d1, d2, d3, d4] => { results := [.lit (.bool false)], args := [d1, d2, d3, d4] }
  | _ => none }
def CellMostWrongFalsely : Prop := cellMostRow.holds Tryz.pinned (OpenSpec.ofChange cellMostWrong)

/-- 'firetowerlaw06.CellHalves': WHATEVER THE INPUT: true; the input reads as it did. -/
def cellHalvesSpec : ChangeSpec := { name := "cellHalves", fn := fun _ => fun
  | [d1, d2, d3, d4] => { results := [.lit (.bool true)], args := [d1, d2, d3, d4] }
  | _ => none }
def cellHalvesRow : OpenClaim := { program := "ytooepbnecjepnaagreat", sum := "814a75e0b4d60f35c578babf6922b45dd3b762dfa757ba71a787282f6214ac25", func := "firetower/firetowerlaw06.CellHalves", spec := "cellHalves", unfollowed := true, recurses := true, apart := false }
def CellHalvesSaid : Prop := cellHalvesRow.holds Tryz.pinned (OpenSpec.ofChange cellHalvesSpec)

/-- ITS FALSE NEIGHBOUR: 'it returns false'. Refute it at one input. -/
def cellHalvesWrong : ChangeSpec := { name := "cellHalves", fn := fun _ => fun
  | [d1, d2, d3, d4] => { results := [.lit (.bool false)], args := [d1, d2, d3, d4] }
  | _ => none }
def CellHalvesWrongFalsely : Prop := cellHalvesRow.holds Tryz.pinned (OpenSpec.ofChange cellHalvesWrong)

/-- 'firetowerlaw06.CellTrue': WHATEVER THE INPUT: true; the input reads as it did. -/
def cellTrueSpec : ChangeSpec := { name := "cellTrue", fn := fun _ => fun
  | [d1, d2, d3, d4, d5] => { results := [.lit (.bool true)], args := [d1, d2, d3, d4, d5] }
  | _ => none }
def cellTrueRow : OpenClaim := { program := "ytooepbnecjepnaagreat", sum := "814a75e0b4d60f35c578babf6922b45dd3b762dfa757ba71a787282f6214ac25", func := "firetower/firetowerlaw06.CellTrue", spec := "cellTrue", unfollowed := true, recurses := true, apart := false }
def CellTrueSaid : Prop := cellTrueRow.holds Tryz.pinned (OpenSpec.ofChange cellTrueSpec)

/-- ITS FALSE NEIGHBOUR: 'it returns false'. Refute it at one input. -/
def cellTrueWrong : ChangeSpec := { name := "cellTrue", fn := fun _ => fun
  | [d1, d2, d3, d4, d5] => { results := [.lit (.bool false)], args := [d1, d2, d3, d4, d5] }
  | _ => none }
def CellTrueWrongFalsely : Prop := cellTrueRow.holds Tryz.pinned (OpenSpec.ofChange cellTrueWrong)

/-- 'firetowerlaw06.CellBounds': WHATEVER THE INPUT: true; the input reads as it did. -/
def cellBoundsSpec : ChangeSpec := { name := "cellBounds", fn := fun _ => fun
  | [d1, d2, d3, d4] => { results := [.lit (.bool true)], args := [d1, d2, d3, d4] }
  | _ => none }
def cellBoundsRow : OpenClaim := { program := "ytooepbnecjepnaagreat", sum := "814a75e0b4d60f35c578babf6922b45dd3b762dfa757ba71a787282f6214ac25", func := "firetower/firetowerlaw06.CellBounds", spec := "cellBounds", unfollowed := true, recurses := true, apart := false }
def CellBoundsSaid : Prop := cellBoundsRow.holds Tryz.pinned (OpenSpec.ofChange cellBoundsSpec)

/-- ITS FALSE NEIGHBOUR: 'it returns false'. Refute it at one input. -/
def cellBoundsWrong : ChangeSpec := { name := "cellBounds", fn := fun _ => fun
  | [d1, d2, d3, d4] => { results := [.lit (.bool false)], args := [d1, d2, d3, d4] }
  | _ => none }
def CellBoundsWrongFalsely : Prop := cellBoundsRow.holds Tryz.pinned (OpenSpec.ofChange cellBoundsWrong)

/- THE SECOND FORM. 'bulk': how many values and letters a reading holds, each counted each time it is reached (what is shared counts as often as it is met; a slice's spare places count too). A statement '..UptoSaid' is the law's where the arguments, and the package variables that the reading takes, are together of bulk at most 1048576: NARROWER than '..Said'. Prove '..Said' where nothing that the law and all that it calls make is longer than what came in: it says more and counts as full. Else prove '..UptoSaid'. A law counts once. -/
mutual
def uptoBulk {H : Type} : DataW H → Nat
  | .lit (.string bytes) => bytes.length + 1
  | .lit _ => 1
  | .nil => 1
  | .ptr d => uptoBulk d + 1
  | .slice elems spare => uptoBulkAll elems + uptoBulkAll spare + 1
  | .agg parts => uptoBulkAll parts + 1
  | .iface _ d => uptoBulk d + 1
  | .map entries => uptoBulkEntries entries + 1
  | .held _ => 1
def uptoBulkAll {H : Type} : List (DataW H) → Nat
  | [] => 0
  | d :: r => uptoBulk d + uptoBulkAll r
def uptoBulkEntries {H : Type} : List (Lit × DataW H) → Nat
  | [] => 0
  | x :: r => uptoBulkEntry x + uptoBulkEntries r
def uptoBulkEntry {H : Type} : Lit × DataW H → Nat
  | (.string bytes, d) => bytes.length + uptoBulk d + 1
  | (_, d) => uptoBulk d + 1
 end
def uptoSmall : (H : Type) → List (DataW H) → Bool := fun _ ds => decide (uptoBulkAll ds ≤ 1048576)
def OpenSpec.upto (s : _root_.Go.ChangeSpec) : _root_.Go.OpenSpec := { _root_.Go.OpenSpec.ofChange s with cond := some uptoSmall }

/-- 'firetowerlaw06.CellMost', WHERE WHAT IT READS IS OF BULK AT MOST 1048576: true; the input reads as it did. -/
def cellMostUptoRow : OpenClaim := { program := "ytooepbnecjepnaagreat", sum := "814a75e0b4d60f35c578babf6922b45dd3b762dfa757ba71a787282f6214ac25", func := "firetower/firetowerlaw06.CellMost", spec := "cellMost", unfollowed := true, recurses := true, apart := false, narrowed := true }
def CellMostUptoSaid : Prop := cellMostUptoRow.holds Tryz.pinned (OpenSpec.upto cellMostSpec)

/-- 'firetowerlaw06.CellHalves', WHERE WHAT IT READS IS OF BULK AT MOST 1048576: true; the input reads as it did. -/
def cellHalvesUptoRow : OpenClaim := { program := "ytooepbnecjepnaagreat", sum := "814a75e0b4d60f35c578babf6922b45dd3b762dfa757ba71a787282f6214ac25", func := "firetower/firetowerlaw06.CellHalves", spec := "cellHalves", unfollowed := true, recurses := true, apart := false, narrowed := true }
def CellHalvesUptoSaid : Prop := cellHalvesUptoRow.holds Tryz.pinned (OpenSpec.upto cellHalvesSpec)

/-- 'firetowerlaw06.CellTrue', WHERE WHAT IT READS IS OF BULK AT MOST 1048576: true; the input reads as it did. -/
def cellTrueUptoRow : OpenClaim := { program := "ytooepbnecjepnaagreat", sum := "814a75e0b4d60f35c578babf6922b45dd3b762dfa757ba71a787282f6214ac25", func := "firetower/firetowerlaw06.CellTrue", spec := "cellTrue", unfollowed := true, recurses := true, apart := false, narrowed := true }
def CellTrueUptoSaid : Prop := cellTrueUptoRow.holds Tryz.pinned (OpenSpec.upto cellTrueSpec)

/-- 'firetowerlaw06.CellBounds', WHERE WHAT IT READS IS OF BULK AT MOST 1048576: true; the input reads as it did. -/
def cellBoundsUptoRow : OpenClaim := { program := "ytooepbnecjepnaagreat", sum := "814a75e0b4d60f35c578babf6922b45dd3b762dfa757ba71a787282f6214ac25", func := "firetower/firetowerlaw06.CellBounds", spec := "cellBounds", unfollowed := true, recurses := true, apart := false, narrowed := true }
def CellBoundsUptoSaid : Prop := cellBoundsUptoRow.holds Tryz.pinned (OpenSpec.upto cellBoundsSpec)

end Rows
end Go.Proofs.YtooepbnecjepnaaGreat
