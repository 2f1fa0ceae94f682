/-
  No cell of these rows narrows 'for every input' (looked for: loops, veiled, ifaces, maps, wideKeys, modest, calm, conditions, laid).
  DERIVED. THE GIVEN ROWS OF THIS SEAT. 9 by the template 'for every input the law returns true; each argument reads behind the call as it read before'; 0 by the template 'total and deterministic' (their statements: YtcgifildhmkdfaaGreatTotals.lean).
  GIVEN WITH THE SEED: the statements are not yours to turn. If you find one false, say at which input.
  Laid BY PROGRAM, IN A SANDBOX (cutbox-rows.mjs): the forced cells as the released guide's own fill.sh prints them over the translation e15a49ea918e9387… (all of the seat's roots in one cut). By AI agents, Wed Nov 11 2026. No macro, syntax, notation, axiom, sorry.
-/
import Derived.Test.YtcgifildhmkdfaaGreatChecked
import GoSem.Claim
import GoSem.ClaimJoined
import GoSem.ClaimMapViews
import Derived.JoinedTies
import Derived.KernelRfl
namespace Go.Proofs.YtcgifildhmkdfaaGreat
/- THE CELL 'sum', in the pinned program and in every row, IS THE sha256 OF THE DUMP (.gsa) THAT YtcgifildhmkdfaaGreatProg.lean LOADS. Nothing in Lean hashes anything: it is a label: what it is worth is what the hold of that sum in a sandbox is worth. -/
noncomputable def Tryz.pinned : Pinned := { name := "ytcgifildhmkdfaagreat", sum := "e15a49ea918e93876a6f5a0f189e8a015ab9a38de20401212011d554dfe2ccbe", checked := Tryz.checked }
namespace Rows
def none {H : Type} : Left H := { results := [], args := [] }

/-- 'firetowerlaw06.CellBehind': WHATEVER THE INPUT: true; the input reads as it did. -/
def cellBehindSpec : ChangeSpec := { name := "cellBehind", fn := fun _ => fun
  | [d1, d2, d3, d4, d5] => { results := [.lit (.bool true)], args := [d1, d2, d3, d4, d5] }
  | _ => none }
def cellBehindRow : OpenClaim := { program := "ytcgifildhmkdfaagreat", sum := "e15a49ea918e93876a6f5a0f189e8a015ab9a38de20401212011d554dfe2ccbe", func := "firetower/firetowerlaw06.CellBehind", spec := "cellBehind", unfollowed := true, recurses := true, apart := false }
def CellBehindSaid : Prop := cellBehindRow.holds Tryz.pinned (OpenSpec.ofChange cellBehindSpec)

/-- ITS FALSE NEIGHBOUR: 'it returns false'. Refute it at one input. -/
def cellBehindWrong : ChangeSpec := { name := "cellBehind", fn := fun _ => fun
  | [d1, d2, d3, d4, d5] => { results := [.lit (.bool false)], args := [d1, d2, d3, d4, d5] }
  | _ => none }
def CellBehindWrongFalsely : Prop := cellBehindRow.holds Tryz.pinned (OpenSpec.ofChange cellBehindWrong)

/-- 'firetowerlaw06.CellMore': WHATEVER THE INPUT: true; the input reads as it did. -/
def cellMoreSpec : ChangeSpec := { name := "cellMore", fn := fun _ => fun
  | [d1, d2, d3, d4, d5] => { results := [.lit (.bool true)], args := [d1, d2, d3, d4, d5] }
  | _ => none }
def cellMoreRow : OpenClaim := { program := "ytcgifildhmkdfaagreat", sum := "e15a49ea918e93876a6f5a0f189e8a015ab9a38de20401212011d554dfe2ccbe", func := "firetower/firetowerlaw06.CellMore", spec := "cellMore", unfollowed := true, recurses := true, apart := false }
def CellMoreSaid : Prop := cellMoreRow.holds Tryz.pinned (OpenSpec.ofChange cellMoreSpec)

/-- ITS FALSE NEIGHBOUR: 'it returns false'. Refute it at one input. -/
def cellMoreWrong : ChangeSpec := { name := "cellMore", fn := fun _ => fun
  | [d1, d2, d3, d4, d5] => { results := [.lit (.bool false)], args := [d1, d2, d3, d4, d5] }
  | _ => none }
def CellMoreWrongFalsely : Prop := cellMoreRow.holds Tryz.pinned (OpenSpec.ofChange cellMoreWrong)

/-- 'firetowerlaw06.CellMinimal': WHATEVER THE INPUT: true; the input reads as it did. -/
def cellMinimalSpec : ChangeSpec := { name := "cellMinimal", fn := fun _ => fun
  | [d1, d2, d3] => { results := [.lit (.bool true)], args := [d1, d2, d3] }
  | _ => none }
def cellMinimalRow : OpenClaim := { program := "ytcgifildhmkdfaagreat", sum := "e15a49ea918e93876a6f5a0f189e8a015ab9a38de20401212011d554dfe2ccbe", func := "firetower/firetowerlaw06.CellMinimal", spec := "cellMinimal", unfollowed := true, recurses := true, apart := false }
def CellMinimalSaid : Prop := cellMinimalRow.holds Tryz.pinned (OpenSpec.ofChange cellMinimalSpec)

/-- ITS FALSE NEIGHBOUR: 'it returns false'. Refute it at one input. -/
def cellMinimalWrong : ChangeSpec := { name := "cellMinimal", fn := fun _ => fun
  | [d1, d2, d3] => { results := [.lit (.bool false)], args := [d1, d2, d3] }
  | _ => none }
def CellMinimalWrongFalsely : Prop := cellMinimalRow.holds Tryz.pinned (OpenSpec.ofChange cellMinimalWrong)

/-- 'firetowerlaw06.CellLooks': WHATEVER THE INPUT: true; the input reads as it did. -/
def cellLooksSpec : ChangeSpec := { name := "cellLooks", fn := fun _ => fun
  | [d1, d2, d3, d4, d5] => { results := [.lit (.bool true)], args := [d1, d2, d3, d4, d5] }
  | _ => none }
def cellLooksRow : OpenClaim := { program := "ytcgifildhmkdfaagreat", sum := "e15a49ea918e93876a6f5a0f189e8a015ab9a38de20401212011d554dfe2ccbe", func := "firetower/firetowerlaw06.CellLooks", spec := "cellLooks", unfollowed := true, recurses := true, apart := false }
def CellLooksSaid : Prop := cellLooksRow.holds Tryz.pinned (OpenSpec.ofChange cellLooksSpec)

/-- ITS FALSE NEIGHBOUR: 'it returns false'. Refute it at one input. -/
def cellLooksWrong : ChangeSpec := { name := "cellLooks", fn := fun _ => fun
  | [d1, d2, d3, d4, d5] => { results := [.lit (.bool false)], args := [d1, d2, d3, d4, d5] }
  | _ => none }
def CellLooksWrongFalsely : Prop := cellLooksRow.holds Tryz.pinned (OpenSpec.ofChange cellLooksWrong)

/-- 'firetowerlaw06.CellCores': WHATEVER THE INPUT: true; the input reads as it did. -/
def cellCoresSpec : ChangeSpec := { name := "cellCores", fn := fun _ => fun
  | [d1, d2, d3] => { results := [.lit (.bool true)], args := [d1, d2, d3] }
  | _ => none }
def cellCoresRow : OpenClaim := { program := "ytcgifildhmkdfaagreat", sum := "e15a49ea918e93876a6f5a0f189e8a015ab9a38de20401212011d554dfe2ccbe", func := "firetower/firetowerlaw06.CellCores", spec := "cellCores", unfollowed := true, recurses := true, apart := false }
def CellCoresSaid : Prop := cellCoresRow.holds Tryz.pinned (OpenSpec.ofChange cellCoresSpec)

/-- ITS FALSE NEIGHBOUR: 'it returns false'. Refute it at one input. -/
def cellCoresWrong : ChangeSpec := { name := "cellCores", fn := fun _ => fun
  | [d1, d2, d3] => { results := [.lit (.bool false)], args := [d1, d2, d3] }
  | _ => none }
def CellCoresWrongFalsely : Prop := cellCoresRow.holds Tryz.pinned (OpenSpec.ofChange cellCoresWrong)

/-- 'firetowerlaw06.CellProofs': WHATEVER THE INPUT: true; the input reads as it did. -/
def cellProofsSpec : ChangeSpec := { name := "cellProofs", fn := fun _ => fun
  | [d1, d2, d3, d4, d5, d6] => { results := [.lit (.bool true)], args := [d1, d2, d3, d4, d5, d6] }
  | _ => none }
def cellProofsRow : OpenClaim := { program := "ytcgifildhmkdfaagreat", sum := "e15a49ea918e93876a6f5a0f189e8a015ab9a38de20401212011d554dfe2ccbe", func := "firetower/firetowerlaw06.CellProofs", spec := "cellProofs", unfollowed := true, recurses := true, apart := false }
def CellProofsSaid : Prop := cellProofsRow.holds Tryz.pinned (OpenSpec.ofChange cellProofsSpec)

/-- ITS FALSE NEIGHBOUR: 'it returns false'. Refute it at one input. -/
def cellProofsWrong : ChangeSpec := { name := "cellProofs", fn := fun _ => fun
  | [d1, d2, d3, d4, d5, d6] => { results := [.lit (.bool false)], args := [d1, d2, d3, d4, d5, d6] }
  | _ => none }
def CellProofsWrongFalsely : Prop := cellProofsRow.holds Tryz.pinned (OpenSpec.ofChange cellProofsWrong)

/-- 'firetowerlaw06.CellSmokes': WHATEVER THE INPUT: true; the input reads as it did. -/
def cellSmokesSpec : ChangeSpec := { name := "cellSmokes", fn := fun _ => fun
  | [d1, d2, d3] => { results := [.lit (.bool true)], args := [d1, d2, d3] }
  | _ => none }
def cellSmokesRow : OpenClaim := { program := "ytcgifildhmkdfaagreat", sum := "e15a49ea918e93876a6f5a0f189e8a015ab9a38de20401212011d554dfe2ccbe", func := "firetower/firetowerlaw06.CellSmokes", spec := "cellSmokes", unfollowed := true, recurses := true, apart := false }
def CellSmokesSaid : Prop := cellSmokesRow.holds Tryz.pinned (OpenSpec.ofChange cellSmokesSpec)

/-- ITS FALSE NEIGHBOUR: 'it returns false'. Refute it at one input. -/
def cellSmokesWrong : ChangeSpec := { name := "cellSmokes", fn := fun _ => fun
  | [d1, d2, d3] => { results := [.lit (.bool false)], args := [d1, d2, d3] }
  | _ => none }
def CellSmokesWrongFalsely : Prop := cellSmokesRow.holds Tryz.pinned (OpenSpec.ofChange cellSmokesWrong)

/-- 'firetowerlaw06.CellProves': WHATEVER THE INPUT: true; the input reads as it did. -/
def cellProvesSpec : ChangeSpec := { name := "cellProves", fn := fun _ => fun
  | [d1, d2, d3, d4, d5] => { results := [.lit (.bool true)], args := [d1, d2, d3, d4, d5] }
  | _ => none }
def cellProvesRow : OpenClaim := { program := "ytcgifildhmkdfaagreat", sum := "e15a49ea918e93876a6f5a0f189e8a015ab9a38de20401212011d554dfe2ccbe", func := "firetower/firetowerlaw06.CellProves", spec := "cellProves", unfollowed := true, recurses := true, apart := false }
def CellProvesSaid : Prop := cellProvesRow.holds Tryz.pinned (OpenSpec.ofChange cellProvesSpec)

/-- ITS FALSE NEIGHBOUR: 'it returns false'. Refute it at one input. -/
def cellProvesWrong : ChangeSpec := { name := "cellProves", fn := fun _ => fun
  | [d1, d2, d3, d4, d5] => { results := [.lit (.bool false)], args := [d1, d2, d3, d4, d5] }
  | _ => none }
def CellProvesWrongFalsely : Prop := cellProvesRow.holds Tryz.pinned (OpenSpec.ofChange cellProvesWrong)

/-- 'firetowerlaw06.CellOneByOne': WHATEVER THE INPUT: true; the input reads as it did. -/
def cellOneByOneSpec : ChangeSpec := { name := "cellOneByOne", fn := fun _ => fun
  | [d1, d2, d3] => { results := [.lit (.bool true)], args := [d1, d2, d3] }
  | _ => none }
def cellOneByOneRow : OpenClaim := { program := "ytcgifildhmkdfaagreat", sum := "e15a49ea918e93876a6f5a0f189e8a015ab9a38de20401212011d554dfe2ccbe", func := "firetower/firetowerlaw06.CellOneByOne", spec := "cellOneByOne", unfollowed := true, recurses := true, apart := false }
def CellOneByOneSaid : Prop := cellOneByOneRow.holds Tryz.pinned (OpenSpec.ofChange cellOneByOneSpec)

/-- ITS FALSE NEIGHBOUR: 'it returns false'. Refute it at one input. -/
def cellOneByOneWrong : ChangeSpec := { name := "cellOneByOne", fn := fun _ => fun
  | [d1, d2, d3] => { results := [.lit (.bool false)], args := [d1, d2, d3] }
  | _ => none }
def CellOneByOneWrongFalsely : Prop := cellOneByOneRow.holds Tryz.pinned (OpenSpec.ofChange cellOneByOneWrong)

/- THE SECOND FORM. 'bulk': how many values and letters a reading holds, each counted each time it is reached (what is shared counts as often as it is met; a slice's spare places count too). A statement '..UptoSaid' is the law's where the arguments, and the package variables that the reading takes, are together of bulk at most 1048576: NARROWER than '..Said'. Prove '..Said' where nothing that the law and all that it calls make is longer than what came in: it says more and counts as full. Else prove '..UptoSaid'. A law counts once. -/
mutual
def uptoBulk {H : Type} : DataW H → Nat
  | .lit (.string bytes) => bytes.length + 1
  | .lit _ => 1
  | .nil => 1
  | .ptr d => uptoBulk d + 1
  | .slice elems spare => uptoBulkAll elems + uptoBulkAll spare + 1
  | .agg parts => uptoBulkAll parts + 1
  | .iface _ d => uptoBulk d + 1
  | .map entries => uptoBulkEntries entries + 1
  | .held _ => 1
def uptoBulkAll {H : Type} : List (DataW H) → Nat
  | [] => 0
  | d :: r => uptoBulk d + uptoBulkAll r
def uptoBulkEntries {H : Type} : List (Lit × DataW H) → Nat
  | [] => 0
  | x :: r => uptoBulkEntry x + uptoBulkEntries r
def uptoBulkEntry {H : Type} : Lit × DataW H → Nat
  | (.string bytes, d) => bytes.length + uptoBulk d + 1
  | (_, d) => uptoBulk d + 1
 end
def uptoSmall : (H : Type) → List (DataW H) → Bool := fun _ ds => decide (uptoBulkAll ds ≤ 1048576)
def OpenSpec.upto (s : _root_.Go.ChangeSpec) : _root_.Go.OpenSpec := { _root_.Go.OpenSpec.ofChange s with cond := some uptoSmall }

/-- 'firetowerlaw06.CellBehind', WHERE WHAT IT READS IS OF BULK AT MOST 1048576: true; the input reads as it did. -/
def cellBehindUptoRow : OpenClaim := { program := "ytcgifildhmkdfaagreat", sum := "e15a49ea918e93876a6f5a0f189e8a015ab9a38de20401212011d554dfe2ccbe", func := "firetower/firetowerlaw06.CellBehind", spec := "cellBehind", unfollowed := true, recurses := true, apart := false, narrowed := true }
def CellBehindUptoSaid : Prop := cellBehindUptoRow.holds Tryz.pinned (OpenSpec.upto cellBehindSpec)

/-- 'firetowerlaw06.CellMore', WHERE WHAT IT READS IS OF BULK AT MOST 1048576: true; the input reads as it did. -/
def cellMoreUptoRow : OpenClaim := { program := "ytcgifildhmkdfaagreat", sum := "e15a49ea918e93876a6f5a0f189e8a015ab9a38de20401212011d554dfe2ccbe", func := "firetower/firetowerlaw06.CellMore", spec := "cellMore", unfollowed := true, recurses := true, apart := false, narrowed := true }
def CellMoreUptoSaid : Prop := cellMoreUptoRow.holds Tryz.pinned (OpenSpec.upto cellMoreSpec)

/-- 'firetowerlaw06.CellMinimal', WHERE WHAT IT READS IS OF BULK AT MOST 1048576: true; the input reads as it did. -/
def cellMinimalUptoRow : OpenClaim := { program := "ytcgifildhmkdfaagreat", sum := "e15a49ea918e93876a6f5a0f189e8a015ab9a38de20401212011d554dfe2ccbe", func := "firetower/firetowerlaw06.CellMinimal", spec := "cellMinimal", unfollowed := true, recurses := true, apart := false, narrowed := true }
def CellMinimalUptoSaid : Prop := cellMinimalUptoRow.holds Tryz.pinned (OpenSpec.upto cellMinimalSpec)

/-- 'firetowerlaw06.CellLooks', WHERE WHAT IT READS IS OF BULK AT MOST 1048576: true; the input reads as it did. -/
def cellLooksUptoRow : OpenClaim := { program := "ytcgifildhmkdfaagreat", sum := "e15a49ea918e93876a6f5a0f189e8a015ab9a38de20401212011d554dfe2ccbe", func := "firetower/firetowerlaw06.CellLooks", spec := "cellLooks", unfollowed := true, recurses := true, apart := false, narrowed := true }
def CellLooksUptoSaid : Prop := cellLooksUptoRow.holds Tryz.pinned (OpenSpec.upto cellLooksSpec)

/-- 'firetowerlaw06.CellCores', WHERE WHAT IT READS IS OF BULK AT MOST 1048576: true; the input reads as it did. -/
def cellCoresUptoRow : OpenClaim := { program := "ytcgifildhmkdfaagreat", sum := "e15a49ea918e93876a6f5a0f189e8a015ab9a38de20401212011d554dfe2ccbe", func := "firetower/firetowerlaw06.CellCores", spec := "cellCores", unfollowed := true, recurses := true, apart := false, narrowed := true }
def CellCoresUptoSaid : Prop := cellCoresUptoRow.holds Tryz.pinned (OpenSpec.upto cellCoresSpec)

/-- 'firetowerlaw06.CellProofs', WHERE WHAT IT READS IS OF BULK AT MOST 1048576: true; the input reads as it did. -/
def cellProofsUptoRow : OpenClaim := { program := "ytcgifildhmkdfaagreat", sum := "e15a49ea918e93876a6f5a0f189e8a015ab9a38de20401212011d554dfe2ccbe", func := "firetower/firetowerlaw06.CellProofs", spec := "cellProofs", unfollowed := true, recurses := true, apart := false, narrowed := true }
def CellProofsUptoSaid : Prop := cellProofsUptoRow.holds Tryz.pinned (OpenSpec.upto cellProofsSpec)

/-- 'firetowerlaw06.CellSmokes', WHERE WHAT IT READS IS OF BULK AT MOST 1048576: true; the input reads as it did. -/
def cellSmokesUptoRow : OpenClaim := { program := "ytcgifildhmkdfaagreat", sum := "e15a49ea918e93876a6f5a0f189e8a015ab9a38de20401212011d554dfe2ccbe", func := "firetower/firetowerlaw06.CellSmokes", spec := "cellSmokes", unfollowed := true, recurses := true, apart := false, narrowed := true }
def CellSmokesUptoSaid : Prop := cellSmokesUptoRow.holds Tryz.pinned (OpenSpec.upto cellSmokesSpec)

/-- 'firetowerlaw06.CellProves', WHERE WHAT IT READS IS OF BULK AT MOST 1048576: true; the input reads as it did. -/
def cellProvesUptoRow : OpenClaim := { program := "ytcgifildhmkdfaagreat", sum := "e15a49ea918e93876a6f5a0f189e8a015ab9a38de20401212011d554dfe2ccbe", func := "firetower/firetowerlaw06.CellProves", spec := "cellProves", unfollowed := true, recurses := true, apart := false, narrowed := true }
def CellProvesUptoSaid : Prop := cellProvesUptoRow.holds Tryz.pinned (OpenSpec.upto cellProvesSpec)

/-- 'firetowerlaw06.CellOneByOne', WHERE WHAT IT READS IS OF BULK AT MOST 1048576: true; the input reads as it did. -/
def cellOneByOneUptoRow : OpenClaim := { program := "ytcgifildhmkdfaagreat", sum := "e15a49ea918e93876a6f5a0f189e8a015ab9a38de20401212011d554dfe2ccbe", func := "firetower/firetowerlaw06.CellOneByOne", spec := "cellOneByOne", unfollowed := true, recurses := true, apart := false, narrowed := true }
def CellOneByOneUptoSaid : Prop := cellOneByOneUptoRow.holds Tryz.pinned (OpenSpec.upto cellOneByOneSpec)

end Rows
end Go.Proofs.YtcgifildhmkdfaaGreat
