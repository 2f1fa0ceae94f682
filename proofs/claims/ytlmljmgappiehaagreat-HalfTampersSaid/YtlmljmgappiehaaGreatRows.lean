/-
  No cell of these rows narrows 'for every input' (looked for: loops, veiled, ifaces, maps, wideKeys, modest, calm, conditions, laid).
  DERIVED. THE GIVEN ROWS OF THIS SEAT. 8 by the template 'for every input the law returns true; each argument reads behind the call as it read before'; 0 by the template 'total and deterministic' (their statements: YtlmljmgappiehaaGreatTotals.lean).
  GIVEN WITH THE SEED: the statements are not yours to turn. If you find one false, say at which input.
  Laid BY PROGRAM, IN A SANDBOX (cutbox-rows.mjs): the forced cells as the released guide's own fill.sh prints them over the translation 19b8443f3865e3ab… (all of the seat's roots in one cut). By AI agents, Wed Nov 11 2026. No macro, syntax, notation, axiom, sorry.
-/
import Derived.Test.YtlmljmgappiehaaGreatChecked
import GoSem.Claim
import GoSem.ClaimJoined
import GoSem.ClaimMapViews
import Derived.JoinedTies
import Derived.KernelRfl
namespace Go.Proofs.YtlmljmgappiehaaGreat
/- THE CELL 'sum', in the pinned program and in every row, IS THE sha256 OF THE DUMP (.gsa) THAT YtlmljmgappiehaaGreatProg.lean LOADS. Nothing in Lean hashes anything: it is a label: what it is worth is what the hold of that sum in a sandbox is worth. -/
noncomputable def Tryz.pinned : Pinned := { name := "ytlmljmgappiehaagreat", sum := "19b8443f3865e3ab78b71ba7b14fd91cb375f53408ee56788de1dad3e3cfb1b1", checked := Tryz.checked }
namespace Rows
def none {H : Type} : Left H := { results := [], args := [] }

/-- 'firetowerlaw03.HalfCorners': WHATEVER THE INPUT: true; the input reads as it did. -/
def halfCornersSpec : ChangeSpec := { name := "halfCorners", fn := fun _ => fun
  | [d] => { results := [.lit (.bool true)], args := [d] }
  | _ => none }
def halfCornersRow : OpenClaim := { program := "ytlmljmgappiehaagreat", sum := "19b8443f3865e3ab78b71ba7b14fd91cb375f53408ee56788de1dad3e3cfb1b1", func := "firetower/firetowerlaw03.HalfCorners", spec := "halfCorners", unfollowed := true, recurses := true, apart := false }
def HalfCornersSaid : Prop := halfCornersRow.holds Tryz.pinned (OpenSpec.ofChange halfCornersSpec)

/-- ITS FALSE NEIGHBOUR: 'it returns false'. Refute it at one input. -/
def halfCornersWrong : ChangeSpec := { name := "halfCorners", fn := fun _ => fun
  | [d] => { results := [.lit (.bool false)], args := [d] }
  | _ => none }
def HalfCornersWrongFalsely : Prop := halfCornersRow.holds Tryz.pinned (OpenSpec.ofChange halfCornersWrong)

/-- 'firetowerlaw03.HalfCores': WHATEVER THE INPUT: true; the input reads as it did. -/
def halfCoresSpec : ChangeSpec := { name := "halfCores", fn := fun _ => fun
  | [d] => { results := [.lit (.bool true)], args := [d] }
  | _ => none }
def halfCoresRow : OpenClaim := { program := "ytlmljmgappiehaagreat", sum := "19b8443f3865e3ab78b71ba7b14fd91cb375f53408ee56788de1dad3e3cfb1b1", func := "firetower/firetowerlaw03.HalfCores", spec := "halfCores", unfollowed := true, recurses := true, apart := false }
def HalfCoresSaid : Prop := halfCoresRow.holds Tryz.pinned (OpenSpec.ofChange halfCoresSpec)

/-- ITS FALSE NEIGHBOUR: 'it returns false'. Refute it at one input. -/
def halfCoresWrong : ChangeSpec := { name := "halfCores", fn := fun _ => fun
  | [d] => { results := [.lit (.bool false)], args := [d] }
  | _ => none }
def HalfCoresWrongFalsely : Prop := halfCoresRow.holds Tryz.pinned (OpenSpec.ofChange halfCoresWrong)

/-- 'firetowerlaw03.HalfPoints': WHATEVER THE INPUT: true; the input reads as it did. -/
def halfPointsSpec : ChangeSpec := { name := "halfPoints", fn := fun _ => fun
  | [d1, d2, d3, d4, d5, d6, d7] => { results := [.lit (.bool true)], args := [d1, d2, d3, d4, d5, d6, d7] }
  | _ => none }
def halfPointsRow : OpenClaim := { program := "ytlmljmgappiehaagreat", sum := "19b8443f3865e3ab78b71ba7b14fd91cb375f53408ee56788de1dad3e3cfb1b1", func := "firetower/firetowerlaw03.HalfPoints", spec := "halfPoints", unfollowed := true, recurses := true, apart := false }
def HalfPointsSaid : Prop := halfPointsRow.holds Tryz.pinned (OpenSpec.ofChange halfPointsSpec)

/-- ITS FALSE NEIGHBOUR: 'it returns false'. Refute it at one input. -/
def halfPointsWrong : ChangeSpec := { name := "halfPoints", fn := fun _ => fun
  | [d1, d2, d3, d4, d5, d6, d7] => { results := [.lit (.bool false)], args := [d1, d2, d3, d4, d5, d6, d7] }
  | _ => none }
def HalfPointsWrongFalsely : Prop := halfPointsRow.holds Tryz.pinned (OpenSpec.ofChange halfPointsWrong)

/-- 'firetowerlaw03.HalfEmpties': WHATEVER THE INPUT: true; the input reads as it did. -/
def halfEmptiesSpec : ChangeSpec := { name := "halfEmpties", fn := fun _ => fun
  | [d1, d2] => { results := [.lit (.bool true)], args := [d1, d2] }
  | _ => none }
def halfEmptiesRow : OpenClaim := { program := "ytlmljmgappiehaagreat", sum := "19b8443f3865e3ab78b71ba7b14fd91cb375f53408ee56788de1dad3e3cfb1b1", func := "firetower/firetowerlaw03.HalfEmpties", spec := "halfEmpties", unfollowed := true, recurses := true, apart := false }
def HalfEmptiesSaid : Prop := halfEmptiesRow.holds Tryz.pinned (OpenSpec.ofChange halfEmptiesSpec)

/-- ITS FALSE NEIGHBOUR: 'it returns false'. Refute it at one input. -/
def halfEmptiesWrong : ChangeSpec := { name := "halfEmpties", fn := fun _ => fun
  | [d1, d2] => { results := [.lit (.bool false)], args := [d1, d2] }
  | _ => none }
def HalfEmptiesWrongFalsely : Prop := halfEmptiesRow.holds Tryz.pinned (OpenSpec.ofChange halfEmptiesWrong)

/-- 'firetowerlaw03.HalfImplies': WHATEVER THE INPUT: true; the input reads as it did. -/
def halfImpliesSpec : ChangeSpec := { name := "halfImplies", fn := fun _ => fun
  | [d1, d2, d3] => { results := [.lit (.bool true)], args := [d1, d2, d3] }
  | _ => none }
def halfImpliesRow : OpenClaim := { program := "ytlmljmgappiehaagreat", sum := "19b8443f3865e3ab78b71ba7b14fd91cb375f53408ee56788de1dad3e3cfb1b1", func := "firetower/firetowerlaw03.HalfImplies", spec := "halfImplies", unfollowed := true, recurses := true, apart := false }
def HalfImpliesSaid : Prop := halfImpliesRow.holds Tryz.pinned (OpenSpec.ofChange halfImpliesSpec)

/-- ITS FALSE NEIGHBOUR: 'it returns false'. Refute it at one input. -/
def halfImpliesWrong : ChangeSpec := { name := "halfImplies", fn := fun _ => fun
  | [d1, d2, d3] => { results := [.lit (.bool false)], args := [d1, d2, d3] }
  | _ => none }
def HalfImpliesWrongFalsely : Prop := halfImpliesRow.holds Tryz.pinned (OpenSpec.ofChange halfImpliesWrong)

/-- 'firetowerlaw03.HalfThins': WHATEVER THE INPUT: true; the input reads as it did. -/
def halfThinsSpec : ChangeSpec := { name := "halfThins", fn := fun _ => fun
  | [d] => { results := [.lit (.bool true)], args := [d] }
  | _ => none }
def halfThinsRow : OpenClaim := { program := "ytlmljmgappiehaagreat", sum := "19b8443f3865e3ab78b71ba7b14fd91cb375f53408ee56788de1dad3e3cfb1b1", func := "firetower/firetowerlaw03.HalfThins", spec := "halfThins", unfollowed := true, recurses := true, apart := false }
def HalfThinsSaid : Prop := halfThinsRow.holds Tryz.pinned (OpenSpec.ofChange halfThinsSpec)

/-- ITS FALSE NEIGHBOUR: 'it returns false'. Refute it at one input. -/
def halfThinsWrong : ChangeSpec := { name := "halfThins", fn := fun _ => fun
  | [d] => { results := [.lit (.bool false)], args := [d] }
  | _ => none }
def HalfThinsWrongFalsely : Prop := halfThinsRow.holds Tryz.pinned (OpenSpec.ofChange halfThinsWrong)

/-- 'firetowerlaw03.HalfBests': WHATEVER THE INPUT: true; the input reads as it did. -/
def halfBestsSpec : ChangeSpec := { name := "halfBests", fn := fun _ => fun
  | [d1, d2] => { results := [.lit (.bool true)], args := [d1, d2] }
  | _ => none }
def halfBestsRow : OpenClaim := { program := "ytlmljmgappiehaagreat", sum := "19b8443f3865e3ab78b71ba7b14fd91cb375f53408ee56788de1dad3e3cfb1b1", func := "firetower/firetowerlaw03.HalfBests", spec := "halfBests", unfollowed := true, recurses := true, apart := false }
def HalfBestsSaid : Prop := halfBestsRow.holds Tryz.pinned (OpenSpec.ofChange halfBestsSpec)

/-- ITS FALSE NEIGHBOUR: 'it returns false'. Refute it at one input. -/
def halfBestsWrong : ChangeSpec := { name := "halfBests", fn := fun _ => fun
  | [d1, d2] => { results := [.lit (.bool false)], args := [d1, d2] }
  | _ => none }
def HalfBestsWrongFalsely : Prop := halfBestsRow.holds Tryz.pinned (OpenSpec.ofChange halfBestsWrong)

/-- 'firetowerlaw03.HalfTampers': WHATEVER THE INPUT: true; the input reads as it did. -/
def halfTampersSpec : ChangeSpec := { name := "halfTampers", fn := fun _ => fun
  | [d1, d2, d3, d4] => { results := [.lit (.bool true)], args := [d1, d2, d3, d4] }
  | _ => none }
def halfTampersRow : OpenClaim := { program := "ytlmljmgappiehaagreat", sum := "19b8443f3865e3ab78b71ba7b14fd91cb375f53408ee56788de1dad3e3cfb1b1", func := "firetower/firetowerlaw03.HalfTampers", spec := "halfTampers", unfollowed := true, recurses := true, apart := false }
def HalfTampersSaid : Prop := halfTampersRow.holds Tryz.pinned (OpenSpec.ofChange halfTampersSpec)

/-- ITS FALSE NEIGHBOUR: 'it returns false'. Refute it at one input. -/
def halfTampersWrong : ChangeSpec := { name := "halfTampers", fn := fun _ => fun
  | [d1, d2, d3, d4] => { results := [.lit (.bool false)], args := [d1, d2, d3, d4] }
  | _ => none }
def HalfTampersWrongFalsely : Prop := halfTampersRow.holds Tryz.pinned (OpenSpec.ofChange halfTampersWrong)

/- THE SECOND FORM. 'bulk': how many values and letters a reading holds, each counted each time it is reached (what is shared counts as often as it is met; a slice's spare places count too). A statement '..UptoSaid' is the law's where the arguments, and the package variables that the reading takes, are together of bulk at most 1048576: NARROWER than '..Said'. Prove '..Said' where nothing that the law and all that it calls make is longer than what came in: it says more and counts as full. Else prove '..UptoSaid'. A law counts once. -/
mutual
def uptoBulk {H : Type} : DataW H → Nat
  | .lit (.string bytes) => bytes.length + 1
  | .lit _ => 1
  | .nil => 1
  | .ptr d => uptoBulk d + 1
  | .slice elems spare => uptoBulkAll elems + uptoBulkAll spare + 1
  | .agg parts => uptoBulkAll parts + 1
  | .iface _ d => uptoBulk d + 1
  | .map entries => uptoBulkEntries entries + 1
  | .held _ => 1
def uptoBulkAll {H : Type} : List (DataW H) → Nat
  | [] => 0
  | d :: r => uptoBulk d + uptoBulkAll r
def uptoBulkEntries {H : Type} : List (Lit × DataW H) → Nat
  | [] => 0
  | x :: r => uptoBulkEntry x + uptoBulkEntries r
def uptoBulkEntry {H : Type} : Lit × DataW H → Nat
  | (.string bytes, d) => bytes.length + uptoBulk d + 1
  | (_, d) => uptoBulk d + 1
 end
def uptoSmall : (H : Type) → List (DataW H) → Bool := fun _ ds => decide (uptoBulkAll ds ≤ 1048576)
def OpenSpec.upto (s : _root_.Go.ChangeSpec) : _root_.Go.OpenSpec := { _root_.Go.OpenSpec.ofChange s with cond := some uptoSmall }

/-- 'firetowerlaw03.HalfCorners', WHERE WHAT IT READS IS OF BULK AT MOST 1048576: true; the input reads as it did. -/
def halfCornersUptoRow : OpenClaim := { program := "ytlmljmgappiehaagreat", sum := "19b8443f3865e3ab78b71ba7b14fd91cb375f53408ee56788de1dad3e3cfb1b1", func := "firetower/firetowerlaw03.HalfCorners", spec := "halfCorners", unfollowed := true, recurses := true, apart := false, narrowed := true }
def HalfCornersUptoSaid : Prop := halfCornersUptoRow.holds Tryz.pinned (OpenSpec.upto halfCornersSpec)

/-- 'firetowerlaw03.HalfCores', WHERE WHAT IT READS IS OF BULK AT MOST 1048576: true; the input reads as it did. -/
def halfCoresUptoRow : OpenClaim := { program := "ytlmljmgappiehaagreat", sum := "19b8443f3865e3ab78b71ba7b14fd91cb375f53408ee56788de1dad3e3cfb1b1", func := "firetower/firetowerlaw03.HalfCores", spec := "halfCores", unfollowed := true, recurses := true, apart := false, narrowed := true }
def HalfCoresUptoSaid : Prop := halfCoresUptoRow.holds Tryz.pinned (OpenSpec.upto halfCoresSpec)

/-- 'firetowerlaw03.HalfPoints', WHERE WHAT IT READS IS OF BULK AT MOST 1048576: true; the input reads as it did. -/
def halfPointsUptoRow : OpenClaim := { program := "ytlmljmgappiehaagreat", sum := "19b8443f3865e3ab78b71ba7b14fd91cb375f53408ee56788de1dad3e3cfb1b1", func := "firetower/firetowerlaw03.HalfPoints", spec := "halfPoints", unfollowed := true, recurses := true, apart := false, narrowed := true }
def HalfPointsUptoSaid : Prop := halfPointsUptoRow.holds Tryz.pinned (OpenSpec.upto halfPointsSpec)

/-- 'firetowerlaw03.HalfEmpties', WHERE WHAT IT READS IS OF BULK AT MOST 1048576: true; the input reads as it did. -/
def halfEmptiesUptoRow : OpenClaim := { program := "ytlmljmgappiehaagreat", sum := "19b8443f3865e3ab78b71ba7b14fd91cb375f53408ee56788de1dad3e3cfb1b1", func := "firetower/firetowerlaw03.HalfEmpties", spec := "halfEmpties", unfollowed := true, recurses := true, apart := false, narrowed := true }
def HalfEmptiesUptoSaid : Prop := halfEmptiesUptoRow.holds Tryz.pinned (OpenSpec.upto halfEmptiesSpec)

/-- 'firetowerlaw03.HalfImplies', WHERE WHAT IT READS IS OF BULK AT MOST 1048576: true; the input reads as it did. -/
def halfImpliesUptoRow : OpenClaim := { program := "ytlmljmgappiehaagreat", sum := "19b8443f3865e3ab78b71ba7b14fd91cb375f53408ee56788de1dad3e3cfb1b1", func := "firetower/firetowerlaw03.HalfImplies", spec := "halfImplies", unfollowed := true, recurses := true, apart := false, narrowed := true }
def HalfImpliesUptoSaid : Prop := halfImpliesUptoRow.holds Tryz.pinned (OpenSpec.upto halfImpliesSpec)

/-- 'firetowerlaw03.HalfThins', WHERE WHAT IT READS IS OF BULK AT MOST 1048576: true; the input reads as it did. -/
def halfThinsUptoRow : OpenClaim := { program := "ytlmljmgappiehaagreat", sum := "19b8443f3865e3ab78b71ba7b14fd91cb375f53408ee56788de1dad3e3cfb1b1", func := "firetower/firetowerlaw03.HalfThins", spec := "halfThins", unfollowed := true, recurses := true, apart := false, narrowed := true }
def HalfThinsUptoSaid : Prop := halfThinsUptoRow.holds Tryz.pinned (OpenSpec.upto halfThinsSpec)

/-- 'firetowerlaw03.HalfBests', WHERE WHAT IT READS IS OF BULK AT MOST 1048576: true; the input reads as it did. -/
def halfBestsUptoRow : OpenClaim := { program := "ytlmljmgappiehaagreat", sum := "19b8443f3865e3ab78b71ba7b14fd91cb375f53408ee56788de1dad3e3cfb1b1", func := "firetower/firetowerlaw03.HalfBests", spec := "halfBests", unfollowed := true, recurses := true, apart := false, narrowed := true }
def HalfBestsUptoSaid : Prop := halfBestsUptoRow.holds Tryz.pinned (OpenSpec.upto halfBestsSpec)

/-- 'firetowerlaw03.HalfTampers', WHERE WHAT IT READS IS OF BULK AT MOST 1048576: true; the input reads as it did. -/
def halfTampersUptoRow : OpenClaim := { program := "ytlmljmgappiehaagreat", sum := "19b8443f3865e3ab78b71ba7b14fd91cb375f53408ee56788de1dad3e3cfb1b1", func := "firetower/firetowerlaw03.HalfTampers", spec := "halfTampers", unfollowed := true, recurses := true, apart := false, narrowed := true }
def HalfTampersUptoSaid : Prop := halfTampersUptoRow.holds Tryz.pinned (OpenSpec.upto halfTampersSpec)

end Rows
end Go.Proofs.YtlmljmgappiehaaGreat
