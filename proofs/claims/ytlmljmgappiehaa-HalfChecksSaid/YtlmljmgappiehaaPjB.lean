/-
  From the rows' side to the calculus: the seat's types.
-/
import Derived.Test.YtlmljmgappiehaaPjA
set_option linter.all false
namespace Go.Pg
open Go.RowKit
section
variable {w : World} {ok : Nat → Prop} {len : Nat} {g : Nat → Nat → Int} {v : Value}
theorem repL {α : Type} [Inhabited α] {k : Nat} {at_ : α → Nat → D} (mkα : Nat → α) (hk : ∀ i, i < len → ∀ j, j < k → D.eqv (I (g i j)) (at_ (mkα i) j)) (h : Rep w ok (.slc k len fun i j => I (g i j)) v) :
    Rep1 w ok (.d (.slc k ((List.range len).map mkα).length fun i => at_ (((List.range len).map mkα).getD i default))) v := by
  refine Rep.eqv h ⟨by simp, .inr ⟨rfl, fun i hi j hj => ?_⟩⟩
  have e : ((List.range len).map mkα).getD i default = mkα i := by
    rw [List.getD_eq_getElem?_getD, List.getElem?_map, List.getElem?_range hi]; rfl
  show D.eqv (I (g i j)) (at_ (((List.range len).map mkα).getD i default) j)
  rw [e]
  exact hk i hi j hj
theorem rep_slH (h : Rep w ok (.slc 3 len fun i j => I (g i j)) v) : ∃ l : List Half, Rep1 w ok (slH l) v :=
  ⟨(List.range len).map fun i => ⟨g i 0, g i 1, g i 2⟩, repL (at_ := Half.at) _ (fun i _ j hj => by
    match j, hj with
    | 0, _ => exact ⟨rfl, rfl⟩
    | 1, _ => exact ⟨rfl, rfl⟩
    | 2, _ => exact ⟨rfl, rfl⟩) h⟩
theorem rep_slP (h : Rep w ok (.slc 2 len fun i j => I (g i j)) v) : ∃ l : List Place, Rep1 w ok (slP l) v :=
  ⟨(List.range len).map fun i => ⟨g i 0, g i 1⟩, repL (at_ := Place.at) _ (fun i _ j hj => by
    match j, hj with
    | 0, _ => exact ⟨rfl, rfl⟩
    | 1, _ => exact ⟨rfl, rfl⟩) h⟩
theorem rep_slU (bd : ∀ i j, i < len → j < 2 → -9223372036854775808 ≤ g i j ∧ g i j ≤ 9223372036854775807) (h : Rep w ok (.slc 2 len fun i j => I (g i j)) v) :
    ∃ l : List Use, (∀ u ∈ l, (-9223372036854775808 ≤ u.H ∧ u.H ≤ 9223372036854775807) ∧ (-9223372036854775808 ≤ u.T ∧ u.T ≤ 9223372036854775807)) ∧ Rep1 w ok (slU l) v :=
  ⟨(List.range len).map fun i => ⟨g i 0, g i 1⟩, fun u hu => by
    obtain ⟨i, hi, rfl⟩ := List.mem_map.1 hu
    have hi := List.mem_range.1 hi
    exact ⟨bd i 0 hi (by omega), bd i 1 hi (by omega)⟩, repL (at_ := Use.at) _ (fun i _ j hj => by
    match j, hj with
    | 0, _ => exact ⟨rfl, rfl⟩
    | 1, _ => exact ⟨rfl, rfl⟩) h⟩
theorem rep_int (n : Int) : Rep1 w ok (N n) (.int .i64 n) := rfl
theorem rep_aggI (ns : List Int) : Rep1 w ok (.agg (ns.map I)) (.agg (ns.map (Value.int .i64)).toArray) := ⟨_, rfl, all2I ns⟩
end
end Go.Pg
