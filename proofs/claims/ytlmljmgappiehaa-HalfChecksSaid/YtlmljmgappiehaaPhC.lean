/-
  Contracts: all half-planes of a system, with the sides of the map.
-/
import Derived.Test.YtlmljmgappiehaaPhB
set_option linter.all false
set_option maxRecDepth 100000
namespace Go.Pg
open Go.Proofs Go.RowKit

def allAt (l : List Half) (i : Nat) : Num := if i < l.length then ⟨i, l.getD i default⟩ else ⟨-1 - ((i : Int) - l.length), sidesL.getD (i - l.length) default⟩
def allL (l : List Half) : List Num := (List.range (l.length + 4)).map (allAt l)
theorem allAt_side (l : List Half) (i : Nat) : allAt l (l.length + i) = ⟨-1 - (i : Int), sidesL.getD i default⟩ := by
  unfold allAt
  rw [if_neg (by omega), Nat.add_sub_cancel_left]
  congr 1
  omega
theorem allL_len (l : List Half) : (allL l).length = l.length + 4 := by simp [allL]
theorem allL_at (l : List Half) {i : Nat} (h : i < l.length + 4) : (allL l).getD i default = allAt l i := by
  unfold allL
  rw [List.getD_eq_getElem?_getD, List.getElem?_map, List.getElem?_range h]
  rfl
/-- An own row to which one element has been added. -/
theorem app1 {k n : Nat} {f f' g : Nat → Nat → D} (hf : ∀ i, i < n → ∀ j, j < k → D.eqv (f i j) (f' i j)) (hg : ∀ j, j < k → D.eqv (g 0 j) (f' n j)) : D.eqv (.slc k (n + 1) (appRow n f g)) (.slc k (n + 1) f') := by
  refine ⟨rfl, .inr ⟨rfl, fun i hi j hj => ?_⟩⟩
  unfold appRow
  by_cases h : i < n
  · rw [if_pos h]; exact hf i h j hj
  · obtain rfl : i = n := by omega
    rw [if_neg h, Nat.sub_self]; exact hg j hj
theorem s_all (l : List Half) (hn : l.length ≤ 1000000) : Spec PP 65 [slH l] [slN (allL l)] := by
  refine spec_at Try.func65 rfl (by kernel_rfl) rfl ?_
  refine LoopOb.of (σ := Nat) (fun i => ([(3, .own 3), (8, avOf (slH l)), (9, .d (I l.length)), (10, .d (I i))], [(3, .row 113 4 i fun m => (allAt l m).at)])) (fun i => i ≤ l.length) (fun i => l.length - i) 0 ⟨rfl, ⟨obR rfl ⟨rfl, .inl rfl⟩, trivial⟩, rfl, avR _ rfl, avR _ rfl, avR _ rfl, trivial⟩ (Nat.zero_le _) fun i hi => ?_
  refine Split.by (fun h1 => ?_) (fun h1 => ?_)
  · have h1 : i < l.length := by simpa using h1
    refine ⟨⟨rfl, by omega, by omega⟩, ?_⟩
    refine ⟨⟨.inr rfl, by unfold maxLen; omega, by show (i + 1) * 32 ≤ 140737488355328; omega⟩, ?_⟩
    refine ⟨inI64 (by omega) (by omega), ?_⟩
    have e : allAt l i = ⟨i, l.getD i default⟩ := if_pos h1
    refine ⟨i + 1, ⟨rfl, ⟨obR rfl (app1 (fun _ _ _ _ => D.eqv_refl _) fun j hj => ?_), trivial⟩, rfl, avR _ rfl, avR _ rfl, avR _ rfl, trivial⟩, h1, ?_⟩
    · rw [e]
      match j, hj with
      | 0, _ => exact ⟨rfl, rfl⟩
      | 1, _ => exact ⟨rfl, rfl⟩
      | 2, _ => exact ⟨rfl, rfl⟩
      | 3, _ => exact ⟨rfl, rfl⟩
    · show l.length - (i + 1) < l.length - i
      omega
  · have h1 : i = l.length := by
      have : ¬ i < l.length := by simpa using h1
      omega
    subst h1
    refine CallSt.pure s_sides rfl rfl ?_
    refine LoopOb.of (σ := Nat) (fun i => ([(3, .own 3), (22, .agg [I (-1), I 0, I 0, I 1, I 0, I 48, I 0, I (-1), I 0, I 0, I 1, I 48]), (23, .d (I i))], [(3, .row 113 4 (l.length + i) fun m => (allAt l m).at)])) (fun i => i ≤ 4) (fun i => 4 - i) 0 ⟨rfl, ⟨obR rfl (D.eqv_refl _), trivial⟩, rfl, avA rfl (eqvs_refl _), avR _ rfl, trivial⟩ (Nat.zero_le _) fun i hi => ?_
    refine Split.by (fun h1 => ?_) (fun h1 => ?_)
    · have h1 : i < 4 := by have := dT h1; omega
      obtain rfl | rfl | rfl | rfl : i = 0 ∨ i = 1 ∨ i = 2 ∨ i = 3 := by omega
      · refine ⟨⟨by decide, by decide⟩, ?_⟩
        refine ⟨inI64 (by decide) (by decide), ?_⟩
        refine ⟨⟨.inr rfl, by unfold maxLen; omega, by show (l.length + 0 + 1) * 32 ≤ 140737488355328; omega⟩, ?_⟩
        refine ⟨inI64 (by decide) (by decide), ?_⟩
        have e : allAt l l.length = _ := allAt_side l 0
        refine ⟨0 + 1, ⟨rfl, ⟨obR rfl (app1 (fun _ _ _ _ => D.eqv_refl _) fun j hj => ?_), trivial⟩, rfl, avA rfl (eqvs_refl _), avI rfl rfl, trivial⟩, by decide, by decide⟩
        rw [e]
        match j, hj with
        | 0, _ => exact ⟨rfl, rfl⟩
        | 1, _ => exact ⟨rfl, rfl⟩
        | 2, _ => exact ⟨rfl, rfl⟩
        | 3, _ => exact ⟨rfl, rfl⟩
      · refine ⟨⟨by decide, by decide⟩, ?_⟩
        refine ⟨inI64 (by decide) (by decide), ?_⟩
        refine ⟨⟨.inr rfl, by unfold maxLen; omega, by show (l.length + 1 + 1) * 32 ≤ 140737488355328; omega⟩, ?_⟩
        refine ⟨inI64 (by decide) (by decide), ?_⟩
        have e := allAt_side l 1
        refine ⟨1 + 1, ⟨rfl, ⟨obR rfl (app1 (fun _ _ _ _ => D.eqv_refl _) fun j hj => ?_), trivial⟩, rfl, avA rfl (eqvs_refl _), avI rfl rfl, trivial⟩, by decide, by decide⟩
        rw [e]
        match j, hj with
        | 0, _ => exact ⟨rfl, rfl⟩
        | 1, _ => exact ⟨rfl, rfl⟩
        | 2, _ => exact ⟨rfl, rfl⟩
        | 3, _ => exact ⟨rfl, rfl⟩
      · refine ⟨⟨by decide, by decide⟩, ?_⟩
        refine ⟨inI64 (by decide) (by decide), ?_⟩
        refine ⟨⟨.inr rfl, by unfold maxLen; omega, by show (l.length + 2 + 1) * 32 ≤ 140737488355328; omega⟩, ?_⟩
        refine ⟨inI64 (by decide) (by decide), ?_⟩
        have e := allAt_side l 2
        refine ⟨2 + 1, ⟨rfl, ⟨obR rfl (app1 (fun _ _ _ _ => D.eqv_refl _) fun j hj => ?_), trivial⟩, rfl, avA rfl (eqvs_refl _), avI rfl rfl, trivial⟩, by decide, by decide⟩
        rw [e]
        match j, hj with
        | 0, _ => exact ⟨rfl, rfl⟩
        | 1, _ => exact ⟨rfl, rfl⟩
        | 2, _ => exact ⟨rfl, rfl⟩
        | 3, _ => exact ⟨rfl, rfl⟩
      · refine ⟨⟨by decide, by decide⟩, ?_⟩
        refine ⟨inI64 (by decide) (by decide), ?_⟩
        refine ⟨⟨.inr rfl, by unfold maxLen; omega, by show (l.length + 3 + 1) * 32 ≤ 140737488355328; omega⟩, ?_⟩
        refine ⟨inI64 (by decide) (by decide), ?_⟩
        have e := allAt_side l 3
        refine ⟨3 + 1, ⟨rfl, ⟨obR rfl (app1 (fun _ _ _ _ => D.eqv_refl _) fun j hj => ?_), trivial⟩, rfl, avA rfl (eqvs_refl _), avI rfl rfl, trivial⟩, by decide, by decide⟩
        rw [e]
        match j, hj with
        | 0, _ => exact ⟨rfl, rfl⟩
        | 1, _ => exact ⟨rfl, rfl⟩
        | 2, _ => exact ⟨rfl, rfl⟩
        | 3, _ => exact ⟨rfl, rfl⟩
    · have h1 : i = 4 := by have := dF h1; omega
      subst h1
      refine ⟨?_, trivial⟩
      refine ⟨_, _, _, _, rfl, ?_⟩
      refine ⟨(allL_len l).symm, .inr ⟨rfl, fun i hi j hj => ?_⟩⟩
      show D.eqv ((allAt l i).at j) (((allL l).getD i default).at j)
      rw [allL_at l hi]
      exact D.eqv_refl _
end Go.Pg
