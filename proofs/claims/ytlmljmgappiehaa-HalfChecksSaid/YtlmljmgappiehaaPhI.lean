/-
  Contracts: Corners, Places.
-/
import Derived.Test.YtlmljmgappiehaaPhH
set_option linter.all false
set_option maxRecDepth 100000
namespace Go.Pg
open Go.Proofs Go.RowKit

theorem checkL_ok {l : List Half} (h : checkL l = 0) : l.length ≤ 40 ∧ (∀ x ∈ l, fit x = true) ∧ ∀ x ∈ l, okH x := by
  unfold checkL at h
  split at h
  · cases h
  · split at h
    · rename_i h1 h2
      have h3 : ∀ x ∈ l, fit x = true := List.all_eq_true.1 h2
      exact ⟨by omega, h3, fun x hx => okH_of (h3 x hx)⟩
    · cases h
@[irreducible] def cornersE (l : List Half) : List Corner × Int := if checkL l = 0 then if cornersL l = [] then ([], 9) else (cornersL l, 0) else ([], checkL l)
theorem s_Corners (l : List Half) : Spec PP 23 [slH l] [slC (cornersE l).1, N (cornersE l).2] := by
  refine spec_at Try.func23 rfl (by kernel_rfl) rfl ?_
  refine CallSt.pure (s_Check l) rfl rfl ?_
  refine Split.by (fun h1 => ?_) (fun h1 => ?_)
  · have h1 : checkL l ≠ 0 := by simpa using h1
    have e : cornersE l = ([], checkL l) := by unfold cornersE; rw [if_neg h1]
    rw [e]
    exact ⟨⟨_, _, _, _, rfl, rfl, .inl rfl⟩, rtI rfl rfl, trivial⟩
  · have h1 : checkL l = 0 := by simpa using h1
    obtain ⟨n1, n2, n3⟩ := checkL_ok h1
    refine CallSt.ro (s_corners l n3 (by omega)) rfl rfl ?_
    refine Split.by (fun h2 => ?_) (fun h2 => ?_)
    · have h2 : cornersL l = [] := by
        have : (cornersL l).length = 0 := by simpa using h2
        exact List.length_eq_zero_iff.1 this
      have e : cornersE l = ([], 9) := by unfold cornersE; rw [if_pos h1, if_pos h2]
      rw [e]
      exact ⟨⟨_, _, _, _, rfl, rfl, .inl rfl⟩, rtI rfl rfl, trivial⟩
    · have h2 : cornersL l ≠ [] := fun hh => by rw [hh] at h2; cases h2
      have e : cornersE l = (cornersL l, 0) := by unfold cornersE; rw [if_pos h1, if_neg h2]
      rw [e]
      exact ⟨D.eqv_refl _, rtI rfl rfl, trivial⟩

theorem okC_xy {x y : Nat} (hx : x ≤ 48) (hy : y ≤ 48) : okC ⟨x, y, 1⟩ := ⟨(by show -1073741824 ≤ (x : Int) ∧ (x : Int) ≤ 1073741824; omega), (by show -1073741824 ≤ (y : Int) ∧ (y : Int) ≤ 1073741824; omega), (show (1 : Int) ≤ 1 ∧ (1 : Int) ≤ 2097152 by decide)⟩
/-- The places of a polygon, row by row. -/
def inP (L : List Num) (x y : Nat) : Bool := outsideL L ⟨x, y, 1⟩ == -5
@[irreducible] def placesRow (L : List Num) (y x : Nat) : List Place := ((List.range x).filter fun x => inP L x y).map fun x : Nat => ⟨x, y⟩
@[irreducible] def placesTo (L : List Num) (y : Nat) : List Place := (List.range y).flatMap fun y => placesRow L y 49
theorem placesRow_zero (L : List Num) (y : Nat) : placesRow L y 0 = [] := by unfold placesRow; rfl
theorem placesRow_succ (L : List Num) (y x : Nat) : placesRow L y (x + 1) = placesRow L y x ++ (if inP L x y = true then [⟨x, y⟩] else []) := by
  unfold placesRow
  rw [List.range_succ, List.filter_append, List.map_append]
  congr 1
  by_cases h : inP L x y = true
  · rw [if_pos h]; simp [h]
  · rw [if_neg h]; simp [h]
theorem placesTo_zero (L : List Num) : placesTo L 0 = [] := by unfold placesTo; rfl
theorem placesTo_succ (L : List Num) (y : Nat) : placesTo L (y + 1) = placesTo L y ++ placesRow L y 49 := by
  unfold placesTo
  rw [List.range_succ, List.flatMap_append]
  simp
theorem placesRow_len (L : List Num) (y x : Nat) : (placesRow L y x).length ≤ x := by
  unfold placesRow
  rw [List.length_map]
  exact Nat.le_trans (List.length_filter_le _ _) (by simp)
theorem placesTo_len (L : List Num) : ∀ y, (placesTo L y).length ≤ y * 49
  | 0 => by rw [placesTo_zero]; simp
  | y + 1 => by
    rw [placesTo_succ, List.length_append]
    have := placesTo_len L y
    have := placesRow_len L y 49
    omega
abbrev rowPl (l : List Place) : Nat → Nat → D := fun i => (l.getD i default).at
theorem pushPl {vs : List Place} {p : Place} {n : Nat} {g : Nat → Nat → D} (hn : n = vs.length) (hg : ∀ j, j < 2 → D.eqv (g 0 j) (p.at j)) : D.eqv (.slc 2 (n + 1) (appRow n (rowPl vs) g)) (.slc 2 (vs ++ [p]).length (rowPl (vs ++ [p]))) := by
  subst hn
  rw [List.length_append]
  refine app1 (fun i hi j hj => ?_) fun j hj => ?_
  · show D.eqv ((vs.getD i default).at j) (((vs ++ [p]).getD i default).at j)
    have e : (vs ++ [p]).getD i default = vs.getD i default := by rw [List.getD_eq_getElem?_getD, List.getElem?_append_left hi, ← List.getD_eq_getElem?_getD]
    rw [e]
    exact D.eqv_refl _
  · show D.eqv (g 0 j) (((vs ++ [p]).getD vs.length default).at j)
    rw [List.getD_eq_getElem?_getD, List.getElem?_append_right (Nat.le_refl _), Nat.sub_self]
    exact hg j hj
theorem eqPl (p : Place) : ∀ j, j < 2 → D.eqv (rowOf 2 [I p.X, I p.Y] 0 j) (p.at j)
  | 0, _ => ⟨rfl, rfl⟩
  | 1, _ => ⟨rfl, rfl⟩
@[irreducible] def placesE (l : List Half) : List Place × Int := if checkL l = 0 then if cornersL l = [] then ([], 9) else (placesTo (allL l) 49, 0) else ([], checkL l)
theorem s_Places (l : List Half) : Spec PP 24 [slH l] [slP (placesE l).1, N (placesE l).2] := by
  refine spec_at Try.func24 rfl (by kernel_rfl) rfl ?_
  refine CallSt.pure (s_Check l) rfl rfl ?_
  refine Split.by (fun h1 => ?_) (fun h1 => ?_)
  · have h1 : checkL l ≠ 0 := by simpa using h1
    have e : placesE l = ([], checkL l) := by unfold placesE; rw [if_neg h1]
    rw [e]
    exact ⟨⟨_, _, _, _, rfl, rfl, .inl rfl⟩, rtI rfl rfl, trivial⟩
  · have h1 : checkL l = 0 := by simpa using h1
    obtain ⟨n1, n2, n3⟩ := checkL_ok h1
    refine CallSt.ro (s_corners l n3 (by omega)) rfl rfl ?_
    refine Split.by (fun h2 => ?_) (fun h2 => ?_)
    · have h2 : cornersL l = [] := by
        have : (cornersL l).length = 0 := by simpa using h2
        exact List.length_eq_zero_iff.1 this
      have e : placesE l = ([], 9) := by unfold placesE; rw [if_pos h1, if_pos h2]
      rw [e]
      exact ⟨⟨_, _, _, _, rfl, rfl, .inl rfl⟩, rtI rfl rfl, trivial⟩
    · have h2 : cornersL l ≠ [] := fun hh => by rw [hh] at h2; cases h2
      have e : placesE l = (placesTo (allL l) 49, 0) := by unfold placesE; rw [if_pos h1, if_neg h2]
      have hall := allL_ok n3
      have hlen := allL_len l
      refine CallSt.ro (s_all l (by omega)) rfl rfl ?_
      refine LoopOb.of (σ := Nat) (fun y => ([(5, avOf (slN (allL l))), (6, .own 6), (20, .d (I y))], [(6, .row 26 2 (placesTo (allL l) y).length (rowPl (placesTo (allL l) y)))])) (fun y => y ≤ 49) (fun y => 49 - y) 0
        ⟨rfl, ⟨obR rfl ⟨by rw [placesTo_zero]; rfl, .inl rfl⟩, trivial⟩, avR _ rfl, avQ rfl, avR _ rfl, trivial⟩ (Nat.zero_le _) fun y hy => ?_
      refine Split.by (fun h3 => ?_) (fun h3 => ?_)
      · have h3 : y < 49 := by have := dT h3; omega
        have ht := placesTo_len (allL l) y
        refine LoopOb.of (σ := Nat) (fun x => ([(5, avOf (slN (allL l))), (6, .own 6), (7, .d (I y)), (20, .d (I y)), (23, .d (I x))], [(6, .row 26 2 (placesTo (allL l) y ++ placesRow (allL l) y x).length (rowPl (placesTo (allL l) y ++ placesRow (allL l) y x)))])) (fun x => x ≤ 49) (fun x => 49 - x) 0
          ⟨rfl, ⟨obR rfl (by rw [placesRow_zero, List.append_nil]; exact D.eqv_refl _), trivial⟩, avR _ rfl, avQ rfl, avR _ rfl, avR _ rfl, avR _ rfl, trivial⟩ (Nat.zero_le _) fun x hx => ?_
        refine Split.by (fun h4 => ?_) (fun h4 => ?_)
        · have h4 : x < 49 := by have := dT h4; omega
          have hr := placesRow_len (allL l) y x
          have hb : (placesTo (allL l) y ++ placesRow (allL l) y x).length ≤ 5000 := by rw [List.length_append]; omega
          refine CallSt.pure (s_outside (allL l) ⟨x, y, 1⟩ hall (okC_xy (by omega) (by omega)) (by omega)) rfl rfl ?_
          refine Split.by (fun h5 => ?_) (fun h5 => ?_)
          · have h5 : inP (allL l) x y = true := h5
            refine ⟨⟨.inr rfl, by unfold maxLen; omega, by show ((placesTo (allL l) y ++ placesRow (allL l) y x).length + 1) * 16 ≤ 140737488355328; omega⟩, ?_⟩
            refine ⟨inI64 (by omega) (by omega), ?_⟩
            refine ⟨x + 1, ⟨rfl, ⟨obR rfl ?_, trivial⟩, avR _ rfl, avQ rfl, avR _ rfl, avR _ rfl, avI rfl rfl, trivial⟩, h4, ?_⟩
            · rw [placesRow_succ, if_pos h5, ← List.append_assoc]
              exact pushPl rfl (eqPl ⟨x, y⟩)
            · show 49 - (x + 1) < 49 - x
              omega
          · have h5 : inP (allL l) x y = false := h5
            refine ⟨inI64 (by omega) (by omega), ?_⟩
            refine ⟨x + 1, ⟨rfl, ⟨obR rfl ?_, trivial⟩, avR _ rfl, avQ rfl, avR _ rfl, avR _ rfl, avI rfl rfl, trivial⟩, h4, ?_⟩
            · rw [placesRow_succ, if_neg (by rw [h5]; decide), List.append_nil]
              exact D.eqv_refl _
            · show 49 - (x + 1) < 49 - x
              omega
        · have h4 : x = 49 := by have := dF h4; omega
          subst h4
          refine ⟨inI64 (by omega) (by omega), ?_⟩
          refine ⟨y + 1, ⟨rfl, ⟨obR rfl ?_, trivial⟩, avR _ rfl, avQ rfl, avI rfl rfl, trivial⟩, h3, ?_⟩
          · rw [placesTo_succ]
            exact D.eqv_refl _
          · show 49 - (y + 1) < 49 - y
            omega
      · have h3 : y = 49 := by have := dF h3; omega
        subst h3
        rw [e]
        exact ⟨⟨_, _, _, _, rfl, D.eqv_refl _⟩, rtI rfl rfl, trivial⟩
end Go.Pg
