/-
  Contracts: lists of indices; Core.
-/
import Derived.Test.YtlmljmgappiehaaPhL
set_option linter.all false
set_option maxRecDepth 100000
namespace Go.Pg
open Go.Proofs Go.RowKit

@[irreducible] def upTo (n : Nat) : List Int := (List.range n).map fun i : Nat => (i : Int)
theorem upTo_succ (n : Nat) : upTo (n + 1) = upTo n ++ [(n : Int)] := by unfold upTo; rw [List.range_succ, List.map_append]; rfl
theorem upTo_len (n : Nat) : (upTo n).length = n := by unfold upTo; simp
theorem upTo_mem {n : Nat} {x : Int} (h : x ∈ upTo n) : 0 ≤ x ∧ x < n := by
  unfold upTo at h
  obtain ⟨i, hi, rfl⟩ := List.mem_map.1 h
  have := List.mem_range.1 hi
  omega
theorem pushI {vs : List Int} {p : Int} {n : Nat} {g : Nat → Nat → D} (hn : n = vs.length) (hg : g 0 0 = I p) : D.eqv (.slc 1 (n + 1) (appRow n (rowI vs) g)) (.slc 1 (vs ++ [p]).length (rowI (vs ++ [p]))) := by
  subst hn
  rw [List.length_append]
  refine app1 (fun i hi j hj => ?_) fun j hj => ?_
  · show D.eqv (I (vs.getD i 0)) (I ((vs ++ [p]).getD i 0))
    have e : (vs ++ [p]).getD i 0 = vs.getD i 0 := by rw [List.getD_eq_getElem?_getD, List.getElem?_append_left hi, ← List.getD_eq_getElem?_getD]
    rw [e]
    exact D.eqv_refl _
  · obtain rfl : j = 0 := by omega
    show D.eqv (g 0 0) (I ((vs ++ [p]).getD vs.length 0))
    rw [List.getD_eq_getElem?_getD, List.getElem?_append_right (Nat.le_refl _), Nat.sub_self, hg]
    exact ⟨rfl, rfl⟩
theorem s_indices (l : List Half) (hn : l.length ≤ 1000000) : Spec PP 82 [slH l] [slI (upTo l.length)] := by
  refine spec_at Try.func82 rfl (by kernel_rfl) rfl ?_
  refine LoopOb.of (σ := Nat) (fun i => ([(3, .own 3), (6, .d (I l.length)), (7, .d (I i))], [(3, .row 3 1 (upTo i).length (rowI (upTo i)))])) (fun i => i ≤ l.length) (fun i => l.length - i) 0 ⟨rfl, ⟨obR rfl ⟨(by rw [upTo_len]), .inl rfl⟩, trivial⟩, avQ rfl, avR _ rfl, avR _ rfl, trivial⟩ (Nat.zero_le _) fun i hi => ?_
  have hl := upTo_len i
  refine Split.by (fun h1 => ?_) (fun h1 => ?_)
  · have h1 : i < l.length := by simpa using h1
    refine ⟨⟨.inr rfl, by unfold maxLen; omega, by show ((upTo i).length + 1) * 8 ≤ 140737488355328; omega⟩, ?_⟩
    refine ⟨inI64 (by omega) (by omega), ?_⟩
    refine ⟨i + 1, ⟨rfl, ⟨obR rfl ?_, trivial⟩, avQ rfl, avR _ rfl, avI rfl rfl, trivial⟩, h1, ?_⟩
    · rw [upTo_succ]; exact pushI rfl rfl
    · show l.length - (i + 1) < l.length - i
      omega
  · have h1 : i = l.length := by
      have : ¬ i < l.length := by simpa using h1
      omega
    rw [← h1]
    exact ⟨⟨_, _, _, _, rfl, D.eqv_refl _⟩, trivial⟩
theorem flatI (l : List Int) (m j : Nat) : (rowI l m j).flat = true := rfl
/-- A list without one of its elements. -/
@[irreducible] def rmL (l : List Int) (i : Nat) : List Int := l.take i ++ l.drop (i + 1)
theorem rmL_len (l : List Int) {i : Nat} (h : i < l.length) : (rmL l i).length = l.length - 1 := by unfold rmL; simp; omega
theorem rmL_mem {l : List Int} {i : Nat} {x : Int} (h : x ∈ rmL l i) : x ∈ l := by
  unfold rmL at h
  rcases List.mem_append.1 h with h | h
  · exact List.mem_of_mem_take h
  · exact List.mem_of_mem_drop h
theorem t_delI (l : List Int) (i : Nat) (hi : i < l.length) : SpecT PP 106 [] [.d (.int .i64 i), .d (.int .i64 ((i + 1 : Nat) : Int))] 3 1 l.length (rowI l) (rmL l i).length (rowI (rmL l i)) := by
  have h := specT_delete Try.delI ⟨_, Try.func106, by kernel_rfl, by kernel_rfl⟩ 3 l i (i + 1) (by omega) hi
  unfold rmL
  exact h
theorem s_without (l : List Int) (i : Nat) (hi : i < l.length) (hn : l.length ≤ 1000000) : Spec PP 83 [slI l, N i] [slI (rmL l i)] := by
  refine spec_at Try.func83 rfl (by kernel_rfl) rfl ?_
  refine CallSt.own (o_cloneI l hn) rfl rfl (fun m j _ _ => flatI _ m j) ?_
  refine ⟨inI64 (by omega) (by omega), ?_⟩
  refine CallSt.tk rfl (t_delI l i hi) ⟨⟨[], .tmp 6, [.tmp 7, .tmp 9], [], rfl, rfl, rfl, rfl, rfl, rfl, rfl⟩⟩ rfl ?_
  exact ⟨⟨_, _, _, _, rfl, D.eqv_refl _⟩, trivial⟩
/-- Some half-planes of a system. -/
@[irreducible] def pickL (l : List Half) (js : List Int) : List Half := js.map fun j => l.getD j.toNat default
theorem pickL_len (l : List Half) (js : List Int) : (pickL l js).length = js.length := by unfold pickL; simp
theorem pickL_mem {l : List Half} {js : List Int} (hj : ∀ j ∈ js, 0 ≤ j ∧ j < l.length) : ∀ x ∈ pickL l js, x ∈ l := fun x hx => by
  unfold pickL at hx
  obtain ⟨j, hjm, rfl⟩ := List.mem_map.1 hx
  have := hj j hjm
  exact gd1 (by omega) default
theorem pickL_snoc (l : List Half) (js : List Int) (j : Int) : pickL l (js ++ [j]) = pickL l js ++ [l.getD j.toNat default] := by unfold pickL; simp
abbrev rowH (l : List Half) : Nat → Nat → D := fun i => (l.getD i default).at
theorem pushH {vs : List Half} {p : Half} {n : Nat} {g : Nat → Nat → D} (hn : n = vs.length) (hg : ∀ j, j < 3 → D.eqv (g 0 j) (p.at j)) : D.eqv (.slc 3 (n + 1) (appRow n (rowH vs) g)) (.slc 3 (vs ++ [p]).length (rowH (vs ++ [p]))) := by
  subst hn
  rw [List.length_append]
  refine app1 (fun i hi j hj => ?_) fun j hj => ?_
  · show D.eqv ((vs.getD i default).at j) (((vs ++ [p]).getD i default).at j)
    have e : (vs ++ [p]).getD i default = vs.getD i default := by rw [List.getD_eq_getElem?_getD, List.getElem?_append_left hi, ← List.getD_eq_getElem?_getD]
    rw [e]
    exact D.eqv_refl _
  · show D.eqv (g 0 j) (((vs ++ [p]).getD vs.length default).at j)
    rw [List.getD_eq_getElem?_getD, List.getElem?_append_right (Nat.le_refl _), Nat.sub_self]
    exact hg j hj
theorem eqAtH (p : Half) : ∀ j, j < 3 → D.eqv (rowOf 3 [I p.A, I p.B, I p.C] 0 j) (p.at j)
  | 0, _ => ⟨rfl, rfl⟩
  | 1, _ => ⟨rfl, rfl⟩
  | 2, _ => ⟨rfl, rfl⟩
theorem s_picked (l : List Half) (js : List Int) (hj : ∀ j ∈ js, 0 ≤ j ∧ j < l.length) (hn : js.length ≤ 1000000) : Spec PP 85 [slH l, slI js] [slH (pickL l js)] := by
  refine spec_at Try.func85 rfl (by kernel_rfl) rfl ?_
  refine LoopOb.of (σ := Nat) (fun i => ([(0, avOf (slH l)), (5, .own 5), (8, avOf (slI js)), (9, .d (I js.length)), (10, .d (I i))], [(5, .row 43 3 (pickL l (js.take i)).length (rowH (pickL l (js.take i))))])) (fun i => i ≤ js.length) (fun i => js.length - i) 0 ⟨rfl, ⟨obR rfl ⟨(by rw [pickL_len]; rfl), .inl rfl⟩, trivial⟩, avR _ rfl, avQ rfl, avR _ rfl, avR _ rfl, avR _ rfl, trivial⟩ (Nat.zero_le _) fun i hi => ?_
  have hl := pickL_len l (js.take i)
  rw [List.length_take] at hl
  refine Split.by (fun h1 => ?_) (fun h1 => ?_)
  · have h1 : i < js.length := by simpa using h1
    have hm := hj _ (gd1 h1 0)
    have hm' : 0 ≤ js.getD (i : Int).toNat 0 ∧ js.getD (i : Int).toNat 0 < l.length := by rw [Int.toNat_natCast]; exact hm
    refine ⟨⟨rfl, by omega, by omega⟩, ?_⟩
    refine ⟨⟨rfl, by omega, by omega⟩, ?_⟩
    refine ⟨⟨.inr rfl, by unfold maxLen; omega, by show ((pickL l (js.take i)).length + 1) * 24 ≤ 140737488355328; omega⟩, ?_⟩
    refine ⟨inI64 (by omega) (by omega), ?_⟩
    refine ⟨i + 1, ⟨rfl, ⟨obR rfl ?_, trivial⟩, avR _ rfl, avQ rfl, avR _ rfl, avR _ rfl, avI rfl rfl, trivial⟩, h1, ?_⟩
    · rw [take1 h1 0, pickL_snoc]; exact pushH rfl (eqAtH _)
    · show js.length - (i + 1) < js.length - i
      omega
  · have h1 : i = js.length := by
      have : ¬ i < js.length := by simpa using h1
      omega
    have e : pickL l (js.take i) = pickL l js := by rw [h1, List.take_length]
    rw [← e]
    exact ⟨⟨_, _, _, _, rfl, D.eqv_refl _⟩, trivial⟩
/-- Half-planes are left out as long as there is no common point. -/
def coreRun (l : List Half) : Nat → List Int → Nat → List Int
  | 0, left, _ => left
  | n + 1, left, i => if cornersL (pickL l (rmL left i)) = [] then coreRun l n (rmL left i) i else coreRun l n left (i + 1)
@[irreducible] def coreL (l : List Half) : List Int := coreRun l l.length (upTo l.length) 0
@[irreducible] def coreE (l : List Half) : List Int × Int := if checkL l = 0 then if cornersL l = [] then (coreL l, 0) else ([], 5) else ([], checkL l)
theorem s_Core (l : List Half) : Spec PP 41 [slH l] [slI (coreE l).1, N (coreE l).2] := by
  refine spec_at Try.func41 rfl (by kernel_rfl) rfl ?_
  refine CallSt.pure (s_Check l) rfl rfl ?_
  refine Split.by (fun h1 => ?_) (fun h1 => ?_)
  · have h1 : checkL l ≠ 0 := by simpa using h1
    have e : coreE l = ([], checkL l) := by unfold coreE; rw [if_neg h1]
    rw [e]
    exact ⟨⟨_, _, _, _, rfl, rfl, .inl rfl⟩, rtI rfl rfl, trivial⟩
  have h1 : checkL l = 0 := by simpa using h1
  obtain ⟨n1, n2, n3⟩ := checkL_ok h1
  refine CallSt.ro (s_corners l n3 (by omega)) rfl rfl ?_
  refine Split.by (fun h2 => ?_) (fun h2 => ?_)
  · have h2 : cornersL l ≠ [] := fun hh => by rw [hh] at h2; cases h2
    have e : coreE l = ([], 5) := by unfold coreE; rw [if_pos h1, if_neg h2]
    rw [e]
    exact ⟨⟨_, _, _, _, rfl, rfl, .inl rfl⟩, rtI rfl rfl, trivial⟩
  have h2 : cornersL l = [] := by
    have : ¬ 0 < (cornersL l).length := by have := dF h2; omega
    exact List.length_eq_zero_iff.1 (by omega)
  have e : coreE l = (coreL l, 0) := by unfold coreE; rw [if_pos h1, if_pos h2]
  rw [e]
  refine CallSt.ro (s_indices l (by omega)) rfl rfl ?_
  refine LoopOb.of (σ := List Int × Nat) (fun x => ([(0, avOf (slH l)), (5, avOf (slI x.1)), (6, .d (I x.2))], [])) (fun x => x.2 ≤ x.1.length ∧ x.1.length ≤ 40 ∧ (∀ j ∈ x.1, 0 ≤ j ∧ j < l.length) ∧ coreRun l (x.1.length - x.2) x.1 x.2 = coreL l) (fun x => x.1.length - x.2) (upTo l.length, 0)
    ⟨rfl, trivial, avR _ rfl, avR _ rfl, avR _ rfl, trivial⟩ ⟨Nat.zero_le _, by rw [upTo_len]; exact n1, fun j hj => upTo_mem hj, ?_⟩ fun x hx => ?_
  · show coreRun l ((upTo l.length).length - 0) (upTo l.length) 0 = coreL l
    rw [upTo_len]; unfold coreL; rfl
  obtain ⟨x1, x2, x3, x4⟩ := hx
  refine Split.by (fun g1 => ?_) (fun g1 => ?_)
  · have g1 : x.2 < x.1.length := by simpa using g1
    obtain ⟨n, hn⟩ : ∃ n, x.1.length - x.2 = n + 1 := ⟨x.1.length - x.2 - 1, by omega⟩
    rw [hn] at x4
    have hr := rmL_len x.1 g1
    have hrm : ∀ j ∈ rmL x.1 x.2, 0 ≤ j ∧ j < (l.length : Int) := fun j hj => x3 j (rmL_mem hj)
    have hpl := pickL_len l (rmL x.1 x.2)
    refine CallSt.ro (s_without x.1 x.2 g1 (by omega)) rfl rfl ?_
    refine CallSt.ro (s_picked l (rmL x.1 x.2) hrm (by omega)) rfl rfl ?_
    refine CallSt.ro (s_corners (pickL l (rmL x.1 x.2)) (fun y hy => n3 y (pickL_mem hrm y hy)) (by omega)) rfl rfl ?_
    refine Split.by (fun g2 => ?_) (fun g2 => ?_)
    · have g2 : cornersL (pickL l (rmL x.1 x.2)) = [] := by
        have : (cornersL (pickL l (rmL x.1 x.2))).length = 0 := by simpa using g2
        exact List.length_eq_zero_iff.1 this
      refine ⟨(rmL x.1 x.2, x.2), ⟨rfl, trivial, avR _ rfl, avR _ rfl, avR _ rfl, trivial⟩, ⟨(show x.2 ≤ (rmL x.1 x.2).length by omega), (show (rmL x.1 x.2).length ≤ 40 by omega), hrm, ?_⟩, ?_⟩
      · show coreRun l ((rmL x.1 x.2).length - x.2) (rmL x.1 x.2) x.2 = coreL l
        rw [← x4, coreRun, if_pos g2]
        congr 1; omega
      · show (rmL x.1 x.2).length - x.2 < x.1.length - x.2
        omega
    · have g2 : cornersL (pickL l (rmL x.1 x.2)) ≠ [] := fun hh => by rw [hh] at g2; cases g2
      refine ⟨inI64 (by omega) (by omega), ?_⟩
      refine ⟨(x.1, x.2 + 1), ⟨rfl, trivial, avR _ rfl, avR _ rfl, avI rfl rfl, trivial⟩, ⟨g1, x2, x3, ?_⟩, ?_⟩
      · show coreRun l (x.1.length - (x.2 + 1)) x.1 (x.2 + 1) = coreL l
        rw [← x4, coreRun, if_neg g2]
        congr 1; omega
      · show x.1.length - (x.2 + 1) < x.1.length - x.2
        omega
  · have g1 : x.1.length - x.2 = 0 := by
      have : ¬ x.2 < x.1.length := by simpa using g1
      omega
    rw [g1] at x4
    rw [← x4]
    exact ⟨D.eqv_refl _, rtI rfl rfl, trivial⟩
end Go.Pg
