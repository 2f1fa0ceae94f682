/-
  Contracts: Empty; uses without those that are never used.
-/
import Derived.Test.YtlmljmgappiehaaPhJ
set_option linter.all false
set_option maxRecDepth 100000
namespace Go.Pg
open Go.Proofs Go.RowKit

@[irreducible] def emptyE (l : List Half) : List Use × Int := if checkL l = 0 then (refL l, 0) else ([], checkL l)
theorem s_Empty (l : List Half) : Spec PP 28 [slH l] [slU (emptyE l).1, B (decide (0 < (emptyE l).1.length)), N (emptyE l).2] := by
  refine spec_at Try.func28 rfl (by kernel_rfl) rfl ?_
  refine CallSt.pure (s_Check l) rfl rfl ?_
  refine Split.by (fun h1 => ?_) (fun h1 => ?_)
  · have h1 : checkL l ≠ 0 := by simpa using h1
    have e : emptyE l = ([], checkL l) := by unfold emptyE; rw [if_neg h1]
    rw [e]
    exact ⟨⟨_, _, _, _, rfl, rfl, .inl rfl⟩, rtB rfl rfl, rtI rfl rfl, trivial⟩
  · have h1 : checkL l = 0 := by simpa using h1
    obtain ⟨n1, n2, n3⟩ := checkL_ok h1
    have e : emptyE l = (refL l, 0) := by unfold emptyE; rw [if_pos h1]
    rw [e]
    refine CallSt.ro (s_refuted l n3 (by omega)) rfl rfl ?_
    refine ⟨D.eqv_refl _, rtB rfl ?_, rtI rfl rfl, trivial⟩
    exact decide_eq_decide.2 (by show (0 : Int) < ((refL l).length : Int) ↔ 0 < (refL l).length; omega)

abbrev rowU (l : List Use) : Nat → Nat → D := fun i => (l.getD i default).at
theorem flatU (l : List Use) (m j : Nat) : (rowU l m j).flat = true := by
  show ((l.getD m default).at j).flat = true
  unfold Use.at; split <;> rfl
theorem eqAtU (p : Use) : ∀ j, j < 2 → D.eqv (rowOf 2 [I p.H, I p.T] 0 j) (p.at j)
  | 0, _ => ⟨rfl, rfl⟩
  | 1, _ => ⟨rfl, rfl⟩
theorem setU {m : List Use} {n k k' : Nat} {p q : Use} (hk : k < m.length) (e1 : k' = k) (e2 : q = p) : D.eqv (.slc 2 n (storeRow (rowU m) k' 0 [I q.H, I q.T])) (.slc 2 n (rowU (m.set k p))) := by
  subst e1; subst e2
  refine ⟨rfl, .inr ⟨rfl, fun i hi j hj => ?_⟩⟩
  show D.eqv (storeRow (rowU m) k' 0 [I q.H, I q.T] i j) (((m.set k' q).getD i default).at j)
  rw [getDl_set m k' i q default hk]
  unfold storeRow
  by_cases h : i = k'
  · rw [if_pos h, if_pos ⟨h, by omega, by simpa using hj⟩]
    match j, hj with
    | 0, _ => exact ⟨rfl, rfl⟩
    | 1, _ => exact ⟨rfl, rfl⟩
  · rw [if_neg h, if_neg fun hh => h hh.1]
    exact D.eqv_refl _
/-- Where the first element is for which p holds. -/
def IsIdx {α : Type} [Inhabited α] (p : α → Bool) (l : List α) (r : Int) : Prop :=
  (r = -1 ∧ ∀ i, i < l.length → p (l.getD i default) = false) ∨ (∃ i : Nat, r = i ∧ i < l.length ∧ p (l.getD i default) = true ∧ ∀ m, m < i → p (l.getD m default) = false)
theorem IsIdx.hit {α : Type} [Inhabited α] {p : α → Bool} {l : List α} {r : Int} (h : IsIdx p l r) {i : Nat} (hi : i < l.length) (h1 : p (l.getD i default) = true) (h2 : ∀ m, m < i → p (l.getD m default) = false) : r = i := by
  rcases h with ⟨_, h4⟩ | ⟨j, rfl, h4, h5, h6⟩
  · rw [h4 i hi] at h1; cases h1
  · rcases Nat.lt_trichotomy i j with h | h | h
    · rw [h6 i h] at h1; cases h1
    · rw [h]
    · rw [h2 j h] at h5; cases h5
theorem IsIdx.miss {α : Type} [Inhabited α] {p : α → Bool} {l : List α} {r : Int} (h : IsIdx p l r) (h2 : ∀ m, m < l.length → p (l.getD m default) = false) : r = -1 := by
  rcases h with ⟨h3, _⟩ | ⟨j, rfl, h4, h5, h6⟩
  · exact h3
  · rw [h2 j h4] at h5; cases h5
theorem isIdx_ex {α : Type} [Inhabited α] (p : α → Bool) (l : List α) : ∃ r, IsIdx p l r := by
  have : ∀ n, n ≤ l.length → (∀ m, m < n → p (l.getD m default) = false) ∨ ∃ i : Nat, i < l.length ∧ p (l.getD i default) = true ∧ ∀ m, m < i → p (l.getD m default) = false := by
    intro n
    induction n with
    | zero => exact fun _ => .inl fun m hm => absurd hm (Nat.not_lt_zero _)
    | succ n ih =>
      intro hn
      rcases ih (by omega) with h | h
      · cases hp : p (l.getD n default) with
        | true => exact .inr ⟨n, by omega, hp, h⟩
        | false =>
          refine .inl fun m hm => ?_
          rcases Nat.lt_or_ge m n with h1 | h1
          · exact h m h1
          · obtain rfl : m = n := by omega
            exact hp
      · exact .inr h
  rcases this l.length (Nat.le_refl _) with h | ⟨i, h1, h2, h3⟩
  · exact ⟨-1, .inl ⟨rfl, h⟩⟩
  · exact ⟨i, .inr ⟨i, rfl, h1, h2, h3⟩⟩
theorem s_indexU (p : Use → Bool) (g : FuncId) (hg : ∀ u, Spec PP g [u.v] [B (p u)]) (l : List Use) (hn : l.length ≤ 1000000) (r : Int) (hr : IsIdx p l r) : Spec PP 121 [slU l, .d (.fn g)] [N r] := by
  refine spec_at Try.func121 rfl (by kernel_rfl) rfl ?_
  refine LoopOb.of (σ := Nat) (fun i => ([(0, avOf (slU l)), (1, .d (.fn g)), (7, .d (I l.length)), (8, .d (I i))], [])) (fun i => i ≤ l.length ∧ ∀ m, m < i → p (l.getD m default) = false) (fun i => l.length - i) 0 ⟨rfl, trivial, avR _ rfl, avR _ rfl, avR _ rfl, avR _ rfl, trivial⟩ ⟨Nat.zero_le _, fun m hm => absurd hm (Nat.not_lt_zero _)⟩ fun i hi => ?_
  obtain ⟨i1, i2⟩ := hi
  refine Split.by (fun h1 => ?_) (fun h1 => ?_)
  · have h1 : i < l.length := by simpa using h1
    refine ⟨⟨rfl, by omega, by omega⟩, ?_⟩
    refine CallSt.pure (hg (l.getD i default)) rfl rfl ?_
    refine Split.by (fun h2 => ?_) (fun h2 => ?_)
    · exact r1I rfl (hr.hit h1 h2 i2).symm
    · refine ⟨inI64 (by omega) (by omega), ?_⟩
      refine ⟨i + 1, ⟨rfl, trivial, avR _ rfl, avR _ rfl, avR _ rfl, avI rfl rfl, trivial⟩, ⟨h1, fun m hm => ?_⟩, ?_⟩
      · rcases Nat.lt_or_ge m i with h | h
        · exact i2 m h
        · obtain rfl : m = i := by omega
          exact h2
      · show l.length - (i + 1) < l.length - i
        omega
  · have h1 : i = l.length := by
      have : ¬ i < l.length := by simpa using h1
      omega
    exact r1I rfl (hr.miss fun m hm => i2 m (by omega)).symm
/-- The elements ahead of j for which p does not hold. -/
@[irreducible] def filtP (p : Use → Bool) (l : List Use) (j : Nat) : List Use := ((List.range j).filter fun i => !p (l.getD i default)).map fun i => l.getD i default
theorem filtP_zero (p : Use → Bool) (l : List Use) : filtP p l 0 = [] := by unfold filtP; rfl
theorem filtP_succ (p : Use → Bool) (l : List Use) (j : Nat) : filtP p l (j + 1) = filtP p l j ++ (if p (l.getD j default) = true then [] else [l.getD j default]) := by
  unfold filtP
  rw [List.range_succ, List.filter_append, List.map_append]
  congr 1
  by_cases h : p (l.getD j default) = true
  · rw [if_pos h, List.filter_cons_of_neg (by rw [h]; decide)]; rfl
  · rw [if_neg h, List.filter_cons_of_pos (by rw [Bool.eq_false_iff.2 h]; rfl)]; rfl
theorem filtP_len (p : Use → Bool) (l : List Use) (j : Nat) : (filtP p l j).length ≤ j := by
  unfold filtP
  rw [List.length_map]
  exact Nat.le_trans (List.length_filter_le _ _) (by simp)
theorem filtP_all (p : Use → Bool) (l : List Use) {j : Nat} (hj : j ≤ l.length) (h : ∀ i, i < j → p (l.getD i default) = false) : filtP p l j = l.take j := by
  induction j with
  | zero => rw [filtP_zero]; simp
  | succ j ih => rw [filtP_succ, if_neg (by rw [h j (by omega)]; decide), ih (by omega) fun i hi => h i (by omega), take1 (by omega) default]
theorem t_deleteU (p : Use → Bool) (g : FuncId) (hg : ∀ u, Spec PP g [u.v] [B (p u)]) (l : List Use) (hn : l.length ≤ 1000000) : SpecT PP 100 [] [.d (.fn g)] 62 2 l.length (rowU l) (filtP p l l.length).length (rowU (filtP p l l.length)) := by
  obtain ⟨r, hr⟩ := isIdx_ex p l
  refine specT_at Try.func100 rfl (by kernel_rfl) (fun i _ j _ => flatU _ i j) rfl fun v => ?_
  refine CallSt.pure (s_indexU p g hg l hn r hr) rfl rfl ?_
  rcases hr with ⟨rfl, h1⟩ | ⟨i, rfl, h1, h2, h3⟩
  · refine Split.tt ?_
    have e : filtP p l l.length = l := by rw [filtP_all p l (Nat.le_refl _) h1, List.take_length]
    rw [e]
    exact ⟨rfl, rfl, rfl, fun i hi j hj => D.eqv_refl _⟩
  · refine Split.by (fun h4 => ?_) (fun h4 => ?_)
    · have : (i : Int) = -1 := by simpa using h4
      omega
    · have ck : filtP p l (i + 1) = l.take i := by rw [filtP_succ, if_pos h2, List.append_nil, filtP_all p l (by omega) h3]
      refine ⟨inI64 (by omega) (by omega), ?_⟩
      refine LoopOb.of (σ := Nat × Nat × List Use) (fun x => ([(0, .own 0), (1, .d (.fn g)), (5, .d (I x.2.1)), (6, .d (I x.1))], [(0, .row 62 2 l.length (rowU x.2.2))]))
        (fun x => i + 1 ≤ x.1 ∧ x.1 ≤ l.length ∧ x.2.2.length = l.length ∧ x.2.1 ≤ x.1 - 1 ∧ x.2.2.take x.2.1 = filtP p l x.1 ∧ ∀ m, x.1 ≤ m → x.2.2.getD m default = l.getD m default) (fun x => l.length - x.1) (i + 1, i, l)
        ⟨rfl, ⟨obR rfl (D.eqv_refl _), trivial⟩, rfl, avR _ rfl, avI rfl rfl, avI rfl rfl, trivial⟩ ⟨Nat.le_refl _, h1, rfl, by simp, ck.symm, fun _ _ => rfl⟩ fun x hx => ?_
      obtain ⟨x1, x2, x3, x4, x5, x6⟩ := hx
      refine Split.by (fun g1 => ?_) (fun g1 => ?_)
      · have g1 : x.1 < l.length := by have := dT g1; omega
        have e1 : x.2.2.getD (x.1 : Int).toNat default = l.getD x.1 default := by rw [Int.toNat_natCast, x6 x.1 (Nat.le_refl _)]
        refine ⟨⟨by omega, by omega⟩, ⟨by omega, ?_⟩⟩
        refine CallSt.pure (hg (x.2.2.getD (x.1 : Int).toNat default)) rfl rfl ?_
        refine Split.by (fun g2 => ?_) (fun g2 => ?_)
        · have g2 : p (l.getD x.1 default) = false := by rw [e1] at g2; simpa using g2
          refine ⟨⟨by omega, by omega⟩, ⟨by omega, ?_⟩⟩
          refine ⟨inI64 (by omega) (by omega), ?_⟩
          refine ⟨inI64 (by omega) (by omega), ?_⟩
          refine ⟨(x.1 + 1, x.2.1 + 1, x.2.2.set x.2.1 (l.getD x.1 default)), ⟨rfl, ⟨obR rfl (setU (by omega) (Int.toNat_natCast _) e1), trivial⟩, rfl, avR _ rfl, avI rfl rfl, avI rfl rfl, trivial⟩, ⟨by omega, by omega, by simp; omega, (show x.2.1 + 1 ≤ x.1 + 1 - 1 by omega), ?_, fun m hm => ?_⟩, ?_⟩
          · show (x.2.2.set x.2.1 (l.getD x.1 default)).take (x.2.1 + 1) = filtP p l (x.1 + 1)
            rw [filtP_succ, if_neg (by rw [g2]; decide), take1 (i := x.2.1) (by simp; omega) default, getDl_set _ _ _ _ _ (by omega), if_pos rfl, ← x5, List.take_set_of_le (Nat.le_refl _)]
          · have hm : x.1 + 1 ≤ m := hm
            show (x.2.2.set x.2.1 (l.getD x.1 default)).getD m default = _
            rw [getDl_set _ _ _ _ _ (by omega), if_neg (by omega)]
            exact x6 m (by omega)
          · show l.length - (x.1 + 1) < l.length - x.1
            omega
        · have g2 : p (l.getD x.1 default) = true := by rw [e1] at g2; simpa using g2
          refine ⟨inI64 (by omega) (by omega), ?_⟩
          refine ⟨(x.1 + 1, x.2.1, x.2.2), ⟨rfl, ⟨obR rfl (D.eqv_refl _), trivial⟩, rfl, avR _ rfl, avI rfl rfl, avI rfl rfl, trivial⟩, ⟨by omega, by omega, x3, (show x.2.1 ≤ x.1 + 1 - 1 by omega), ?_, fun m hm => x6 m (by have : x.1 + 1 ≤ m := hm; omega)⟩, ?_⟩
          · show x.2.2.take x.2.1 = filtP p l (x.1 + 1)
            rw [filtP_succ, if_pos g2, List.append_nil, x5]
          · show l.length - (x.1 + 1) < l.length - x.1
            omega
      · have g1 : x.1 = l.length := by have := dF g1; omega
        have hk' : x.2.1 = (filtP p l l.length).length := by
          have := congrArg List.length x5
          rw [List.length_take, g1] at this
          omega
        refine ⟨⟨rfl, by omega, by omega⟩, ?_⟩
        refine ⟨by omega, ?_⟩
        refine ⟨⟨by omega, by omega⟩, ?_⟩
        refine ⟨rfl, rfl, ?_, fun i hi j hj => ?_⟩
        · show (x.2.1 : Int).toNat = _
          omega
        · have e3 : (filtP p l l.length).getD i default = x.2.2.getD i default := by
            rw [← g1, ← x5, List.getD_eq_getElem?_getD, List.getElem?_take, if_pos (by omega), ← List.getD_eq_getElem?_getD]
          show D.eqv (clrRow (rowU x.2.2) (x.2.1 : Int).toNat (l.length - (x.2.1 : Int).toNat) _ i j) (((filtP p l l.length).getD i default).at j)
          unfold clrRow
          rw [if_neg (by omega), e3]
          exact D.eqv_refl _
def unused (u : Use) : Bool := u.T == 0
theorem s_used1 (u : Use) : Spec PP 101 [u.v] [B (unused u)] := by
  refine spec_at Try.func101 rfl (by kernel_rfl) rfl ?_
  exact r1B rfl rfl
@[irreducible] def usedL (l : List Use) : List Use := filtP unused l l.length
theorem t_used (l : List Use) (hn : l.length ≤ 1000000) : SpecT PP 72 [] [] 62 2 l.length (rowU l) (usedL l).length (rowU (usedL l)) := by
  refine specT_at Try.func72 rfl (by kernel_rfl) (fun i _ j _ => flatU _ i j) rfl fun v => ?_
  refine CallSt.tk rfl (t_deleteU unused 101 s_used1 l hn) ⟨⟨[], .tmp 3, [.func 101], [], rfl, rfl, rfl, rfl, rfl, rfl, rfl⟩⟩ rfl ?_
  have e : usedL l = filtP unused l l.length := by unfold usedL; rfl
  rw [e]
  exact ⟨rfl, rfl, rfl, fun i hi j hj => D.eqv_refl _⟩
end Go.Pg
