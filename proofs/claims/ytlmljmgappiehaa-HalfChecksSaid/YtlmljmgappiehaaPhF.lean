/-
  Contracts: library functions on rows: slices.Clone, slices.Compact, slices.Reverse, slices.Delete.
-/
import Derived.Test.YtlmljmgappiehaaPhE
set_option linter.all false
set_option maxRecDepth 100000
namespace Go.Pg
open Go.Proofs Go.RowKit

abbrev rowC (l : List Corner) : Nat → Nat → D := fun i => (l.getD i default).at
abbrev rowI (l : List Int) : Nat → Nat → D := fun i _ => I (l.getD i 0)
theorem avS {s : St} {ob : Nat → Option Ob} {v : AV} {i k lo n lo' n' : Nat} (h : v = .sub i k lo n) (e1 : lo = lo') (e2 : n = n') : AVle s ob v (.sub i k lo' n') := by subst h; exact ⟨rfl, rfl, e1, e2⟩
theorem flatC (l : List Corner) (m j : Nat) : (rowC l m j).flat = true := by
  show ((l.getD m default).at j).flat = true
  unfold Corner.at; split <;> rfl

theorem o_cloneC (l : List Corner) (hn : l.length ≤ 1000000) : SpecO PP 95 [slC l] 24 3 l.length (rowC l) := by
  refine specO_at Try.func95 rfl (by kernel_rfl) rfl ?_
  refine fun b hb => ?_
  refine Split.by (fun h1 => ?_) (fun h1 => ?_)
  · have h0 := hb h1
    refine ⟨rfl, rfl, h0.symm, fun i hi => ?_⟩
    omega
  · refine ⟨⟨.inr rfl, by unfold maxLen; omega, by show (0 + l.length) * 24 ≤ 140737488355328; omega⟩, ?_⟩
    refine ⟨rfl, rfl, Nat.zero_add _, fun i hi j hj => ?_⟩
    exact D.eqv_refl _
theorem o_cloneI (l : List Int) (hn : l.length ≤ 1000000) : SpecO PP 107 [slI l] 3 1 l.length (rowI l) := by
  refine specO_at Try.func107 rfl (by kernel_rfl) rfl ?_
  refine fun b hb => ?_
  refine Split.by (fun h1 => ?_) (fun h1 => ?_)
  · have h0 := hb h1
    refine ⟨rfl, rfl, h0.symm, fun i hi => ?_⟩
    omega
  · refine ⟨⟨.inr rfl, by unfold maxLen; omega, by show (0 + l.length) * 8 ≤ 140737488355328; omega⟩, ?_⟩
    refine ⟨rfl, rfl, Nat.zero_add _, fun i hi j hj => ?_⟩
    exact D.eqv_refl _
/-- A list without the elements that are like the one ahead of them. -/
@[irreducible] def keepC (l : List Corner) (i : Nat) : Bool := i == 0 || !(l.getD i default == l.getD (i - 1) default)
@[irreducible] def compP (l : List Corner) (j : Nat) : List Corner := ((List.range j).filter (keepC l)).map fun i => l.getD i default
@[irreducible] def compL (l : List Corner) : List Corner := compP l l.length
theorem keepC_eq (l : List Corner) (i : Nat) : keepC l i = (i == 0 || !(l.getD i default == l.getD (i - 1) default)) := by unfold keepC; rfl
theorem keep0 (l : List Corner) {i : Nat} (h : i < 1) : keepC l i = true := by
  obtain rfl : i = 0 := by omega
  unfold keepC; rfl
theorem compP_succ (l : List Corner) (j : Nat) : compP l (j + 1) = compP l j ++ (if keepC l j = true then [l.getD j default] else []) := by
  unfold compP
  rw [List.range_succ, List.filter_append, List.map_append]
  congr 1
  by_cases h : keepC l j = true
  · rw [if_pos h]; simp [h]
  · rw [if_neg h]; simp [h]
theorem compP_len (l : List Corner) (j : Nat) : (compP l j).length ≤ j := by
  unfold compP
  rw [List.length_map]
  exact Nat.le_trans (List.length_filter_le _ _) (by simp)
theorem compP_all (l : List Corner) {j : Nat} (hj : j ≤ l.length) (h : ∀ i, i < j → keepC l i = true) : compP l j = l.take j := by
  induction j with
  | zero => simp [compP]
  | succ j ih => rw [compP_succ, if_pos (h j (by omega)), ih (by omega) fun i hi => h i (by omega), take1 (by omega) default]
theorem eqC (p q : Corner) : (p.X == q.X && (p.Y == q.Y && (p.Den == q.Den && true))) = (p == q) := by
  rw [Bool.eq_iff_iff]
  simp only [Bool.and_eq_true, beq_iff_eq, and_true]
  constructor
  · rintro ⟨h1, h2, h3⟩; cases p; cases q; simp_all
  · rintro rfl; exact ⟨rfl, rfl, rfl⟩
theorem getDl_set {α : Type} (m : List α) (k i : Nat) (p d : α) (hk : k < m.length) : (m.set k p).getD i d = if i = k then p else m.getD i d := by
  rw [List.getD_eq_getElem?_getD, List.getElem?_set, List.getD_eq_getElem?_getD]
  by_cases h : k = i
  · subst h; simp [hk]
  · rw [if_neg h, if_neg fun e => h e.symm]
/-- An element of a row of corners is written over. -/
theorem setC {m : List Corner} {n k k' : Nat} {p q : Corner} (hk : k < m.length) (e1 : k' = k) (e2 : q = p) : D.eqv (.slc 3 n (storeRow (rowC m) k' 0 [I q.X, I q.Y, I q.Den])) (.slc 3 n (rowC (m.set k p))) := by
  subst e1; subst e2
  refine ⟨rfl, .inr ⟨rfl, fun i hi j hj => ?_⟩⟩
  show D.eqv (storeRow (rowC m) k' 0 [I q.X, I q.Y, I q.Den] i j) (((m.set k' q).getD i default).at j)
  rw [getDl_set m k' i q default hk]
  unfold storeRow
  by_cases h : i = k'
  · rw [if_pos h, if_pos ⟨h, by omega, by simpa using hj⟩]
    match j, hj with
    | 0, _ => exact ⟨rfl, rfl⟩
    | 1, _ => exact ⟨rfl, rfl⟩
    | 2, _ => exact ⟨rfl, rfl⟩
  · rw [if_neg h, if_neg fun hh => h hh.1]
    exact D.eqv_refl _
theorem t_compact (l : List Corner) (hn : l.length ≤ 1000000) : SpecT PP 58 [] [] 24 3 l.length (rowC l) (compL l).length (rowC (compL l)) := by
  refine specT_at Try.func58 rfl (by kernel_rfl) (fun i _ j _ => flatC _ i j) rfl fun v => ?_
  refine Split.by (fun h1 => ?_) (fun h1 => ?_)
  · have h1 : l.length < 2 := by have := dT h1; omega
    have e : compL l = l := by
      unfold compL
      rw [compP_all l (Nat.le_refl _) fun i hi => ?_, List.take_length]
      unfold keepC
      rcases Nat.eq_zero_or_pos i with h | h
      · subst h; rfl
      · omega
    rw [e]
    exact ⟨rfl, rfl, rfl, fun i hi j hj => D.eqv_refl _⟩
  · have h1 : 2 ≤ l.length := by have := dF h1; omega
    refine LoopOb.of (σ := Nat) (fun k => ([(0, .own 0), (3, .d (I k))], [(0, .row 24 3 l.length (rowC l))])) (fun k => 1 ≤ k ∧ k ≤ l.length ∧ ∀ i, i < k → keepC l i = true) (fun k => l.length - k) 1 ⟨rfl, ⟨obR rfl (D.eqv_refl _), trivial⟩, rfl, avR _ rfl, trivial⟩ ⟨Nat.le_refl _, by omega, fun i hi => keep0 l hi⟩ fun k hk => ?_
    obtain ⟨k1, k2, k3⟩ := hk
    refine Split.by (fun h2 => ?_) (fun h2 => ?_)
    · have h2 : k < l.length := by simpa using h2
      refine Exists.intro (List.range 10) (And.intro (by kernel_rfl) (FzOb.no ?_))
      refine ⟨⟨by omega, by omega⟩, ⟨by omega, ?_⟩⟩
      refine ⟨inI64 (by omega) (by omega), ?_⟩
      refine ⟨⟨by omega, by omega⟩, ⟨by omega, ?_⟩⟩
      refine Split.by (fun h3 => ?_) (fun h3 => ?_)
      · rw [eqC, Int.toNat_natCast, show ((k : Int) - 1).toNat = k - 1 by omega] at h3
        have hnk : keepC l k = false := by simp only [keepC_eq, h3]; simp; omega
        have ck : compP l (k + 1) = l.take k := by rw [compP_succ, if_neg (by rw [hnk]; decide), List.append_nil, compP_all l k2 k3]
        refine ⟨⟨rfl, by omega, by omega⟩, ?_⟩
        refine LoopOb.of (σ := Nat × Nat × List Corner) (fun x => ([(0, .own 0), (3, .d (I x.2.1)), (4, .sub 0 3 k (l.length - k)), (5, .d (I (x.1 - k)))], [(0, .row 24 3 l.length (rowC x.2.2))]))
          (fun x => k + 1 ≤ x.1 ∧ x.1 ≤ l.length ∧ x.2.2.length = l.length ∧ x.2.1 ≤ x.1 - 1 ∧ x.2.2.take x.2.1 = compP l x.1 ∧ ∀ i, x.1 - 1 ≤ i → x.2.2.getD i default = l.getD i default) (fun x => l.length - x.1) (k + 1, k, l)
          ⟨rfl, ⟨obR rfl (D.eqv_refl _), trivial⟩, rfl, avI rfl rfl, avS rfl (Int.toNat_natCast k) (by rw [Int.toNat_natCast]), avI rfl ?_, trivial⟩ ⟨Nat.le_refl _, h2, rfl, by simp, ck.symm, fun _ _ => rfl⟩ fun x hx => ?_
        · show (1 : Int) = ((k + 1 : Nat) : Int) - k
          omega
        · obtain ⟨x1, x2, x3, x4, x5, x6⟩ := hx
          refine Split.by (fun g1 => ?_) (fun g1 => ?_)
          · have g1 : x.1 < l.length := by have := dT g1; omega
            refine Exists.intro (List.range 10) (And.intro (by kernel_rfl) (FzOb.no ?_))
            refine ⟨⟨by omega, by omega⟩, ⟨by omega, ?_⟩⟩
            refine ⟨inI64 (by omega) (by omega), ?_⟩
            refine ⟨⟨by omega, by omega⟩, ⟨by omega, ?_⟩⟩
            have e1 : k + ((x.1 : Int) - k).toNat = x.1 := by omega
            have e2 : k + ((x.1 : Int) - k - 1).toNat = x.1 - 1 := by omega
            refine Split.by (fun g2 => ?_) (fun g2 => ?_)
            · rw [eqC, e1, e2, x6 x.1 (by omega), x6 (x.1 - 1) (by omega)] at g2
              have hkj : keepC l x.1 = true := by simp only [keepC_eq]; simp only [Bool.or_eq_true]; exact .inr g2
              refine ⟨⟨by omega, by omega⟩, ⟨by omega, ?_⟩⟩
              refine ⟨⟨by omega, by omega⟩, ⟨by omega, ?_⟩⟩
              refine ⟨inI64 (by omega) (by omega), ?_⟩
              refine ⟨inI64 (by omega) (by omega), ?_⟩
              refine ⟨(x.1 + 1, x.2.1 + 1, x.2.2.set x.2.1 (l.getD x.1 default)), ⟨rfl, ⟨obR rfl (setC (by omega) (Int.toNat_natCast _) (by rw [e1, x6 _ (by omega)])), trivial⟩, rfl, avI rfl ?_, avS rfl rfl rfl, avI rfl ?_, trivial⟩, ⟨by omega, by omega, by simp; omega, (show x.2.1 + 1 ≤ x.1 + 1 - 1 by omega), ?_, fun i hi => ?_⟩, ?_⟩
              · show (x.2.1 : Int) + 1 = ((x.2.1 + 1 : Nat) : Int)
                omega
              · show (x.1 : Int) - k + 1 = ((x.1 + 1 : Nat) : Int) - k
                omega
              · show (x.2.2.set x.2.1 (l.getD x.1 default)).take (x.2.1 + 1) = compP l (x.1 + 1)
                rw [compP_succ, if_pos hkj, take1 (i := x.2.1) (by simp; omega) default, getDl_set _ _ _ _ _ (by omega), if_pos rfl, ← x5, List.take_set_of_le (Nat.le_refl _)]
              · have hi : x.1 + 1 - 1 ≤ i := hi
                show (x.2.2.set x.2.1 (l.getD x.1 default)).getD i default = _
                rw [getDl_set _ _ _ _ _ (by omega), if_neg (by omega)]
                exact x6 i (by omega)
              · show l.length - (x.1 + 1) < l.length - x.1
                omega
            · rw [eqC, e1, e2, x6 x.1 (by omega), x6 (x.1 - 1) (by omega)] at g2
              have hkj : keepC l x.1 = false := by simp only [keepC_eq]; simp only [Bool.or_eq_false_iff]; exact ⟨by simp; omega, g2⟩
              refine ⟨inI64 (by omega) (by omega), ?_⟩
              refine ⟨(x.1 + 1, x.2.1, x.2.2), ⟨rfl, ⟨obR rfl (D.eqv_refl _), trivial⟩, rfl, avI rfl rfl, avS rfl rfl rfl, avI rfl ?_, trivial⟩, ⟨by omega, by omega, x3, (show x.2.1 ≤ x.1 + 1 - 1 by omega), ?_, fun i hi => x6 i (by omega)⟩, ?_⟩
              · show (x.1 : Int) - k + 1 = ((x.1 + 1 : Nat) : Int) - k
                omega
              · show x.2.2.take x.2.1 = compP l (x.1 + 1)
                rw [compP_succ, if_neg (by rw [hkj]; decide), List.append_nil, x5]
              · show l.length - (x.1 + 1) < l.length - x.1
                omega
          · have g1 : x.1 = l.length := by have := dF g1; omega
            refine ⟨⟨rfl, by omega, by omega⟩, ?_⟩
            refine ⟨by omega, ?_⟩
            refine ⟨⟨by omega, by omega⟩, ?_⟩
            refine ⟨rfl, rfl, ?_, fun i hi j hj => ?_⟩
            · have := congrArg List.length x5
              rw [List.length_take, g1] at this
              show (x.2.1 : Int).toNat = _
              unfold compL
              omega
            · have hk' : x.2.1 = (compL l).length := by
                have := congrArg List.length x5
                rw [List.length_take, g1] at this
                unfold compL
                omega
              have e3 : (compL l).getD i default = x.2.2.getD i default := by
                unfold compL
                rw [← g1, ← x5, List.getD_eq_getElem?_getD, List.getElem?_take, if_pos (by omega), ← List.getD_eq_getElem?_getD]
              show D.eqv (clrRow (rowC x.2.2) (x.2.1 : Int).toNat (l.length - (x.2.1 : Int).toNat) _ i j) (((compL l).getD i default).at j)
              unfold clrRow
              rw [if_neg (by omega), e3]
              exact D.eqv_refl _
      · rw [eqC, Int.toNat_natCast, show ((k : Int) - 1).toNat = k - 1 by omega] at h3
        refine ⟨inI64 (by omega) (by omega), ?_⟩
        refine ⟨k + 1, ⟨rfl, ⟨obR rfl (D.eqv_refl _), trivial⟩, rfl, avI rfl (by omega), trivial⟩, ⟨by omega, by omega, fun i hi => ?_⟩, ?_⟩
        · rcases Nat.lt_or_ge i k with h | h
          · exact k3 i h
          · obtain rfl : i = k := by omega
            simp only [keepC_eq, h3]; simp
        · show l.length - (k + 1) < l.length - k
          omega
    · have h2 : k = l.length := by
        have : ¬ k < l.length := by simpa using h2
        omega
      have e : compL l = l := by
        unfold compL
        rw [compP_all l (Nat.le_refl _) fun i hi => k3 i (by omega), List.take_length]
      rw [e]
      exact ⟨rfl, rfl, rfl, fun i hi j hj => D.eqv_refl _⟩
end Go.Pg
