/-
  The hull of any places: each edge has all places to its left. Plain.
-/
import Derived.Test.YtlmljmgappiehaaK6
import Derived.Test.YtlmljmgappiehaaK8
import Derived.Test.YtlmljmgappiehaaKC
import Derived.Test.YtlmljmgappiehaaKF
set_option linter.all false
namespace Go.Pg
open Go.Proofs Go.RowKit

/-! ### Four points -/
section
variable {h : Half} {a b c d : Corner}
theorem plu1 (ha : a.Den = 1) (hb : b.Den = 1) (hc : c.Den = 1) (hd : d.Den = 1) : d3 b c d - d3 a c d + d3 a b d - d3 a b c = 0 := by
  have := plu ⟨0, 0, -1⟩ a b c d
  unfold ef at this
  rw [ha, hb, hc, hd] at this
  simpa using this
theorem lemA (ha : a.Den = 1) (hb : b.Den = 1) (hc : c.Den = 1) (hd : d.Den = 1) (u1 : ef h a < ef h b) (u2 : ef h b < ef h c) (u3 : ef h b < ef h d) (h1 : 0 < d3 a b c) (h2 : 0 < d3 b c d) : 0 < d3 a b d := by
  have i1 := plu h a b c d
  have i2 := plu1 ha hb hc hd
  have key : (ef h c - ef h b) * d3 a b d = d3 b c d * (ef h b - ef h a) + d3 a b c * (ef h d - ef h b) := by grind
  have p1 := Int.mul_pos h2 (show 0 < ef h b - ef h a by omega)
  have p2 := Int.mul_pos h1 (show 0 < ef h d - ef h b by omega)
  exact sg_pos (a := ef h c - ef h b) (by omega) (by omega)
theorem lemB (ha : a.Den = 1) (hb : b.Den = 1) (hc : c.Den = 1) (hd : d.Den = 1) (u1 : ef h a < ef h b) (u2 : ef h b < ef h c) (u3 : ef h d ≤ ef h c) (h1 : d3 a b c ≤ 0) (h2 : 0 ≤ d3 b c d) : 0 ≤ d3 a c d := by
  have i1 := plu h a b c d
  have i2 := plu1 ha hb hc hd
  have key : (ef h c - ef h b) * d3 a c d = d3 b c d * (ef h c - ef h a) - d3 a b c * (ef h c - ef h d) := by grind
  have p1 := Int.mul_nonneg h2 (show 0 ≤ ef h c - ef h a by omega)
  have p2 := Int.mul_nonpos_of_nonpos_of_nonneg h1 (show 0 ≤ ef h c - ef h d by omega)
  rcases Int.lt_or_le (d3 a c d) 0 with g | g
  · have := Int.mul_neg_of_pos_of_neg (show 0 < ef h c - ef h b by omega) g; omega
  · exact g
theorem lemC (ha : a.Den = 1) (hb : b.Den = 1) (hc : c.Den = 1) (hd : d.Den = 1) (u1 : ef h a < ef h b) (u2 : ef h a ≤ ef h c) (u3 : ef h a ≤ ef h d) (h1 : d3 a b c ≤ 0) (h2 : 0 ≤ d3 a b d) : 0 ≤ d3 a c d := by
  have i1 := plu h a b c d
  have i2 := plu1 ha hb hc hd
  have key : (ef h b - ef h a) * d3 a c d = d3 a b d * (ef h c - ef h a) - d3 a b c * (ef h d - ef h a) := by grind
  have p1 := Int.mul_nonneg h2 (show 0 ≤ ef h c - ef h a by omega)
  have p2 := Int.mul_nonpos_of_nonpos_of_nonneg h1 (show 0 ≤ ef h d - ef h a by omega)
  rcases Int.lt_or_le (d3 a c d) 0 with g | g
  · have := Int.mul_neg_of_pos_of_neg (show 0 < ef h b - ef h a by omega) g; omega
  · exact g
theorem lemD (ha : a.Den = 1) (hb : b.Den = 1) (hc : c.Den = 1) (hd : d.Den = 1) (u1 : ef h a < ef h b) (u2 : ef h b < ef h c) (u3 : ef h d < ef h b) (h1 : 0 < d3 a b c) (h2 : 0 ≤ d3 a b d) : 0 < d3 b c d := by
  have i1 := plu h a b c d
  have i2 := plu1 ha hb hc hd
  have key : (ef h b - ef h a) * d3 b c d = d3 a b d * (ef h c - ef h b) + d3 a b c * (ef h b - ef h d) := by grind
  have p1 := Int.mul_nonneg h2 (show 0 ≤ ef h c - ef h b by omega)
  have p2 := Int.mul_pos h1 (show 0 < ef h b - ef h d by omega)
  exact sg_pos (a := ef h b - ef h a) (by omega) (by omega)
end
/-! ### The chain -/
/-- An edge that has all points to its left, and those on its line between its ends. -/
def Eg (h : Half) (Q : List Corner) (a b : Corner) : Prop := ef h a < ef h b ∧ ∀ q ∈ Q, 0 ≤ d3 a b q ∧ (d3 a b q = 0 → ef h a ≤ ef h q ∧ ef h q ≤ ef h b)
def Ed (h : Half) (Q : List Corner) : List Corner → Prop
  | b :: a :: r => Eg h Q a b ∧ Ed h Q (a :: r)
  | _ => True
theorem d3_aba (a b : Corner) : d3 a b a = 0 := by unfold d3; grind
theorem d3_abb (a b : Corner) : d3 a b b = 0 := by unfold d3; grind
theorem pop_ed {h : Half} {Q : List Corner} {p : Corner} (hp : p.Den = 1) (hD : ∀ q ∈ Q, q.Den = 1) (hu : ∀ q ∈ Q, ef h q < ef h p) : ∀ st : List Corner, Ed h Q st → (∀ x ∈ st, x ∈ Q) → (∀ b r, st = b :: r → ∀ q ∈ Q, ef h b ≤ ef h q → 0 ≤ d3 b p q) →
    Ed h Q (popR p st) ∧ (∀ b r, popR p st = b :: r → ∀ q ∈ Q, ef h b ≤ ef h q → 0 ≤ d3 b p q) ∧ (∀ b a r, popR p st = b :: a :: r → 0 < d3 a b p) ∧ (popR p st).getLast? = st.getLast?
  | [], he, _, _ => ⟨trivial, (fun _ _ e => by cases e), (fun _ _ _ e => by cases e), rfl⟩
  | [b], he, _, hH => ⟨trivial, hH, (fun _ _ _ e => by cases e), rfl⟩
  | b :: a :: r, he, hm, hH => by
    obtain ⟨⟨e1, e2⟩, e3⟩ := he
    have mb := hm b (by simp)
    have ma := hm a (by simp)
    have db := hD _ mb
    have da := hD _ ma
    rw [popR_two]
    split
    · rename_i ht
      have ht : d3 a b p ≤ 0 := (turn_pos (by omega)).1 ht
      have ih := pop_ed hp hD hu (a :: r) e3 (fun x hx => hm x (List.mem_cons_of_mem _ hx)) fun b' r' e q hq hle => by
        obtain ⟨rfl, rfl⟩ := List.cons.inj e
        rcases Int.lt_or_le (ef h q) (ef h b) with g | g
        · exact lemC da db hp (hD _ hq) e1 (by have := hu _ ma; omega) hle ht (e2 q hq).1
        · exact lemB da db hp (hD _ hq) e1 (hu _ mb) (by have := hu _ hq; omega) ht (hH b _ rfl q hq g)
      refine ⟨ih.1, ih.2.1, ih.2.2.1, ?_⟩
      rw [ih.2.2.2]; simp
    · rename_i ht
      have ht : 0 < d3 a b p := by
        rcases Int.lt_or_le 0 (d3 a b p) with g | g
        · exact g
        · exact absurd ((turn_pos (by omega)).2 g) ht
      refine ⟨⟨⟨e1, e2⟩, e3⟩, hH, fun b' a' r' e => ?_, rfl⟩
      cases e
      exact ht
theorem ed_push {h : Half} {Q : List Corner} {p : Corner} (hp : p.Den = 1) (hD : ∀ q ∈ Q, q.Den = 1) (hu : ∀ q ∈ Q, ef h q < ef h p) : ∀ st : List Corner, Ed h Q st → (∀ x ∈ st, x ∈ Q) → (∀ b a r, st = b :: a :: r → 0 < d3 a b p) → Ed h (Q ++ [p]) st
  | [], _, _, _ => trivial
  | [b], _, _, _ => trivial
  | b :: a :: r, he, hm, ht => by
    obtain ⟨⟨e1, e2⟩, e3⟩ := he
    have t := ht b a r rfl
    have mb := hm b (by simp)
    have ma := hm a (by simp)
    refine ⟨⟨e1, fun q hq => ?_⟩, ed_push hp hD hu (a :: r) e3 (fun x hx => hm x (List.mem_cons_of_mem _ hx)) fun b' z r' e => ?_⟩
    · rcases List.mem_append.1 hq with hq | hq
      · exact e2 q hq
      · obtain rfl := List.mem_singleton.1 hq
        exact ⟨by omega, fun h0 => by omega⟩
    · obtain ⟨rfl, rfl⟩ := List.cons.inj e
      obtain ⟨⟨f1, f2⟩, _⟩ := e3
      have mz := hm z (by simp)
      obtain ⟨g1, g2⟩ := f2 b mb
      have g3 : 0 < d3 z a b := by
        rcases Int.lt_or_le 0 (d3 z a b) with g | g
        · exact g
        · have := g2 (by omega); omega
      exact lemA (hD _ mz) (hD _ ma) (hD _ mb) hp f1 e1 (hu _ ma) g3 t
theorem chainR_snoc (Q : List Corner) (p : Corner) : chainR (Q ++ [p]) = p :: popR p (chainR Q) := by unfold chainR; rw [List.foldl_append]; rfl
theorem chain_sub (Q : List Corner) : ∀ x ∈ chainR Q, x ∈ Q := by
  have := (chainR_mem Q Q.length (Nat.le_refl _)).1
  rwa [List.take_length] at this
/-- The chain over sorted points. -/
theorem chain_ed {h : Half} {S : List Corner} (hS : S.Pairwise fun p q => ef h p < ef h q) (hD : ∀ q ∈ S, q.Den = 1) : ∀ i, i < S.length →
    Ed h (S.take (i + 1)) (chainR (S.take (i + 1))) ∧ (∃ r, chainR (S.take (i + 1)) = S.getD i default :: r) ∧ (chainR (S.take (i + 1))).getLast? = some (S.getD 0 default)
  | 0, h0 => by
    have e : chainR (S.take 1) = [S.getD 0 default] := by
      rw [take1 h0 default]
      have : S.take 0 ++ [S.getD 0 default] = [] ++ [S.getD 0 default] := by simp
      rw [this, chainR_snoc]
      have : chainR [] = [] := by unfold chainR; rfl
      rw [this]; rfl
    rw [e]
    exact ⟨trivial, ⟨[], rfl⟩, rfl⟩
  | i + 1, hi => by
    obtain ⟨i1, ⟨r, i2⟩, i3⟩ := chain_ed hS hD i (by omega)
    have lt : ∀ j k, j < k → k < S.length → ef h (S.getD j default) < ef h (S.getD k default) := fun j k hjk hk => by
      rw [gdI (by omega) default, gdI hk default]
      exact List.pairwise_iff_getElem.1 hS j k (by omega) hk hjk
    have pd : (S.getD (i + 1) default).Den = 1 := hD _ (gd1 hi default)
    have hD' : ∀ q ∈ S.take (i + 1), q.Den = 1 := fun q hq => hD q (List.mem_of_mem_take hq)
    have at_ : ∀ q ∈ S.take (i + 1), ∃ j, j ≤ i ∧ q = S.getD j default := fun q hq => by
      obtain ⟨j, hj, rfl⟩ := List.getElem_of_mem hq
      rw [List.length_take] at hj
      exact ⟨j, by omega, by rw [List.getElem_take, gdI (by omega)]⟩
    have hu : ∀ q ∈ S.take (i + 1), ef h q < ef h (S.getD (i + 1) default) := fun q hq => by
      obtain ⟨j, hj, rfl⟩ := at_ q hq
      exact lt j (i + 1) (by omega) hi
    have hs := chain_sub (S.take (i + 1))
    obtain ⟨p1, p2, p3, p4⟩ := pop_ed pd hD' hu _ i1 hs fun b r' e q hq hle => by
      rw [i2] at e
      obtain ⟨rfl, _⟩ := List.cons.inj e
      obtain ⟨j, hj, rfl⟩ := at_ q hq
      have : j = i := by
        rcases Nat.lt_or_ge j i with g | g
        · have := lt j i g (by omega); omega
        · omega
      subst this
      rw [d3_aba]; omega
    rw [take1 hi default, chainR_snoc]
    have hne : popR (S.getD (i + 1) default) (chainR (S.take (i + 1))) ≠ [] := popR_ne _ _ (by rw [i2]; simp)
    have hsub : ∀ x ∈ popR (S.getD (i + 1) default) (chainR (S.take (i + 1))), x ∈ S.take (i + 1) := fun x hx => hs x (popR_mem _ _ x hx)
    have pe := ed_push pd hD' hu _ p1 hsub p3
    have pl : (popR (S.getD (i + 1) default) (chainR (S.take (i + 1)))).getLast? = some (S.getD 0 default) := by rw [p4, i3]
    generalize popR (S.getD (i + 1) default) (chainR (S.take (i + 1))) = st at *
    match st, hne with
    | t :: r'', _ =>
      have mt := hsub t (by simp)
      refine ⟨⟨⟨hu t mt, fun q hq => ?_⟩, pe⟩, ⟨_, rfl⟩, by rw [← pl]; simp⟩
      rcases List.mem_append.1 hq with hq | hq
      · rcases Int.lt_or_le (ef h q) (ef h t) with g | g
        · match r'' with
          | [] =>
            exfalso
            have pl : t = S.getD 0 default := Option.some.inj pl
            obtain ⟨j, hj, rfl⟩ := at_ q hq
            rw [pl] at g
            rcases Nat.eq_zero_or_pos j with h0 | h0
            · subst h0; omega
            · have := lt 0 j h0 (by omega); omega
          | s :: r3 =>
            obtain ⟨⟨f1, f2⟩, _⟩ := p1
            have ms := hsub s (by simp)
            have := lemD (hD' _ ms) (hD' _ mt) pd (hD' _ hq) f1 (hu _ mt) g (p3 t s r3 rfl) (f2 q hq).1
            exact ⟨by omega, fun h0 => by omega⟩
        · exact ⟨p2 t r'' rfl q hq g, fun _ => ⟨g, by have := hu q hq; omega⟩⟩
      · obtain rfl := List.mem_singleton.1 hq
        rw [d3_abb]
        exact ⟨Int.le_refl _, fun _ => ⟨by have := hu t mt; omega, Int.le_refl _⟩⟩
theorem ed_get {h : Half} {Q : List Corner} : ∀ {st : List Corner}, Ed h Q st → ∀ j, j + 1 < st.length → Eg h Q (st.getD (j + 1) default) (st.getD j default)
  | [], _, j, hj => absurd hj (by simp)
  | [b], _, j, hj => absurd hj (by simp)
  | b :: a :: r, he, 0, _ => he.1
  | b :: a :: r, he, j + 1, hj => by
    have := ed_get (st := a :: r) he.2 j (by simpa using hj)
    simpa using this
end Go.Pg
/-
  The hull of any places: once around. Plain.
-/
set_option linter.all false
namespace Go.Pg
open Go.Proofs Go.RowKit

theorem ed_mono {h : Half} {Q st : List Corner} (he : Ed h Q st) : ∀ k j, j < k → k < st.length → ef h (st.getD k default) < ef h (st.getD j default)
  | 0, j, hj, _ => absurd hj (by omega)
  | k + 1, j, hj, hk => by
    have e := (ed_get he k hk).1
    rcases Nat.lt_or_ge j k with g | g
    · have := ed_mono he k j g (by omega); omega
    · obtain rfl : j = k := by omega
      exact e
theorem tail_rev {st : List Corner} {i : Nat} (hi : i + 1 < st.length) : st.tail.reverse.getD i default = st.getD (st.length - 1 - i) default := by
  have hl : st.tail.length = st.length - 1 := List.length_tail
  rw [gdI (by rw [List.length_reverse]; omega), gdI (show st.length - 1 - i < st.length by omega), List.getElem_reverse, List.getElem_tail]
  congr 1
  omega
theorem last_get {st : List Corner} {x : Corner} (h : st.getLast? = some x) : st.getD (st.length - 1) default = x := by
  rw [List.getLast?_eq_getElem?] at h
  rw [List.getD_eq_getElem?_getD, h]; rfl
/-- The chain over all of the sorted points. -/
theorem chain_all {h : Half} {S : List Corner} (hS : S.Pairwise fun p q => ef h p < ef h q) (hD : ∀ q ∈ S, q.Den = 1) (h2 : 2 ≤ S.length) :
    Ed h S (chainR S) ∧ (chainR S).getD 0 default = S.getD (S.length - 1) default ∧ (chainR S).getD ((chainR S).length - 1) default = S.getD 0 default ∧ 2 ≤ (chainR S).length := by
  have c := chain_ed hS hD (S.length - 1) (by omega)
  rw [show S.length - 1 + 1 = S.length by omega, List.take_length] at c
  obtain ⟨c1, ⟨r, c2⟩, c3⟩ := c
  have t := chainR_two S S.length (Nat.le_refl _)
  rw [List.take_length] at t
  exact ⟨c1, by rw [c2]; rfl, last_get c3, by omega⟩
theorem rev_pair {h : Half} {S : List Corner} (hS : S.Pairwise fun p q => ef h p < ef h q) : S.reverse.Pairwise fun p q => ef (negH h) p < ef (negH h) q := by
  rw [List.pairwise_reverse]
  refine hS.imp fun hh => ?_
  rw [ef_neg, ef_neg]; omega
structure Cyc (h : Half) (S c : List Corner) : Prop where
  two : 2 ≤ c.length
  first : c.getD 0 default = S.getD 0 default
  edge : ∀ i, i < c.length → Eg h S (c.getD i default) (c.getD ((i + 1) % c.length) default) ∨ Eg (negH h) S (c.getD i default) (c.getD ((i + 1) % c.length) default)
  far : ∀ i, 0 < i → i < c.length → ef h (c.getD 0 default) < ef h (c.getD i default)
theorem hull_cyc {h : Half} {S : List Corner} (hS : S.Pairwise fun p q => ef h p < ef h q) (hD : ∀ q ∈ S, q.Den = 1) (h2 : 2 ≤ S.length) : Cyc h S (hullL S) := by
  unfold hullL
  split
  · rename_i h3
    match S, h2, h3 with
    | [p, q], _, _ =>
      have lt : ef h p < ef h q := by
        have := List.pairwise_cons.1 hS
        exact this.1 q (by simp)
      refine ⟨Nat.le_refl _, rfl, fun i hi => ?_, fun i h0 hi => ?_⟩
      · match i, hi with
        | 0, _ =>
          left
          refine ⟨lt, fun r hr => ?_⟩
          simp only [List.mem_cons, List.not_mem_nil, or_false] at hr
          rcases hr with rfl | rfl
          · show 0 ≤ d3 r q r ∧ (d3 r q r = 0 → ef h r ≤ ef h r ∧ ef h r ≤ ef h q)
            rw [d3_aba]; omega
          · show 0 ≤ d3 p r r ∧ (d3 p r r = 0 → ef h p ≤ ef h r ∧ ef h r ≤ ef h r)
            rw [d3_abb]; omega
        | 1, _ =>
          right
          rw [show (1 + 1) % [p, q].length = 0 from Nat.mod_self 2]
          refine ⟨(by show ef (negH h) q < ef (negH h) p; rw [ef_neg, ef_neg]; omega), fun r hr => ?_⟩
          simp only [List.mem_cons, List.not_mem_nil, or_false] at hr
          rcases hr with rfl | rfl
          · show 0 ≤ d3 q r r ∧ (d3 q r r = 0 → ef (negH h) q ≤ ef (negH h) r ∧ ef (negH h) r ≤ ef (negH h) r)
            rw [d3_abb, ef_neg, ef_neg]; omega
          · show 0 ≤ d3 r p r ∧ (d3 r p r = 0 → ef (negH h) r ≤ ef (negH h) r ∧ ef (negH h) r ≤ ef (negH h) p)
            rw [d3_aba, ef_neg, ef_neg]; omega
      · match i, h0, hi with
        | 1, _, _ => exact lt
  · rename_i h3
    obtain ⟨a1, a2, a3, a4⟩ := chain_all hS hD h2
    obtain ⟨b1, b2, b3, b4⟩ := chain_all (rev_pair hS) (fun q hq => hD q (List.mem_reverse.1 hq)) (by rw [List.length_reverse]; exact h2)
    have e0 : S.reverse.getD 0 default = S.getD (S.length - 1) default := by
      rw [gdI (by rw [List.length_reverse]; omega), gdI (by omega), List.getElem_reverse]; simp
    have e1 : S.reverse.getD (S.reverse.length - 1) default = S.getD 0 default := by
      rw [gdI (by rw [List.length_reverse]; omega), gdI (by omega), List.getElem_reverse]
      congr 1; rw [List.length_reverse]; omega
    rw [e1] at b2
    rw [e0] at b3
    unfold halfL
    have lA : (chainR S).tail.reverse.length = (chainR S).length - 1 := by rw [List.length_reverse, List.length_tail]
    have lB : (chainR S.reverse).tail.reverse.length = (chainR S.reverse).length - 1 := by rw [List.length_reverse, List.length_tail]
    have gA : ∀ i, i + 1 < (chainR S).length → ((chainR S).tail.reverse ++ (chainR S.reverse).tail.reverse).getD i default = (chainR S).getD ((chainR S).length - 1 - i) default := fun i hi => by
      rw [List.getD_eq_getElem?_getD, List.getElem?_append_left (by omega), ← List.getD_eq_getElem?_getD, tail_rev hi]
    have gB : ∀ i, (chainR S).length - 1 ≤ i → i + 2 < (chainR S).length + (chainR S.reverse).length → ((chainR S).tail.reverse ++ (chainR S.reverse).tail.reverse).getD i default = (chainR S.reverse).getD ((chainR S.reverse).length - 1 - (i - ((chainR S).length - 1))) default := fun i h1 hi => by
      rw [List.getD_eq_getElem?_getD, List.getElem?_append_right (by omega), ← List.getD_eq_getElem?_getD, lA, tail_rev (by omega)]
    have edB : ∀ {a b : Corner}, Eg (negH h) S.reverse a b → Eg (negH h) S a b := fun e => ⟨e.1, fun q hq => e.2 q (List.mem_reverse.2 hq)⟩
    have ln : ((chainR S).tail.reverse ++ (chainR S.reverse).tail.reverse).length = (chainR S).length - 1 + ((chainR S.reverse).length - 1) := by rw [List.length_append, lA, lB]
    generalize ((chainR S).tail.reverse ++ (chainR S.reverse).tail.reverse) = c at *
    generalize chainR S = st1 at *
    generalize chainR S.reverse = st2 at *
    have g0 : c.getD 0 default = S.getD 0 default := by rw [gA 0 (by omega), Nat.sub_zero, a3]
    refine ⟨by omega, g0, fun i hi => ?_, fun i h0 hi => ?_⟩
    · rcases Nat.lt_or_ge i (st1.length - 1) with g | g
      · left
        rw [Nat.mod_eq_of_lt (show i + 1 < c.length by omega), gA i (by omega)]
        have e := ed_get a1 (st1.length - 2 - i) (by omega)
        rw [show st1.length - 2 - i + 1 = st1.length - 1 - i by omega] at e
        rcases Nat.lt_or_ge (i + 1) (st1.length - 1) with g2 | g2
        · rw [gA (i + 1) (by omega), show st1.length - 1 - (i + 1) = st1.length - 2 - i by omega]
          exact e
        · rw [gB (i + 1) (by omega) (by omega), show st2.length - 1 - (i + 1 - (st1.length - 1)) = st2.length - 1 by omega, b3, ← a2]
          rwa [show st1.length - 2 - i = 0 by omega] at e
      · right
        rw [gB i g (by omega)]
        have e := ed_get b1 (st2.length - 2 - (i - (st1.length - 1))) (by omega)
        rw [show st2.length - 2 - (i - (st1.length - 1)) + 1 = st2.length - 1 - (i - (st1.length - 1)) by omega] at e
        rcases Nat.lt_or_ge (i + 1) c.length with g2 | g2
        · rw [Nat.mod_eq_of_lt g2, gB (i + 1) (by omega) (by omega), show st2.length - 1 - (i + 1 - (st1.length - 1)) = st2.length - 2 - (i - (st1.length - 1)) by omega]
          exact edB e
        · rw [show i + 1 = c.length by omega, Nat.mod_self, g0, ← b2]
          rw [show st2.length - 2 - (i - (st1.length - 1)) = 0 by omega] at e
          exact edB e
    · rw [g0]
      rcases Nat.lt_or_ge i (st1.length - 1) with g | g
      · rw [gA i (by omega), ← a3]
        exact ed_mono a1 _ _ (by omega) (by omega)
      · rw [gB i g (by omega), ← b2]
        have := ed_mono b1 (st2.length - 1 - (i - (st1.length - 1))) 0 (by omega) (by omega)
        rw [ef_neg, ef_neg] at this
        omega
end Go.Pg
/-
  The hull of any places: what the specification asks of its edges. Plain.
-/
set_option linter.all false
namespace Go.Pg
open Go.Proofs Go.RowKit

theorem msq (a : Int) : 0 ≤ a * a := by
  rcases Int.le_total 0 a with g | g
  · exact Int.mul_nonneg g g
  · exact Int.mul_nonneg_of_nonpos_of_nonpos g g
def co (p : Place) : Corner := ⟨p.X, p.Y, 1⟩
theorem co_inj {p q : Place} (h : co p = co q) : p = q := by
  unfold co at h
  cases p; cases q; simp at h; rw [h.1, h.2]
theorem ofP_co {p : Place} (h : on p = true) : ofP p = co p := by unfold ofP co; rw [if_pos h]
def crP (p q r : Place) : Int := (edgeL p q).A * r.X + (edgeL p q).B * r.Y - (edgeL p q).C
def onL (p q r : Place) : Int := (r.X - p.X) * (q.X - p.X) + (r.Y - p.Y) * (q.Y - p.Y)
def mostL (p q : Place) : Int := (q.X - p.X) * (q.X - p.X) + (q.Y - p.Y) * (q.Y - p.Y)
theorem crP_d3 (p q r : Place) : crP p q r = -d3 (co p) (co q) (co r) := by unfold crP edgeL d3 co; grind
def outB (p q r : Place) : Bool := !(decide (0 < crP p q r) || (crP p q r == 0 && !within (onL p q r) 0 (mostL p q)))
def outerL (l : List Place) (p q : Place) : Bool := l.all (outB p q) && decide (p ≠ q)
theorem outB_iff {p q r : Place} : outB p q r = true ↔ crP p q r ≤ 0 ∧ (crP p q r = 0 → 0 ≤ onL p q r ∧ onL p q r ≤ mostL p q) := by
  unfold outB
  simp only [Bool.not_eq_true', Bool.or_eq_false_iff, decide_eq_false_iff_not, Bool.and_eq_false_imp, beq_iff_eq, Bool.not_eq_false', within_spec]
  constructor
  · rintro ⟨h1, h2⟩; exact ⟨by omega, h2⟩
  · rintro ⟨h1, h2⟩; exact ⟨by omega, h2⟩
theorem outerL_iff {l : List Place} {p q : Place} : outerL l p q = true ↔ (∀ r ∈ l, crP p q r ≤ 0 ∧ (crP p q r = 0 → 0 ≤ onL p q r ∧ onL p q r ≤ mostL p q)) ∧ p ≠ q := by
  unfold outerL
  rw [Bool.and_eq_true, List.all_eq_true, decide_eq_true_iff]
  constructor
  · rintro ⟨h1, h2⟩; exact ⟨fun r hr => outB_iff.1 (h1 r hr), h2⟩
  · rintro ⟨h1, h2⟩; exact ⟨fun r hr => outB_iff.2 (h1 r hr), h2⟩
/-- An edge by the order is one by the specification. -/
theorem eg_out {h : Half} {S : List Corner} {l : List Place} {p q : Place} (hl : ∀ r ∈ l, co r ∈ S) (e : Eg h S (co p) (co q)) : outerL l p q = true := by
  rw [outerL_iff]
  obtain ⟨e1, e2⟩ := e
  refine ⟨fun r hr => ?_, fun hpq => by rw [hpq] at e1; omega⟩
  obtain ⟨f1, f2⟩ := e2 _ (hl r hr)
  rw [crP_d3]
  refine ⟨by omega, fun h0 => ?_⟩
  have h0 : d3 (co p) (co q) (co r) = 0 := by omega
  obtain ⟨g1, g2⟩ := f2 h0
  have u1 : 0 < h.A * (q.X - p.X) + h.B * (q.Y - p.Y) := by unfold ef co at e1; simp only [Int.mul_one] at e1; grind
  have u2 : 0 ≤ h.A * (r.X - p.X) + h.B * (r.Y - p.Y) := by unfold ef co at g1; simp only [Int.mul_one] at g1; grind
  have u3 : 0 ≤ h.A * (q.X - p.X) + h.B * (q.Y - p.Y) - (h.A * (r.X - p.X) + h.B * (r.Y - p.Y)) := by unfold ef co at g2; simp only [Int.mul_one] at g2; grind
  have z : (q.X - p.X) * (r.Y - p.Y) = (q.Y - p.Y) * (r.X - p.X) := by unfold d3 co at h0; simp only [Int.mul_one] at h0; grind
  have key : onL p q r * (h.A * (q.X - p.X) + h.B * (q.Y - p.Y)) = mostL p q * (h.A * (r.X - p.X) + h.B * (r.Y - p.Y)) := by
    unfold onL mostL
    generalize q.X - p.X = dx at *
    generalize q.Y - p.Y = dy at *
    generalize r.X - p.X = rx at *
    generalize r.Y - p.Y = ry at *
    grind
  have m0 : 0 ≤ mostL p q := by
    unfold mostL
    have a := msq (q.X - p.X)
    have b := msq (q.Y - p.Y)
    omega
  generalize h.A * (q.X - p.X) + h.B * (q.Y - p.Y) = U at *
  generalize h.A * (r.X - p.X) + h.B * (r.Y - p.Y) = V at *
  constructor
  · rcases Int.lt_or_le (onL p q r) 0 with g | g
    · have a := Int.mul_neg_of_neg_of_pos g u1
      have b := Int.mul_nonneg m0 u2
      omega
    · exact g
  · rcases Int.lt_or_le (mostL p q) (onL p q r) with g | g
    · have a := Int.mul_pos (show 0 < onL p q r - mostL p q by omega) u1
      have b := Int.mul_nonneg m0 u3
      rw [Int.sub_mul] at a
      rw [Int.mul_sub] at b
      omega
    · exact g
theorem sqz {a : Int} (h : a * a ≤ 0) : a = 0 := by
  have := msq a
  have : a * a = 0 := by omega
  rcases Int.mul_eq_zero.1 this with e | e <;> exact e
/-- There is at most one such edge from a place. -/
theorem out_uniq {l : List Place} {p q q' : Place} (hq : q ∈ l) (hq' : q' ∈ l) (h1 : outerL l p q = true) (h2 : outerL l p q' = true) : q = q' := by
  rw [outerL_iff] at h1 h2
  obtain ⟨a1, a2⟩ := h1.1 q' hq'
  obtain ⟨b1, b2⟩ := h2.1 q hq
  have sw : crP p q' q = -crP p q q' := by unfold crP edgeL; grind
  have z1 : crP p q q' = 0 := by omega
  obtain ⟨c1, c2⟩ := a2 z1
  obtain ⟨c3, c4⟩ := b2 (by omega)
  have pq := h1.2
  have pq' := h2.2
  have zz : (q.X - p.X) * (q'.Y - p.Y) = (q.Y - p.Y) * (q'.X - p.X) := by unfold crP edgeL at z1; grind
  have pos : ∀ r : Place, p ≠ r → 0 < mostL p r := fun r hr => by
    unfold mostL
    have a := msq (r.X - p.X)
    have b := msq (r.Y - p.Y)
    rcases Int.lt_or_le 0 ((r.X - p.X) * (r.X - p.X) + (r.Y - p.Y) * (r.Y - p.Y)) with g | g
    · exact g
    · exfalso
      have x := sqz (a := r.X - p.X) (by omega)
      have y := sqz (a := r.Y - p.Y) (by omega)
      apply hr
      cases p; cases r; simp at x y ⊢; omega
  have p1 := pos q pq
  have p2 := pos q' pq'
  have cm : onL p q' q = onL p q q' := by unfold onL; grind
  rw [cm] at c3 c4
  have key : onL p q q' * onL p q q' = mostL p q * mostL p q' := by
    unfold onL mostL
    generalize q.X - p.X = dx at *
    generalize q.Y - p.Y = dy at *
    generalize q'.X - p.X = rx at *
    generalize q'.Y - p.Y = ry at *
    grind
  have dist : (q'.X - q.X) * (q'.X - q.X) + (q'.Y - q.Y) * (q'.Y - q.Y) = mostL p q + mostL p q' - 2 * onL p q q' := by unfold mostL onL; grind
  generalize onL p q q' = s at *
  generalize mostL p q = a at *
  generalize mostL p q' = b at *
  have sb : s = b := by
    rcases Int.lt_or_le s b with g | g
    · exfalso
      have t1 : s * s ≤ a * s := Int.mul_le_mul_of_nonneg_right c2 (by omega)
      have t2 : a * s < a * b := Int.mul_lt_mul_of_pos_left g p1
      omega
    · omega
  subst sb
  have ab : s = a := Int.eq_of_mul_eq_mul_right (by omega) key
  have d0 : (q'.X - q.X) * (q'.X - q.X) + (q'.Y - q.Y) * (q'.Y - q.Y) = 0 := by omega
  have n1 := msq (q'.X - q.X)
  have n2 := msq (q'.Y - q.Y)
  have x := sqz (a := q'.X - q.X) (by omega)
  have y := sqz (a := q'.Y - q.Y) (by omega)
  cases q; cases q'; simp at x y ⊢; omega
/-! ### The sorted places -/
@[irreducible] def sortP (l : List Place) : List Corner := compL ((sortV (ptsO l l.length)).map fun p : VC => p.1)
theorem cyc_def (l : List Place) : cycL l = hullL (sortP l) := by unfold cycL sortP; rfl
def hO : Half := ⟨64, 1, 0⟩
theorem ofV_val {p : Place} (h : on p = true) : (ofV p).1 = co p := by rw [ofV_eq h]; exact ofP_co h
theorem sortP_mem {l : List Place} (hl : ∀ p ∈ l, on p = true) (q : Corner) : q ∈ sortP l ↔ ∃ p ∈ l, q = co p := by
  unfold sortP
  rw [compL_iff, List.mem_map]
  constructor
  · rintro ⟨v, hv, rfl⟩
    rw [sortV_mem] at hv
    unfold ptsO at hv
    rw [List.take_length] at hv
    obtain ⟨p, hp, rfl⟩ := List.mem_map.1 hv
    exact ⟨p, hp, ofV_val (hl p hp)⟩
  · rintro ⟨p, hp, rfl⟩
    refine ⟨ofV p, ?_, ofV_val (hl p hp)⟩
    rw [sortV_mem]
    unfold ptsO
    rw [List.take_length]
    exact List.mem_map.2 ⟨p, hp, rfl⟩
theorem sortP_lt {l : List Place} (hl : ∀ p ∈ l, on p = true) : (sortP l).Pairwise fun p q => ef hO p < ef hO q := by
  have st : (sortP l).Pairwise ltC := by
    unfold sortP
    refine compL_strict (fun q hq => ?_) (by rw [List.pairwise_map]; exact sortV_ok _)
    obtain ⟨p, _, rfl⟩ := List.mem_map.1 hq
    exact p.2
  refine List.Pairwise.imp_of_mem (fun {a b} ha hb h => ?_) st
  obtain ⟨p, hp, rfl⟩ := (sortP_mem hl a).1 ha
  obtain ⟨q, hq, rfl⟩ := (sortP_mem hl b).1 hb
  have bp := on_bd (hl p hp)
  have bq := on_bd (hl q hq)
  unfold ltC co at h
  unfold ef hO co
  simp only [Int.mul_one] at h ⊢
  show 64 * p.X + 1 * p.Y - 0 < 64 * q.X + 1 * q.Y - 0
  omega
theorem sortP_den {l : List Place} (hl : ∀ p ∈ l, on p = true) : ∀ q ∈ sortP l, q.Den = 1 := fun q hq => by
  obtain ⟨p, _, rfl⟩ := (sortP_mem hl q).1 hq
  rfl
/-- The corners of the hull are places. -/
theorem cyc_at {l : List Place} (hl : ∀ p ∈ l, on p = true) {i : Nat} (hi : i < (cycL l).length) : ∃ p ∈ l, (cycL l).getD i default = co p := by
  have m : (cycL l).getD i default ∈ cycL l := gd1 hi default
  rw [cyc_def] at m
  have := hullL_mem m
  rw [← cyc_def] at this
  exact (sortP_mem hl _).1 this
theorem atP_co {l : List Place} (hl : ∀ p ∈ l, on p = true) (h0 : 0 < (cycL l).length) (i : Nat) : (cycL l).getD (i % (cycL l).length) default = co (atP (cycL l) i) ∧ atP (cycL l) i ∈ l := by
  obtain ⟨p, hp, e⟩ := cyc_at hl (Nat.mod_lt i h0)
  have : atP (cycL l) i = p := by unfold atP; rw [e]; rfl
  rw [this, e]
  exact ⟨rfl, hp⟩
theorem atP_mod (c : List Corner) (i : Nat) : atP c (i % c.length) = atP c i := by unfold atP; rw [Nat.mod_mod]
theorem cyc_edge {l : List Place} (hl : ∀ p ∈ l, on p = true) (h2 : 2 ≤ (sortP l).length) (i : Nat) : outerL l (atP (cycL l) i) (atP (cycL l) (i + 1)) = true := by
  have C := hull_cyc (sortP_lt hl) (sortP_den hl) h2
  rw [← cyc_def] at C
  have h0 : 0 < (cycL l).length := by have := C.two; omega
  have e := C.edge (i % (cycL l).length) (Nat.mod_lt _ h0)
  obtain ⟨e1, _⟩ := atP_co hl h0 i
  obtain ⟨e2, _⟩ := atP_co hl h0 (i + 1)
  rw [e1, Nat.mod_add_mod, e2] at e
  have hs : ∀ r ∈ l, co r ∈ sortP l := fun r hr => (sortP_mem hl _).2 ⟨r, hr, rfl⟩
  rcases e with e | e
  · exact eg_out hs e
  · exact eg_out hs e
theorem cyc_far {l : List Place} (hl : ∀ p ∈ l, on p = true) (h2 : 2 ≤ (sortP l).length) {i : Nat} (h0 : 0 < i) (hi : i < (cycL l).length) : atP (cycL l) i ≠ atP (cycL l) 0 := fun he => by
  have C := hull_cyc (sortP_lt hl) (sortP_den hl) h2
  rw [← cyc_def] at C
  have f := C.far i h0 hi
  obtain ⟨e1, _⟩ := atP_co hl (by omega) i
  obtain ⟨e2, _⟩ := atP_co hl (by omega) 0
  rw [Nat.mod_eq_of_lt hi] at e1
  rw [Nat.zero_mod] at e2
  rw [e1, e2, he] at f
  omega
theorem cyc_two {l : List Place} (hl : ∀ p ∈ l, on p = true) (h2 : 2 ≤ (sortP l).length) : 2 ≤ (cycL l).length := by
  have C := hull_cyc (sortP_lt hl) (sortP_den hl) h2
  rw [← cyc_def] at C
  exact C.two
/-- The first corner is the first place. -/
theorem cyc_first {l : List Place} (hl : ∀ p ∈ l, on p = true) (h0 : l ≠ []) : ∀ r ∈ l, atP (cycL l) 0 = r ∨ (atP (cycL l) 0).X < r.X ∨ ((atP (cycL l) 0).X = r.X ∧ (atP (cycL l) 0).Y < r.Y) := fun r hr => by
  have sl : 0 < (sortP l).length := List.length_pos_of_mem ((sortP_mem hl _).2 ⟨r, hr, rfl⟩)
  have c0 : 0 < (cycL l).length := by rw [cyc_def]; exact hullL_pos sl
  have first : (cycL l).getD 0 default = (sortP l).getD 0 default := by
    rw [cyc_def]
    rcases Nat.lt_or_ge (sortP l).length 2 with g | g
    · unfold hullL; rw [if_pos (by omega)]
    · exact (hull_cyc (sortP_lt hl) (sortP_den hl) g).first
  obtain ⟨e1, m1⟩ := atP_co hl c0 0
  rw [Nat.zero_mod, first] at e1
  obtain ⟨j, hj, ej⟩ := List.getElem_of_mem ((sortP_mem hl _).2 ⟨r, hr, rfl⟩)
  rcases Nat.eq_zero_or_pos j with g | g
  · subst g
    left
    rw [gdI hj, ej] at e1
    exact (co_inj e1).symm
  · right
    have lt := List.pairwise_iff_getElem.1 (sortP_lt hl) 0 j (by omega) hj g
    rw [← gdI sl default, ← gdI hj default, e1, gdI hj, ej] at lt
    have b1 := on_bd (hl _ m1)
    have b2 := on_bd (hl _ hr)
    have lt : 64 * (atP (cycL l) 0).X + 1 * (atP (cycL l) 0).Y - 0 * 1 < 64 * r.X + 1 * r.Y - 0 * 1 := lt
    omega
/-- One place alone: nothing follows it. -/
theorem cyc_one {l : List Place} (hl : ∀ p ∈ l, on p = true) (h0 : l ≠ []) (h2 : (sortP l).length < 2) : (cycL l).length = 1 ∧ ∀ r ∈ l, r = atP (cycL l) 0 := by
  obtain ⟨x, hx⟩ := List.exists_mem_of_ne_nil _ h0
  have sl : 0 < (sortP l).length := List.length_pos_of_mem ((sortP_mem hl _).2 ⟨x, hx, rfl⟩)
  have e : cycL l = sortP l := by rw [cyc_def]; unfold hullL; rw [if_pos (by omega)]
  have l1 : (sortP l).length = 1 := by omega
  refine ⟨by rw [e]; exact l1, fun r hr => ?_⟩
  obtain ⟨e1, _⟩ := atP_co hl (by rw [e]; omega) 0
  rw [Nat.zero_mod] at e1
  obtain ⟨j, hj, ej⟩ := List.getElem_of_mem ((sortP_mem hl _).2 ⟨r, hr, rfl⟩)
  obtain rfl : j = 0 := by omega
  have : (cycL l).getD 0 default = (sortP l).getD 0 default := by rw [e]
  rw [this, gdI hj, ej] at e1
  exact co_inj e1
end Go.Pg
/-
  Contracts: the specification's Hull.
-/
set_option linter.all false
set_option maxRecDepth 100000
namespace Go.Pg
open Go.Proofs Go.RowKit

theorem ret2CBp {T : TT} {s : St} {a t i u : Nat} {ti : TI} {cs : List AV} {xs ys : List D} (h1 : s.sl a = .box i 0) (h2 : T t = some ti) (h3 : s.ob i = some (.box cs)) (h4 : Nat.beq cs.length ti.size = true) (h5 : ti.agg = true) (h6 : allD cs = some xs) {b c : Bool} (h7 : s.sl u = .d (.bool b)) (he : eqvs xs ys) (e : b = c) :
    RetAll T s [.cell a t, .tmp u] [.agg ys, .d (.bool c)] := ⟨rtC (a := a) h1 h2 h3 h4 h5 h6 he, rtB h7 e, trivial⟩
theorem edge_bd {p q : Place} (hp : on p = true) (hq : on q = true) : (-48 ≤ (edgeL p q).A ∧ (edgeL p q).A ≤ 48) ∧ (-48 ≤ (edgeL p q).B ∧ (edgeL p q).B ≤ 48) ∧ (-4608 ≤ (edgeL p q).C ∧ (edgeL p q).C ≤ 4608) := by
  have bp := on_bd hp
  have bq := on_bd hq
  have m1 := mulB (a := q.Y - p.Y) (b := p.X) (x := 48) (y := 48) (by omega) (by omega)
  have m2 := mulB (a := p.X - q.X) (b := p.Y) (x := 48) (y := 48) (by omega) (by omega)
  unfold edgeL
  exact ⟨(show -48 ≤ q.Y - p.Y ∧ q.Y - p.Y ≤ 48 by omega), (show -48 ≤ p.X - q.X ∧ p.X - q.X ≤ 48 by omega), (show -4608 ≤ (q.Y - p.Y) * p.X + (p.X - q.X) * p.Y ∧ (q.Y - p.Y) * p.X + (p.X - q.X) * p.Y ≤ 4608 by omega)⟩
theorem r_edge (p q : Place) (hp : on p = true) (hq : on q = true) : Spec PP 63 [p.v, q.v] [(edgeL p q).v] := by
  have bp := on_bd hp
  have bq := on_bd hq
  have m1 := mulB (a := q.Y - p.Y) (b := p.X) (x := 48) (y := 48) (by omega) (by omega)
  have m2 := mulB (a := p.X - q.X) (b := p.Y) (x := 48) (y := 48) (by omega) (by omega)
  refine spec_at Try.func63 rfl (by kernel_rfl) rfl ?_
  refine ⟨inI64 (by omega) (by omega), ⟨inI64 (by omega) (by omega), ?_⟩⟩
  refine ⟨inI64 (by omega) (by omega), ⟨inI64 (by omega) (by omega), ⟨inI64 (by omega) (by omega), ?_⟩⟩⟩
  refine r1C rfl rfl rfl rfl rfl rfl (eqvs3 ?_ ?_ ?_) <;> (unfold edgeL; rfl)
theorem r_outer (l : List Place) (p q : Place) (hl : ∀ r ∈ l, on r = true) (hp : on p = true) (hq : on q = true) (hn : l.length ≤ 1000000) : Spec PP 97 [slP l, p.v, q.v] [B (outerL l p q)] := by
  have bp := on_bd hp
  have bq := on_bd hq
  obtain ⟨bA, bB, bC⟩ := edge_bd hp hq
  refine spec_at Try.func97 rfl (by kernel_rfl) rfl ?_
  refine CallSt.pure (r_edge p q hp hq) rfl rfl ?_
  refine LoopOb.of (σ := Nat) (fun i => ([(0, avOf (slP l)), (4, .box 4 0), (5, .box 5 0), (7, .box 7 0), (8, .d (I i))], [(4, bxP p), (5, bxP q), (7, bxH (edgeL p q))])) (fun i => i ≤ l.length ∧ ∀ j, j < i → outB p q (l.getD j default) = true) (fun i => l.length - i) 0
    ⟨rfl, ⟨obX rfl, obX rfl, obX rfl, trivial⟩, avR _ rfl, avQ rfl, avQ rfl, avQ rfl, avR _ rfl, trivial⟩ ⟨Nat.zero_le _, fun j hj => absurd hj (Nat.not_lt_zero _)⟩ fun i hi => ?_
  obtain ⟨i1, i2⟩ := hi
  refine Split.by (fun g1 => ?_) (fun g1 => ?_)
  · have g1 : i < l.length := by have := dT g1; omega
    have hm := gd1 g1 (default : Place)
    have br := on_bd (hl _ hm)
    have hnx : outB p q (l.getD i default) = true → (i + 1 ≤ l.length ∧ ∀ j, j < i + 1 → outB p q (l.getD j default) = true) := fun h => ⟨g1, fun j hj => by
      rcases Nat.lt_or_ge j i with g | g
      · exact i2 j g
      · obtain rfl : j = i := by omega
        exact h⟩
    have hbad : outB p q (l.getD i default) = false → false = outerL l p q := fun h => by
      symm
      rw [Bool.eq_false_iff]
      intro hh
      unfold outerL at hh
      rw [Bool.and_eq_true, List.all_eq_true] at hh
      rw [hh.1 _ hm] at h; cases h
    refine ⟨⟨rfl, by omega, by omega⟩, ?_⟩
    have eO : outB p q (l.getD i default) = !(decide (0 < crP p q (l.getD i default)) || (crP p q (l.getD i default) == 0 && !within (onL p q (l.getD i default)) 0 (mostL p q))) := rfl
    have en : crP p q (l.getD i default) = (edgeL p q).A * (l.getD i default).X + (edgeL p q).B * (l.getD i default).Y - (edgeL p q).C := rfl
    have eon : onL p q (l.getD i default) = ((l.getD i default).X - p.X) * (q.X - p.X) + ((l.getD i default).Y - p.Y) * (q.Y - p.Y) := rfl
    have emo : mostL p q = (q.X - p.X) * (q.X - p.X) + (q.Y - p.Y) * (q.Y - p.Y) := rfl
    have m1 := mulB (a := (edgeL p q).A) (b := (l.getD i default).X) (x := 48) (y := 48) bA (by omega)
    have m2 := mulB (a := (edgeL p q).B) (b := (l.getD i default).Y) (x := 48) (y := 48) bB (by omega)
    have m3 := mulB (a := (l.getD i default).X - p.X) (b := q.X - p.X) (x := 48) (y := 48) (by omega) (by omega)
    have m4 := mulB (a := (l.getD i default).Y - p.Y) (b := q.Y - p.Y) (x := 48) (y := 48) (by omega) (by omega)
    have m5 := mulB (a := q.X - p.X) (b := q.X - p.X) (x := 48) (y := 48) (by omega) (by omega)
    have m6 := mulB (a := q.Y - p.Y) (b := q.Y - p.Y) (x := 48) (y := 48) (by omega) (by omega)
    have o0 : inR .i64 ((edgeL p q).A * (l.getD i default).X) := inI64 (by omega) (by omega)
    have o1 : inR .i64 ((edgeL p q).B * (l.getD i default).Y) := inI64 (by omega) (by omega)
    have o2 : inR .i64 ((edgeL p q).A * (l.getD i default).X + (edgeL p q).B * (l.getD i default).Y) := inI64 (by omega) (by omega)
    have o3 : inR .i64 ((edgeL p q).A * (l.getD i default).X + (edgeL p q).B * (l.getD i default).Y - (edgeL p q).C) := inI64 (by omega) (by omega)
    have o4 : inR .i64 ((l.getD i default).X - p.X) := inI64 (by omega) (by omega)
    have o5 : inR .i64 (q.X - p.X) := inI64 (by omega) (by omega)
    have o6 : inR .i64 (((l.getD i default).X - p.X) * (q.X - p.X)) := inI64 (by omega) (by omega)
    have o7 : inR .i64 ((l.getD i default).Y - p.Y) := inI64 (by omega) (by omega)
    have o8 : inR .i64 (q.Y - p.Y) := inI64 (by omega) (by omega)
    have o9 : inR .i64 (((l.getD i default).Y - p.Y) * (q.Y - p.Y)) := inI64 (by omega) (by omega)
    have o10 : inR .i64 (((l.getD i default).X - p.X) * (q.X - p.X) + ((l.getD i default).Y - p.Y) * (q.Y - p.Y)) := inI64 (by omega) (by omega)
    have o11 : inR .i64 (q.X - p.X) := inI64 (by omega) (by omega)
    have o12 : inR .i64 (q.X - p.X) := inI64 (by omega) (by omega)
    have o13 : inR .i64 ((q.X - p.X) * (q.X - p.X)) := inI64 (by omega) (by omega)
    have o14 : inR .i64 (q.Y - p.Y) := inI64 (by omega) (by omega)
    have o15 : inR .i64 (q.Y - p.Y) := inI64 (by omega) (by omega)
    have o16 : inR .i64 ((q.Y - p.Y) * (q.Y - p.Y)) := inI64 (by omega) (by omega)
    have o17 : inR .i64 ((q.X - p.X) * (q.X - p.X) + (q.Y - p.Y) * (q.Y - p.Y)) := inI64 (by omega) (by omega)
    refine ⟨o0, ⟨o1, ⟨o2, ⟨o3, ?_⟩⟩⟩⟩
    refine ⟨o4, ⟨o5, ⟨o6, ⟨o7, ⟨o8, ⟨o9, ⟨o10, ?_⟩⟩⟩⟩⟩⟩⟩
    refine ⟨o11, ⟨o12, ⟨o13, ⟨o14, ⟨o15, ⟨o16, ⟨o17, ?_⟩⟩⟩⟩⟩⟩⟩
    refine Split.by (fun t1 => ?_) (fun t1 => ?_)
    · have t1 : 0 < crP p q (l.getD i default) := by rw [en]; exact dT t1
      repeat refine Split.tt ?_
      exact r1B rfl (hbad (by rw [eO, decide_eq_true t1]; rfl))
    have t1 : ¬ 0 < crP p q (l.getD i default) := by rw [en]; exact dF t1
    repeat refine Split.ff ?_
    refine Split.by (fun t2 => ?_) (fun t2 => ?_)
    · have t2 : crP p q (l.getD i default) = 0 := by rw [en]; simpa using t2
      refine CallSt.pure (r_in (onL p q (l.getD i default)) 0 (mostL p q)) rfl rfl ?_
      repeat first | refine Split.tt ?_ | refine Split.ff ?_
      refine Split.by (fun t3 => ?_) (fun t3 => ?_)
      · have t3 : within (onL p q (l.getD i default)) 0 (mostL p q) = false := by simpa using t3
        repeat first | refine Split.tt ?_ | refine Split.ff ?_
        exact r1B rfl (hbad (by rw [eO, t2, t3]; rfl))
      · have t3 : within (onL p q (l.getD i default)) 0 (mostL p q) = true := by simpa using t3
        repeat first | refine Split.tt ?_ | refine Split.ff ?_
        refine ⟨inI64 (by omega) (by omega), ?_⟩
        exact ⟨i + 1, ⟨rfl, ⟨obX rfl, obX rfl, obX rfl, trivial⟩, avR _ rfl, avQ rfl, avQ rfl, avQ rfl, avI rfl rfl, trivial⟩, hnx (by rw [eO, t2, t3]; rfl), (show l.length - (i + 1) < l.length - i by omega)⟩
    · have t2 : crP p q (l.getD i default) ≠ 0 := by rw [en]; simpa using t2
      repeat first | refine Split.tt ?_ | refine Split.ff ?_
      refine ⟨inI64 (by omega) (by omega), ?_⟩
      exact ⟨i + 1, ⟨rfl, ⟨obX rfl, obX rfl, obX rfl, trivial⟩, avR _ rfl, avQ rfl, avQ rfl, avQ rfl, avI rfl rfl, trivial⟩, hnx (by rw [eO, decide_eq_false t1, beq_false_of_ne t2]; rfl), (show l.length - (i + 1) < l.length - i by omega)⟩
  · have g1 : i = l.length := by have := dF g1; omega
    subst g1
    refine r1B rfl ?_
    have ha : l.all (outB p q) = true := List.all_eq_true.2 fun r hr => by
      obtain ⟨j, hj, rfl⟩ := List.getElem_of_mem hr
      have := i2 j hj
      rwa [gdI hj] at this
    unfold outerL
    rw [ha, Bool.true_and]
    show (!(p.X == q.X && (p.Y == q.Y && true))) = decide (p ≠ q)
    rw [Bool.eq_iff_iff]
    simp only [Bool.not_eq_true', Bool.and_true, Bool.and_eq_false_imp, beq_iff_eq, beq_eq_false_iff_ne, decide_eq_true_iff]
    cases p; cases q; simp
/-! ### first, after -/
def stepF (p r : Place) : Place := if r.X < p.X ∨ (r.X = p.X ∧ r.Y < p.Y) then r else p
@[irreducible] def firstTo (l : List Place) (i : Nat) : Place := (l.take i).foldl stepF (l.getD 0 default)
theorem firstTo_zero (l : List Place) : firstTo l 0 = l.getD 0 default := by unfold firstTo; rfl
theorem firstTo_succ (l : List Place) {i : Nat} (h : i < l.length) : firstTo l (i + 1) = stepF (firstTo l i) (l.getD i default) := by
  unfold firstTo
  rw [take1 h default, List.foldl_append]; rfl
theorem firstTo_one {l : List Place} (h : 0 < l.length) : firstTo l 1 = l.getD 0 default := by
  rw [firstTo_succ l h, firstTo_zero]
  unfold stepF
  rw [if_neg (by omega)]
theorem r_first (l : List Place) (h0 : 0 < l.length) (hn : l.length ≤ 1000000) : Spec PP 61 [slP l] [(firstTo l l.length).v] := by
  refine spec_at Try.func61 rfl (by kernel_rfl) rfl ?_
  refine ⟨⟨rfl, by omega, by omega⟩, ?_⟩
  refine LoopOb.of (σ := Nat) (fun i => ([(0, avOf (slP l)), (2, .box 2 0), (3, .box 3 0), (4, .d (I i))], [(2, bxP ⟨0, 0⟩), (3, bxP (firstTo l i))])) (fun i => 1 ≤ i ∧ i ≤ l.length) (fun i => l.length - i) 1
    ⟨rfl, ⟨obX rfl, obX (by rw [firstTo_one h0]; rfl), trivial⟩, avR _ rfl, avQ rfl, avQ rfl, avR _ rfl, trivial⟩ ⟨Nat.le_refl _, h0⟩ fun i hi => ?_
  obtain ⟨i0, i1⟩ := hi
  refine Split.by (fun g1 => ?_) (fun g1 => ?_)
  · have g1 : i < l.length := by have := dT g1; omega
    have yes : ((l.getD i default).X < (firstTo l i).X ∨ ((l.getD i default).X = (firstTo l i).X ∧ (l.getD i default).Y < (firstTo l i).Y)) → firstTo l (i + 1) = l.getD i default := fun h => by
      rw [firstTo_succ l g1]; unfold stepF; rw [if_pos h]
    have no : ¬ ((l.getD i default).X < (firstTo l i).X ∨ ((l.getD i default).X = (firstTo l i).X ∧ (l.getD i default).Y < (firstTo l i).Y)) → firstTo l (i + 1) = firstTo l i := fun h => by
      rw [firstTo_succ l g1]; unfold stepF; rw [if_neg h]
    refine Exists.intro (List.range 28) (And.intro (by kernel_rfl) (FzOb.no ?_))
    refine ⟨⟨rfl, by omega, by omega⟩, ?_⟩
    refine Split.by (fun t1 => ?_) (fun t1 => ?_)
    · have t1 : (l.getD i default).X < (firstTo l i).X := dT t1
      repeat first | refine Split.tt ?_ | refine Split.ff ?_
      refine ⟨⟨rfl, by omega, by omega⟩, ?_⟩
      refine ⟨inI64 (by omega) (by omega), ?_⟩
      exact ⟨i + 1, ⟨rfl, ⟨obX rfl, obX (by rw [yes (.inl t1)]; rfl), trivial⟩, avR _ rfl, avQ rfl, avQ rfl, avI rfl rfl, trivial⟩, ⟨by omega, g1⟩, (show l.length - (i + 1) < l.length - i by omega)⟩
    have t1 : ¬ (l.getD i default).X < (firstTo l i).X := dF t1
    repeat first | refine Split.tt ?_ | refine Split.ff ?_
    refine ⟨⟨rfl, by omega, by omega⟩, ?_⟩
    repeat first | refine Split.tt ?_ | refine Split.ff ?_
    refine Split.by (fun t2 => ?_) (fun t2 => ?_)
    · have t2 : (l.getD i default).X = (firstTo l i).X := by simpa using t2
      repeat first | refine Split.tt ?_ | refine Split.ff ?_
      refine ⟨⟨rfl, by omega, by omega⟩, ?_⟩
      repeat first | refine Split.tt ?_ | refine Split.ff ?_
      refine Split.by (fun t3 => ?_) (fun t3 => ?_)
      · have t3 : (l.getD i default).Y < (firstTo l i).Y := dT t3
        repeat first | refine Split.tt ?_ | refine Split.ff ?_
        refine ⟨⟨rfl, by omega, by omega⟩, ?_⟩
        refine ⟨inI64 (by omega) (by omega), ?_⟩
        exact ⟨i + 1, ⟨rfl, ⟨obX rfl, obX (by rw [yes (.inr ⟨t2, t3⟩)]; rfl), trivial⟩, avR _ rfl, avQ rfl, avQ rfl, avI rfl rfl, trivial⟩, ⟨by omega, g1⟩, (show l.length - (i + 1) < l.length - i by omega)⟩
      · have t3 : ¬ (l.getD i default).Y < (firstTo l i).Y := dF t3
        repeat first | refine Split.tt ?_ | refine Split.ff ?_
        refine ⟨inI64 (by omega) (by omega), ?_⟩
        exact ⟨i + 1, ⟨rfl, ⟨obX rfl, obX (by rw [no (by omega)]; rfl), trivial⟩, avR _ rfl, avQ rfl, avQ rfl, avI rfl rfl, trivial⟩, ⟨by omega, g1⟩, (show l.length - (i + 1) < l.length - i by omega)⟩
    · have t2 : (l.getD i default).X ≠ (firstTo l i).X := by simpa using t2
      repeat first | refine Split.tt ?_ | refine Split.ff ?_
      refine ⟨inI64 (by omega) (by omega), ?_⟩
      exact ⟨i + 1, ⟨rfl, ⟨obX rfl, obX (by rw [no (by omega)]; rfl), trivial⟩, avR _ rfl, avQ rfl, avQ rfl, avI rfl rfl, trivial⟩, ⟨by omega, g1⟩, (show l.length - (i + 1) < l.length - i by omega)⟩
  · have g1 : i = l.length := by have := dF g1; omega
    subst g1
    exact r1C rfl rfl rfl rfl rfl rfl (eqvs2 rfl rfl)
@[irreducible] def afterL (l : List Place) (p : Place) : Place × Bool := match l.find? (outerL l p) with | some q => (q, true) | none => (p, false)
theorem r_after (l : List Place) (p : Place) (hl : ∀ r ∈ l, on r = true) (hp : on p = true) (hn : l.length ≤ 1000000) : Spec PP 62 [slP l, p.v] [(afterL l p).1.v, B (afterL l p).2] := by
  refine spec_at Try.func62 rfl (by kernel_rfl) rfl ?_
  refine LoopOb.of (σ := Nat) (fun i => ([(0, avOf (slP l)), (3, .box 3 0), (4, .box 4 0), (6, .d (I i))], [(3, bxP p), (4, bxP ⟨0, 0⟩)])) (fun i => i ≤ l.length ∧ ∀ j, j < i → outerL l p (l.getD j default) = false) (fun i => l.length - i) 0
    ⟨rfl, ⟨obX rfl, obX rfl, trivial⟩, avR _ rfl, avQ rfl, avQ rfl, avR _ rfl, trivial⟩ ⟨Nat.zero_le _, fun j hj => absurd hj (Nat.not_lt_zero _)⟩ fun i hi => ?_
  obtain ⟨i1, i2⟩ := hi
  refine Split.by (fun g1 => ?_) (fun g1 => ?_)
  · have g1 : i < l.length := by have := dT g1; omega
    have hm := gd1 g1 (default : Place)
    refine Exists.intro (List.range 8) (And.intro (by kernel_rfl) (FzOb.no ?_))
    refine ⟨⟨rfl, by omega, by omega⟩, ?_⟩
    refine CallOb.pure (r_outer l p (l.getD i default) hl hp (hl _ hm) hn) rfl rfl ?_
    refine Split.by (fun t1 => ?_) (fun t1 => ?_)
    · have t1 : outerL l p (l.getD i default) = true := t1
      have e : afterL l p = (l.getD i default, true) := by
        unfold afterL
        have : l.find? (outerL l p) = some (l.getD i default) := by
          rw [List.find?_eq_some_iff_getElem]
          refine ⟨t1, i, g1, (gdI g1 default).symm, fun j hj => ?_⟩
          have := i2 j hj
          rw [gdI (by omega)] at this
          simp [this]
        rw [this]
      rw [e]
      refine ⟨⟨rfl, by omega, by omega⟩, ?_⟩
      exact ret2CBp rfl rfl rfl rfl rfl rfl rfl (eqvs2 rfl rfl) rfl
    · have t1 : outerL l p (l.getD i default) = false := t1
      refine ⟨inI64 (by omega) (by omega), ?_⟩
      refine ⟨i + 1, ⟨rfl, ⟨obX rfl, obX rfl, trivial⟩, avR _ rfl, avQ rfl, avQ rfl, avI rfl rfl, trivial⟩, ⟨g1, fun j hj => ?_⟩, (show l.length - (i + 1) < l.length - i by omega)⟩
      rcases Nat.lt_or_ge j i with g | g
      · exact i2 j g
      · obtain rfl : j = i := by omega
        exact t1
  · have g1 : i = l.length := by have := dF g1; omega
    subst g1
    have e : afterL l p = (p, false) := by
      unfold afterL
      have : l.find? (outerL l p) = none := by
        rw [List.find?_eq_none]
        intro x hx
        obtain ⟨j, hj, rfl⟩ := List.getElem_of_mem hx
        have := i2 j hj
        rw [gdI hj] at this
        simp [this]
      rw [this]
    rw [e]
    exact ret2CBp rfl rfl rfl rfl rfl rfl rfl (eqvs2 rfl rfl) rfl
end Go.Pg
/-
  Contracts: the specification's Hull.
-/
set_option linter.all false
set_option maxRecDepth 100000
namespace Go.Pg
open Go.Proofs Go.RowKit

theorem firstTo_mem (l : List Place) (h0 : 0 < l.length) : ∀ i, i ≤ l.length → firstTo l i ∈ l
  | 0, _ => by rw [firstTo_zero]; exact gd1 h0 default
  | i + 1, h => by
    rw [firstTo_succ l (by omega)]
    unfold stepF
    split
    · exact gd1 (by omega) default
    · exact firstTo_mem l h0 i (by omega)
def leP (p q : Place) : Prop := p.X < q.X ∨ (p.X = q.X ∧ p.Y ≤ q.Y)
theorem firstTo_le (l : List Place) (h0 : 0 < l.length) : ∀ i, i ≤ l.length → ∀ j, j < i ∨ j = 0 → leP (firstTo l i) (l.getD j default)
  | 0, _, j, hj => by
    obtain rfl : j = 0 := by omega
    rw [firstTo_zero]; unfold leP; omega
  | i + 1, h, j, hj => by
    have ih := firstTo_le l h0 i (by omega)
    rw [firstTo_succ l (by omega)]
    unfold stepF
    split
    · rename_i hc
      rcases Nat.lt_or_ge j i with g | g
      · have := ih j (.inl g); unfold leP at *; omega
      · by_cases z : j = 0
        · have := ih j (.inr z); unfold leP at *; omega
        · obtain rfl : j = i := by omega
          unfold leP; omega
    · rename_i hc
      rcases Nat.lt_or_ge j i with g | g
      · exact ih j (.inl g)
      · by_cases z : j = 0
        · exact ih j (.inr z)
        · obtain rfl : j = i := by omega
          unfold leP; omega
theorem first_is {l : List Place} (hl : ∀ p ∈ l, on p = true) (h0 : l ≠ []) : firstTo l l.length = atP (cycL l) 0 := by
  have hpos := List.length_pos_iff.2 h0
  have m := firstTo_mem l hpos l.length (Nat.le_refl _)
  have a := cyc_first hl h0 _ m
  have sl : 0 < (sortP l).length := List.length_pos_of_mem ((sortP_mem hl _).2 ⟨_, m, rfl⟩)
  have c0 : 0 < (cycL l).length := by rw [cyc_def]; exact hullL_pos sl
  obtain ⟨j, hj, e⟩ := List.getElem_of_mem (atP_co hl c0 0).2
  have b := firstTo_le l hpos l.length (Nat.le_refl _) j (.inl hj)
  rw [gdI hj, e] at b
  unfold leP at b
  rcases a with a | a | a
  · exact a.symm
  · omega
  · omega
theorem after_is {l : List Place} (hl : ∀ p ∈ l, on p = true) (h2 : 2 ≤ (sortP l).length) (i : Nat) : afterL l (atP (cycL l) i) = (atP (cycL l) (i + 1), true) := by
  have e := cyc_edge hl h2 i
  have c0 : 0 < (cycL l).length := by have := cyc_two hl h2; omega
  have m := (atP_co hl c0 (i + 1)).2
  unfold afterL
  cases hf : l.find? (outerL l (atP (cycL l) i)) with
  | none => exact absurd e (List.find?_eq_none.1 hf _ m)
  | some q =>
    have := out_uniq (List.mem_of_find?_eq_some hf) m (List.find?_some hf) e
    rw [this]
theorem after_one {l : List Place} (hl : ∀ p ∈ l, on p = true) (h0 : l ≠ []) (h2 : (sortP l).length < 2) : afterL l (atP (cycL l) 0) = (atP (cycL l) 0, false) := by
  obtain ⟨_, h⟩ := cyc_one hl h0 h2
  unfold afterL
  have : l.find? (outerL l (atP (cycL l) 0)) = none := by
    rw [List.find?_eq_none]
    intro x hx hc
    rw [outerL_iff] at hc
    exact hc.2 (h x hx).symm
  rw [this]
theorem len_nilP {α : Type} {l : List α} : ((l.length : Int) == 0) = true ↔ l = [] := by
  rw [beq_iff_eq]
  constructor
  · intro h; exact List.length_eq_zero_iff.1 (by omega)
  · rintro rfl; rfl
theorem neqPl (p q : Place) : (!(p.X == q.X && (p.Y == q.Y && true))) = decide (p ≠ q) := by
  rw [Bool.eq_iff_iff]
  simp only [Bool.not_eq_true', Bool.and_true, Bool.and_eq_false_imp, beq_iff_eq, beq_eq_false_iff_ne, decide_eq_true_iff]
  cases p; cases q; simp
theorem row2H (g h : Half) : ∀ i, i < 2 → ∀ j, j < 3 → D.eqv (rowOf 3 [I g.A, I g.B, I g.C, I h.A, I h.B, I h.C] i j) (([g, h].getD i default).at j) := fun i hi j hj => by
  match i, j, hi, hj with
  | 0, 0, _, _ | 0, 1, _, _ | 0, 2, _, _ => exact D.eqv_refl _
  | 1, 0, _, _ | 1, 1, _, _ | 1, 2, _, _ => exact D.eqv_refl _
abbrev vPl (x : List Half × Int) : V1 := .agg [.slc 3 x.1.length (rowH x.1), I x.2]
theorem eqvPl {x y : D} {a b : Int} (h : D.eqv x y) (e : a = b) : eqvs [x, I a] [y, I b] := ⟨h, ⟨rfl, e⟩, trivial⟩
theorem r_Hull (l : List Place) (hn : l.length ≤ 100) : Spec PP 21 [slP l] [vPl (hullE l)] := by
  refine specC_at [25] Try.func21 rfl (by kernel_rfl) rfl ?_
  refine Split.by (fun h1 => ?_) (fun h1 => ?_)
  · have h1 : l = [] := len_nilP.1 h1
    have e : hullE l = ([], 5) := by unfold hullE; rw [if_pos h1]
    rw [e]
    exact r1C rfl rfl rfl rfl rfl rfl (eqvPl rfl rfl)
  have h1 : l ≠ [] := fun h => by rw [len_nilP.2 h] at h1; cases h1
  have hpos := List.length_pos_iff.2 h1
  refine LoopOb.of (σ := Nat) (fun i => ([(0, avOf (slP l)), (2, .box 2 0), (3, .d (I i))], [(2, .box [.nilsl, .d (I 0)])])) (fun i => i ≤ l.length ∧ ∀ j, j < i → on (l.getD j default) = true) (fun i => l.length - i) 0
    ⟨rfl, ⟨obX rfl, trivial⟩, avR _ rfl, avQ rfl, avR _ rfl, trivial⟩ ⟨Nat.zero_le _, fun j hj => absurd hj (Nat.not_lt_zero _)⟩ fun i hi => ?_
  obtain ⟨i1, i2⟩ := hi
  refine Split.by (fun g1 => ?_) (fun g1 => ?_)
  · have g1 : i < l.length := by have := dT g1; omega
    refine ⟨⟨rfl, by omega, by omega⟩, ?_⟩
    refine CallSt.pure (r_mapped (l.getD i default)) rfl rfl ?_
    refine Split.by (fun g2 => ?_) (fun g2 => ?_)
    · have g2 : on (l.getD i default) = false := by simpa using g2
      have e : hullE l = ([], 1) := by
        unfold hullE
        rw [if_neg h1, if_neg fun h => by rw [List.all_eq_true.1 h _ (gd1 g1 default)] at g2; cases g2]
      rw [e]
      exact r1C rfl rfl rfl rfl rfl rfl (eqvPl rfl rfl)
    have g2 : on (l.getD i default) = true := by simpa using g2
    refine ⟨inI64 (by omega) (by omega), ?_⟩
    refine ⟨i + 1, ⟨rfl, ⟨obX rfl, trivial⟩, avR _ rfl, avQ rfl, avI rfl rfl, trivial⟩, ⟨g1, fun j hj => ?_⟩, (show l.length - (i + 1) < l.length - i by omega)⟩
    rcases Nat.lt_or_ge j i with g | g
    · exact i2 j g
    · obtain rfl : j = i := by omega
      exact g2
  have g1 : i = l.length := by have := dF g1; omega
  subst g1
  have hl : ∀ r ∈ l, on r = true := fun r hr => by
    obtain ⟨j, hj, rfl⟩ := List.getElem_of_mem hr
    have := i2 j hj
    rwa [gdI hj] at this
  have e : hullE l = (if (cycL l).length = 1 then edges1 (atP (cycL l) 0) else if (cycL l).length = 2 then edges2 (atP (cycL l) 0) (atP (cycL l) 1) else edgesTo (cycL l) (cycL l).length, 0) := by
    unfold hullE; rw [if_neg h1, if_pos (List.all_eq_true.2 hl)]
  have cF := r_first l hpos (by omega)
  rw [first_is hl h1] at cF
  have sl : 0 < (sortP l).length := List.length_pos_of_mem ((sortP_mem hl _).2 ⟨_, gd1 hpos default, rfl⟩)
  have c0 : 0 < (cycL l).length := by rw [cyc_def]; exact hullL_pos sl
  have mem := fun k => (atP_co hl c0 k).2
  have bd := fun k => on_bd (hl _ (mem k))
  have cA := fun k => r_after l (atP (cycL l) k) hl (hl _ (mem k)) (by omega)
  refine CallSt.pure cF rfl rfl ?_
  rcases Nat.lt_or_ge (sortP l).length 2 with h2 | h2
  · have cA := cA 0
    rw [after_one hl h1 h2] at cA
    rw [e, if_pos (cyc_one hl h1 h2).1]
    refine CallSt.pure cA rfl rfl ?_
    repeat first | refine Split.tt ?_ | refine Split.ff ?_
    have b0 := bd 0
    refine ⟨inI64 (by omega) (by omega), ⟨inI64 (by omega) (by omega), ?_⟩⟩
    refine r1C rfl rfl rfl rfl rfl rfl ?_
    unfold edges1
    exact eqvPl eqH4 rfl
  have cA0 := cA 0
  rw [after_is hl h2 0] at cA0
  have n2 := cyc_two hl h2
  have far := fun i (h : 0 < i) (h' : i < (cycL l).length) => cyc_far hl h2 h h'
  have nlen : (cycL l).length ≤ 200 := by
    rw [cyc_def]
    have a := hullL_len (sortP l)
    have b := compL_len ((sortV (ptsO l l.length)).map fun p : VC => p.1)
    rw [List.length_map, sortV_len, ptsO_len l (Nat.le_refl _)] at b
    have c : sortP l = compL ((sortV (ptsO l l.length)).map fun p : VC => p.1) := by unfold sortP; rfl
    rw [← c] at b
    omega
  refine CallSt.pure cA0 rfl rfl ?_
  repeat first | refine Split.tt ?_ | refine Split.ff ?_
  rw [e, if_neg (by omega)]
  refine LoopOb.of (σ := Nat) (fun k => ([(0, avOf (slP l)), (2, .box 2 0), (5, .box 5 0), (6, .box 6 0), (8, .box 8 0), (9, .box 9 0), (10, .box 10 0), (11, .d (I k))], [(2, .box [.nilsl, .d (I 0)]), (5, bxP (atP (cycL l) 0)), (6, bxP (atP (cycL l) 1)), (8, .box [.own 75, .d (I 0)]), (9, bxP (atP (cycL l) k)), (10, bxP (atP (cycL l) (k + 1))), (75, .row 43 3 (edgesTo (cycL l) k).length (rowH (edgesTo (cycL l) k)))])) (fun k => k ≤ (cycL l).length) (fun k => (cycL l).length - k) 0
    ⟨rfl, ⟨obX rfl, obX rfl, obX rfl, ⟨⟨rfl, 43, 3, rowH [], (show some (Ob.row 43 3 (edgesTo (cycL l) 0).length (rowH (edgesTo (cycL l) 0))) = some (Ob.row 43 3 0 (rowH [])) by rw [edgesTo_zero]; rfl)⟩, D.eqv_refl _, trivial⟩, obX rfl, obX rfl, obZ rfl (by rw [edgesTo_zero]; rfl), trivial⟩, avR _ rfl, avQ rfl, avQ rfl, avQ rfl, avQ rfl, avQ rfl, avQ rfl, avR _ rfl, trivial⟩ (Nat.zero_le _) fun k hk => ?_
  have bk := bd k
  have bk1 := bd (k + 1)
  have el := edgesTo_len (cycL l) k
  have cE := r_edge (atP (cycL l) k) (atP (cycL l) (k + 1)) (hl _ (mem k)) (hl _ (mem (k + 1)))
  have cAk := cA (k + 1)
  rw [after_is hl h2 (k + 1)] at cAk
  rcases Nat.lt_or_ge k (cycL l).length with g1 | g1
  · by_cases k0 : k = 0
    · refine Split.yes (show ((k : Int) == 0) = true by rw [k0]; rfl) ?_
      repeat first | refine Split.tt ?_ | refine Split.ff ?_
      refine Exists.intro (List.range 9) (And.intro (by kernel_rfl) (FzOb.no ?_))
      refine CallOb.pure cE rfl rfl ?_
      refine ⟨⟨.inr rfl, by unfold maxLen; omega, by show ((edgesTo (cycL l) k).length + 1) * 24 ≤ 140737488355328; omega⟩, ?_⟩
      refine CallSt.pure cAk rfl rfl ?_
      refine ⟨inI64 (by omega) (by omega), ?_⟩
      refine ⟨k + 1, ⟨rfl, ⟨obX rfl, obX rfl, obX rfl, obX rfl, obX rfl, obX rfl, obR rfl ?_, trivial⟩, avR _ rfl, avQ rfl, avQ rfl, avQ rfl, avQ rfl, avQ rfl, avQ rfl, avI rfl rfl, trivial⟩, g1, (show (cycL l).length - (k + 1) < (cycL l).length - k by omega)⟩
      rw [edgesTo_succ]
      exact pushH rfl (eqAtH _)
    · refine Split.no (show ((k : Int) == 0) = false by simpa using k0) ?_
      have hne := far k (by omega) g1
      repeat first | refine Split.tt ?_ | refine Split.ff ?_
      refine Split.yes ((neqPl _ _).trans (decide_eq_true hne)) ?_
      repeat first | refine Split.tt ?_ | refine Split.ff ?_
      refine Exists.intro (List.range 9) (And.intro (by kernel_rfl) (FzOb.no ?_))
      refine CallOb.pure cE rfl rfl ?_
      refine ⟨⟨.inr rfl, by unfold maxLen; omega, by show ((edgesTo (cycL l) k).length + 1) * 24 ≤ 140737488355328; omega⟩, ?_⟩
      refine CallSt.pure cAk rfl rfl ?_
      refine ⟨inI64 (by omega) (by omega), ?_⟩
      refine ⟨k + 1, ⟨rfl, ⟨obX rfl, obX rfl, obX rfl, obX rfl, obX rfl, obX rfl, obR rfl ?_, trivial⟩, avR _ rfl, avQ rfl, avQ rfl, avQ rfl, avQ rfl, avQ rfl, avQ rfl, avI rfl rfl, trivial⟩, g1, (show (cycL l).length - (k + 1) < (cycL l).length - k by omega)⟩
      rw [edgesTo_succ]
      exact pushH rfl (eqAtH _)
  · have kn : k = (cycL l).length := by omega
    refine Split.no (show ((k : Int) == 0) = false by simp; omega) ?_
    have hne : atP (cycL l) k = atP (cycL l) 0 := by rw [kn, ← atP_mod, Nat.mod_self]
    repeat first | refine Split.tt ?_ | refine Split.ff ?_
    refine Split.no ((neqPl _ _).trans (decide_eq_false fun h => h hne)) ?_
    repeat first | refine Split.tt ?_ | refine Split.ff ?_
    subst kn
    refine Split.by (fun g3 => ?_) (fun g3 => ?_)
    · have g3 : (cycL l).length = 2 := by
        have : (((edgesTo (cycL l) (cycL l).length).length : Int) == 2) = true := g3
        rw [beq_iff_eq] at this
        omega
      rw [if_pos g3]
      have b0 := bd 0
      have b1 := bd 1
      have m1 := mulB (a := -((atP (cycL l) 1).X - (atP (cycL l) 0).X)) (b := (atP (cycL l) 0).X) (x := 48) (y := 48) (by omega) (by omega)
      have m2 := mulB (a := (atP (cycL l) 1).Y - (atP (cycL l) 0).Y) (b := (atP (cycL l) 0).Y) (x := 48) (y := 48) (by omega) (by omega)
      have m3 := mulB (a := (atP (cycL l) 1).X - (atP (cycL l) 0).X) (b := (atP (cycL l) 1).X) (x := 48) (y := 48) (by omega) (by omega)
      have m4 := mulB (a := (atP (cycL l) 1).Y - (atP (cycL l) 0).Y) (b := (atP (cycL l) 1).Y) (x := 48) (y := 48) (by omega) (by omega)
      refine ⟨inI64 (by omega) (by omega), ⟨inI64 (by omega) (by omega), ?_⟩⟩
      refine ⟨inI64 (by omega) (by omega), ⟨inI64 (by omega) (by omega), ⟨inI64 (by omega) (by omega), ⟨inI64 (by omega) (by omega), ⟨inI64 (by omega) (by omega), ⟨inI64 (by omega) (by omega), ?_⟩⟩⟩⟩⟩⟩
      refine ⟨inI64 (by omega) (by omega), ⟨inI64 (by omega) (by omega), ⟨inI64 (by omega) (by omega), ?_⟩⟩⟩
      refine ⟨⟨.inr rfl, by unfold maxLen; omega, by show ((edgesTo (cycL l) (cycL l).length).length + 2) * 24 ≤ 140737488355328; omega⟩, ?_⟩
      refine CutOb.at [(2, .box 2 0), (8, .box 8 0)] [(2, .box [.nilsl, .d (I 0)]), (8, .box [avOf (slH (edges2 (atP (cycL l) 0) (atP (cycL l) 1))), .d (I 0)])] ⟨rfl, ⟨obX rfl, ⟨⟨rfl, _, _, _, _, rfl, ?_⟩, D.eqv_refl _, trivial⟩, trivial⟩, avQ rfl, avQ rfl, trivial⟩ ?_
      · have a2 : atP (cycL l) 2 = atP (cycL l) 0 := by rw [← atP_mod, g3]
        have e2 : edges2 (atP (cycL l) 0) (atP (cycL l) 1) = edgesTo (cycL l) (cycL l).length ++ [⟨-((atP (cycL l) 1).X - (atP (cycL l) 0).X), -((atP (cycL l) 1).Y - (atP (cycL l) 0).Y), -((atP (cycL l) 1).X - (atP (cycL l) 0).X) * (atP (cycL l) 0).X - ((atP (cycL l) 1).Y - (atP (cycL l) 0).Y) * (atP (cycL l) 0).Y⟩, ⟨(atP (cycL l) 1).X - (atP (cycL l) 0).X, (atP (cycL l) 1).Y - (atP (cycL l) 0).Y, ((atP (cycL l) 1).X - (atP (cycL l) 0).X) * (atP (cycL l) 1).X + ((atP (cycL l) 1).Y - (atP (cycL l) 0).Y) * (atP (cycL l) 1).Y⟩] := by
          rw [g3, edgesTo_succ, edgesTo_succ, edgesTo_zero, a2]
          unfold edges2; rfl
        rw [e2]
        exact app_row (at_ := Half.at) rfl rfl (fun i hi j hj => D.eqv_refl _) (row2H ⟨-((atP (cycL l) 1).X - (atP (cycL l) 0).X), -((atP (cycL l) 1).Y - (atP (cycL l) 0).Y), -((atP (cycL l) 1).X - (atP (cycL l) 0).X) * (atP (cycL l) 0).X - ((atP (cycL l) 1).Y - (atP (cycL l) 0).Y) * (atP (cycL l) 0).Y⟩ ⟨(atP (cycL l) 1).X - (atP (cycL l) 0).X, (atP (cycL l) 1).Y - (atP (cycL l) 0).Y, ((atP (cycL l) 1).X - (atP (cycL l) 0).X) * (atP (cycL l) 1).X + ((atP (cycL l) 1).Y - (atP (cycL l) 0).Y) * (atP (cycL l) 1).Y⟩)
      · exact r1C rfl rfl rfl rfl rfl rfl (eqvPl (D.eqv_refl _) rfl)
    · have g3 : (cycL l).length ≠ 2 := fun h => by
        have : (((edgesTo (cycL l) (cycL l).length).length : Int) == 2) = false := g3
        rw [el, h] at this
        cases this
      rw [if_neg g3]
      refine CutOb.at [(2, .box 2 0), (8, .box 8 0)] [(2, .box [.nilsl, .d (I 0)]), (8, .box [avOf (slH (edgesTo (cycL l) (cycL l).length)), .d (I 0)])] ⟨rfl, ⟨obX rfl, ⟨⟨rfl, _, _, _, _, rfl, D.eqv_refl _⟩, D.eqv_refl _, trivial⟩, trivial⟩, avQ rfl, avQ rfl, trivial⟩ ?_
      exact r1C rfl rfl rfl rfl rfl rfl (eqvPl (D.eqv_refl _) rfl)
end Go.Pg
/-
  The law HalfHulls: walk.
-/
set_option linter.all false
set_option maxRecDepth 100000
namespace Go.Pg
open Go.Proofs Go.RowKit

theorem cyc_len {l : List Place} (hn : l.length ≤ 100) : (cycL l).length ≤ 200 := by
  rw [cyc_def]
  have a := hullL_len (sortP l)
  have b := compL_len ((sortV (ptsO l l.length)).map fun p : VC => p.1)
  rw [List.length_map, sortV_len, ptsO_len l (Nat.le_refl _)] at b
  have c : sortP l = compL ((sortV (ptsO l l.length)).map fun p : VC => p.1) := by unfold sortP; rfl
  rw [← c] at b
  omega
theorem hullE_len {l : List Place} (hn : l.length ≤ 100) : (hullE l).1.length ≤ 1000000 := by
  have := cyc_len hn
  unfold hullE
  split
  · exact Nat.zero_le _
  · split
    · show (if (cycL l).length = 1 then edges1 (atP (cycL l) 0) else if (cycL l).length = 2 then edges2 (atP (cycL l) 0) (atP (cycL l) 1) else edgesTo (cycL l) (cycL l).length).length ≤ 1000000
      split
      · unfold edges1; simp
      · split
        · unfold edges2; simp
        · rw [edgesTo_len]; omega
    · exact Nat.zero_le _
theorem s_HalfHulls (l : List Place) : Spec PP 4 [slP l] [B true] := by
  refine spec_at Try.func4 rfl (by kernel_rfl) rfl ?_
  refine Split.by (fun h1 => ?_) (fun h1 => ?_)
  · refine CallSt.pure s_sanity rfl rfl ?_
    exact r1B rfl rfl
  have hn : l.length ≤ 40 := by have := dF h1; omega
  refine CallSt.ro (s_Hull l (by omega)) rfl rfl ?_
  refine CallSt.ro (r_Hull l (by omega)) rfl rfl ?_
  refine CallSt.pure s_sanity rfl rfl ?_
  repeat first | refine Split.tt ?_ | refine Split.ff ?_
  refine Split.yes (by simp) ?_
  refine CallSt.pure (r_SameHalves (hullE l).1 (hullE l).1 (hullE_len (by omega))) rfl rfl ?_
  repeat first | refine Split.tt ?_ | refine Split.ff ?_
  exact r1B rfl (by simp)
end Go.Pg
