/-
  The polygon of the hull has the places, and its corners are places. Plain.
-/
import Derived.Test.YtlmljmgappiehaaKG
set_option linter.all false
namespace Go.Pg
open Go.Proofs Go.RowKit

theorem nodup_len {α : Type} [DecidableEq α] : ∀ (a b : List α), a.Nodup → (∀ x ∈ a, x ∈ b) → a.length ≤ b.length
  | [], b, _, _ => Nat.zero_le _
  | x :: a, b, hn, hs => by
    obtain ⟨h1, h2⟩ := List.nodup_cons.1 hn
    have hx := hs x (List.mem_cons_self ..)
    have := nodup_len a (b.erase x) h2 fun y hy => (List.mem_erase_of_ne fun e => h1 (by rw [← e]; exact hy)).2 (hs y (List.mem_cons_of_mem _ hy))
    rw [List.length_erase_of_mem hx] at this
    have := List.length_pos_of_mem hx
    rw [List.length_cons]; omega
section
variable {l : List Place} (hl : ∀ p ∈ l, on p = true) (h2 : 2 ≤ (sortP l).length)
include hl h2
theorem at_next {i j : Nat} (h : atP (cycL l) i = atP (cycL l) j) : atP (cycL l) (i + 1) = atP (cycL l) (j + 1) := by
  have c0 : 0 < (cycL l).length := by have := cyc_two hl h2; omega
  have e1 := cyc_edge hl h2 i
  rw [h] at e1
  exact out_uniq (atP_co hl c0 (i + 1)).2 (atP_co hl c0 (j + 1)).2 e1 (cyc_edge hl h2 j)
theorem at_add {i j : Nat} (h : atP (cycL l) i = atP (cycL l) j) : ∀ t, atP (cycL l) (i + t) = atP (cycL l) (j + t)
  | 0 => h
  | t + 1 => at_next hl h2 (at_add h t)
theorem at_inj {i j : Nat} (hij : i < j) (hj : j < (cycL l).length) : atP (cycL l) i ≠ atP (cycL l) j := fun h => by
  have := at_add hl h2 h ((cycL l).length - j)
  rw [show j + ((cycL l).length - j) = (cycL l).length by omega, ← atP_mod (cycL l) (cycL l).length, Nat.mod_self] at this
  exact cyc_far hl h2 (by omega) (by omega) this
theorem cyc_le : (cycL l).length ≤ l.length := by
  have c0 : 0 < (cycL l).length := by have := cyc_two hl h2; omega
  have nd : ((List.range (cycL l).length).map fun i => atP (cycL l) i).Nodup := by
    unfold List.Nodup
    rw [List.pairwise_map]
    refine List.Pairwise.imp_of_mem ?_ (List.pairwise_lt_range (n := (cycL l).length))
    intro i j hi hj hij
    exact at_inj hl h2 hij (List.mem_range.1 hj)
  have := nodup_len _ l nd fun x hx => by
    obtain ⟨i, _, rfl⟩ := List.mem_map.1 hx
    exact (atP_co hl c0 i).2
  rw [List.length_map, List.length_range] at this
  exact this
end
/-! ### The half-planes of the hull -/
theorem ef_edge (a b : Place) (q : Corner) : ef (edgeL a b) q = -d3 (co a) (co b) q := by unfold ef edgeL d3 co; grind
theorem ef_crP (a b r : Place) : ef (edgeL a b) (co r) = crP a b r := by rw [ef_edge, crP_d3]
theorem fit_of {h : Half} (a : -1000 ≤ h.A ∧ h.A ≤ 1000) (b : -1000 ≤ h.B ∧ h.B ≤ 1000) (z : h.A ≠ 0 ∨ h.B ≠ 0) (c : -262144 ≤ h.C ∧ h.C ≤ 262144) : fit h = true := by
  unfold fit slope
  simp only [Bool.and_eq_true, Bool.or_eq_true, bne_iff_ne, within_spec]
  exact ⟨⟨⟨a, b⟩, z⟩, c⟩
theorem edge_fit {p q : Place} (hp : on p = true) (hq : on q = true) (hn : p ≠ q) : fit (edgeL p q) = true := by
  obtain ⟨a, b, c⟩ := edge_bd hp hq
  refine fit_of (by omega) (by omega) ?_ (by omega)
  refine Classical.not_not.1 fun hz => hn ?_
  have z1 : (edgeL p q).A = 0 := by omega
  have z2 : (edgeL p q).B = 0 := by omega
  unfold edgeL at z1 z2
  cases p; cases q; simp at z1 z2 ⊢; omega
theorem edgesTo_mem {c : List Corner} {k : Nat} {h : Half} : h ∈ edgesTo c k ↔ ∃ i, i < k ∧ h = edgeL (atP c i) (atP c (i + 1)) := by
  unfold edgesTo
  rw [List.mem_map]
  constructor
  · rintro ⟨i, hi, rfl⟩; exact ⟨i, List.mem_range.1 hi, rfl⟩
  · rintro ⟨i, hi, rfl⟩; exact ⟨i, List.mem_range.2 hi, rfl⟩
/-- The half-planes of the hull of at least one place. -/
def hullH (l : List Place) : List Half := if (cycL l).length = 1 then edges1 (atP (cycL l) 0) else if (cycL l).length = 2 then edges2 (atP (cycL l) 0) (atP (cycL l) 1) else edgesTo (cycL l) (cycL l).length
theorem hullE_ok {l : List Place} (h0 : l ≠ []) (hl : ∀ p ∈ l, on p = true) : hullE l = (hullH l, 0) := by
  unfold hullE hullH; rw [if_neg h0, if_pos (List.all_eq_true.2 hl)]
theorem hullE_err {l : List Place} (h : (hullE l).2 ≠ 0) : (hullE l).1 = [] := by
  unfold hullE at h ⊢
  split
  · rfl
  · rename_i h0
    rw [if_neg h0] at h
    split
    · rename_i h1; rw [if_pos h1] at h; exact absurd rfl h
    · rfl
theorem hullE_on {l : List Place} (h : (hullE l).2 = 0) : l ≠ [] ∧ ∀ p ∈ l, on p = true := by
  unfold hullE at h
  split at h
  · cases h
  · rename_i h0
    split at h
    · rename_i h1; exact ⟨h0, fun p hp => List.all_eq_true.1 h1 p hp⟩
    · cases h
def dt (p q : Place) : Half := ⟨-(q.X - p.X), -(q.Y - p.Y), -(q.X - p.X) * p.X - (q.Y - p.Y) * p.Y⟩
def dn (p q : Place) : Half := ⟨q.X - p.X, q.Y - p.Y, (q.X - p.X) * q.X + (q.Y - p.Y) * q.Y⟩
theorem edges2_mem {p q : Place} {h : Half} : h ∈ edges2 p q ↔ h = edgeL p q ∨ h = edgeL q p ∨ h = dt p q ∨ h = dn p q := by
  unfold edges2 dt dn; simp
theorem ef_dt (p q r : Place) : ef (dt p q) (co r) = -onL p q r := by unfold ef dt onL co; grind
theorem ef_dn (p q r : Place) : ef (dn p q) (co r) = onL p q r - mostL p q := by unfold ef dn onL mostL co; grind
theorem dt_fit {p q : Place} (hp : on p = true) (hq : on q = true) (hn : p ≠ q) : fit (dt p q) = true ∧ fit (dn p q) = true := by
  have bp := on_bd hp
  have bq := on_bd hq
  have m1 := mulB (a := -(q.X - p.X)) (b := p.X) (x := 48) (y := 48) (by omega) (by omega)
  have m2 := mulB (a := q.Y - p.Y) (b := p.Y) (x := 48) (y := 48) (by omega) (by omega)
  have m3 := mulB (a := q.X - p.X) (b := q.X) (x := 48) (y := 48) (by omega) (by omega)
  have m4 := mulB (a := q.Y - p.Y) (b := q.Y) (x := 48) (y := 48) (by omega) (by omega)
  have z : ¬ (q.X - p.X = 0 ∧ q.Y - p.Y = 0) := fun ⟨a, b⟩ => hn (by cases p; cases q; simp at a b ⊢; omega)
  unfold dt dn
  constructor
  · exact fit_of (show -1000 ≤ -(q.X - p.X) ∧ -(q.X - p.X) ≤ 1000 by omega) (show -1000 ≤ -(q.Y - p.Y) ∧ -(q.Y - p.Y) ≤ 1000 by omega) (show -(q.X - p.X) ≠ 0 ∨ -(q.Y - p.Y) ≠ 0 by omega) (show -262144 ≤ -(q.X - p.X) * p.X - (q.Y - p.Y) * p.Y ∧ -(q.X - p.X) * p.X - (q.Y - p.Y) * p.Y ≤ 262144 by omega)
  · exact fit_of (show -1000 ≤ q.X - p.X ∧ q.X - p.X ≤ 1000 by omega) (show -1000 ≤ q.Y - p.Y ∧ q.Y - p.Y ≤ 1000 by omega) (show q.X - p.X ≠ 0 ∨ q.Y - p.Y ≠ 0 by omega) (show -262144 ≤ (q.X - p.X) * q.X + (q.Y - p.Y) * q.Y ∧ (q.X - p.X) * q.X + (q.Y - p.Y) * q.Y ≤ 262144 by omega)
theorem e1_mem {p : Place} {h : Half} : h ∈ edges1 p ↔ h = ⟨-1, 0, -p.X⟩ ∨ h = ⟨1, 0, p.X⟩ ∨ h = ⟨0, -1, -p.Y⟩ ∨ h = ⟨0, 1, p.Y⟩ := by unfold edges1; simp
/-- In each case: what the half-planes are. -/
theorem hull_cases {l : List Place} (h0 : l ≠ []) (hl : ∀ p ∈ l, on p = true) :
    ((∀ r ∈ l, r = atP (cycL l) 0) ∧ (cycL l).length = 1 ∧ hullH l = edges1 (atP (cycL l) 0)) ∨
    (2 ≤ (sortP l).length ∧ (cycL l).length = 2 ∧ hullH l = edges2 (atP (cycL l) 0) (atP (cycL l) 1)) ∨
    (2 ≤ (sortP l).length ∧ 3 ≤ (cycL l).length ∧ hullH l = edgesTo (cycL l) (cycL l).length) := by
  rcases Nat.lt_or_ge (sortP l).length 2 with h | h
  · obtain ⟨a, b⟩ := cyc_one hl h0 h
    exact .inl ⟨b, a, by unfold hullH; rw [if_pos a]⟩
  · have n2 := cyc_two hl h
    by_cases c : (cycL l).length = 2
    · exact .inr (.inl ⟨h, c, by unfold hullH; rw [if_neg (by omega), if_pos c]⟩)
    · exact .inr (.inr ⟨h, by omega, by unfold hullH; rw [if_neg (by omega), if_neg c]⟩)
theorem hull_check {l : List Place} (h0 : l ≠ []) (hl : ∀ p ∈ l, on p = true) (hn : l.length ≤ 40) : checkL (hullH l) = 0 := by
  have key : (hullH l).length ≤ 40 ∧ ∀ h ∈ hullH l, fit h = true := by
    rcases hull_cases h0 hl with ⟨a, b, e⟩ | ⟨h2, b, e⟩ | ⟨h2, b, e⟩
    · rw [e]
      have m : atP (cycL l) 0 ∈ l := by
        obtain ⟨x, hx⟩ := List.exists_mem_of_ne_nil _ h0
        rw [← a x hx]; exact hx
      have bp := on_bd (hl _ m)
      refine ⟨by unfold edges1; simp, fun h hh => ?_⟩
      rcases e1_mem.1 hh with rfl | rfl | rfl | rfl <;> exact fit_of (by simp) (by simp) (by simp) (by simp; omega)
    · rw [e]
      have c0 : 0 < (cycL l).length := by omega
      have m0 := hl _ (atP_co hl c0 0).2
      have m1 := hl _ (atP_co hl c0 1).2
      have ne := at_inj hl h2 (show 0 < 1 by omega) (by omega)
      refine ⟨by unfold edges2; simp, fun h hh => ?_⟩
      obtain ⟨f1, f2⟩ := dt_fit m0 m1 ne
      rcases edges2_mem.1 hh with rfl | rfl | rfl | rfl
      · exact edge_fit m0 m1 ne
      · exact edge_fit m1 m0 ne.symm
      · exact f1
      · exact f2
    · rw [e]
      have c0 : 0 < (cycL l).length := by omega
      have := cyc_le hl h2
      refine ⟨by rw [edgesTo_len]; omega, fun h hh => ?_⟩
      obtain ⟨i, hi, rfl⟩ := edgesTo_mem.1 hh
      exact edge_fit (hl _ (atP_co hl c0 i).2) (hl _ (atP_co hl c0 (i + 1)).2) (outerL_iff.1 (cyc_edge hl h2 i)).2
  unfold checkL
  rw [if_neg (by omega), if_pos (List.all_eq_true.2 key.2)]
theorem side_fe {r : Place} (h : on r = true) : ∀ x ∈ sidesL, ef x (co r) ≤ 0 := fun x hx => by
  have b := on_bd h
  unfold sidesL at hx
  simp only [List.mem_cons, List.not_mem_nil, or_false] at hx
  rcases hx with rfl | rfl | rfl | rfl <;> (unfold ef co; simp; omega)
/-- All places lie in the polygon of the hull. -/
theorem hull_fe {l : List Place} (h0 : l ≠ []) (hl : ∀ p ∈ l, on p = true) {r : Place} (hr : r ∈ l) : Fe (hsL (hullH l)) (co r) := fun h hh => by
  rcases List.mem_append.1 hh with hh | hh
  · rcases hull_cases h0 hl with ⟨a, b, e⟩ | ⟨h2, b, e⟩ | ⟨h2, b, e⟩
    · rw [e] at hh
      rw [a r hr]
      rcases e1_mem.1 hh with rfl | rfl | rfl | rfl <;> (unfold ef co; simp)
    · rw [e] at hh
      have e0 := (outerL_iff.1 (cyc_edge hl h2 0)).1 r hr
      have e1 := (outerL_iff.1 (cyc_edge hl h2 1)).1 r hr
      have a2 : atP (cycL l) (1 + 1) = atP (cycL l) 0 := by rw [← atP_mod, b]
      rw [a2] at e1
      have sw : crP (atP (cycL l) 1) (atP (cycL l) 0) r = -crP (atP (cycL l) 0) (atP (cycL l) (0 + 1)) r := by
        show crP (atP (cycL l) 1) (atP (cycL l) 0) r = -crP (atP (cycL l) 0) (atP (cycL l) 1) r
        unfold crP edgeL; grind
      have z := e0.2 (by omega)
      rcases edges2_mem.1 hh with rfl | rfl | rfl | rfl
      · rw [ef_crP]; exact e0.1
      · rw [ef_crP]; exact e1.1
      · rw [ef_dt]; have : 0 ≤ onL (atP (cycL l) 0) (atP (cycL l) 1) r := z.1; omega
      · rw [ef_dn]; have : onL (atP (cycL l) 0) (atP (cycL l) 1) r ≤ mostL (atP (cycL l) 0) (atP (cycL l) 1) := z.2; omega
    · rw [e] at hh
      obtain ⟨i, hi, rfl⟩ := edgesTo_mem.1 hh
      rw [ef_crP]
      exact ((outerL_iff.1 (cyc_edge hl h2 i)).1 r hr).1
  · exact side_fe (hl r hr) h hh
end Go.Pg
/-
  The corners of the hull's polygon are places. Plain.
-/
set_option linter.all false
namespace Go.Pg
open Go.Proofs Go.RowKit

/-- Where a walk goes from at least 0 to at most 0, there is a step that does. -/
theorem cross0 (g : Nat → Int) : ∀ m, 0 ≤ g 1 → g (m + 2) ≤ 0 → ∃ j, 1 ≤ j ∧ j ≤ m + 1 ∧ 0 ≤ g j ∧ g (j + 1) ≤ 0
  | 0, h1, h2 => ⟨1, Nat.le_refl _, Nat.le_refl _, h1, h2⟩
  | m + 1, h1, h2 => by
    rcases Int.lt_or_le 0 (g (m + 2)) with h | h
    · exact ⟨m + 2, by omega, by omega, by omega, h2⟩
    · obtain ⟨j, a, b, c, d⟩ := cross0 g m h1 h
      exact ⟨j, a, by omega, c, d⟩
theorem d3_den (a b c d : Corner) : a.Den * d3 b c d - b.Den * d3 a c d + c.Den * d3 a b d - d.Den * d3 a b c = 0 := by
  have := plu ⟨0, 0, -1⟩ a b c d
  unfold ef at this
  simpa using this
theorem hull_vt {l : List Place} (h0 : l ≠ []) (hl : ∀ p ∈ l, on p = true) {q : Corner} (V : Vt (hsL (hullH l)) q) : ∃ p ∈ l, q = co p := by
  obtain ⟨φ, f0, fn⟩ := V.out
  refine Classical.byContradiction fun hno => ?_
  have neg : ∀ r ∈ l, ef φ (co r) < 0 := fun r hr => by
    have v : valid (co r) = true := by rw [← ofP_co (hl r hr)]; exact ofP_valid (hl r hr)
    exact (fn _ (hull_fe h0 hl hr) v).2 fun e => hno ⟨r, hr, e.symm⟩
  have qd : 0 < q.Den := denV V.va
  have fe : ∀ h ∈ hullH l, ef h q ≤ 0 := fun h hh => V.fe h (List.mem_append_left _ hh)
  rcases hull_cases h0 hl with ⟨a, b, e⟩ | ⟨h2, b, e⟩ | ⟨h2, b, e⟩
  · -- one place
    rw [e] at fe
    have m : atP (cycL l) 0 ∈ l := by
      obtain ⟨x, hx⟩ := List.exists_mem_of_ne_nil _ h0
      rw [← a x hx]; exact hx
    have n := neg _ m
    generalize atP (cycL l) 0 = p at *
    have a1 := fe _ (e1_mem.2 (.inl rfl))
    have a2 := fe _ (e1_mem.2 (.inr (.inl rfl)))
    have a3 := fe _ (e1_mem.2 (.inr (.inr (.inl rfl))))
    have a4 := fe _ (e1_mem.2 (.inr (.inr (.inr rfl))))
    unfold ef at a1 a2 a3 a4
    have x : q.X = p.X * q.Den := by
      have e1 : -p.X * q.Den = -(p.X * q.Den) := Int.neg_mul ..
      simp only [Int.neg_mul, Int.one_mul, Int.zero_mul] at a1 a2
      omega
    have y : q.Y = p.Y * q.Den := by
      simp only [Int.neg_mul, Int.one_mul, Int.zero_mul] at a3 a4
      omega
    have k : ef φ q = q.Den * ef φ (co p) := by unfold ef co; rw [x, y]; grind
    have := Int.mul_neg_of_pos_of_neg qd n
    omega
  · -- two places
    rw [e] at fe
    have c0 : 0 < (cycL l).length := by omega
    have m0 := neg _ (atP_co hl c0 0).2
    have m1 := neg _ (atP_co hl c0 1).2
    have ne := at_inj hl h2 (show 0 < 1 by omega) (by omega)
    generalize atP (cycL l) 0 = p at *
    generalize atP (cycL l) 1 = r at *
    have a1 := fe _ (edges2_mem.2 (.inl rfl))
    have a2 := fe _ (edges2_mem.2 (.inr (.inl rfl)))
    have a3 := fe _ (edges2_mem.2 (.inr (.inr (.inl rfl))))
    have a4 := fe _ (edges2_mem.2 (.inr (.inr (.inr rfl))))
    have sw : ef (edgeL r p) q = -ef (edgeL p r) q := by unfold ef edgeL; grind
    have z : ef (edgeL p r) q = 0 := by omega
    have key : mostL p r * ef φ q = (-ef (dn p r) q) * ef φ (co p) + (-ef (dt p r) q) * ef φ (co r) := by
      unfold mostL ef dn dt co
      unfold ef edgeL at z
      simp only [Int.mul_one]
      grind
    rw [f0, Int.mul_zero] at key
    have w1 : 0 ≤ -ef (dn p r) q := by omega
    have w2 : 0 ≤ -ef (dt p r) q := by omega
    have ws : -ef (dn p r) q + -ef (dt p r) q = mostL p r * q.Den := by unfold ef dn dt mostL; grind
    have mp : 0 < mostL p r := by
      unfold mostL
      have a := msq (r.X - p.X)
      have b := msq (r.Y - p.Y)
      rcases Int.lt_or_le 0 ((r.X - p.X) * (r.X - p.X) + (r.Y - p.Y) * (r.Y - p.Y)) with g | g
      · exact g
      · exfalso
        have x := sqz (a := r.X - p.X) (by omega)
        have y := sqz (a := r.Y - p.Y) (by omega)
        apply ne
        cases p; cases r; simp at x y ⊢; omega
    have pos := Int.mul_pos mp qd
    have t1 := Int.mul_nonpos_of_nonneg_of_nonpos w1 (show ef φ (co p) ≤ 0 by omega)
    have t2 := Int.mul_nonpos_of_nonneg_of_nonpos w2 (show ef φ (co r) ≤ 0 by omega)
    have z1 : -ef (dn p r) q = 0 := by
      rcases Int.mul_eq_zero.1 (show -ef (dn p r) q * ef φ (co p) = 0 by omega) with h | h
      · exact h
      · omega
    have z2 : -ef (dt p r) q = 0 := by
      rcases Int.mul_eq_zero.1 (show -ef (dt p r) q * ef φ (co r) = 0 by omega) with h | h
      · exact h
      · omega
    omega
  · -- at least three
    rw [e] at fe
    have c0 : 0 < (cycL l).length := by omega
    have C := hull_cyc (sortP_lt hl) (sortP_den hl) h2
    rw [← cyc_def] at C
    have vs := fun i => atP_co hl c0 i
    have ed : ∀ i, 0 ≤ d3 (co (atP (cycL l) i)) (co (atP (cycL l) (i + 1))) q := fun i => by
      have : edgeL (atP (cycL l) i) (atP (cycL l) (i + 1)) ∈ edgesTo (cycL l) (cycL l).length := by
        refine edgesTo_mem.2 ⟨i % (cycL l).length, Nat.mod_lt _ c0, ?_⟩
        rw [atP_mod]
        congr 1
        rw [← atP_mod (cycL l) (i % (cycL l).length + 1), Nat.mod_add_mod, atP_mod]
      have := fe _ this
      rw [ef_edge] at this
      omega
    obtain ⟨m, hm⟩ : ∃ m, (cycL l).length = m + 3 := ⟨(cycL l).length - 3, by omega⟩
    have g1 := ed 0
    have gl := ed (m + 2)
    have an : atP (cycL l) (m + 2 + 1) = atP (cycL l) 0 := by rw [← atP_mod, hm, Nat.mod_self]
    rw [an] at gl
    have sw : d3 (co (atP (cycL l) 0)) (co (atP (cycL l) (m + 2))) q = -d3 (co (atP (cycL l) (m + 2))) (co (atP (cycL l) 0)) q := d3_swap _ _ _
    obtain ⟨j, j1, j2, ga, gb⟩ := cross0 (fun j => d3 (co (atP (cycL l) 0)) (co (atP (cycL l) j)) q) m g1 (by show d3 (co (atP (cycL l) 0)) (co (atP (cycL l) (m + 2))) q ≤ 0; omega)
    have ga : 0 ≤ d3 (co (atP (cycL l) 0)) (co (atP (cycL l) j)) q := ga
    have gb : d3 (co (atP (cycL l) 0)) (co (atP (cycL l) (j + 1))) q ≤ 0 := gb
    have gc := ed j
    have n0 := neg _ (vs 0).2
    have nj := neg _ (vs j).2
    have nk := neg _ (vs (j + 1)).2
    have id := plu φ (co (atP (cycL l) 0)) (co (atP (cycL l) j)) (co (atP (cycL l) (j + 1))) q
    rw [f0, Int.zero_mul, Int.sub_zero] at id
    have t1 := Int.mul_nonpos_of_nonpos_of_nonneg (show ef φ (co (atP (cycL l) 0)) ≤ 0 by omega) gc
    have t2 := Int.mul_nonneg_of_nonpos_of_nonpos (show ef φ (co (atP (cycL l) j)) ≤ 0 by omega) gb
    have t3 := Int.mul_nonpos_of_nonpos_of_nonneg (show ef φ (co (atP (cycL l) (j + 1))) ≤ 0 by omega) ga
    have z1 : d3 (co (atP (cycL l) j)) (co (atP (cycL l) (j + 1))) q = 0 := by
      rcases Int.mul_eq_zero.1 (show ef φ (co (atP (cycL l) 0)) * d3 (co (atP (cycL l) j)) (co (atP (cycL l) (j + 1))) q = 0 by omega) with h | h
      · omega
      · exact h
    have z2 : d3 (co (atP (cycL l) 0)) (co (atP (cycL l) (j + 1))) q = 0 := by
      rcases Int.mul_eq_zero.1 (show ef φ (co (atP (cycL l) j)) * d3 (co (atP (cycL l) 0)) (co (atP (cycL l) (j + 1))) q = 0 by omega) with h | h
      · omega
      · exact h
    have z3 : d3 (co (atP (cycL l) 0)) (co (atP (cycL l) j)) q = 0 := by
      rcases Int.mul_eq_zero.1 (show ef φ (co (atP (cycL l) (j + 1))) * d3 (co (atP (cycL l) 0)) (co (atP (cycL l) j)) q = 0 by omega) with h | h
      · omega
      · exact h
    have dd := d3_den (co (atP (cycL l) 0)) (co (atP (cycL l) j)) (co (atP (cycL l) (j + 1))) q
    rw [z1, z2, z3] at dd
    have dz : d3 (co (atP (cycL l) 0)) (co (atP (cycL l) j)) (co (atP (cycL l) (j + 1))) = 0 := by
      have : q.Den * d3 (co (atP (cycL l) 0)) (co (atP (cycL l) j)) (co (atP (cycL l) (j + 1))) = 0 := by
        rw [Int.mul_zero, Int.mul_zero, Int.mul_zero] at dd; omega
      rcases Int.mul_eq_zero.1 this with h | h
      · omega
      · exact h
    have dr : d3 (co (atP (cycL l) j)) (co (atP (cycL l) (j + 1))) (co (atP (cycL l) 0)) = 0 := by rw [d3_rot]; exact dz
    have jm : (j + 1) % (cycL l).length = j + 1 := Nat.mod_eq_of_lt (by omega)
    have e0 := (vs 0).1
    have ej := (vs j).1
    have ek := (vs (j + 1)).1
    rw [Nat.zero_mod] at e0
    rw [Nat.mod_eq_of_lt (show j < (cycL l).length by omega)] at ej
    rw [jm] at ek
    have s0 : co (atP (cycL l) 0) ∈ sortP l := (sortP_mem hl _).2 ⟨_, (vs 0).2, rfl⟩
    have u1 := C.far j (by omega) (by omega)
    have u2 := C.far (j + 1) (by omega) (by omega)
    have E := C.edge j (by omega)
    rw [jm, ej, ek] at E
    rw [e0, ej] at u1
    rw [e0, ek] at u2
    rcases E with E | E
    · have := (E.2 _ s0).2 dr
      omega
    · have := (E.2 _ s0).2 dr
      rw [ef_neg, ef_neg, ef_neg] at this
      omega
end Go.Pg
/-
  The law HalfHullsHold: walk.
-/
set_option linter.all false
set_option maxRecDepth 100000
namespace Go.Pg
open Go.Proofs Go.RowKit

@[irreducible] def hasTo (l : List Place) (q : Corner) (i : Nat) : Bool := (l.take i).any fun p => ofP p == q
theorem hasTo_zero (l : List Place) (q : Corner) : hasTo l q 0 = false := by unfold hasTo; rfl
theorem hasTo_succ (l : List Place) (q : Corner) {i : Nat} (h : i < l.length) : hasTo l q (i + 1) = (hasTo l q i || ofP (l.getD i default) == q) := by
  unfold hasTo
  rw [take1 h default, List.any_append]; simp
theorem hasTo_all {l : List Place} {q : Corner} {p : Place} (hp : p ∈ l) (e : ofP p = q) : hasTo l q l.length = true := by
  unfold hasTo
  rw [List.take_length, List.any_eq_true]
  exact ⟨p, hp, by rw [e]; simp⟩
theorem hull_allows {l : List Place} (h0 : l ≠ []) (hl : ∀ p ∈ l, on p = true) (hn : l.length ≤ 40) {p : Place} (hp : p ∈ l) : (allowsE (hullH l) (ofP p)).2 = true := by
  have ho := (outside_fe (hullH l) (co p)).2 (hull_fe h0 hl hp)
  unfold allowsE
  rw [if_pos ⟨hull_check h0 hl hn, ofP_valid (hl p hp)⟩, ofP_co (hl p hp), ho]
  rfl
theorem s_HalfHullsHold (l : List Place) : Spec PP 8 [slP l] [B true] := by
  refine spec_at Try.func8 rfl (by kernel_rfl) rfl ?_
  refine Split.by (fun h1 => ?_) (fun h1 => ?_)
  · refine CallSt.pure s_sanity rfl rfl ?_
    exact r1B rfl rfl
  have hn : l.length ≤ 30 := by have := dF h1; omega
  refine CallSt.ro (s_Hull l (by omega)) rfl rfl ?_
  refine Split.by (fun h2 => ?_) (fun h2 => ?_)
  · have h2 : (hullE l).2 ≠ 0 := by simpa using h2
    refine CallSt.pure s_sanity rfl rfl ?_
    repeat first | refine Split.tt ?_ | refine Split.ff ?_
    exact r1B rfl (by rw [hullE_err h2]; rfl)
  have h2 : (hullE l).2 = 0 := by simpa using h2
  obtain ⟨h0, hl⟩ := hullE_on h2
  have eh := hullE_ok h0 hl
  have hc := hull_check h0 hl (by omega)
  obtain ⟨n1, n2, n3⟩ := checkL_ok hc
  have e1 : (hullE l).1 = hullH l := by rw [eh]
  have c0 : cornersL (hullH l) ≠ [] := fun e => by
    obtain ⟨x, hx⟩ := List.exists_mem_of_ne_nil _ h0
    exact (nil_pt hc).1 e (co x) ⟨Int.zero_lt_one, hull_fe h0 hl hx⟩
  have cC := corners_spec hc
  rw [if_neg c0] at cC
  have clen := cornersL_len (l := hullH l) (by omega)
  refine LoopOb.of (σ := Nat) (fun i => ([(0, avOf (slP l)), (3, avOf (slH (hullH l))), (33, avOf (slP l)), (34, .d (I l.length)), (35, .d (I i))], [])) (fun i => i ≤ l.length) (fun i => l.length - i) 0
    ⟨rfl, trivial, avR _ rfl, avE rfl (by rw [e1]; exact D.eqv_refl _), avR _ rfl, avR _ rfl, avR _ rfl, trivial⟩ (Nat.zero_le _) fun i hi => ?_
  refine Split.by (fun g1 => ?_) (fun g1 => ?_)
  · have g1 : i < l.length := by have := dT g1; omega
    have hm := gd1 g1 (default : Place)
    have cA := s_Allows (hullH l) (ofP (l.getD i default))
    rw [hull_allows h0 hl (by omega) hm] at cA
    refine ⟨⟨rfl, by omega, by omega⟩, ?_⟩
    refine CallSt.pure (s_Of (l.getD i default)) rfl rfl ?_
    refine CallSt.pure cA rfl rfl ?_
    repeat first | refine Split.tt ?_ | refine Split.ff ?_
    refine ⟨inI64 (by omega) (by omega), ?_⟩
    exact ⟨i + 1, ⟨rfl, trivial, avR _ rfl, avR _ rfl, avR _ rfl, avR _ rfl, avI rfl rfl, trivial⟩, g1, (show l.length - (i + 1) < l.length - i by omega)⟩
  refine CallSt.ro cC rfl rfl ?_
  repeat first | refine Split.tt ?_ | refine Split.ff ?_
  refine LoopOb.of (σ := Nat) (fun i => ([(0, avOf (slP l)), (56, avOf (slC (cornersL (hullH l)))), (57, .d (I (cornersL (hullH l)).length)), (58, .d (I i))], [])) (fun i => i ≤ (cornersL (hullH l)).length) (fun i => (cornersL (hullH l)).length - i) 0
    ⟨rfl, trivial, avR _ rfl, avR _ rfl, avR _ rfl, avR _ rfl, trivial⟩ (Nat.zero_le _) fun i hi => ?_
  refine Split.by (fun g1 => ?_) (fun g1 => ?_)
  · have g1 : i < (cornersL (hullH l)).length := by have := dT g1; omega
    have hm := gd1 g1 (default : Corner)
    have V := (cor_mem n3 _).1 hm
    obtain ⟨p0, hp0, ep0⟩ := hull_vt h0 hl V
    refine ⟨⟨rfl, by omega, by omega⟩, ?_⟩
    refine LoopOb.of (σ := Nat) (fun k => ([(0, avOf (slP l)), (12, .box 12 0), (13, .d (.bool (hasTo l ((cornersL (hullH l)).getD i default) k))), (56, avOf (slC (cornersL (hullH l)))), (57, .d (I (cornersL (hullH l)).length)), (58, .d (I i)), (62, avOf (slP l)), (63, .d (I l.length)), (64, .d (I k))], [(12, .box [.d (I ((cornersL (hullH l)).getD i default).X), .d (I ((cornersL (hullH l)).getD i default).Y), .d (I ((cornersL (hullH l)).getD i default).Den)])])) (fun k => k ≤ l.length) (fun k => l.length - k) 0
      ⟨rfl, ⟨obX rfl, trivial⟩, avR _ rfl, avQ rfl, avBb rfl (hasTo_zero _ _).symm, avR _ rfl, avR _ rfl, avR _ rfl, avR _ rfl, avR _ rfl, avR _ rfl, trivial⟩ (Nat.zero_le _) fun k hk => ?_
    refine Split.by (fun g2 => ?_) (fun g2 => ?_)
    · have g2 : k < l.length := by have := dT g2; omega
      refine ⟨⟨rfl, by omega, by omega⟩, ?_⟩
      refine Exists.intro (List.range 8) (And.intro (by kernel_rfl) (FzOb.no ?_))
      refine Split.by (fun g3 => ?_) (fun g3 => ?_)
      · have g3 : hasTo l ((cornersL (hullH l)).getD i default) k = true := g3
        repeat first | refine Split.tt ?_ | refine Split.ff ?_
        refine ⟨inI64 (by omega) (by omega), ?_⟩
        exact ⟨k + 1, ⟨rfl, ⟨obX rfl, trivial⟩, avR _ rfl, avQ rfl, avBb rfl (by rw [hasTo_succ l _ g2, g3]; rfl), avR _ rfl, avR _ rfl, avR _ rfl, avR _ rfl, avR _ rfl, avI rfl rfl, trivial⟩, g2, (show l.length - (k + 1) < l.length - k by omega)⟩
      · have g3 : hasTo l ((cornersL (hullH l)).getD i default) k = false := g3
        repeat first | refine Split.tt ?_ | refine Split.ff ?_
        refine CallOb.pure (s_Of (l.getD k default)) rfl rfl ?_
        repeat first | refine Split.tt ?_ | refine Split.ff ?_
        refine ⟨inI64 (by omega) (by omega), ?_⟩
        exact ⟨k + 1, ⟨rfl, ⟨obX rfl, trivial⟩, avR _ rfl, avQ rfl, avBb rfl (by rw [hasTo_succ l _ g2, g3, Bool.false_or]; exact eqC _ _), avR _ rfl, avR _ rfl, avR _ rfl, avR _ rfl, avR _ rfl, avI rfl rfl, trivial⟩, g2, (show l.length - (k + 1) < l.length - k by omega)⟩
    · have g2 : k = l.length := by have := dF g2; omega
      subst g2
      have et := hasTo_all hp0 (show ofP p0 = (cornersL (hullH l)).getD i default by rw [ofP_co (hl p0 hp0)]; exact ep0.symm)
      refine Split.no (by rw [et]; rfl) ?_
      refine ⟨inI64 (by omega) (by omega), ?_⟩
      exact ⟨i + 1, ⟨rfl, trivial, avR _ rfl, avR _ rfl, avR _ rfl, avI rfl rfl, trivial⟩, g1, (show (cornersL (hullH l)).length - (i + 1) < (cornersL (hullH l)).length - i by omega)⟩
  · refine CallSt.pure s_sanity rfl rfl ?_
    exact r1B rfl rfl
end Go.Pg
