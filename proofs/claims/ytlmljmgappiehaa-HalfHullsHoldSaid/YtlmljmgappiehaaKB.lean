/-
  What refuted finds: at most three uses of different half-planes, the sums of whose normals are 0, and whose sum of C is below 0. Plain lists.
-/
import Derived.Test.YtlmljmgappiehaaKA
set_option linter.all false
namespace Go.Pg
open Go.Proofs Go.RowKit

def plusH (a : Half) (t : Int) (h : Half) : Half := ⟨a.A + t * h.A, a.B + t * h.B, a.C + t * h.C⟩
theorem ef_plus (a : Half) (t : Int) (h : Half) (q : Corner) : ef (plusH a t h) q = ef a q + t * ef h q := by unfold plusH ef; grind
/-- The half-plane with a number. -/
def useH (l : List Half) (n : Int) : Half := if n < 0 then sidesL.getD (-1 - n).toNat default else l.getD n.toNat default
def sumU (l : List Half) (U : List Use) : Half := U.foldl (fun a u => plusH a u.T (useH l u.H)) ⟨0, 0, 0⟩
theorem allL_use {l : List Half} {x : Num} (hx : x ∈ allL l) : x.h = useH l x.n ∧ -4 ≤ x.n ∧ x.n < l.length := by
  unfold allL at hx
  obtain ⟨i, hi, rfl⟩ := List.mem_map.1 hx
  have hi := List.mem_range.1 hi
  unfold allAt
  by_cases h : i < l.length
  · rw [if_pos h]
    refine ⟨?_, (by show -4 ≤ (i : Int); omega), (by show (i : Int) < _; omega)⟩
    show l.getD i default = useH l (i : Int)
    unfold useH
    rw [if_neg (by omega), Int.toNat_natCast]
  · rw [if_neg h]
    refine ⟨?_, (by show -4 ≤ -1 - ((i : Int) - l.length); omega), (by show -1 - ((i : Int) - l.length) < _; omega)⟩
    show sidesL.getD (i - l.length) default = useH l (-1 - ((i : Int) - l.length))
    unfold useH
    rw [if_pos (by omega)]
    congr 1; omega
/-- Uses that prove that a system is empty. -/
structure Prf (l : List Half) (U : List Use) : Prop where
  len : U.length ≤ 3
  ne : U ≠ []
  mem : ∀ u ∈ U, (-4 ≤ u.H ∧ u.H < l.length) ∧ 0 < u.T ∧ u.T ≤ 2000000
  dis : (U.map fun u => u.H).Nodup
  A : (sumU l U).A = 0
  B : (sumU l U).B = 0
  C : (sumU l U).C < 0
theorem det_bd2 {g h : Half} (hg : okH g) (hh : okH h) : -2000000 ≤ det g h ∧ det g h ≤ 2000000 := by
  have b1 := mulB hg.a hh.b
  have b2 := mulB hh.a hg.b
  rw [det_def]; omega
theorem nrm_bd {g : Half} (hg : okH g) : nrm g ≤ 1000 := by
  have := hg.a; have := hg.b
  unfold nrm; omega
theorem cert2_zero {g h : Half} (c : Cert2 g h) : (nrm h * g.A + nrm g * h.A = 0 ∧ nrm h * g.B + nrm g * h.B = 0) ∧ 0 < nrm g ∧ 0 < nrm h := by
  obtain ⟨c1, c2, c3⟩ := c
  rw [det_def] at c1
  have hgz : g.A ≠ 0 ∨ g.B ≠ 0 := by
    refine Classical.not_not.1 fun hn => ?_
    have e1 : g.A = 0 := by omega
    have e2 : g.B = 0 := by omega
    rw [e1, e2] at c2
    simp at c2
  have hhz : h.A ≠ 0 ∨ h.B ≠ 0 := by
    refine Classical.not_not.1 fun hn => ?_
    have e1 : h.A = 0 := by omega
    have e2 : h.B = 0 := by omega
    rw [e1, e2] at c2
    simp at c2
  have hp := sq_pos hgz
  have kA : (g.A * g.A + g.B * g.B) * h.A = -(-(g.A * h.A + g.B * h.B) * g.A) := by grind
  have kB : (g.A * g.A + g.B * g.B) * h.B = -(-(g.A * h.A + g.B * h.B) * g.B) := by grind
  have hn := nrm_scale (h := g) (j := h) (b := -(g.A * h.A + g.B * h.B)) (d := g.A * g.A + g.B * g.B) (by omega) hp kA kB
  have zA : (g.A * g.A + g.B * g.B) * (nrm h * g.A + nrm g * h.A) = 0 := by grind
  have zB : (g.A * g.A + g.B * g.B) * (nrm h * g.B + nrm g * h.B) = 0 := by grind
  refine ⟨⟨?_, ?_⟩, (by unfold nrm; omega), (by unfold nrm; omega)⟩
  · rcases Int.mul_eq_zero.1 zA with e | e
    · omega
    · exact e
  · rcases Int.mul_eq_zero.1 zB with e | e
    · omega
    · exact e
theorem num_inj {l : List Half} {x y : Num} (hx : x ∈ allL l) (hy : y ∈ allL l) (h : x.h ≠ y.h) : x.n ≠ y.n := fun e => h (by rw [(allL_use hx).1, (allL_use hy).1, e])
theorem ref_prf {l : List Half} (hl : ∀ x ∈ l, okH x) (h : refL l ≠ []) : Prf l (refL l) := by
  have hok := allL_ok hl
  obtain ⟨x, y, hx, hy, hc⟩ := ref_found h
  have ux := allL_use hx
  have uy := allL_use hy
  rcases hc with hc | ⟨z, hz, hc⟩
  · have c : Cert2 x.h y.h := (two_iff x y).1 (by rw [hc]; exact fun e => by cases e)
    obtain ⟨⟨zA, zB⟩, p1, p2⟩ := cert2_zero c
    have b1 := nrm_bd (hok x hx)
    have b2 := nrm_bd (hok y hy)
    have hne := num_inj hx hy (cert2_ne c)
    have e : refL l = [⟨x.n, nrm y.h⟩, ⟨y.n, nrm x.h⟩] := by
      unfold two at hc
      split at hc
      · rename_i h1
        have ho := h1.1
        unfold scS scT at hc
        rw [if_pos ho, if_pos ho, most_nrm, most_nrm] at hc
        exact (Option.some.inj hc).symm
      · cases hc
    rw [e]
    have es : sumU l [⟨x.n, nrm y.h⟩, ⟨y.n, nrm x.h⟩] = ⟨nrm y.h * x.h.A + nrm x.h * y.h.A, nrm y.h * x.h.B + nrm x.h * y.h.B, nrm y.h * x.h.C + nrm x.h * y.h.C⟩ := by
      simp only [sumU, List.foldl, plusH, ← ux.1, ← uy.1, Int.zero_add]
    refine ⟨by simp, by simp, fun u hu => ?_, by simpa using hne, by rw [es]; exact zA, by rw [es]; exact zB, by rw [es]; exact c.2.2⟩
    simp only [List.mem_cons, List.not_mem_nil, or_false] at hu
    rcases hu with rfl | rfl
    · exact ⟨ux.2, p2, (by show nrm y.h ≤ 2000000; omega)⟩
    · exact ⟨uy.2, p1, (by show nrm x.h ≤ 2000000; omega)⟩
  · have uz := allL_use hz
    have c : Tri x.h y.h z.h := (three_iff x y z).1 (by rw [hc]; exact fun e => by cases e)
    have d1 := det_bd2 (hok y hy) (hok z hz)
    have d2 := det_bd2 (hok z hz) (hok x hx)
    have d3 := det_bd2 (hok x hx) (hok y hy)
    have hpos : (0 < triA x.h y.h z.h ∧ 0 < triB x.h y.h z.h ∧ 0 < triC x.h y.h z.h) ∧ triA x.h y.h z.h * x.h.C + triB x.h y.h z.h * y.h.C + triC x.h y.h z.h * z.h.C < 0 := by
      unfold three at hc
      split at hc
      · rename_i h1; exact h1
      · cases hc
    have e : refL l = [⟨x.n, triA x.h y.h z.h⟩, ⟨y.n, triB x.h y.h z.h⟩, ⟨z.n, triC x.h y.h z.h⟩] := by
      unfold three at hc
      rw [if_pos hpos] at hc
      exact (Option.some.inj hc).symm
    have hdet : det x.h y.h ≠ 0 ∧ det y.h z.h ≠ 0 ∧ det z.h x.h ≠ 0 := by
      rcases c with ⟨c1, c2, c3, _⟩ | ⟨c1, c2, c3, _⟩
      · omega
      · rw [det_swap] at c1 c2 c3; omega
    have n1 : x.n ≠ y.n := num_inj hx hy fun e => hdet.1 (by rw [e, det_self])
    have n2 : y.n ≠ z.n := num_inj hy hz fun e => hdet.2.1 (by rw [e, det_self])
    have n3 : z.n ≠ x.n := num_inj hz hx fun e => hdet.2.2 (by rw [e, det_self])
    have bd : (triA x.h y.h z.h ≤ 2000000 ∧ triB x.h y.h z.h ≤ 2000000 ∧ triC x.h y.h z.h ≤ 2000000) ∧
        triA x.h y.h z.h * x.h.A + triB x.h y.h z.h * y.h.A + triC x.h y.h z.h * z.h.A = 0 ∧ triA x.h y.h z.h * x.h.B + triB x.h y.h z.h * y.h.B + triC x.h y.h z.h * z.h.B = 0 := by
      unfold triA triB triC flip
      split
      · refine ⟨⟨by omega, by omega, by omega⟩, ?_, ?_⟩ <;> · simp only [det_def]; grind
      · refine ⟨⟨by omega, by omega, by omega⟩, ?_, ?_⟩ <;> · simp only [det_def]; grind
    rw [e]
    have es : sumU l [⟨x.n, triA x.h y.h z.h⟩, ⟨y.n, triB x.h y.h z.h⟩, ⟨z.n, triC x.h y.h z.h⟩] = ⟨triA x.h y.h z.h * x.h.A + triB x.h y.h z.h * y.h.A + triC x.h y.h z.h * z.h.A, triA x.h y.h z.h * x.h.B + triB x.h y.h z.h * y.h.B + triC x.h y.h z.h * z.h.B, triA x.h y.h z.h * x.h.C + triB x.h y.h z.h * y.h.C + triC x.h y.h z.h * z.h.C⟩ := by
      simp only [sumU, List.foldl, plusH, ← ux.1, ← uy.1, ← uz.1, Int.zero_add]
    refine ⟨by simp, by simp, fun u hu => ?_, ?_, by rw [es]; exact bd.2.1, by rw [es]; exact bd.2.2, by rw [es]; exact hpos.2⟩
    · simp only [List.mem_cons, List.not_mem_nil, or_false] at hu
      rcases hu with rfl | rfl | rfl
      · exact ⟨ux.2, hpos.1.1, bd.1.1⟩
      · exact ⟨uy.2, hpos.1.2.1, bd.1.2.1⟩
      · exact ⟨uz.2, hpos.1.2.2, bd.1.2.2⟩
    · simp only [List.map_cons, List.map_nil, List.nodup_cons, List.mem_cons, List.not_mem_nil, or_false, not_or, not_false_eq_true, List.nodup_nil, and_true]
      exact ⟨⟨n1, fun e => n3 e.symm⟩, n2⟩
end Go.Pg
/-
  The law HalfSeparates: walk.
-/
set_option linter.all false
set_option maxRecDepth 100000
namespace Go.Pg
open Go.Proofs Go.RowKit

/-! ### The sums of both systems' parts -/
def sepStep (l m : List Half) (p : Half × Half) (u : Use) : Half × Half :=
  if (l.length : Int) ≤ u.H then (p.1, plusH p.2 u.T (m.getD (u.H - l.length).toNat default))
  else if 0 ≤ u.H then (plusH p.1 u.T (l.getD u.H.toNat default), p.2) else p
@[irreducible] def sepTo (l m : List Half) (U : List Use) (i : Nat) : Half × Half := (U.take i).foldl (sepStep l m) (⟨0, 0, 0⟩, ⟨0, 0, 0⟩)
theorem sepTo_zero (l m : List Half) (U : List Use) : sepTo l m U 0 = (⟨0, 0, 0⟩, ⟨0, 0, 0⟩) := by unfold sepTo; rfl
theorem sepTo_succ (l m : List Half) (U : List Use) {i : Nat} (h : i < U.length) : sepTo l m U (i + 1) = sepStep l m (sepTo l m U i) (U.getD i default) := by
  unfold sepTo
  rw [take1 h default, List.foldl_append]; rfl
@[irreducible] def sumTo (l : List Half) (U : List Use) (i : Nat) : Half := sumU l (U.take i)
theorem sumTo_zero (l : List Half) (U : List Use) : sumTo l U 0 = ⟨0, 0, 0⟩ := by unfold sumTo; rfl
theorem sumTo_succ (l : List Half) (U : List Use) {i : Nat} (h : i < U.length) : sumTo l U (i + 1) = plusH (sumTo l U i) (U.getD i default).T (useH l (U.getD i default).H) := by
  unfold sumTo sumU
  rw [take1 h default, List.foldl_append]; rfl
theorem sumTo_all (l : List Half) (U : List Use) : sumTo l U U.length = sumU l U := by unfold sumTo; rw [List.take_length]
/-- Numbers of a sum of i uses. -/
structure SmallH (i : Nat) (h : Half) : Prop where
  a : -(2000000000 * i : Int) ≤ h.A ∧ h.A ≤ 2000000000 * i
  b : -(2000000000 * i : Int) ≤ h.B ∧ h.B ≤ 2000000000 * i
  c : -(524288000000 * i : Int) ≤ h.C ∧ h.C ≤ 524288000000 * i
theorem small_zero : SmallH 0 ⟨0, 0, 0⟩ := ⟨by decide, by decide, by decide⟩
theorem SmallH.up {i : Nat} {h : Half} (s : SmallH i h) : SmallH (i + 1) h := ⟨by have := s.a; omega, by have := s.b; omega, by have := s.c; omega⟩
theorem prod_bd {t : Int} {h : Half} (ht : 0 < t ∧ t ≤ 2000000) (hh : okH h) : (-2000000000 ≤ t * h.A ∧ t * h.A ≤ 2000000000) ∧ (-2000000000 ≤ t * h.B ∧ t * h.B ≤ 2000000000) ∧ (-524288000000 ≤ t * h.C ∧ t * h.C ≤ 524288000000) := by
  have q : -2000000 ≤ t ∧ t ≤ 2000000 := by omega
  exact ⟨mulB q hh.a, mulB q hh.b, mulB q hh.c⟩
theorem SmallH.plus {i : Nat} {a h : Half} {t : Int} (s : SmallH i a) (ht : 0 < t ∧ t ≤ 2000000) (hh : okH h) : SmallH (i + 1) (plusH a t h) := by
  obtain ⟨b1, b2, b3⟩ := prod_bd ht hh
  have := s.a; have := s.b; have := s.c
  exact ⟨(by show _ ≤ a.A + t * h.A ∧ a.A + t * h.A ≤ _; omega), (by show _ ≤ a.B + t * h.B ∧ a.B + t * h.B ≤ _; omega), (by show _ ≤ a.C + t * h.C ∧ a.C + t * h.C ≤ _; omega)⟩
/-- No operation of a step leaves the range. -/
theorem plus_in {i : Nat} {a h : Half} {t : Int} (hi : i ≤ 3) (s : SmallH i a) (ht : 0 < t ∧ t ≤ 2000000) (hh : okH h) :
    inR .i64 (t * h.A) ∧ inR .i64 (a.A + t * h.A) ∧ inR .i64 (t * h.B) ∧ inR .i64 (a.B + t * h.B) ∧ inR .i64 (t * h.C) ∧ inR .i64 (a.C + t * h.C) := by
  obtain ⟨b1, b2, b3⟩ := prod_bd ht hh
  have := s.a; have := s.b; have := s.c
  exact ⟨inI64 (by omega) (by omega), inI64 (by omega) (by omega), inI64 (by omega) (by omega), inI64 (by omega) (by omega), inI64 (by omega) (by omega), inI64 (by omega) (by omega)⟩
/-- What is left over for the map's sides. -/
structure SepInv (l m : List Half) (i : Nat) (p : Half × Half) (s : Half) : Prop where
  one : SmallH i p.1
  two : SmallH i p.2
  h1 : ∀ q, 0 < q.Den → Fe (hsL l) q → ef p.1 q ≤ 0
  h2 : ∀ q, 0 < q.Den → Fe (hsL m) q → ef p.2 q ≤ 0
  rest : max 0 (s.A - p.1.A - p.2.A) * 48 + max 0 (s.B - p.1.B - p.2.B) * 48 ≤ s.C - p.1.C - p.2.C
theorem sides_get {n : Int} (h1 : -4 ≤ n) (h2 : n < 0) : (n = -1 ∧ sidesL.getD (-1 - n).toNat default = ⟨-1, 0, 0⟩) ∨ (n = -2 ∧ sidesL.getD (-1 - n).toNat default = ⟨1, 0, 48⟩) ∨ (n = -3 ∧ sidesL.getD (-1 - n).toNat default = ⟨0, -1, 0⟩) ∨ (n = -4 ∧ sidesL.getD (-1 - n).toNat default = ⟨0, 1, 48⟩) := by
  obtain rfl | rfl | rfl | rfl : n = -1 ∨ n = -2 ∨ n = -3 ∨ n = -4 := by omega
  · exact .inl ⟨rfl, rfl⟩
  · exact .inr (.inl ⟨rfl, rfl⟩)
  · exact .inr (.inr (.inl ⟨rfl, rfl⟩))
  · exact .inr (.inr (.inr ⟨rfl, rfl⟩))
theorem use_left (l m : List Half) {n : Int} (h1 : 0 ≤ n) (h2 : n < l.length) : useH (l ++ m) n = l.getD n.toNat default := by
  unfold useH
  rw [if_neg (by omega), List.getD_eq_getElem?_getD, List.getElem?_append_left (by omega), ← List.getD_eq_getElem?_getD]
theorem use_right (l m : List Half) {n : Int} (h1 : l.length ≤ n) : useH (l ++ m) n = m.getD (n - l.length).toNat default := by
  unfold useH
  rw [if_neg (by omega), List.getD_eq_getElem?_getD, List.getElem?_append_right (by omega), ← List.getD_eq_getElem?_getD]
  congr 1; omega
theorem SepInv.step {l m : List Half} (hl : ∀ x ∈ l, okH x) (hm : ∀ x ∈ m, okH x) {i : Nat} {p : Half × Half} {s : Half} (I : SepInv l m i p s) {u : Use} (hu : (-4 ≤ u.H ∧ u.H < (l ++ m).length) ∧ 0 < u.T ∧ u.T ≤ 2000000) :
    SepInv l m (i + 1) (sepStep l m p u) (plusH s u.T (useH (l ++ m) u.H)) := by
  obtain ⟨⟨u1, u2⟩, u3⟩ := hu
  rw [List.length_append] at u2
  have r := I.rest
  unfold sepStep
  by_cases c1 : (l.length : Int) ≤ u.H
  · rw [if_pos c1, use_right l m c1]
    have hmem := gd1 (show (u.H - l.length).toNat < m.length by omega) (default : Half)
    generalize m.getD (u.H - l.length).toNat default = h at *
    refine ⟨I.one.up, I.two.plus u3 (hm h hmem), I.h1, fun q hD hq => ?_, ?_⟩
    · have a1 := I.h2 q hD hq
      have a2 := Int.mul_nonpos_of_nonneg_of_nonpos (Int.le_of_lt u3.1) (hq h (List.mem_append_left _ hmem))
      rw [ef_plus]; omega
    · show max 0 (s.A + u.T * h.A - p.1.A - (p.2.A + u.T * h.A)) * 48 + max 0 (s.B + u.T * h.B - p.1.B - (p.2.B + u.T * h.B)) * 48 ≤ s.C + u.T * h.C - p.1.C - (p.2.C + u.T * h.C)
      omega
  · rw [if_neg c1]
    by_cases c2 : 0 ≤ u.H
    · rw [if_pos c2, use_left l m c2 (by omega)]
      have hmem := gd1 (show u.H.toNat < l.length by omega) (default : Half)
      generalize l.getD u.H.toNat default = h at *
      refine ⟨I.one.plus u3 (hl h hmem), I.two.up, fun q hD hq => ?_, I.h2, ?_⟩
      · have a1 := I.h1 q hD hq
        have a2 := Int.mul_nonpos_of_nonneg_of_nonpos (Int.le_of_lt u3.1) (hq h (List.mem_append_left _ hmem))
        rw [ef_plus]; omega
      · show max 0 (s.A + u.T * h.A - (p.1.A + u.T * h.A) - p.2.A) * 48 + max 0 (s.B + u.T * h.B - (p.1.B + u.T * h.B) - p.2.B) * 48 ≤ s.C + u.T * h.C - (p.1.C + u.T * h.C) - p.2.C
        omega
    · rw [if_neg c2]
      have e : useH (l ++ m) u.H = sidesL.getD (-1 - u.H).toNat default := by unfold useH; rw [if_pos (by omega)]
      rw [e]
      refine ⟨I.one.up, I.two.up, I.h1, I.h2, ?_⟩
      rcases sides_get u1 (by omega) with ⟨_, h⟩ | ⟨_, h⟩ | ⟨_, h⟩ | ⟨_, h⟩ <;> rw [h] <;> simp only [plusH] <;> omega
theorem sep_inv {l m : List Half} (hl : ∀ x ∈ l, okH x) (hm : ∀ x ∈ m, okH x) {U : List Use} (hU : ∀ u ∈ U, (-4 ≤ u.H ∧ u.H < (l ++ m).length) ∧ 0 < u.T ∧ u.T ≤ 2000000) : ∀ i, i ≤ U.length → SepInv l m i (sepTo l m U i) (sumTo (l ++ m) U i)
  | 0, _ => by
    rw [sepTo_zero, sumTo_zero]
    refine ⟨small_zero, small_zero, fun q _ _ => ?_, fun q _ _ => ?_, by decide⟩ <;> · simp [ef]
  | i + 1, h => by
    rw [sepTo_succ l m U (by omega), sumTo_succ _ U (by omega)]
    exact (sep_inv hl hm hU i (by omega)).step hl hm (hU _ (gd1 (by omega) default))
/-- A corner of a sum's system: no product leaves the range. -/
theorem sum_in {h : Half} (s : SmallH 3 h) {p : Corner} (hp : (0 ≤ p.X ∧ p.X ≤ 48 * p.Den) ∧ (0 ≤ p.Y ∧ p.Y ≤ 48 * p.Den)) (hd : 1 ≤ p.Den ∧ p.Den ≤ 2097152) :
    inR .i64 (h.A * p.X) ∧ inR .i64 (h.B * p.Y) ∧ inR .i64 (h.A * p.X + h.B * p.Y) ∧ inR .i64 (h.C * p.Den) := by
  have x : -100663296 ≤ p.X ∧ p.X ≤ 100663296 := by omega
  have y : -100663296 ≤ p.Y ∧ p.Y ≤ 100663296 := by omega
  have d : -2097152 ≤ p.Den ∧ p.Den ≤ 2097152 := by omega
  have a : -6000000000 ≤ h.A ∧ h.A ≤ 6000000000 := by have := s.a; omega
  have b : -6000000000 ≤ h.B ∧ h.B ≤ 6000000000 := by have := s.b; omega
  have c : -1572864000000 ≤ h.C ∧ h.C ≤ 1572864000000 := by have := s.c; omega
  have m1 := mulB a x
  have m2 := mulB b y
  have m3 := mulB c d
  exact ⟨inI64 (by omega) (by omega), inI64 (by omega) (by omega), inI64 (by omega) (by omega), inI64 (by omega) (by omega)⟩
theorem SmallH.to3 {i : Nat} {h : Half} (s : SmallH i h) (hi : i ≤ 3) : SmallH 3 h := ⟨by have := s.a; omega, by have := s.b; omega, by have := s.c; omega⟩
theorem app2H (f0 : Nat → Nat → D) (l m : List Half) : D.eqv (.slc 3 (0 + l.length + m.length) (appRow (0 + l.length) (appRow 0 f0 (rowH l)) (rowH m))) (.slc 3 (l ++ m).length (rowH (l ++ m))) := by
  refine app_row (a := l) (b := m) (at_ := Half.at) (by omega) rfl (fun i hi j hj => ?_) (fun i hi j hj => D.eqv_refl _)
  unfold appRow
  rw [if_neg (Nat.not_lt_zero _)]
  exact D.eqv_refl _
theorem corner_bd {l : List Half} (h1 : checkL l = 0) {q : Corner} (hq : q ∈ cornersL l) : ((0 ≤ q.X ∧ q.X ≤ 48 * q.Den) ∧ (0 ≤ q.Y ∧ q.Y ≤ 48 * q.Den)) ∧ (1 ≤ q.Den ∧ q.Den ≤ 2097152) ∧ Fe (hsL l) q := by
  obtain ⟨_, _, n3⟩ := checkL_ok h1
  have V := (cor_mem n3 q).1 hq
  exact ⟨side_bd (sub_hsL l) V.fe, (okC_of V.va).d, V.fe⟩
end Go.Pg
/-
  The law HalfSeparates: walk.
-/
set_option linter.all false
set_option maxRecDepth 100000
namespace Go.Pg
open Go.Proofs Go.RowKit

abbrev bxH (h : Half) : Ob := .box [.d (I h.A), .d (I h.B), .d (I h.C)]
theorem obH {s : St} {ob : Nat → Option Ob} {a b c : Int} {h : Half} {o : Option Ob} (g : o = some (.box [.d (I a), .d (I b), .d (I c)])) (e : (⟨a, b, c⟩ : Half) = h) : Oble s ob o (bxH h) := by
  subst e; exact obD [I a, I b, I c] g
theorem corners_spec {l : List Half} (h1 : checkL l = 0) : Spec PP 23 [slH l] [slC (cornersL l), N (if cornersL l = [] then 9 else 0)] := by
  have c := s_Corners l
  by_cases h : cornersL l = []
  · rw [show cornersE l = ([], 9) by unfold cornersE; rw [if_pos h1, if_pos h]] at c
    rw [if_pos h, h]; exact c
  · rw [show cornersE l = (cornersL l, 0) by unfold cornersE; rw [if_pos h1, if_neg h]] at c
    rw [if_neg h]; exact c
set_option maxHeartbeats 2000000 in
theorem s_HalfSeparates (l m : List Half) : Spec PP 6 [slH l, slH m] [B true] := by
  refine spec_at Try.func6 rfl (by kernel_rfl) rfl ?_
  refine Split.by (fun h1 => ?_) (fun h1 => ?_)
  · refine Split.tt ?_
    refine Split.tt ?_
    refine Split.tt ?_
    refine Split.tt ?_
    refine Split.tt ?_
    refine Split.tt ?_
    refine CallSt.pure s_sanity rfl rfl ?_
    exact r1B rfl rfl
  have nl : l.length ≤ 8 := by have := dF h1; omega
  refine Split.ff ?_
  refine Split.by (fun h2 => ?_) (fun h2 => ?_)
  · refine Split.tt ?_
    refine Split.tt ?_
    refine Split.tt ?_
    refine Split.tt ?_
    refine CallSt.pure s_sanity rfl rfl ?_
    exact r1B rfl rfl
  have nm : m.length ≤ 8 := by have := dF h2; omega
  refine CallSt.pure (s_Check l) rfl rfl ?_
  refine Split.ff ?_
  refine Split.by (fun h1 => ?_) (fun h1 => ?_)
  · refine Split.tt ?_
    refine Split.tt ?_
    refine CallSt.pure s_sanity rfl rfl ?_
    exact r1B rfl rfl
  have kl : checkL l = 0 := by simpa using h1
  refine CallSt.pure (s_Check m) rfl rfl ?_
  refine Split.ff ?_
  refine Split.by (fun h2 => ?_) (fun h2 => ?_)
  · refine CallSt.pure s_sanity rfl rfl ?_
    exact r1B rfl rfl
  have km : checkL m = 0 := by simpa using h2
  obtain ⟨l1, l2, l3⟩ := checkL_ok kl
  obtain ⟨m1, m2, m3⟩ := checkL_ok km
  have kk : checkL (l ++ m) = 0 := by
    unfold checkL
    rw [if_neg (by simp; omega), if_pos]
    rw [List.all_append, List.all_eq_true.2 l2, List.all_eq_true.2 m2]; rfl
  obtain ⟨k1, k2, k3⟩ := checkL_ok kk
  have cl := cornersL_len (l := l) (by omega)
  have cm := cornersL_len (l := m) (by omega)
  refine CallSt.ro (corners_spec kl) rfl rfl ?_
  refine CallSt.ro (corners_spec km) rfl rfl ?_
  refine ⟨⟨.inr rfl, by unfold maxLen; show 0 + l.length ≤ _; omega, by show (0 + l.length) * 24 ≤ 140737488355328; omega⟩, ?_⟩
  refine ⟨⟨.inr rfl, by unfold maxLen; show 0 + l.length + m.length ≤ _; omega, by show (0 + l.length + m.length) * 24 ≤ 140737488355328; omega⟩, ?_⟩
  refine CallSt.fzE [54] (empty_eq kk) rfl ⟨app2H _ l m, trivial⟩ rfl ?_
  by_cases e1 : cornersL l = []
  · rw [if_pos e1]
    refine Split.tt ?_
    refine Split.tt ?_
    refine Split.tt ?_
    refine Split.tt ?_
    refine Split.tt ?_
    refine CallSt.pure s_sanity rfl rfl ?_
    refine Split.tt ?_
    refine Split.tt ?_
    exact r1B rfl rfl
  rw [if_neg e1]
  refine Split.ff ?_
  by_cases e2 : cornersL m = []
  · rw [if_pos e2]
    refine Split.ff ?_
    refine Split.tt ?_
    refine Split.tt ?_
    refine Split.tt ?_
    refine CallSt.pure s_sanity rfl rfl ?_
    refine Split.tt ?_
    refine Split.tt ?_
    exact r1B rfl rfl
  rw [if_neg e2]
  refine Split.ff ?_
  refine Split.ff ?_
  refine Split.ff ?_
  by_cases e3 : cornersL (l ++ m) = []
  case neg =>
    rw [decide_eq_false e3]
    refine Split.tt ?_
    refine CallSt.pure s_sanity rfl rfl ?_
    refine Split.tt ?_
    refine Split.tt ?_
    exact r1B rfl rfl
  rw [decide_eq_true e3]
  refine Split.ff ?_
  have P := ref_prf k3 ((ref_nil kk).2 e3)
  have J := sep_inv l3 m3 P.mem
  have pl := P.len
  have pn := P.mem
  generalize refL (l ++ m) = U at *
  refine LoopOb.of (σ := Nat) (fun i => ([(0, avOf (slH l)), (1, avOf (slH m)), (5, avOf (slC (cornersL l))), (7, avOf (slC (cornersL m))), (11, .d (I 0)), (12, .box 12 0), (13, .box 13 0), (78, avOf (slU U)), (79, .d (I U.length)), (80, .d (I i))], [(12, bxH (sepTo l m U i).1), (13, bxH (sepTo l m U i).2)])) (fun i => i ≤ U.length) (fun i => U.length - i) 0
    ⟨rfl, ⟨obH rfl (by rw [sepTo_zero]), obH rfl (by rw [sepTo_zero]), trivial⟩, avR _ rfl, avR _ rfl, avR _ rfl, avR _ rfl, avR _ rfl, avQ rfl, avQ rfl, avR _ rfl, avR _ rfl, avR _ rfl, trivial⟩ (Nat.zero_le _) fun i hi => ?_
  have V := J i hi
  refine Split.by (fun g1 => ?_) (fun g1 => ?_)
  · have g1 : i < U.length := by have := dT g1; omega
    have es := sepTo_succ l m U g1
    obtain ⟨⟨u1, u2⟩, u3⟩ := pn _ (gd1 g1 default)
    rw [List.length_append] at u2
    generalize hp : sepTo l m U i = p at *
    have next : ∀ q, sepStep l m p (U.getD i default) = q → sepTo l m U (i + 1) = q := fun q hq => by rw [es, hq]
    refine ⟨⟨rfl, by omega, by omega⟩, ?_⟩
    refine Split.by (fun g2 => ?_) (fun g2 => ?_)
    · have g2 : (l.length : Int) ≤ (U.getD i default).H := dT g2
      refine ⟨inI64 (by omega) (by omega), ?_⟩
      refine Split.tt ?_
      refine Split.yes (decide_eq_true (show (U.getD i default).H < (l.length : Int) + m.length by omega)) ?_
      have hmem := gd1 (show ((U.getD i default).H - l.length).toNat < m.length by omega) (default : Half)
      obtain ⟨r1, r2, r3, r4, r5, r6⟩ := plus_in (by omega) V.two u3 (m3 _ hmem)
      have e : sepStep l m p (U.getD i default) = (p.1, plusH p.2 (U.getD i default).T (m.getD ((U.getD i default).H - l.length).toNat default)) := by unfold sepStep; rw [if_pos g2]
      refine ⟨(show inR .i64 ((U.getD i default).H - (l.length : Int)) from inI64 (by omega) (by omega)), ?_⟩
      refine ⟨⟨rfl, (show (0 : Int) ≤ (U.getD i default).H - l.length by omega), (show (U.getD i default).H - (l.length : Int) < m.length by omega)⟩, ?_⟩
      refine ⟨r1, ⟨r2, ⟨r3, ⟨r4, ⟨r5, ⟨r6, ?_⟩⟩⟩⟩⟩⟩
      refine ⟨inI64 (by omega) (by omega), ?_⟩
      refine ⟨i + 1, ⟨rfl, ⟨obH rfl (by rw [next _ e]), obH rfl (by rw [next _ e]; rfl), trivial⟩, avR _ rfl, avR _ rfl, avR _ rfl, avR _ rfl, avR _ rfl, avQ rfl, avQ rfl, avR _ rfl, avR _ rfl, avI rfl rfl, trivial⟩, g1, (show U.length - (i + 1) < U.length - i by omega)⟩
    · have g2 : ¬ (l.length : Int) ≤ (U.getD i default).H := dF g2
      refine Split.ff ?_
      refine Split.ff ?_
      refine Split.by (fun g3 => ?_) (fun g3 => ?_)
      · have g3 : 0 ≤ (U.getD i default).H := dT g3
        refine Split.tt ?_
        refine Split.yes (decide_eq_true (show (U.getD i default).H < (l.length : Int) by omega)) ?_
        have hmem := gd1 (show (U.getD i default).H.toNat < l.length by omega) (default : Half)
        obtain ⟨r1, r2, r3, r4, r5, r6⟩ := plus_in (by omega) V.one u3 (l3 _ hmem)
        have e : sepStep l m p (U.getD i default) = (plusH p.1 (U.getD i default).T (l.getD (U.getD i default).H.toNat default), p.2) := by unfold sepStep; rw [if_neg g2, if_pos g3]
        refine ⟨⟨rfl, (show (0 : Int) ≤ (U.getD i default).H by omega), (show (U.getD i default).H < (l.length : Int) by omega)⟩, ?_⟩
        refine ⟨r1, ⟨r2, ⟨r3, ⟨r4, ⟨r5, ⟨r6, ?_⟩⟩⟩⟩⟩⟩
        refine ⟨inI64 (by omega) (by omega), ?_⟩
        refine ⟨i + 1, ⟨rfl, ⟨obH rfl (by rw [next _ e]; rfl), obH rfl (by rw [next _ e]), trivial⟩, avR _ rfl, avR _ rfl, avR _ rfl, avR _ rfl, avR _ rfl, avQ rfl, avQ rfl, avR _ rfl, avR _ rfl, avI rfl rfl, trivial⟩, g1, (show U.length - (i + 1) < U.length - i by omega)⟩
      · have g3 : ¬ 0 ≤ (U.getD i default).H := dF g3
        refine Split.ff ?_
        refine Split.ff ?_
        have e : sepStep l m p (U.getD i default) = p := by unfold sepStep; rw [if_neg g2, if_neg g3]
        refine ⟨inI64 (by omega) (by omega), ?_⟩
        refine ⟨i + 1, ⟨rfl, ⟨obH rfl (by rw [next _ e]), obH rfl (by rw [next _ e]), trivial⟩, avR _ rfl, avR _ rfl, avR _ rfl, avR _ rfl, avR _ rfl, avQ rfl, avQ rfl, avR _ rfl, avR _ rfl, avI rfl rfl, trivial⟩, g1, (show U.length - (i + 1) < U.length - i by omega)⟩
  have g1 : i = U.length := by have := dF g1; omega
  subst g1
  have s1 := V.one.to3 pl
  have s2 := V.two.to3 pl
  have rest := V.rest
  rw [sumTo_all] at rest
  have zA := P.A
  have zB := P.B
  have zC := P.C
  have hh1 := V.h1
  have hh2 := V.h2
  generalize (sepTo l m U U.length).1 = one at *
  generalize (sepTo l m U U.length).2 = two at *
  refine LoopOb.of (σ := Nat) (fun i => ([(7, avOf (slC (cornersL m))), (11, .d (I 0)), (12, .box 12 0), (13, .box 13 0), (175, avOf (slC (cornersL l))), (176, .d (I (cornersL l).length)), (177, .d (I i))], [(12, bxH one), (13, bxH two)])) (fun i => i ≤ (cornersL l).length) (fun i => (cornersL l).length - i) 0
    ⟨rfl, ⟨obH rfl rfl, obH rfl rfl, trivial⟩, avR _ rfl, avR _ rfl, avQ rfl, avQ rfl, avR _ rfl, avR _ rfl, avR _ rfl, trivial⟩ (Nat.zero_le _) fun i hi => ?_
  refine Split.by (fun g1 => ?_) (fun g1 => ?_)
  · have g1 : i < (cornersL l).length := by have := dT g1; omega
    obtain ⟨b1, b2, b3⟩ := corner_bd kl (gd1 g1 default)
    obtain ⟨r1, r2, r3, r4⟩ := sum_in s1 b1 b2
    have hle := hh1 _ (by omega) b3
    unfold ef at hle
    refine ⟨⟨rfl, by omega, by omega⟩, ?_⟩
    refine ⟨r1, ⟨r2, ⟨r3, ⟨r4, ?_⟩⟩⟩⟩
    refine Split.no (decide_eq_false (show ¬ (one.A * ((cornersL l).getD i default).X + one.B * ((cornersL l).getD i default).Y > one.C * ((cornersL l).getD i default).Den) by omega)) ?_
    refine ⟨inI64 (by omega) (by omega), ?_⟩
    exact ⟨i + 1, ⟨rfl, ⟨obH rfl rfl, obH rfl rfl, trivial⟩, avR _ rfl, avR _ rfl, avQ rfl, avQ rfl, avR _ rfl, avR _ rfl, avI rfl rfl, trivial⟩, g1, (show (cornersL l).length - (i + 1) < (cornersL l).length - i by omega)⟩
  refine LoopOb.of (σ := Nat) (fun i => ([(11, .d (I 0)), (12, .box 12 0), (13, .box 13 0), (199, avOf (slC (cornersL m))), (200, .d (I (cornersL m).length)), (201, .d (I i))], [(12, bxH one), (13, bxH two)])) (fun i => i ≤ (cornersL m).length) (fun i => (cornersL m).length - i) 0
    ⟨rfl, ⟨obH rfl rfl, obH rfl rfl, trivial⟩, avR _ rfl, avQ rfl, avQ rfl, avR _ rfl, avR _ rfl, avR _ rfl, trivial⟩ (Nat.zero_le _) fun i hi => ?_
  refine Split.by (fun g1 => ?_) (fun g1 => ?_)
  · have g1 : i < (cornersL m).length := by have := dT g1; omega
    obtain ⟨b1, b2, b3⟩ := corner_bd km (gd1 g1 default)
    obtain ⟨r1, r2, r3, r4⟩ := sum_in s2 b1 b2
    have hle := hh2 _ (by omega) b3
    unfold ef at hle
    refine ⟨⟨rfl, by omega, by omega⟩, ?_⟩
    refine ⟨r1, ⟨r2, ⟨r3, ⟨r4, ?_⟩⟩⟩⟩
    refine Split.no (decide_eq_false (show ¬ (two.A * ((cornersL m).getD i default).X + two.B * ((cornersL m).getD i default).Y > two.C * ((cornersL m).getD i default).Den) by omega)) ?_
    refine ⟨inI64 (by omega) (by omega), ?_⟩
    exact ⟨i + 1, ⟨rfl, ⟨obH rfl rfl, obH rfl rfl, trivial⟩, avR _ rfl, avQ rfl, avQ rfl, avR _ rfl, avR _ rfl, avI rfl rfl, trivial⟩, g1, (show (cornersL m).length - (i + 1) < (cornersL m).length - i by omega)⟩
  have a1 := s1.a; have a2 := s1.b; have a3 := s1.c
  have a4 := s2.a; have a5 := s2.b; have a6 := s2.c
  refine ⟨inI64 (by omega) (by omega), ⟨inI64 (by omega) (by omega), ⟨inI64 (by omega) (by omega), ⟨inI64 (by omega) (by omega), ?_⟩⟩⟩⟩
  refine ⟨(show inR .i64 (max 0 (-one.A - two.A) * 48) from inI64 (by omega) (by omega)), ⟨(show inR .i64 (max 0 (-one.B - two.B) * 48) from inI64 (by omega) (by omega)), ⟨(show inR .i64 (max 0 (-one.A - two.A) * 48 + max 0 (-one.B - two.B) * 48) from inI64 (by omega) (by omega)), ?_⟩⟩⟩
  refine CallSt.pure s_sanity rfl rfl ?_
  refine Split.tt ?_
  refine Split.tt ?_
  refine Split.tt ?_
  refine ⟨inI64 (by omega) (by omega), ⟨(show inR .i64 (one.C + two.C + (max 0 (-one.A - two.A) * 48 + max 0 (-one.B - two.B) * 48)) from inI64 (by omega) (by omega)), ?_⟩⟩
  refine Split.tt ?_
  refine r1B rfl (decide_eq_true (show one.C + two.C + (max 0 (-one.A - two.A) * 48 + max 0 (-one.B - two.B) * 48) < 0 by omega))
end Go.Pg
