/-
  The points of a polygon in which edges cross are in convex position: each one lies in two edges that are not parallel. What they are, without an order.
-/
import Derived.Test.YtlmljmgappiehaaPiC
set_option linter.all false
namespace Go.Pg
open Go.Proofs Go.RowKit Go.Sort

/-! ### A crossing solves both equations -/
theorem lowest_scale {x y d : Int} (hd : d ≠ 0) : ∃ s : Int, s ≠ 0 ∧ (lowest x y d).X * s = x ∧ (lowest x y d).Y * s = y ∧ (lowest x y d).Den * s = d := by
  have hg : 0 < gcdL [x, y, d] := by rw [gcd3]; exact Nat.gcd_pos_of_pos_right _ (by omega)
  have e1 := gcd3 x y d
  generalize hG : gcdL [x, y, d] = G' at *
  have d1 : G' ∣ x.natAbs := by rw [e1]; exact Nat.dvd_trans (Nat.gcd_dvd_left _ _) (Nat.gcd_dvd_left _ _)
  have d2 : G' ∣ y.natAbs := by rw [e1]; exact Nat.dvd_trans (Nat.gcd_dvd_left _ _) (Nat.gcd_dvd_right _ _)
  have d3 : G' ∣ d.natAbs := by rw [e1]; exact Nat.gcd_dvd_right _ _
  obtain ⟨s, hs, hsa⟩ : ∃ s : Int, s = (if d < 0 then -(G' : Int) else (G' : Int)) ∧ s.natAbs = G' := ⟨_, rfl, by split <;> omega⟩
  have hl : lowest x y d = ⟨x.tdiv s, y.tdiv s, d.tdiv s⟩ := by
    unfold lowest
    rw [hs, hG]
  have dv : ∀ a : Int, G' ∣ a.natAbs → s ∣ a := fun a h => by
    rw [← Int.natAbs_dvd_natAbs, hsa]; exact h
  refine ⟨s, by omega, ?_, ?_, ?_⟩
  · rw [hl]; exact Int.tdiv_mul_cancel (dv x d1)
  · rw [hl]; exact Int.tdiv_mul_cancel (dv y d2)
  · rw [hl]; exact Int.tdiv_mul_cancel (dv d d3)
theorem solves {g h : Half} {p : Corner} {s : Int} (h1 : p.X * s = g.C * h.B - h.C * g.B) (h2 : p.Y * s = g.A * h.C - h.A * g.C) (h3 : p.Den * s = g.A * h.B - h.A * g.B) : ef g p * s = 0 ∧ ef h p * s = 0 := by
  unfold ef
  constructor <;> grind
theorem crossing_tight {g h : Half} (hd : det g h ≠ 0) : ef g (crossing g h) = 0 ∧ ef h (crossing g h) = 0 := by
  obtain ⟨s, hs, h1, h2, h3⟩ := lowest_scale (x := g.C * h.B - h.C * g.B) (y := g.A * h.C - h.A * g.C) hd
  have hc : crossing g h = lowest (g.C * h.B - h.C * g.B) (g.A * h.C - h.A * g.C) (det g h) := by unfold crossing; rfl
  rw [← hc] at h1 h2 h3
  obtain ⟨k1, k2⟩ := solves h1 h2 (by rw [h3]; unfold det; rfl)
  constructor
  · rcases Int.mul_eq_zero.1 k1 with h | h
    · exact h
    · exact absurd h hs
  · rcases Int.mul_eq_zero.1 k2 with h | h
    · exact h
    · exact absurd h hs
/-- A valid corner is told by two edges in which it lies. -/
theorem tight_unique {g h : Half} {p q : Corner} (hp : valid p = true) (hq : valid q = true) (hd : det g h ≠ 0) (p1 : ef g p = 0) (p2 : ef h p = 0) (q1 : ef g q = 0) (q2 : ef h q = 0) : p = q := by
  have hdet : det g h = g.A * h.B - h.A * g.B := by unfold det; rfl
  rw [hdet] at hd
  unfold ef at p1 p2 q1 q2
  have kx : (p.X * q.Den - q.X * p.Den) * (g.A * h.B - h.A * g.B) = 0 := by grind
  have ky : (p.Y * q.Den - q.Y * p.Den) * (g.A * h.B - h.A * g.B) = 0 := by grind
  have ex : p.X * q.Den = q.X * p.Den := by
    rcases Int.mul_eq_zero.1 kx with h | h
    · omega
    · exact absurd h hd
  have ey : p.Y * q.Den = q.Y * p.Den := by
    rcases Int.mul_eq_zero.1 ky with h | h
    · omega
    · exact absurd h hd
  exact leC_antisymm hp hq (by unfold leC; omega) (by unfold leC; omega)
theorem det_swap (g h : Half) : det h g = -det g h := by unfold det; grind
theorem crossing_comm {g h : Half} (hg : okH g) (hh : okH h) (hd : det g h ≠ 0) : crossing h g = crossing g h := by
  have hd' : det h g ≠ 0 := by rw [det_swap]; omega
  obtain ⟨a1, a2⟩ := crossing_tight hd
  obtain ⟨b1, b2⟩ := crossing_tight hd'
  exact tight_unique (crossing_valid hh hg hd') (crossing_valid hg hh hd) hd b2 b1 a1 a2
/-! ### All half-planes of a system -/
def hsL (l : List Half) : List Half := l ++ sidesL
theorem allL_h (l : List Half) : (allL l).map (fun x => x.h) = hsL l := by
  unfold allL hsL
  rw [List.map_map]
  refine List.ext_getElem (by simp [sidesL]) fun i h1 h2 => ?_
  simp only [List.getElem_map, List.getElem_range, Function.comp]
  unfold allAt
  by_cases hi : i < l.length
  · rw [if_pos hi, List.getElem_append_left hi]
    exact gdI hi default
  · rw [if_neg hi, List.getElem_append_right (by omega)]
    exact gdI (by simp [hsL, List.length_append] at h2; omega) default
theorem allL_num (l : List Half) : ∀ x ∈ allL l, x.n ≠ -5 := fun x hx => by
  unfold allL at hx
  obtain ⟨i, hi, rfl⟩ := List.mem_map.1 hx
  have hi := List.mem_range.1 hi
  unfold allAt
  split
  · show (i : Int) ≠ -5; omega
  · show -1 - ((i : Int) - l.length) ≠ -5; omega
/-- A point lies in all half-planes of a list. -/
def Fe (hs : List Half) (q : Corner) : Prop := ∀ h ∈ hs, ef h q ≤ 0
theorem outside_iff (L : List Num) (hL : ∀ x ∈ L, x.n ≠ -5) (q : Corner) : outsideL L q = -5 ↔ Fe (L.map fun x => x.h) q := by
  induction L with
  | nil => simp [outsideL, Fe]
  | cons x r ih =>
    have ih := ih fun y hy => hL y (List.mem_cons_of_mem _ hy)
    simp only [outsideL]
    by_cases h : lies x.h q = true
    · rw [if_pos h, ih]
      unfold Fe
      simp only [List.map_cons, List.mem_cons, forall_eq_or_imp]
      exact ⟨fun hh => ⟨(lies_ef _ _).1 h, hh⟩, fun hh => hh.2⟩
    · rw [if_neg h]
      refine ⟨fun hh => absurd hh (hL x (by simp)), fun hh => ?_⟩
      exact absurd ((lies_ef _ _).2 (hh x.h (by simp))) h
theorem outside_fe (l : List Half) (q : Corner) : outsideL (allL l) q = -5 ↔ Fe (hsL l) q := by
  rw [outside_iff (allL l) (allL_num l) q, allL_h]
theorem hsL_ok {l : List Half} (hl : ∀ x ∈ l, okH x) : ∀ x ∈ hsL l, okH x := fun x hx => by
  rw [← allL_h] at hx
  obtain ⟨y, hy, rfl⟩ := List.mem_map.1 hx
  exact allL_ok hl y hy
/-- A point of the polygon, in two edges that are not parallel. -/
structure Vt (hs : List Half) (q : Corner) : Prop where
  fe : Fe hs q
  va : valid q = true
  ti : ∃ g ∈ hs, ∃ h ∈ hs, det g h ≠ 0 ∧ ef g q = 0 ∧ ef h q = 0
theorem pairs_of {L : List Num} {x y : Num} (hx : x ∈ L) (hy : y ∈ L) (hd : det x.h y.h ≠ 0) : (x, y) ∈ pairsL L ∨ (y, x) ∈ pairsL L := by
  obtain ⟨i, hi, rfl⟩ := List.getElem_of_mem hx
  obtain ⟨j, hj, rfl⟩ := List.getElem_of_mem hy
  have e1 := gdI hi default
  have e2 := gdI hj default
  rcases Nat.lt_trichotomy i j with h | h | h
  · left
    have := pairs_get L hj h (by rw [e1, e2]; exact hd)
    rw [e1, e2] at this
    exact List.mem_of_getElem? this
  · subst h
    exact absurd (show det L[i].h L[i].h = 0 by unfold det; grind) hd
  · right
    have := pairs_get L hi h (by rw [e1, e2, det_swap]; omega)
    rw [e1, e2] at this
    exact List.mem_of_getElem? this
theorem ptsL_iff {l : List Half} (hl : ∀ x ∈ l, okH x) (q : Corner) : q ∈ ptsL l ↔ Vt (hsL l) q := by
  have hall := allL_ok hl
  unfold ptsL
  rw [List.mem_filterMap]
  constructor
  · rintro ⟨x, hx, he⟩
    obtain ⟨m1, m2, m3⟩ := pairsL_mem hx
    unfold ptL at he
    split at he
    · rename_i ho
      cases he
      refine ⟨(outside_fe l _).1 ho, crossing_valid (hall _ m1) (hall _ m2) m3, x.1.h, ?_, x.2.h, ?_, m3, crossing_tight m3⟩
      · rw [← allL_h]; exact List.mem_map.2 ⟨_, m1, rfl⟩
      · rw [← allL_h]; exact List.mem_map.2 ⟨_, m2, rfl⟩
    · cases he
  · rintro ⟨h1, h2, g, hg, h, hh, hd, t1, t2⟩
    rw [← allL_h] at hg hh
    obtain ⟨x, hx, rfl⟩ := List.mem_map.1 hg
    obtain ⟨y, hy, rfl⟩ := List.mem_map.1 hh
    have hv := crossing_valid (hall x hx) (hall y hy) hd
    obtain ⟨c1, c2⟩ := crossing_tight hd
    have e : crossing x.h y.h = q := tight_unique hv h2 hd c1 c2 t1 t2
    have ho := (outside_fe l q).2 h1
    rcases pairs_of hx hy hd with hp | hp
    · refine ⟨_, hp, ?_⟩
      unfold ptL
      dsimp only
      rw [e, if_pos ho]
    · refine ⟨_, hp, ?_⟩
      unfold ptL
      dsimp only
      rw [crossing_comm (hall x hx) (hall y hy) hd, e, if_pos ho]
theorem crs_iff {l : List Half} (hl : ∀ x ∈ l, okH x) (q : Corner) : q ∈ crsL l ↔ Vt (hsL l) q := by
  rw [crsL_mem hl, ptsL_iff hl]
/-! ### Convex position -/
def M48 : Int := 281474976710656
def thH (p : Corner) : Half := ⟨M48 * p.Den, p.Den, M48 * p.X + p.Y⟩
theorem thH_self (p : Corner) : ef (thH p) p = 0 := by unfold ef thH; grind
theorem thH_at (p q : Corner) : ef (thH q) p = M48 * (p.X * q.Den - q.X * p.Den) + (p.Y * q.Den - q.Y * p.Den) := by unfold ef thH; grind
theorem side_bd {hs : List Half} (hsub : ∀ h ∈ sidesL, h ∈ hs) {q : Corner} (h : Fe hs q) : (0 ≤ q.X ∧ q.X ≤ 48 * q.Den) ∧ (0 ≤ q.Y ∧ q.Y ≤ 48 * q.Den) := by
  have h1 := h _ (hsub ⟨-1, 0, 0⟩ (by decide))
  have h2 := h _ (hsub ⟨1, 0, 48⟩ (by decide))
  have h3 := h _ (hsub ⟨0, -1, 0⟩ (by decide))
  have h4 := h _ (hsub ⟨0, 1, 48⟩ (by decide))
  unfold ef at *
  simp only at *
  omega
theorem sub_hsL (l : List Half) : ∀ h ∈ sidesL, h ∈ hsL l := fun h hh => List.mem_append_right _ hh
structure InM (q : Corner) : Prop where
  va : valid q = true
  x : 0 ≤ q.X ∧ q.X ≤ 48 * q.Den
  y : 0 ≤ q.Y ∧ q.Y ≤ 48 * q.Den
theorem th_lt {p q : Corner} (hp : InM p) (hq : InM q) (h : ltC p q) : Bef thH p q := by
  have dp := (okC_of hp.va).d
  have dq := (okC_of hq.va).d
  have py := hp.y
  have qy := hq.y
  have b1 := mulB (a := p.Y) (b := q.Den) (x := 100663296) (y := 2097152) (by omega) (by omega)
  have b2 := mulB (a := q.Y) (b := p.Den) (x := 100663296) (y := 2097152) (by omega) (by omega)
  have b3 := Int.mul_nonneg (a := p.Y) (b := q.Den) (by omega) (by omega)
  have b4 := Int.mul_nonneg (a := q.Y) (b := p.Den) (by omega) (by omega)
  unfold Bef
  rw [thH_at, thH_at]
  unfold ltC at h
  unfold M48
  rcases h with h | ⟨h, h'⟩
  · constructor <;> omega
  · rw [h]
    constructor <;> omega
theorem non3 {φ : Half} {p q r : Corner} (f0 : ef φ q = 0) (fp : ef φ p < 0) (fr : ef φ r < 0) (h1 : Bef thH p q) (h2 : Bef thH q r) : d3 p q r ≠ 0 := by
  intro h
  have e1 := plu φ p q r ⟨1, -M48, 0⟩
  have e2 := plu (thH q) p q r ⟨1, -M48, 0⟩
  rw [f0, h] at e1
  rw [thH_self, h] at e2
  have e3 : d3 p q ⟨1, -M48, 0⟩ = ef (thH q) p := by unfold d3 ef thH; grind
  have b0 := h1.1
  have b1 := h2.2
  rw [e3] at e1 e2
  have k1 := Int.mul_neg_of_pos_of_neg b1 b0
  have k2 := Int.mul_pos_of_neg_of_neg fr b0
  have c1 := sn_pos b0 (b := d3 q r ⟨1, -M48, 0⟩) (by omega)
  have c2 := sn_neg fp (b := d3 q r ⟨1, -M48, 0⟩) (by omega)
  omega
def addH (g h : Half) : Half := ⟨g.A + h.A, g.B + h.B, g.C + h.C⟩
theorem ef_add (g h : Half) (p : Corner) : ef (addH g h) p = ef g p + ef h p := by unfold ef addH; grind
theorem Vt.out {hs : List Half} {q : Corner} (hq : Vt hs q) : ∃ φ : Half, ef φ q = 0 ∧ ∀ p, Fe hs p → valid p = true → ef φ p ≤ 0 ∧ (p ≠ q → ef φ p < 0) := by
  obtain ⟨g, hg, h, hh, hd, t1, t2⟩ := hq.ti
  refine ⟨addH g h, by rw [ef_add, t1, t2]; rfl, fun p hp hv => ?_⟩
  rw [ef_add]
  have a1 := hp g hg
  have a2 := hp h hh
  refine ⟨by omega, fun hne => ?_⟩
  have : ¬ (ef g p = 0 ∧ ef h p = 0) := fun ⟨e1, e2⟩ => hne (tight_unique hv hq.va hd e1 e2 t1 t2)
  omega
theorem non_perm {S : List Corner} (h : S.Pairwise ltC) (hv : ∀ p ∈ S, valid p = true) (key : ∀ p ∈ S, ∀ q ∈ S, ∀ r ∈ S, ltC p q → ltC q r → d3 p q r ≠ 0) :
    ∀ p ∈ S, ∀ q ∈ S, ∀ r ∈ S, p ≠ q → p ≠ r → q ≠ r → d3 p q r ≠ 0 := by
  intro p hp q hq r hr h1 h2 h3
  have tri : ∀ a ∈ S, ∀ b ∈ S, a ≠ b → ltC a b ∨ ltC b a := fun a ha b hb hab => by
    rcases leC_total a b with g | g
    · exact .inl (ltC_of_le (hv a ha) (hv b hb) g hab)
    · exact .inr (ltC_of_le (hv b hb) (hv a ha) g hab.symm)
  have r1 := d3_rot p q r
  have r2 := d3_rot q r p
  have s1 := d3_swap p q r
  have s2 := d3_swap' p q r
  have s3 := d3_swap q r p
  have r3 := d3_rot r p q
  rcases tri p hp q hq h1 with a | a <;> rcases tri q hq r hr h3 with b | b <;> rcases tri p hp r hr h2 with c | c
  · exact key p hp q hq r hr a b
  · exact key p hp q hq r hr a b
  · have := key p hp r hr q hq c b; omega
  · have := key r hr p hp q hq c a; omega
  · have := key q hq p hp r hr a c; omega
  · have := key q hq r hr p hp b c; omega
  · have k := key r hr q hq p hp b a
    have s4 := d3_swap' r q p
    have := d3_rot r p q
    omega
  · have k := key r hr q hq p hp b a
    have s4 := d3_swap' r q p
    have := d3_rot r p q
    omega
theorem Vt.inM {l : List Half} {q : Corner} (h : Vt (hsL l) q) : InM q := by
  have := side_bd (sub_hsL l) h.fe
  exact ⟨h.va, this.1, this.2⟩
theorem crs_conv {l : List Half} (hl : ∀ x ∈ l, okH x) : Conv thH (crsL l) := by
  have hV : ∀ q ∈ crsL l, Vt (hsL l) q := fun q hq => (crs_iff hl q).1 hq
  have hout : ∀ q ∈ crsL l, ∃ φ : Half, ef φ q = 0 ∧ ∀ p ∈ crsL l, p ≠ q → ef φ p < 0 := fun q hq => by
    obtain ⟨φ, f0, ff⟩ := (hV q hq).out
    exact ⟨φ, f0, fun p hp hne => (ff p (hV p hp).fe (hV p hp).va).2 hne⟩
  have hlt : ∀ p ∈ crsL l, ∀ q ∈ crsL l, ltC p q → Bef thH p q := fun p hp q hq h => th_lt (hV p hp).inM (hV q hq).inM h
  refine ⟨hout, fun q _ => thH_self q, ?_, ?_, fun q hq => denV (hV q hq).va⟩
  · exact List.Pairwise.imp_of_mem (fun {p q} hp hq h => hlt p hp q hq h) (crsL_strict hl)
  · refine non_perm (crsL_strict hl) (fun p hp => (hV p hp).va) fun p hp q hq r hr h1 h2 => ?_
    obtain ⟨φ, f0, ff⟩ := hout q hq
    refine non3 f0 (ff p hp ?_) (ff r hr ?_) (hlt p hp q hq h1) (hlt q hq r hr h2)
    · rintro rfl; exact ltC_irrefl _ h1
    · rintro rfl; exact ltC_irrefl _ h2
end Go.Pg
