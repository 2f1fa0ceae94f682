/-
  Plain geometry: for each form, a system of half-planes with the sides of the map has either two or three of them that have no common point, or a point of the polygon in two edges between whose normals the form lies (so that it is greatest there). No program in sight.
-/
import Derived.Test.YtgbhclflnfahgaaK7
set_option linter.all false
namespace Go.Pg
open Go.Proofs Go.RowKit

def fx (F : Form) (h : Half) : Int := F.X * h.B - F.Y * h.A
theorem det_def (g h : Half) : det g h = g.A * h.B - h.A * g.B := by unfold det; rfl
/-- The form lies between the normals of g and h. -/
structure Df (F : Form) (g h : Half) : Prop where
  d : 0 < det g h
  s : 0 ≤ fx F h
  t : fx F g ≤ 0
/-- Three half-planes without a common point. -/
def Cert3 (g h j : Half) : Prop := 0 < det h j ∧ 0 < det j g ∧ 0 < det g h ∧ det h j * g.C + det j g * h.C + det g h * j.C < 0
def nrm (h : Half) : Int := max (max h.A (-h.A)) (max h.B (-h.B))
/-- Two half-planes without a common point. -/
def Cert2 (g h : Half) : Prop := det g h = 0 ∧ g.A * h.A + g.B * h.B < 0 ∧ nrm h * g.C + nrm g * h.C < 0
def Cert (hs : List Half) : Prop := (∃ g ∈ hs, ∃ h ∈ hs, Cert2 g h) ∨ ∃ g ∈ hs, ∃ h ∈ hs, ∃ j ∈ hs, Cert3 g h j
def num (F : Form) (g h : Half) : Int := fx F h * g.C - fx F g * h.C
/-- Pairs in a list: one whose value is least. -/
theorem least_pair {α : Type} (n d : α → Int) : ∀ (l : List α), (∀ x ∈ l, 0 < d x) → l ≠ [] → ∃ x ∈ l, ∀ y ∈ l, n x * d y ≤ n y * d x
  | [x], _, _ => ⟨x, by simp, fun y hy => by obtain rfl : y = x := by simpa using hy
                                             exact Int.le_refl _⟩
  | x :: y :: r, hd, _ => by
    obtain ⟨z, hz, hm⟩ := least_pair n d (y :: r) (fun u hu => hd u (List.mem_cons_of_mem _ hu)) (by simp)
    have dx := hd x (by simp)
    have dz := hd z (List.mem_cons_of_mem _ hz)
    rcases Int.le_total (n x * d z) (n z * d x) with h | h
    · refine ⟨x, by simp, fun u hu => ?_⟩
      have du := hd u hu
      rcases List.mem_cons.1 hu with rfl | hu
      · exact Int.le_refl _
      · exact frac_trans dz dx du h (hm u hu)
    · refine ⟨z, List.mem_cons_of_mem _ hz, fun u hu => ?_⟩
      rcases List.mem_cons.1 hu with rfl | hu
      · exact h
      · exact hm u hu
/-! ### One step -/
section
variable {F : Form} {g h j : Half}
/-- The value of a half-plane at the crossing of two, without a divisor. -/
def jay (g h j : Half) : Int := -(det h j * g.C + det j g * h.C + det g h * j.C)
theorem pivA (D : Df F g h) (hJ : 0 < jay g h j) (ha : 0 < det j h) (hs : 0 < fx F h) (ht : fx F j ≤ 0) : Df F j h ∧ num F j h * det g h < num F g h * det j h := by
  refine ⟨⟨ha, D.s, ht⟩, ?_⟩
  have e : num F j h * det g h - num F g h * det j h = -(fx F h * jay g h j) := by
    unfold num jay fx
    simp only [det_def]
    grind
  have := Int.mul_pos hs hJ
  omega
theorem pivB (D : Df F g h) (hJ : 0 < jay g h j) (hb : 0 < det g j) (ht : fx F g < 0) (hs : 0 ≤ fx F j) : Df F g j ∧ num F g j * det g h < num F g h * det g j := by
  refine ⟨⟨hb, hs, D.t⟩, ?_⟩
  have e : num F g j * det g h - num F g h * det g j = fx F g * jay g h j := by
    unfold num jay fx
    simp only [det_def]
    grind
  have := Int.mul_neg_of_neg_of_pos ht hJ
  omega
theorem nrm_nonneg (h : Half) : 0 ≤ nrm h := by unfold nrm; omega
theorem nrm_scale {b d : Int} (hb : 0 < b) (hd : 0 < d) (hA : d * j.A = -(b * h.A)) (hB : d * j.B = -(b * h.B)) : d * nrm j = b * nrm h := by
  have m2 : ∀ (c x y : Int), 0 < c → c * max x y = max (c * x) (c * y) := fun c x y hc => by
    rcases Int.le_total x y with h | h
    · rw [Int.max_eq_right h, Int.max_eq_right (Int.mul_le_mul_of_nonneg_left h (by omega))]
    · rw [Int.max_eq_left h, Int.max_eq_left (Int.mul_le_mul_of_nonneg_left h (by omega))]
  unfold nrm
  simp only [m2 d _ _ hd, m2 b _ _ hb, Int.mul_neg, hA, hB]
  omega
/-- j's normal is opposite to h's, and both have no common point. -/
theorem cert2_of {d b : Int} (hd : 0 < d) (hb : 0 < b) (hA : d * j.A = -(b * h.A)) (hB : d * j.B = -(b * h.B)) (hh : h.A ≠ 0 ∨ h.B ≠ 0) (hs : b * h.C + d * j.C < 0) : Cert2 h j := by
  have hsq : 0 < h.A * h.A + h.B * h.B := by
    rcases hh with e | e
    · have h1 : 0 < h.A * h.A := by
        rcases Int.lt_or_gt_of_ne e with g | g
        · exact Int.mul_pos_of_neg_of_neg g g
        · exact Int.mul_pos g g
      have h2 : 0 ≤ h.B * h.B := by
        rcases Int.le_total 0 h.B with g | g
        · exact Int.mul_nonneg g g
        · exact Int.mul_nonneg_of_nonpos_of_nonpos g g
      omega
    · have h1 : 0 < h.B * h.B := by
        rcases Int.lt_or_gt_of_ne e with g | g
        · exact Int.mul_pos_of_neg_of_neg g g
        · exact Int.mul_pos g g
      have h2 : 0 ≤ h.A * h.A := by
        rcases Int.le_total 0 h.A with g | g
        · exact Int.mul_nonneg g g
        · exact Int.mul_nonneg_of_nonpos_of_nonpos g g
      omega
  have hn := nrm_scale (h := h) hb hd hA hB
  refine ⟨?_, ?_, ?_⟩
  · have : d * det h j = 0 := by rw [det_def]; grind
    rcases Int.mul_eq_zero.1 this with e | e
    · omega
    · exact e
  · have e : d * (h.A * j.A + h.B * j.B) = -(b * (h.A * h.A + h.B * h.B)) := by grind
    have := Int.mul_pos hb hsq
    exact sg_neg hd (by omega)
  · have hpos : 0 < nrm h := by unfold nrm; omega
    have e : d * (nrm j * h.C + nrm h * j.C) = nrm h * (b * h.C + d * j.C) := by grind
    have := Int.mul_neg_of_pos_of_neg hpos hs
    exact sg_neg hd (by omega)
/-- If j does not hold at the crossing of g and h: a certificate, or a better pair. -/
theorem pivot (D : Df F g h) (hJ : 0 < jay g h j) (hs : 0 < fx F h) (ht : fx F g < 0) (hj : j.A ≠ 0 ∨ j.B ≠ 0) (hg : g.A ≠ 0 ∨ g.B ≠ 0) (hh : h.A ≠ 0 ∨ h.B ≠ 0) :
    Cert3 g h j ∨ Cert2 h j ∨ Cert2 g j ∨ (Df F j h ∧ num F j h * det g h < num F g h * det j h) ∨ (Df F g j ∧ num F g j * det g h < num F g h * det g j) := by
  have hd := D.d
  have ej : det g h * fx F j = det j h * fx F g + det g j * fx F h := by unfold fx; simp only [det_def]; grind
  have swA : det j h = -det h j := det_swap h j
  have swB : det g j = -det j g := det_swap j g
  have eA : det g h * j.A = det j h * g.A + det g j * h.A := by simp only [det_def]; grind
  have eB : det g h * j.B = det j h * g.B + det g j * h.B := by simp only [det_def]; grind
  unfold jay at hJ
  by_cases ha : 0 < det j h
  · by_cases hq : fx F j ≤ 0
    · exact .inr (.inr (.inr (.inl (pivA D (by unfold jay; exact hJ) ha hs hq))))
    · have h1 := Int.mul_pos hd (show 0 < fx F j by omega)
      have h2 := Int.mul_neg_of_pos_of_neg ha ht
      have hb : 0 < det g j := by
        have h3 : 0 < fx F h * det g j := by rw [Int.mul_comm]; omega
        exact sg_pos hs h3
      exact .inr (.inr (.inr (.inr (pivB D (by unfold jay; exact hJ) hb ht (by omega)))))
  · by_cases hb : 0 < det g j
    · have h2 : 0 ≤ det j h * fx F g := Int.mul_nonneg_of_nonpos_of_nonpos (by omega) (by omega)
      have h3 := Int.mul_pos hb hs
      have hq : 0 < fx F j := sg_pos hd (by omega)
      exact .inr (.inr (.inr (.inr (pivB D (by unfold jay; exact hJ) hb ht (by omega)))))
    · rcases Int.lt_or_eq_of_le (show det j h ≤ 0 by omega) with ha' | ha' <;> rcases Int.lt_or_eq_of_le (show det g j ≤ 0 by omega) with hb' | hb'
      · exact .inl ⟨by omega, by omega, hd, by omega⟩
      · -- j is opposite to g
        refine .inr (.inr (.inl (cert2_of (d := det g h) (b := -det j h) hd (by omega) ?_ ?_ hg ?_)))
        · rw [eA, hb']; grind
        · rw [eB, hb']; grind
        · have : det j g = 0 := by omega
          rw [this] at hJ
          rw [show -det j h = det h j by omega]
          omega
      · refine .inr (.inl (cert2_of (d := det g h) (b := -det g j) hd (by omega) ?_ ?_ hh ?_))
        · rw [eA, ha']; grind
        · rw [eB, ha']; grind
        · have : det h j = 0 := by omega
          rw [this] at hJ
          rw [show -det g j = det j g by omega]
          omega
      · exfalso
        rw [ha', hb'] at eA eB
        rcases hj with e | e
        · have : det g h * j.A = 0 := by rw [eA]; simp
          rcases Int.mul_eq_zero.1 this with h | h
          · omega
          · exact e h
        · have : det g h * j.B = 0 := by rw [eB]; simp
          rcases Int.mul_eq_zero.1 this with h | h
          · omega
          · exact e h
end
/-! ### The theorem -/
def dualB (F : Form) (x : Half × Half) : Bool := decide (0 < det x.1 x.2) && decide (0 ≤ fx F x.2) && decide (fx F x.1 ≤ 0)
theorem dualB_iff {F : Form} {x : Half × Half} : dualB F x = true ↔ Df F x.1 x.2 := by
  unfold dualB
  simp only [Bool.and_eq_true, decide_eq_true_eq]
  exact ⟨fun h => ⟨h.1.1, h.1.2, h.2⟩, fun h => ⟨⟨h.d, h.s⟩, h.t⟩⟩
theorem dual_some (F : Form) : ∃ g ∈ sidesL, ∃ h ∈ sidesL, Df F g h := by
  rcases Int.le_total 0 F.X with hx | hx <;> rcases Int.le_total 0 F.Y with hy | hy
  · exact ⟨⟨1, 0, 48⟩, by decide, ⟨0, 1, 48⟩, by decide, ⟨by rw [det_def]; decide, by simp only [fx]; omega, by simp only [fx]; omega⟩⟩
  · exact ⟨⟨0, -1, 0⟩, by decide, ⟨1, 0, 48⟩, by decide, ⟨by rw [det_def]; decide, by simp only [fx]; omega, by simp only [fx]; omega⟩⟩
  · exact ⟨⟨0, 1, 48⟩, by decide, ⟨-1, 0, 0⟩, by decide, ⟨by rw [det_def]; decide, by simp only [fx]; omega, by simp only [fx]; omega⟩⟩
  · exact ⟨⟨-1, 0, 0⟩, by decide, ⟨0, -1, 0⟩, by decide, ⟨by rw [det_def]; decide, by simp only [fx]; omega, by simp only [fx]; omega⟩⟩
theorem lp_gen {hs : List Half} (hsub : ∀ h ∈ sidesL, h ∈ hs) (nz : ∀ h ∈ hs, h.A ≠ 0 ∨ h.B ≠ 0) (F : Form) (gen : ∀ h ∈ hs, fx F h ≠ 0) :
    Cert hs ∨ ∃ g ∈ hs, ∃ h ∈ hs, Df F g h ∧ ∀ j ∈ hs, jay g h j ≤ 0 := by
  by_cases hc : Cert hs
  · exact .inl hc
  refine .inr ?_
  have hmem : ∀ g h, (g, h) ∈ (hs.flatMap fun g => hs.map fun h => (g, h)).filter (dualB F) ↔ (g ∈ hs ∧ h ∈ hs) ∧ Df F g h := fun g h => by
    rw [List.mem_filter, dualB_iff, List.mem_flatMap]
    simp only [List.mem_map, Prod.mk.injEq]
    constructor
    · rintro ⟨⟨a, ha, b, hb, rfl, rfl⟩, hD⟩
      exact ⟨⟨ha, hb⟩, hD⟩
    · rintro ⟨⟨ha, hb⟩, hD⟩
      exact ⟨⟨g, ha, h, hb, rfl, rfl⟩, hD⟩
  obtain ⟨g0, hg0, h0, hh0, hD0⟩ := dual_some F
  obtain ⟨⟨g, h⟩, hx, hmin⟩ := least_pair (fun x : Half × Half => num F x.1 x.2) (fun x => det x.1 x.2) ((hs.flatMap fun g => hs.map fun h => (g, h)).filter (dualB F))
    (fun x hx => (dualB_iff.1 (List.mem_filter.1 hx).2).d) (List.ne_nil_of_mem ((hmem g0 h0).2 ⟨⟨hsub _ hg0, hsub _ hh0⟩, hD0⟩))
  obtain ⟨⟨hg, hh⟩, hD⟩ := (hmem g h).1 hx
  refine ⟨g, hg, h, hh, hD, fun j hj => ?_⟩
  refine Int.not_lt.1 fun hJ => ?_
  have g1 := gen h hh
  have g2 := gen g hg
  have s1 := hD.s
  have t1 := hD.t
  rcases pivot hD hJ (by omega) (by omega) (nz j hj) (nz g hg) (nz h hh) with c | c | c | ⟨c1, c2⟩ | ⟨c1, c2⟩
  · exact hc (.inr ⟨g, hg, h, hh, j, hj, c⟩)
  · exact hc (.inl ⟨h, hh, j, hj, c⟩)
  · exact hc (.inl ⟨g, hg, j, hj, c⟩)
  · have := hmin (j, h) ((hmem j h).2 ⟨⟨hj, hh⟩, c1⟩)
    simp only at this
    omega
  · have := hmin (g, j) ((hmem g j).2 ⟨⟨hg, hj⟩, c1⟩)
    simp only at this
    omega
/-- A form near to f that is parallel to no edge. -/
def nearF (f : Form) : Form := ⟨10000000 * f.X - f.Y, 10000000 * f.Y + f.X⟩
theorem fx_near (f : Form) (h : Half) : fx (nearF f) h = 10000000 * fx f h - (f.X * h.A + f.Y * h.B) := by unfold fx nearF; grind
/-- Forms a little beyond the limits, too. -/
structure okF4 (f : Form) : Prop where
  x : -4000 ≤ f.X ∧ f.X ≤ 4000
  y : -4000 ≤ f.Y ∧ f.Y ≤ 4000
theorem okF.to4 {f : Form} (h : okF f) : okF4 f := ⟨by have := h.x; omega, by have := h.y; omega⟩
theorem near_bd {f : Form} (hf : okF4 f) {h : Half} (hh : okH h) : -8000000 ≤ f.X * h.A + f.Y * h.B ∧ f.X * h.A + f.Y * h.B ≤ 8000000 := by
  have h1 := mulB hf.x hh.a
  have h2 := mulB hf.y hh.b
  omega
theorem sq_pos {a b : Int} (h : a ≠ 0 ∨ b ≠ 0) : 0 < a * a + b * b := by
  have p : ∀ x : Int, 0 ≤ x * x := fun x => by
    rcases Int.le_total 0 x with g | g
    · exact Int.mul_nonneg g g
    · exact Int.mul_nonneg_of_nonpos_of_nonpos g g
  have q : ∀ x : Int, x ≠ 0 → 0 < x * x := fun x hx => by
    rcases Int.lt_or_gt_of_ne hx with g | g
    · exact Int.mul_pos_of_neg_of_neg g g
    · exact Int.mul_pos g g
  have pa := p a
  have pb := p b
  rcases h with h | h
  · have := q a h; omega
  · have := q b h; omega
theorem near_gen {f : Form} (hf : okF4 f) (h0 : f.X ≠ 0 ∨ f.Y ≠ 0) {h : Half} (hh : okH h) (hn : h.A ≠ 0 ∨ h.B ≠ 0) : fx (nearF f) h ≠ 0 := by
  rw [fx_near]
  have hb := near_bd hf hh
  by_cases hz : fx f h = 0
  · intro e
    have e1 : f.X * h.A + f.Y * h.B = 0 := by omega
    unfold fx at hz
    have hp := sq_pos h0
    have k1 : (f.X * f.X + f.Y * f.Y) * h.A = 0 := by grind
    have k2 : (f.X * f.X + f.Y * f.Y) * h.B = 0 := by grind
    rcases Int.mul_eq_zero.1 k1 with g | g
    · omega
    · rcases Int.mul_eq_zero.1 k2 with g' | g'
      · omega
      · rcases hn with hn | hn
        · exact hn g
        · exact hn g'
  · omega
theorem near_df {f : Form} (hf : okF4 f) {g h : Half} (hg : okH g) (hh : okH h) (D : Df (nearF f) g h) : Df f g h := by
  have h1 := D.s
  have h2 := D.t
  rw [fx_near] at h1 h2
  have b1 := near_bd hf hh
  have b2 := near_bd hf hg
  exact ⟨D.d, by omega, by omega⟩
theorem jay_fe {g h j : Half} (hd : 0 < det g h) (hv : valid (crossing g h) = true) (hJ : jay g h j ≤ 0) : ef j (crossing g h) ≤ 0 := by
  obtain ⟨s, hs, h1, h2, h3⟩ := lowest_scale (x := g.C * h.B - h.C * g.B) (y := g.A * h.C - h.A * g.C) (d := det g h) (by omega)
  have hc : crossing g h = lowest (g.C * h.B - h.C * g.B) (g.A * h.C - h.A * g.C) (det g h) := by unfold crossing; rfl
  rw [← hc] at h1 h2 h3
  have hD := denV hv
  have hs' : 0 < s := sg_pos hD (by rw [h3]; exact hd)
  have e : s * ef j (crossing g h) = jay g h j := by
    rw [det_def] at h3
    unfold ef jay
    simp only [det_def]
    grind
  refine Int.not_lt.1 fun hh => ?_
  have := Int.mul_pos hs' hh
  omega
/-- Systems that are looked at: the sides of the map among them, all within the limits. -/
structure OkS (hs : List Half) : Prop where
  sub : ∀ h ∈ sidesL, h ∈ hs
  ok : ∀ h ∈ hs, okH h
  nz : ∀ h ∈ hs, h.A ≠ 0 ∨ h.B ≠ 0
/-- The greatest value of a form is attained in a point of the polygon in two edges between whose normals it lies; or there is no point. -/
theorem lp {hs : List Half} (S : OkS hs) {f : Form} (hf : okF4 f) : Cert hs ∨ ∃ g ∈ hs, ∃ h ∈ hs, Df f g h ∧ Vt hs (crossing g h) := by
  have main : ∀ f : Form, okF4 f → (f.X ≠ 0 ∨ f.Y ≠ 0) → Cert hs ∨ ∃ g ∈ hs, ∃ h ∈ hs, Df f g h ∧ Vt hs (crossing g h) := fun f hf h0 => by
    rcases lp_gen S.sub S.nz (nearF f) (fun h hh => near_gen hf h0 (S.ok h hh) (S.nz h hh)) with c | ⟨g, hg, h, hh, D, hJ⟩
    · exact .inl c
    · have hd := D.d
      have hv := crossing_valid (S.ok g hg) (S.ok h hh) (by omega)
      obtain ⟨c1, c2⟩ := crossing_tight (g := g) (h := h) (by omega)
      exact .inr ⟨g, hg, h, hh, near_df hf (S.ok g hg) (S.ok h hh) D, fun j hj => jay_fe hd hv (hJ j hj), hv, g, hg, h, hh, by omega, c1, c2⟩
  by_cases h0 : f.X ≠ 0 ∨ f.Y ≠ 0
  · exact main f hf h0
  · rcases main ⟨1, 0⟩ ⟨by decide, by decide⟩ (by decide) with c | ⟨g, hg, h, hh, D, hV⟩
    · exact .inl c
    · have e1 : f.X = 0 := by omega
      have e2 : f.Y = 0 := by omega
      exact .inr ⟨g, hg, h, hh, ⟨D.d, by simp [fx, e1, e2], by simp [fx, e1, e2]⟩, hV⟩
/-- No point has a greater value. -/
theorem weak_dual {f : Form} {g h : Half} (D : Df f g h) {q : Corner} (h1 : ef g q ≤ 0) (h2 : ef h q ≤ 0) : det g h * (f.X * q.X + f.Y * q.Y) ≤ num f g h * q.Den := by
  have e : det g h * (f.X * q.X + f.Y * q.Y) - num f g h * q.Den = fx f h * ef g q - fx f g * ef h q := by
    unfold num fx ef
    simp only [det_def]
    grind
  have a1 := Int.mul_nonneg_of_nonpos_of_nonpos D.t h2
  have a2 : fx f h * ef g q ≤ 0 := Int.mul_nonpos_of_nonneg_of_nonpos D.s h1
  omega
theorem cert_no {hs : List Half} (hc : Cert hs) {q : Corner} (hD : 0 < q.Den) (hq : Fe hs q) : False := by
  rcases hc with ⟨g, hg, h, hh, c1, c2, c3⟩ | ⟨g, hg, h, hh, j, hj, c1, c2, c3, c4⟩
  · have h1 := hq g hg
    have h2 := hq h hh
    rw [det_def] at c1
    have hgz : g.A ≠ 0 ∨ g.B ≠ 0 := by
      refine Classical.not_not.1 fun hn => ?_
      have e1 : g.A = 0 := by omega
      have e2 : g.B = 0 := by omega
      rw [e1, e2] at c2
      simp at c2
    have hp := sq_pos hgz
    have kA : (g.A * g.A + g.B * g.B) * h.A = -(-(g.A * h.A + g.B * h.B) * g.A) := by grind
    have kB : (g.A * g.A + g.B * g.B) * h.B = -(-(g.A * h.A + g.B * h.B) * g.B) := by grind
    have hn := nrm_scale (h := g) (j := h) (b := -(g.A * h.A + g.B * h.B)) (d := g.A * g.A + g.B * g.B) (by omega) hp kA kB
    have zA : (g.A * g.A + g.B * g.B) * (nrm h * g.A + nrm g * h.A) = 0 := by grind
    have zB : (g.A * g.A + g.B * g.B) * (nrm h * g.B + nrm g * h.B) = 0 := by grind
    have yA : nrm h * g.A + nrm g * h.A = 0 := by
      rcases Int.mul_eq_zero.1 zA with e | e
      · omega
      · exact e
    have yB : nrm h * g.B + nrm g * h.B = 0 := by
      rcases Int.mul_eq_zero.1 zB with e | e
      · omega
      · exact e
    have a1 := Int.mul_nonpos_of_nonneg_of_nonpos (nrm_nonneg h) h1
    have a2 := Int.mul_nonpos_of_nonneg_of_nonpos (nrm_nonneg g) h2
    have e : nrm h * ef g q + nrm g * ef h q = (nrm h * g.A + nrm g * h.A) * q.X + (nrm h * g.B + nrm g * h.B) * q.Y - (nrm h * g.C + nrm g * h.C) * q.Den := by unfold ef; grind
    rw [yA, yB] at e
    have := Int.mul_neg_of_neg_of_pos c3 hD
    omega
  · have a1 := Int.mul_nonpos_of_nonneg_of_nonpos (Int.le_of_lt c1) (hq g hg)
    have a2 := Int.mul_nonpos_of_nonneg_of_nonpos (Int.le_of_lt c2) (hq h hh)
    have a3 := Int.mul_nonpos_of_nonneg_of_nonpos (Int.le_of_lt c3) (hq j hj)
    have e : det h j * ef g q + det j g * ef h q + det g h * ef j q = -((det h j * g.C + det j g * h.C + det g h * j.C) * q.Den) := by
      unfold ef
      simp only [det_def]
      grind
    have := Int.mul_neg_of_neg_of_pos c4 hD
    omega
end Go.Pg
/-
  Plain geometry: the specification's way around finds the chain's hull; all crossings of a polygon are corners of it.
-/
set_option linter.all false
namespace Go.Pg
open Go.Proofs Go.RowKit

theorem d3_same (p a : Corner) : d3 p a a = 0 := by unfold d3; grind
theorem around_to {th : Corner → Half} {p0 : Corner} {rest T : List Corner} (C : Conv th (p0 :: rest)) (hT : ∀ q, q ∈ T ↔ q ∈ rest) (hord : T.Pairwise fun a b => 0 < d3 p0 a b) :
    ∀ k, k ≤ T.length → aroundTo (p0 :: rest) k = p0 :: T.take k
  | 0, _ => rfl
  | k + 1, hk => by
    have ih := around_to C hT hord k (by omega)
    have hkT : k < T.length := by omega
    have hnd := C.nodup
    have hp0 : p0 ∉ rest := (List.nodup_cons.1 hnd).1
    have hTnd : T.Nodup := hord.imp fun {a b} h e => by subst e; rw [d3_same] at h; omega
    have hTS : ∀ q ∈ T, q ∈ p0 :: rest := fun q hq => List.mem_cons_of_mem _ ((hT q).1 hq)
    have hTp : ∀ q ∈ T, q ≠ p0 := fun q hq e => hp0 ((hT p0).1 (e ▸ hq))
    have hsplit : T = T.take k ++ T[k] :: T.drop (k + 1) := by rw [← List.drop_eq_getElem_cons hkT, List.take_append_drop]
    have htT : T[k] ∈ T := List.getElem_mem hkT
    have hnt : T[k] ∉ T.take k := fun h => by
      rw [hsplit] at hTnd
      exact (List.nodup_append.1 hTnd).2.2 _ h _ List.mem_cons_self rfl
    have hbig : ∀ x ∈ p0 :: rest, x ∉ p0 :: T.take k → x ≠ T[k] → x ∈ T.drop (k + 1) := fun x hx hx1 hx2 => by
      have hxr : x ∈ rest := by
        rcases List.mem_cons.1 hx with e | h
        · exact absurd (e ▸ List.mem_cons_self) hx1
        · exact h
      have hxT := (hT x).2 hxr
      rw [hsplit] at hxT
      rcases List.mem_append.1 hxT with h | h
      · exact absurd (List.mem_cons_of_mem _ h) hx1
      · rcases List.mem_cons.1 h with h | h
        · exact absurd h hx2
        · exact h
    have hT2 := hord
    rw [hsplit, List.pairwise_append, List.pairwise_cons] at hT2
    obtain ⟨o1, ⟨o2, o3⟩, o4⟩ := hT2
    obtain ⟨u, hu, hden, hlt⟩ : ∃ u, (p0 :: T.take k).getD ((p0 :: T.take k).length - 1) default = u ∧ 0 < u.Den ∧ ∀ x ∈ T.drop (k + 1), 0 < d3 u T[k] x := by
      rcases Nat.eq_zero_or_pos k with h0 | h0
      · subst h0
        exact ⟨p0, rfl, C.den p0 (by simp), fun x hx => o2 x hx⟩
      · obtain ⟨k', rfl⟩ : ∃ k', k = k' + 1 := ⟨k - 1, by omega⟩
        have hk' : k' < T.length := by omega
        have hul : T[k'] ∈ T.take (k' + 1) := by rw [List.take_succ_eq_append_getElem hk']; exact List.mem_append_right _ List.mem_cons_self
        have huT : T[k'] ∈ T := List.getElem_mem hk'
        refine ⟨T[k'], ?_, C.den _ (hTS _ huT), fun x hx => ?_⟩
        · rw [List.length_cons, List.length_take, Nat.min_eq_left (by omega), List.getD_eq_getElem?_getD]
          simp only [Nat.add_sub_cancel, List.getElem?_cons_succ, List.getElem?_take]
          rw [if_pos (by omega), List.getElem?_eq_getElem hk']
          rfl
        · obtain ⟨φ, f0, ff⟩ := C.out T[k' + 1] (hTS _ htT)
          have hxT : x ∈ T := List.mem_of_mem_drop hx
          have h1 := o4 T[k'] hul T[k' + 1] List.mem_cons_self
          have h2 := o2 x hx
          refine four3 f0 (ff p0 (by simp) (hTp _ htT).symm) (ff _ (hTS _ huT) ?_) (ff x (hTS x hxT) ?_) h1 h2
          · intro e; rw [e, d3_same] at h1; omega
          · intro e; rw [e, d3_same] at h2; omega
    have hnto : T[k] ∉ p0 :: T.take k := fun h => by
      rcases List.mem_cons.1 h with e | h
      · exact hTp _ htT e
      · exact hnt h
    have hfind := next_find (l := p0 :: rest) (out := p0 :: T.take k) (t := T[k]) hu hden hnto (fun i h1 h2 h3 h4 => hlt _ (hbig _ (gd1 h2 default) h3 h4)) (p0 :: rest).length (Nat.le_refl _)
    have hstep : aroundTo (p0 :: rest) (k + 1) = (p0 :: T.take k) ++ [(p0 :: rest).getD (max (nextI (p0 :: rest) (p0 :: T.take k) (p0 :: rest).length) 0).toNat default] := by
      show aroundTo (p0 :: rest) k ++ _ = _
      rw [ih]
    rw [hstep]
    have hres : (p0 :: rest).getD (max (nextI (p0 :: rest) (p0 :: T.take k) (p0 :: rest).length) 0).toNat default = T[k] := by
      rcases hfind with ⟨h1, _⟩ | ⟨j, h1, h2⟩
      · exfalso
        obtain ⟨i, hi, he⟩ := List.getElem_of_mem ((hT _).1 htT)
        refine h1 (i + 1) (by omega) (by simpa using hi) ?_
        rw [List.getD_eq_getElem?_getD, List.getElem?_cons_succ, List.getElem?_eq_getElem hi]
        exact he
      · rw [h1, show (max (j : Int) 0).toNat = j by omega, h2]
    rw [hres, List.take_succ_eq_append_getElem hkT]
    rfl
theorem hull_split {S : List Corner} (h : 3 ≤ S.length) : ∃ p0 mid m, S = p0 :: (mid ++ [m]) ∧ mid ≠ [] := by
  match S, h with
  | p0 :: r, h =>
    rcases List.eq_nil_or_concat r with rfl | ⟨mid, m, rfl⟩
    · simp at h
    · refine ⟨p0, mid, m, by simp, ?_⟩
      rintro rfl
      simp at h
theorem hull_mem {th : Corner → Half} {S : List Corner} (C : Conv th S) (q : Corner) : q ∈ hullL S ↔ q ∈ S := by
  by_cases h : S.length < 3
  · have e : hullL S = S := by unfold hullL; rw [if_pos h]
    rw [e]
  · obtain ⟨p0, mid, m, rfl, hm⟩ := hull_split (Nat.le_of_not_lt h)
    rw [C.hull hm, List.mem_cons, C.round_mem, List.mem_cons]
theorem hull_len {th : Corner → Half} {S : List Corner} (C : Conv th S) : (hullL S).length = S.length := by
  by_cases h : S.length < 3
  · have e : hullL S = S := by unfold hullL; rw [if_pos h]
    rw [e]
  · obtain ⟨p0, mid, m, rfl, hm⟩ := hull_split (Nat.le_of_not_lt h)
    rw [C.hull hm, List.length_cons, C.round_len, List.length_cons]
/-- The specification's way around is the chain's hull. -/
theorem around_hull {th : Corner → Half} {S : List Corner} (C : Conv th S) (hS : S ≠ []) : aroundL S = hullL S := by
  unfold aroundL
  by_cases h : S.length < 3
  · have e : hullL S = S := by unfold hullL; rw [if_pos h]
    rw [e]
    match S, hS, h with
    | [p], _, _ => rfl
    | [p, q], _, _ => exact around_to (T := [q]) C (fun x => Iff.rfl) (by simp) 1 (by simp)
  · obtain ⟨p0, mid, m, rfl, hm⟩ := hull_split (Nat.le_of_not_lt h)
    have hl := C.round_len
    rw [C.hull hm, show (p0 :: (mid ++ [m])).length - 1 = (roundT p0 m mid).length by rw [hl]; simp]
    rw [around_to C (fun q => C.round_mem q) C.round_ord _ (Nat.le_refl _), List.take_length]
theorem cor_around {l : List Half} (hl : ∀ x ∈ l, okH x) (h : crsL l ≠ []) : aroundL (crsL l) = cornersL l := by
  rw [cornersL_eq hl, around_hull (crs_conv hl) h]
theorem cor_mem {l : List Half} (hl : ∀ x ∈ l, okH x) (q : Corner) : q ∈ cornersL l ↔ Vt (hsL l) q := by
  rw [cornersL_eq hl, hull_mem (crs_conv hl), crs_iff hl]
theorem cor_eq {l m : List Half} (hl : ∀ x ∈ l, okH x) (hm : ∀ x ∈ m, okH x) : cornersL l = cornersL m ↔ ∀ q, Vt (hsL l) q ↔ Vt (hsL m) q := by
  constructor
  · intro h q
    rw [← cor_mem hl, ← cor_mem hm, h]
  · intro h
    have : crsL l = crsL m := strict_unique (crsL_strict hl) (crsL_strict hm) fun q => by rw [crs_iff hl, crs_iff hm, h]
    rw [cornersL_eq hl, cornersL_eq hm, this]
/-! ### A system's polygon is empty exactly if no edges cross in it -/
theorem okS_of {l : List Half} (h : checkL l = 0) : OkS (hsL l) := by
  obtain ⟨n1, n2, n3⟩ := checkL_ok h
  refine ⟨sub_hsL l, hsL_ok n3, fun x hx => ?_⟩
  rcases List.mem_append.1 hx with hx | hx
  · have := n2 x hx
    unfold fit at this
    simp only [Bool.and_eq_true, Bool.or_eq_true, bne_iff_ne, ne_eq] at this
    exact this.1.2
  · have : ∀ y ∈ sidesL, y.A ≠ 0 ∨ y.B ≠ 0 := by decide
    exact this x hx
theorem vt_or_cert {hs : List Half} (S : OkS hs) : Cert hs ∨ ∃ q, Vt hs q := by
  rcases lp S (f := ⟨0, 0⟩) ⟨by decide, by decide⟩ with c | ⟨g, _, h, _, _, hV⟩
  · exact .inl c
  · exact .inr ⟨_, hV⟩
theorem vt_den {hs : List Half} {q : Corner} (h : Vt hs q) : 0 < q.Den := denV h.va
theorem fe_vt {hs : List Half} (S : OkS hs) {q : Corner} (hD : 0 < q.Den) (hq : Fe hs q) : ∃ p, Vt hs p := by
  rcases vt_or_cert S with c | h
  · exact (cert_no c hD hq).elim
  · exact h
theorem cert_iff {hs : List Half} (S : OkS hs) : Cert hs ↔ ¬ ∃ q, Vt hs q := by
  constructor
  · rintro c ⟨q, hq⟩; exact cert_no c (vt_den hq) hq.fe
  · intro h
    rcases vt_or_cert S with c | h'
    · exact c
    · exact absurd h' h
theorem cor_nil_iff {l : List Half} (hl : ∀ x ∈ l, okH x) : cornersL l = [] ↔ ¬ ∃ q, Vt (hsL l) q := by
  constructor
  · rintro h ⟨q, hq⟩
    have := (cor_mem hl q).2 hq
    rw [h] at this
    cases this
  · intro h
    refine List.eq_nil_iff_forall_not_mem.2 fun q hq => h ⟨q, (cor_mem hl q).1 hq⟩
/-- Of a point of the polygon a corner has as great a value. -/
theorem vt_max {hs : List Half} (S : OkS hs) {f : Form} (hf : okF4 f) {q : Corner} (hD : 0 < q.Den) (hq : Fe hs q) : ∃ p, Vt hs p ∧ (f.X * q.X + f.Y * q.Y) * p.Den ≤ (f.X * p.X + f.Y * p.Y) * q.Den ∧
    ∀ r, 0 < r.Den → Fe hs r → (f.X * r.X + f.Y * r.Y) * p.Den ≤ (f.X * p.X + f.Y * p.Y) * r.Den := by
  rcases lp S hf with c | ⟨g, hg, h, hh, D, hV⟩
  · exact (cert_no c hD hq).elim
  · have key : ∀ r, 0 < r.Den → Fe hs r → (f.X * r.X + f.Y * r.Y) * (crossing g h).Den ≤ (f.X * (crossing g h).X + f.Y * (crossing g h).Y) * r.Den := fun r hr hrF => by
      have hd := D.d
      have w := weak_dual D (hrF g hg) (hrF h hh)
      obtain ⟨t1, t2⟩ := crossing_tight (g := g) (h := h) (by omega)
      have e : det g h * (f.X * (crossing g h).X + f.Y * (crossing g h).Y) - num f g h * (crossing g h).Den = fx f h * ef g (crossing g h) - fx f g * ef h (crossing g h) := by
        unfold num fx ef
        simp only [det_def]
        grind
      rw [t1, t2] at e
      simp at e
      have hp := vt_den hV
      have w2 := Int.mul_le_mul_of_nonneg_right w (Int.le_of_lt hp)
      have e2 : num f g h * r.Den * (crossing g h).Den = det g h * ((f.X * (crossing g h).X + f.Y * (crossing g h).Y) * r.Den) := by grind
      have e3 : det g h * (f.X * r.X + f.Y * r.Y) * (crossing g h).Den = det g h * ((f.X * r.X + f.Y * r.Y) * (crossing g h).Den) := by grind
      rw [e2, e3] at w2
      exact Int.le_of_mul_le_mul_left w2 hd
    exact ⟨crossing g h, hV, key q hD hq, key⟩
end Go.Pg
/-
  Plain geometry: polygons, their corners, and half-planes that hold in them. The search for a proof finds one exactly if there is no corner.
-/
set_option linter.all false
namespace Go.Pg
open Go.Proofs Go.RowKit

/-- A half-plane holds at all corners exactly if it holds at all points. -/
theorem holds_iff {hs : List Half} (S : OkS hs) {h : Half} (hh : okH h) : (∀ p, Vt hs p → ef h p ≤ 0) ↔ ∀ q, 0 < q.Den → Fe hs q → ef h q ≤ 0 := by
  constructor
  · intro H q hD hq
    refine Int.not_lt.1 fun hlt => ?_
    obtain ⟨p, hp, hm, _⟩ := vt_max S (f := ⟨h.A, h.B⟩) ⟨by have := hh.a; show -4000 ≤ h.A ∧ h.A ≤ 4000; omega, by have := hh.b; show -4000 ≤ h.B ∧ h.B ≤ 4000; omega⟩ hD hq
    have h1 := H p hp
    have hpD := vt_den hp
    unfold ef at h1 hlt
    simp only at hm
    have a1 := Int.mul_lt_mul_of_pos_right (show h.C * q.Den < h.A * q.X + h.B * q.Y by omega) hpD
    have a2 := Int.mul_le_mul_of_nonneg_right (show h.A * p.X + h.B * p.Y ≤ h.C * p.Den by omega) (Int.le_of_lt hD)
    have e : h.C * q.Den * p.Den = h.C * p.Den * q.Den := by grind
    omega
  · exact fun H p hp => H p (vt_den hp) hp.fe
theorem fe_mono {hs hs' : List Half} (h : ∀ x ∈ hs, x ∈ hs') {q : Corner} (hq : Fe hs' q) : Fe hs q := fun x hx => hq x (h x hx)
/-- Two systems have the same corners exactly if they have the same points. -/
theorem vt_same {hs hs' : List Half} (S : OkS hs) (S' : OkS hs') : (∀ q, Vt hs q ↔ Vt hs' q) ↔ ∀ q, 0 < q.Den → (Fe hs q ↔ Fe hs' q) := by
  constructor
  · intro H q hD
    constructor
    · intro hq h hh
      exact (holds_iff S (S'.ok h hh)).1 (fun p hp => ((H p).1 hp).fe h hh) q hD hq
    · intro hq h hh
      exact (holds_iff S' (S.ok h hh)).1 (fun p hp => ((H p).2 hp).fe h hh) q hD hq
  · intro H
    have key : ∀ {hs hs' : List Half}, OkS hs → OkS hs' → (∀ q, 0 < q.Den → (Fe hs q ↔ Fe hs' q)) → ∀ p, Vt hs p → Vt hs' p := fun {hs hs'} S S' H p hp => by
      obtain ⟨g, hg, h, hh, hd, t1, t2⟩ := hp.ti
      have og := S.ok g hg
      have oh := S.ok h hh
      have hpD := vt_den hp
      obtain ⟨r, hr, hm, _⟩ := vt_max S' (f := ⟨g.A + h.A, g.B + h.B⟩) ⟨by have := og.a; have := oh.a; show -4000 ≤ g.A + h.A ∧ g.A + h.A ≤ 4000; omega, by have := og.b; have := oh.b; show -4000 ≤ g.B + h.B ∧ g.B + h.B ≤ 4000; omega⟩ hpD ((H p hpD).1 hp.fe)
      have hrF := (H r (vt_den hr)).2 hr.fe
      have r1 := hrF g hg
      have r2 := hrF h hh
      have hrD := vt_den hr
      have e1 : ((g.A + h.A) * r.X + (g.B + h.B) * r.Y) * p.Den - ((g.A + h.A) * p.X + (g.B + h.B) * p.Y) * r.Den = p.Den * (ef g r + ef h r) - r.Den * (ef g p + ef h p) := by unfold ef; grind
      rw [t1, t2] at e1
      simp at e1
      simp only at hm
      have h0 : 0 ≤ ef g r + ef h r := by
        refine Int.not_lt.1 fun hlt => ?_
        have := Int.mul_neg_of_pos_of_neg hpD hlt
        omega
      have : p = r := tight_unique hp.va hr.va hd t1 t2 (by omega) (by omega)
      rw [this]; exact hr
    exact fun q => ⟨key S S' H q, key S' S (fun q hD => (H q hD).symm) q⟩
/-! ### The search -/
theorem most_nrm (h : Half) : most h = nrm h := by unfold most nrm; omega
theorem two_iff (g h : Num) : two g h ≠ none ↔ Cert2 g.h h.h := by
  have e : two g h ≠ none ↔ opp g.h h.h = true ∧ scS g.h h.h * g.h.C + scT g.h h.h * h.h.C < 0 := by
    unfold two
    split
    · rename_i h1; simp [h1]
    · rename_i h1; simp [h1]
  rw [e]
  unfold scS scT opp Cert2
  simp only [most_nrm, Bool.and_eq_true, beq_iff_eq, decide_eq_true_eq]
  constructor
  · rintro ⟨h1, h2⟩
    rw [if_pos h1, if_pos h1] at h2
    exact ⟨h1.1, h1.2, h2⟩
  · rintro ⟨h1, h2, h3⟩
    refine ⟨⟨h1, h2⟩, ?_⟩
    rw [if_pos ⟨h1, h2⟩, if_pos ⟨h1, h2⟩]
    exact h3
/-- Three half-planes have no common point, in whatever order. -/
def Tri (g h j : Half) : Prop := Cert3 g h j ∨ Cert3 h g j
theorem three_iff (g h j : Num) : three g h j ≠ none ↔ Tri g.h h.h j.h := by
  have e : three g h j ≠ none ↔ (0 < triA g.h h.h j.h ∧ 0 < triB g.h h.h j.h ∧ 0 < triC g.h h.h j.h) ∧ triA g.h h.h j.h * g.h.C + triB g.h h.h j.h * h.h.C + triC g.h h.h j.h * j.h.C < 0 := by
    unfold three
    split
    · rename_i h1; simp [h1]
    · rename_i h1; simp [h1]
  rw [e]
  unfold triA triB triC flip Tri Cert3
  have s1 := det_swap h.h j.h
  have s2 := det_swap j.h g.h
  have s3 := det_swap g.h h.h
  by_cases hn : det h.h j.h < 0
  · simp only [if_pos hn]
    have e1 : det g.h j.h * h.h.C + det j.h h.h * g.h.C + det h.h g.h * j.h.C = -(det h.h j.h * g.h.C + det j.h g.h * h.h.C + det g.h h.h * j.h.C) := by rw [s1, s2, s3]; grind
    have e2 : -det h.h j.h * g.h.C + -det j.h g.h * h.h.C + -det g.h h.h * j.h.C = -(det h.h j.h * g.h.C + det j.h g.h * h.h.C + det g.h h.h * j.h.C) := by grind
    rw [e1, e2, s1, s2, s3]
    constructor
    · rintro ⟨⟨h1, h2, h3⟩, h4⟩; exact .inr ⟨h2, h1, h3, h4⟩
    · rintro (⟨h1, h2, h3, h4⟩ | ⟨h1, h2, h3, h4⟩)
      · omega
      · exact ⟨⟨h2, h1, h3⟩, h4⟩
  · simp only [if_neg hn]
    constructor
    · rintro ⟨⟨h1, h2, h3⟩, h4⟩; exact .inl ⟨h1, h2, h3, h4⟩
    · rintro (⟨h1, h2, h3, h4⟩ | ⟨h1, h2, h3, h4⟩)
      · exact ⟨⟨h1, h2, h3⟩, h4⟩
      · omega
theorem cert2_comm {g h : Half} (c : Cert2 g h) : Cert2 h g := by
  obtain ⟨c1, c2, c3⟩ := c
  refine ⟨by rw [det_swap]; omega, by rw [Int.mul_comm, Int.mul_comm h.B]; exact c2, by omega⟩
theorem cert3_rot {g h j : Half} (c : Cert3 g h j) : Cert3 h j g := by
  obtain ⟨c1, c2, c3, c4⟩ := c
  exact ⟨c2, c3, c1, by omega⟩
theorem tri_rot {g h j : Half} (c : Tri g h j) : Tri h j g := by
  rcases c with c | c
  · exact .inl (cert3_rot c)
  · exact .inr (cert3_rot (cert3_rot c))
theorem tri_swap {g h j : Half} (c : Tri g h j) : Tri h g j := c.elim .inr .inl
theorem findJ_none {L : List Num} {i k : Nat} : ∀ {m}, findJ L i k m = none ↔ ∀ j, j < m → three (L.getD i default) (L.getD k default) (L.getD j default) = none
  | 0 => by simp [findJ]
  | m + 1 => by
    simp only [findJ, Option.or_eq_none_iff, findJ_none (m := m)]
    constructor
    · rintro ⟨h1, h2⟩ j hj
      rcases Nat.lt_or_ge j m with h | h
      · exact h1 j h
      · obtain rfl : j = m := by omega
        exact h2
    · exact fun h => ⟨fun j hj => h j (by omega), h m (by omega)⟩
theorem findK_none {L : List Num} {i : Nat} : ∀ {m}, findK L i m = none ↔ ∀ k, k < m → two (L.getD i default) (L.getD k default) = none ∧ ∀ j, j < k → three (L.getD i default) (L.getD k default) (L.getD j default) = none
  | 0 => by simp [findK]
  | m + 1 => by
    simp only [findK, Option.or_eq_none_iff, findK_none (m := m), findJ_none]
    constructor
    · rintro ⟨h1, h2⟩ j hj
      rcases Nat.lt_or_ge j m with h | h
      · exact h1 j h
      · obtain rfl : j = m := by omega
        exact h2
    · exact fun h => ⟨fun j hj => h j (by omega), h m (by omega)⟩
theorem findI_none {L : List Num} : ∀ {m}, findI L m = none ↔ ∀ i, i < m → ∀ k, k < i → two (L.getD i default) (L.getD k default) = none ∧ ∀ j, j < k → three (L.getD i default) (L.getD k default) (L.getD j default) = none
  | 0 => by simp [findI]
  | m + 1 => by
    simp only [findI, Option.or_eq_none_iff, findI_none (m := m), findK_none]
    constructor
    · rintro ⟨h1, h2⟩ j hj
      rcases Nat.lt_or_ge j m with h | h
      · exact h1 j h
      · obtain rfl : j = m := by omega
        exact h2
    · exact fun h => ⟨fun j hj => h j (by omega), h m (by omega)⟩
theorem findJ_some {L : List Num} {i k : Nat} {x : List Use} : ∀ {m}, findJ L i k m = some x → ∃ j, j < m ∧ three (L.getD i default) (L.getD k default) (L.getD j default) = some x
  | 0, h => by cases h
  | m + 1, h => by
    simp only [findJ] at h
    cases hj : findJ L i k m with
    | none => rw [hj, Option.none_or] at h; exact ⟨m, by omega, h⟩
    | some y =>
      rw [hj, Option.some_or] at h
      cases h
      obtain ⟨j, h1, h2⟩ := findJ_some hj
      exact ⟨j, by omega, h2⟩
theorem findK_some {L : List Num} {i : Nat} {x : List Use} : ∀ {m}, findK L i m = some x → ∃ k, k < m ∧ (two (L.getD i default) (L.getD k default) = some x ∨ ∃ j, j < k ∧ three (L.getD i default) (L.getD k default) (L.getD j default) = some x)
  | 0, h => by cases h
  | m + 1, h => by
    simp only [findK] at h
    cases hk : findK L i m with
    | none =>
      rw [hk, Option.none_or] at h
      cases ht : two (L.getD i default) (L.getD m default) with
      | none => rw [ht, Option.none_or] at h; exact ⟨m, by omega, .inr (findJ_some h)⟩
      | some y => rw [ht, Option.some_or] at h; cases h; exact ⟨m, by omega, .inl ht⟩
    | some y =>
      rw [hk, Option.some_or] at h
      cases h
      obtain ⟨k, h1, h2⟩ := findK_some hk
      exact ⟨k, by omega, h2⟩
theorem findI_some {L : List Num} {x : List Use} : ∀ {m}, findI L m = some x → ∃ i, i < m ∧ ∃ k, k < i ∧ (two (L.getD i default) (L.getD k default) = some x ∨ ∃ j, j < k ∧ three (L.getD i default) (L.getD k default) (L.getD j default) = some x)
  | 0, h => by cases h
  | m + 1, h => by
    simp only [findI] at h
    cases hk : findI L m with
    | none => rw [hk, Option.none_or] at h; exact ⟨m, by omega, findK_some h⟩
    | some y =>
      rw [hk, Option.some_or] at h
      cases h
      obtain ⟨i, h1, h2⟩ := findI_some hk
      exact ⟨i, by omega, h2⟩
/-- What the search finds: two half-planes, or three. -/
theorem ref_found {l : List Half} (h : refL l ≠ []) : ∃ x y, x ∈ allL l ∧ y ∈ allL l ∧ (two x y = some (refL l) ∨ ∃ z, z ∈ allL l ∧ three x y z = some (refL l)) := by
  have e : refL l = (findI (allL l) (allL l).length).getD [] := by unfold refL; rfl
  cases hf : findI (allL l) (allL l).length with
  | none => rw [hf] at e; exact absurd e h
  | some u =>
    rw [hf] at e
    have e : refL l = u := e
    obtain ⟨i, hi, k, hk, hc⟩ := findI_some hf
    refine ⟨_, _, gd1 hi default, gd1 (show k < (allL l).length by omega) default, ?_⟩
    rw [e]
    rcases hc with hc | ⟨j, hj, hc⟩
    · exact .inl hc
    · exact .inr ⟨_, gd1 (show j < (allL l).length by omega) default, hc⟩
theorem cert2_ne {g h : Half} (c : Cert2 g h) : g ≠ h := by
  rintro rfl
  have h2 := c.2.1
  have p : ∀ x : Int, 0 ≤ x * x := fun x => by
    rcases Int.le_total 0 x with q | q
    · exact Int.mul_nonneg q q
    · exact Int.mul_nonneg_of_nonpos_of_nonpos q q
  have := p g.A
  have := p g.B
  omega
theorem det_self (g : Half) : det g g = 0 := by rw [det_def]; grind
theorem ref_iff (l : List Half) : refL l ≠ [] ↔ Cert (hsL l) := by
  constructor
  · intro h
    obtain ⟨x, y, hx, hy, hc⟩ := ref_found h
    have mx : x.h ∈ hsL l := by rw [← allL_h]; exact List.mem_map.2 ⟨_, hx, rfl⟩
    have my : y.h ∈ hsL l := by rw [← allL_h]; exact List.mem_map.2 ⟨_, hy, rfl⟩
    rcases hc with hc | ⟨z, hz, hc⟩
    · exact .inl ⟨x.h, mx, y.h, my, (two_iff x y).1 (by rw [hc]; simp)⟩
    · have mz : z.h ∈ hsL l := by rw [← allL_h]; exact List.mem_map.2 ⟨_, hz, rfl⟩
      rcases (three_iff x y z).1 (by rw [hc]; simp) with c | c
      · exact .inr ⟨x.h, mx, y.h, my, z.h, mz, c⟩
      · exact .inr ⟨y.h, my, x.h, mx, z.h, mz, c⟩
  · intro c hn
    have hnone : findI (allL l) (allL l).length = none := by
      cases hf : findI (allL l) (allL l).length with
      | none => rfl
      | some u =>
        exfalso
        have e : refL l = u := by unfold refL; rw [hf]; rfl
        obtain ⟨i, hi, k, hk, hc⟩ := findI_some hf
        rw [← e, hn] at hc
        rcases hc with hc | ⟨j, hj, hc⟩
        · unfold two at hc
          split at hc <;> cases hc
        · unfold three at hc
          split at hc <;> cases hc
    rw [findI_none] at hnone
    have idx : ∀ h ∈ hsL l, ∃ i, i < (allL l).length ∧ ((allL l).getD i default).h = h := fun h hh => by
      rw [← allL_h] at hh
      obtain ⟨x, hx, rfl⟩ := List.mem_map.1 hh
      obtain ⟨i, hi, rfl⟩ := List.getElem_of_mem hx
      exact ⟨i, hi, by rw [gdI hi]⟩
    have pair : ∀ a b, a < (allL l).length → b < a → ¬ Cert2 ((allL l).getD a default).h ((allL l).getD b default).h := fun a b ha hb c => (two_iff _ _).2 c (hnone a ha b hb).1
    have trip : ∀ a b c, a < (allL l).length → b < a → c < b → ¬ Tri ((allL l).getD a default).h ((allL l).getD b default).h ((allL l).getD c default).h := fun a b c ha hb hc t => (three_iff _ _ _).2 t ((hnone a ha b hb).2 c hc)
    rcases c with ⟨g, hg, h, hh, c⟩ | ⟨g, hg, h, hh, j, hj, c⟩
    · obtain ⟨a, ha, rfl⟩ := idx g hg
      obtain ⟨b, hb, rfl⟩ := idx h hh
      rcases Nat.lt_trichotomy a b with q | q | q
      · exact pair b a hb q (cert2_comm c)
      · subst q; exact cert2_ne c rfl
      · exact pair a b ha q c
    · obtain ⟨a, ha, rfl⟩ := idx g hg
      obtain ⟨b, hb, rfl⟩ := idx h hh
      obtain ⟨d, hd, rfl⟩ := idx j hj
      have nab : a ≠ b := by rintro rfl; have := c.2.2.1; rw [det_self] at this; omega
      have nbd : b ≠ d := by rintro rfl; have := c.1; rw [det_self] at this; omega
      have nad : a ≠ d := by rintro rfl; have := c.2.1; rw [det_self] at this; omega
      have t : Tri ((allL l).getD a default).h ((allL l).getD b default).h ((allL l).getD d default).h := .inl c
      rcases Nat.lt_or_gt_of_ne nab with p | p <;> rcases Nat.lt_or_gt_of_ne nbd with q | q <;> rcases Nat.lt_or_gt_of_ne nad with r | r
      · exact trip d b a hd q p (tri_swap (tri_rot t))
      · omega
      · exact trip b d a hb q r (tri_rot t)
      · exact trip b a d hb p r (tri_swap t)
      · exact trip d a b hd r p (tri_rot (tri_rot t))
      · exact trip a d b ha r q (tri_swap (tri_rot (tri_rot t)))
      · omega
      · exact trip a b d ha p q t
end Go.Pg
