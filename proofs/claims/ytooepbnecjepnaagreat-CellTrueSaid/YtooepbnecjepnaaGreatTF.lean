/- Texts joined and shortened by program. -/
import Derived.Test.YtooepbnecjepnaaGreatTE
set_option maxHeartbeats 4000000
set_option linter.all false
namespace Go.Pg
open Go.Proofs Go.RowKit
def fx (F : Form) (h : Half) : Int := F.X * h.B - F.Y * h.A
theorem zai (g h : Half) : det g h = g.A * h.B - h.A * g.B := by unfold det; rfl
structure Df (F : Form) (g h : Half) : Prop where
  d : 0 < det g h
  s : 0 <= fx F h
  t : fx F g <= 0
def Cert3 (g h j : Half) : Prop := 0 < det h j /\ 0 < det j g /\ 0 < det g h /\ det h j * g.C + det j g * h.C + det g h * j.C < 0
def nrm (h : Half) : Int := max (max h.A (-h.A)) (max h.B (-h.B))
def Cert2 (g h : Half) : Prop := det g h = 0 /\ g.A * h.A + g.B * h.B < 0 /\ nrm h * g.C + nrm g * h.C < 0
def Cert (hs : List Half) : Prop := (∃ g ∈ hs, ∃ h ∈ hs, Cert2 g h) \/ ∃ g ∈ hs, ∃ h ∈ hs, ∃ j ∈ hs, Cert3 g h j
def num (F : Form) (g h : Half) : Int := fx F h * g.C - fx F g * h.C
theorem zev {α : Type} (n d : α -> Int) : ∀ (l : List α), (∀ x ∈ l, 0 < d x) -> l ≠ [] -> ∃ x ∈ l, ∀ y ∈ l, n x * d y <= n y * d x
  | [x], _, _ => ⟨x, by simp, fun y hy => by obtain rfl : y = x := by simpa using hy
                                             exact Int.le_refl _⟩
  | x :: y :: r, hd, _ => by
    obtain ⟨z, hz, hm⟩ := zev n d (y :: r) (fun u hu => hd u (List.mem_cons_of_mem _ hu)) (by simp)
    have dx := hd x (by simp)
    have dz := hd z (List.mem_cons_of_mem _ hz)
    rcases Int.le_total (n x * d z) (n z * d x) with h | h
    · refine ⟨x, by simp, fun u hu => ?_⟩
      have du := hd u hu
      rcases List.mem_cons.1 hu with rfl | hu
      · exact Int.le_refl _
      · exact zbp dz dx du h (hm u hu)
    · refine ⟨z, List.mem_cons_of_mem _ hz, fun u hu => ?_⟩
      rcases List.mem_cons.1 hu with rfl | hu
      · exact h
      · exact hm u hu
section
variable {F : Form} {g h j : Half}
def jay (g h j : Half) : Int := -(det h j * g.C + det j g * h.C + det g h * j.C)
theorem pivA (D : Df F g h) (hJ : 0 < jay g h j) (ha : 0 < det j h) (hs : 0 < fx F h) (ht : fx F j <= 0) : Df F j h /\ num F j h * det g h < num F g h * det j h := by
 refine ⟨⟨ha, D.s, ht⟩, ?_⟩
 have e : num F j h * det g h - num F g h * det j h = -(fx F h * jay g h j) := by
  unfold num jay fx
  simp only [zai]
  grind
 have := Int.mul_pos hs hJ
 omega
theorem pivB (D : Df F g h) (hJ : 0 < jay g h j) (hb : 0 < det g j) (ht : fx F g < 0) (hs : 0 <= fx F j) : Df F g j /\ num F g j * det g h < num F g h * det g j := by
 refine ⟨⟨hb, hs, D.t⟩, ?_⟩
 have e : num F g j * det g h - num F g h * det g j = fx F g * jay g h j := by
  unfold num jay fx
  simp only [zai]
  grind
 have := Int.mul_neg_of_neg_of_pos ht hJ
 omega
theorem zeu (h : Half) : 0 <= nrm h := by unfold nrm; omega
theorem zfM {b d : Int} (hb : 0 < b) (hd : 0 < d) (hA : d * j.A = -(b * h.A)) (hB : d * j.B = -(b * h.B)) : d * nrm j = b * nrm h := by
 have m2 : ∀ (c x y : Int), 0 < c -> c * max x y = max (c * x) (c * y) := fun c x y hc => by
  rcases Int.le_total x y with h | h
  ·rw [Int.max_eq_right h, Int.max_eq_right (Int.mul_le_mul_of_nonneg_left h (by omega))]
  ·rw [Int.max_eq_left h, Int.max_eq_left (Int.mul_le_mul_of_nonneg_left h (by omega))]
 unfold nrm
 simp only [m2 d _ _ hd, m2 b _ _ hb, Int.mul_neg, hA, hB]
 omega
theorem zh0 {d b : Int} (hd : 0 < d) (hb : 0 < b) (hA : d * j.A = -(b * h.A)) (hB : d * j.B = -(b * h.B)) (hh : h.A ≠ 0 \/ h.B ≠ 0) (hs : b * h.C + d * j.C < 0) : Cert2 h j := by
 have hsq : 0 < h.A * h.A + h.B * h.B := by
  rcases hh with e | e
  ·have h1 : 0 < h.A * h.A := by
    rcases Int.lt_or_gt_of_ne e with g | g
    ·exact Int.mul_pos_of_neg_of_neg g g
    ·exact Int.mul_pos g g
   have h2 : 0 <= h.B * h.B := by
    rcases Int.le_total 0 h.B with g | g
    ·exact Int.mul_nonneg g g
    ·exact Int.mul_nonneg_of_nonpos_of_nonpos g g
   omega
  ·have h1 : 0 < h.B * h.B := by
    rcases Int.lt_or_gt_of_ne e with g | g
    ·exact Int.mul_pos_of_neg_of_neg g g
    ·exact Int.mul_pos g g
   have h2 : 0 <= h.A * h.A := by
    rcases Int.le_total 0 h.A with g | g
    ·exact Int.mul_nonneg g g
    ·exact Int.mul_nonneg_of_nonpos_of_nonpos g g
   omega
 have hn := zfM (h := h) hb hd hA hB
 refine ⟨?_, ?_, ?_⟩
 ·have : d * det h j = 0 := by rw [zai]; grind
  rcases Int.mul_eq_zero.1 this with e | e
  ·omega
  ·exact e
 ·have e : d * (h.A * j.A + h.B * j.B) = -(b * (h.A * h.A + h.B * h.B)) := by grind
  have := Int.mul_pos hb hsq
  exact znj hd (by omega)
 ·have hpos : 0 < nrm h := by unfold nrm; omega
  have e : d * (nrm j * h.C + nrm h * j.C) = nrm h * (b * h.C + d * j.C) := by grind
  have := Int.mul_neg_of_pos_of_neg hpos hs
  exact znj hd (by omega)
theorem pivot (D : Df F g h) (hJ : 0 < jay g h j) (hs : 0 < fx F h) (ht : fx F g < 0) (hj : j.A ≠ 0 \/ j.B ≠ 0) (hg : g.A ≠ 0 \/ g.B ≠ 0) (hh : h.A ≠ 0 \/ h.B ≠ 0) :
  Cert3 g h j \/ Cert2 h j \/ Cert2 g j \/ (Df F j h /\ num F j h * det g h < num F g h * det j h) \/ (Df F g j /\ num F g j * det g h < num F g h * det g j) := by
 have hd := D.d
 have ej : det g h * fx F j = det j h * fx F g + det g j * fx F h := by unfold fx; simp only [zai]; grind
 have swA : det j h = -det h j := zcB h j
 have swB : det g j = -det j g := zcB j g
 have eA : det g h * j.A = det j h * g.A + det g j * h.A := by simp only [zai]; grind
 have eB : det g h * j.B = det j h * g.B + det g j * h.B := by simp only [zai]; grind
 unfold jay at hJ
 by_cases ha : 0 < det j h
 ·by_cases hq : fx F j <= 0
  ·exact .inr (.inr (.inr (.inl (pivA D (by unfold jay; exact hJ) ha hs hq))))
  ·have h1 := Int.mul_pos hd (show 0 < fx F j by omega)
   have h2 := Int.mul_neg_of_pos_of_neg ha ht
   have hb : 0 < det g j := by
    have h3 : 0 < fx F h * det g j := by rw [Int.mul_comm]; omega
    exact zjs hs h3
   exact .inr (.inr (.inr (.inr (pivB D (by unfold jay; exact hJ) hb ht (by omega)))))
 ·by_cases hb : 0 < det g j
  ·have h2 : 0 <= det j h * fx F g := Int.mul_nonneg_of_nonpos_of_nonpos (by omega) (by omega)
   have h3 := Int.mul_pos hb hs
   have hq : 0 < fx F j := zjs hd (by omega)
   exact .inr (.inr (.inr (.inr (pivB D (by unfold jay; exact hJ) hb ht (by omega)))))
  ·rcases Int.lt_or_eq_of_le (show det j h <= 0 by omega) with ha' | ha' <;> rcases Int.lt_or_eq_of_le (show det g j <= 0 by omega) with hb' | hb'
   ·exact .inl ⟨by omega, by omega, hd, by omega⟩
   ·-- j is opposite to g
    refine .inr (.inr (.inl (zh0 (d := det g h) (b := -det j h) hd (by omega) ?_ ?_ hg ?_)))
    ·rw [eA, hb']; grind
    ·rw [eB, hb']; grind
    ·have : det j g = 0 := by omega
     rw [this] at hJ
     rw [show -det j h = det h j by omega]
     omega
   ·refine .inr (.inl (zh0 (d := det g h) (b := -det g j) hd (by omega) ?_ ?_ hh ?_))
    ·rw [eA, ha']; grind
    ·rw [eB, ha']; grind
    ·have : det h j = 0 := by omega
     rw [this] at hJ
     rw [show -det g j = det j g by omega]
     omega
   ·exfalso
    rw [ha', hb'] at eA eB
    rcases hj with e | e
    ·have : det g h * j.A = 0 := by rw [eA]; simp
     rcases Int.mul_eq_zero.1 this with h | h
     ·omega
     ·exact e h
    ·have : det g h * j.B = 0 := by rw [eB]; simp
     rcases Int.mul_eq_zero.1 this with h | h
     ·omega
     ·exact e h
end
def dualB (F : Form) (x : Half × Half) : Bool := decide (0 < det x.1 x.2) && decide (0 <= fx F x.2) && decide (fx F x.1 <= 0)
theorem zf7 {F : Form} {x : Half × Half} : dualB F x = true ↔ Df F x.1 x.2 := by
 unfold dualB
 simp only [Bool.and_eq_true, decide_eq_true_eq]
 exact ⟨fun h => ⟨h.1.1, h.1.2, h.2⟩, fun h => ⟨⟨h.d, h.s⟩, h.t⟩⟩
theorem zkK (F : Form) : ∃ g ∈ sidesL, ∃ h ∈ sidesL, Df F g h := by
 rcases Int.le_total 0 F.X with hx | hx <;> rcases Int.le_total 0 F.Y with hy | hy
 ·exact ⟨⟨1, 0, 48⟩, by decide, ⟨0, 1, 48⟩, by decide, ⟨by rw [zai]; decide, by simp only [fx]; omega, by simp only [fx]; omega⟩⟩
 ·exact ⟨⟨0, -1, 0⟩, by decide, ⟨1, 0, 48⟩, by decide, ⟨by rw [zai]; decide, by simp only [fx]; omega, by simp only [fx]; omega⟩⟩
 ·exact ⟨⟨0, 1, 48⟩, by decide, ⟨-1, 0, 0⟩, by decide, ⟨by rw [zai]; decide, by simp only [fx]; omega, by simp only [fx]; omega⟩⟩
 ·exact ⟨⟨-1, 0, 0⟩, by decide, ⟨0, -1, 0⟩, by decide, ⟨by rw [zai]; decide, by simp only [fx]; omega, by simp only [fx]; omega⟩⟩
theorem lp_gen {hs : List Half} (hsub : ∀ h ∈ sidesL, h ∈ hs) (nz : ∀ h ∈ hs, h.A ≠ 0 \/ h.B ≠ 0) (F : Form) (gen : ∀ h ∈ hs, fx F h ≠ 0) :
  Cert hs \/ ∃ g ∈ hs, ∃ h ∈ hs, Df F g h /\ ∀ j ∈ hs, jay g h j <= 0 := by
 by_cases hc : Cert hs
 ·exact .inl hc
 refine .inr ?_
 have hmem : ∀ g h, (g, h) ∈ (hs.flatMap fun g => hs.map fun h => (g, h)).filter (dualB F) ↔ (g ∈ hs /\ h ∈ hs) /\ Df F g h := fun g h => by
  rw [List.mem_filter, zf7, List.mem_flatMap]
  simp only [List.mem_map, Prod.mk.injEq]
  constructor
  ·rintro ⟨⟨a, ha, b, hb, rfl, rfl⟩, hD⟩
   exact ⟨⟨ha, hb⟩, hD⟩
  ·rintro ⟨⟨ha, hb⟩, hD⟩
   exact ⟨⟨g, ha, h, hb, rfl, rfl⟩, hD⟩
 obtain ⟨g0, hg0, h0, hh0, hD0⟩ := zkK F
 obtain ⟨⟨g, h⟩, hx, hmin⟩ := zev (fun x : Half × Half => num F x.1 x.2) (fun x => det x.1 x.2) ((hs.flatMap fun g => hs.map fun h => (g, h)).filter (dualB F))
  (fun x hx => (zf7.1 (List.mem_filter.1 hx).2).d) (List.ne_nil_of_mem ((hmem g0 h0).2 ⟨⟨hsub _ hg0, hsub _ hh0⟩, hD0⟩))
 obtain ⟨⟨hg, hh⟩, hD⟩ := (hmem g h).1 hx
 refine ⟨g, hg, h, hh, hD, fun j hj => ?_⟩
 refine Int.not_lt.1 fun hJ => ?_
 have g1 := gen h hh
 have g2 := gen g hg
 have s1 := hD.s
 have t1 := hD.t
 rcases pivot hD hJ (by omega) (by omega) (nz j hj) (nz g hg) (nz h hh) with c | c | c | ⟨c1, c2⟩ | ⟨c1, c2⟩
 ·exact hc (.inr ⟨g, hg, h, hh, j, hj, c⟩)
 ·exact hc (.inl ⟨h, hh, j, hj, c⟩)
 ·exact hc (.inl ⟨g, hg, j, hj, c⟩)
 ·have := hmin (j, h) ((hmem j h).2 ⟨⟨hj, hh⟩, c1⟩)
  simp only at this
  omega
 ·have := hmin (g, j) ((hmem g j).2 ⟨⟨hg, hj⟩, c1⟩)
  simp only at this
  omega
def nearF (f : Form) : Form := ⟨10000000 * f.X - f.Y, 10000000 * f.Y + f.X⟩
theorem zkA (f : Form) (h : Half) : fx (nearF f) h = 10000000 * fx f h - (f.X * h.A + f.Y * h.B) := by unfold fx nearF; grind
structure okF4 (f : Form) : Prop where
  x : -4000 <= f.X /\ f.X <= 4000
  y : -4000 <= f.Y /\ f.Y <= 4000
theorem okF.to4 {f : Form} (h : okF f) : okF4 f := ⟨by have := h.x; omega, by have := h.y; omega⟩
theorem zgG {f : Form} (hf : okF4 f) {h : Half} (hh : okH h) : -8000000 <= f.X * h.A + f.Y * h.B /\ f.X * h.A + f.Y * h.B <= 8000000 := by
 have h1 := mulB hf.x hh.a
 have h2 := mulB hf.y hh.b
 omega
theorem zfx {a b : Int} (h : a ≠ 0 \/ b ≠ 0) : 0 < a * a + b * b := by
 have p : ∀ x : Int, 0 <= x * x := fun x => by
  rcases Int.le_total 0 x with g | g
  ·exact Int.mul_nonneg g g
  ·exact Int.mul_nonneg_of_nonpos_of_nonpos g g
 have q : ∀ x : Int, x ≠ 0 -> 0 < x * x := fun x hx => by
  rcases Int.lt_or_gt_of_ne hx with g | g
  ·exact Int.mul_pos_of_neg_of_neg g g
  ·exact Int.mul_pos g g
 have pa := p a
 have pb := p b
 rcases h with h | h
 ·have := q a h; omega
 ·have := q b h; omega
theorem zmc {f : Form} (hf : okF4 f) (h0 : f.X ≠ 0 \/ f.Y ≠ 0) {h : Half} (hh : okH h) (hn : h.A ≠ 0 \/ h.B ≠ 0) : fx (nearF f) h ≠ 0 := by
 rw [zkA]
 have hb := zgG hf hh
 by_cases hz : fx f h = 0
 ·intro e
  have e1 : f.X * h.A + f.Y * h.B = 0 := by omega
  unfold fx at hz
  have hp := zfx h0
  have k1 : (f.X * f.X + f.Y * f.Y) * h.A = 0 := by grind
  have k2 : (f.X * f.X + f.Y * f.Y) * h.B = 0 := by grind
  rcases Int.mul_eq_zero.1 k1 with g | g
  ·omega
  ·rcases Int.mul_eq_zero.1 k2 with g' | g'
   ·omega
   ·rcases hn with hn | hn
    ·exact hn g
    ·exact hn g'
 ·omega
theorem zoF {f : Form} (hf : okF4 f) {g h : Half} (hg : okH g) (hh : okH h) (D : Df (nearF f) g h) : Df f g h := by
 have h1 := D.s
 have h2 := D.t
 rw [zkA] at h1 h2
 have b1 := zgG hf hh
 have b2 := zgG hf hg
 exact ⟨D.d, by omega, by omega⟩
theorem zqr {g h j : Half} (hd : 0 < det g h) (hv : valid (crossing g h) = true) (hJ : jay g h j <= 0) : ef j (crossing g h) <= 0 := by
 obtain ⟨s, hs, h1, h2, h3⟩ := zcU (x := g.C * h.B - h.C * g.B) (y := g.A * h.C - h.A * g.C) (d := det g h) (by omega)
 have hc : crossing g h = lowest (g.C * h.B - h.C * g.B) (g.A * h.C - h.A * g.C) (det g h) := by unfold crossing; rfl
 rw [<- hc] at h1 h2 h3
 have hD := denV hv
 have hs' : 0 < s := zjs hD (by rw [h3]; exact hd)
 have e : s * ef j (crossing g h) = jay g h j := by
  rw [zai] at h3
  unfold ef jay
  simp only [zai]
  grind
 refine Int.not_lt.1 fun hh => ?_
 have := Int.mul_pos hs' hh
 omega
structure OkS (hs : List Half) : Prop where
  sub : ∀ h ∈ sidesL, h ∈ hs
  ok : ∀ h ∈ hs, okH h
  nz : ∀ h ∈ hs, h.A ≠ 0 \/ h.B ≠ 0
theorem lp {hs : List Half} (S : OkS hs) {f : Form} (hf : okF4 f) : Cert hs \/ ∃ g ∈ hs, ∃ h ∈ hs, Df f g h /\ Vt hs (crossing g h) := by
 have main : ∀ f : Form, okF4 f -> (f.X ≠ 0 \/ f.Y ≠ 0) -> Cert hs \/ ∃ g ∈ hs, ∃ h ∈ hs, Df f g h /\ Vt hs (crossing g h) := fun f hf h0 => by
  rcases lp_gen S.sub S.nz (nearF f) (fun h hh => zmc hf h0 (S.ok h hh) (S.nz h hh)) with c | ⟨g, hg, h, hh, D, hJ⟩
  ·exact .inl c
  ·have hd := D.d
   have hv := zan (S.ok g hg) (S.ok h hh) (by omega)
   obtain ⟨c1, c2⟩ := zao (g := g) (h := h) (by omega)
   exact .inr ⟨g, hg, h, hh, zoF hf (S.ok g hg) (S.ok h hh) D, fun j hj => zqr hd hv (hJ j hj), hv, g, hg, h, hh, by omega, c1, c2⟩
 by_cases h0 : f.X ≠ 0 \/ f.Y ≠ 0
 ·exact main f hf h0
 ·rcases main ⟨1, 0⟩ ⟨by decide, by decide⟩ (by decide) with c | ⟨g, hg, h, hh, D, hV⟩
  ·exact .inl c
  ·have e1 : f.X = 0 := by omega
   have e2 : f.Y = 0 := by omega
   exact .inr ⟨g, hg, h, hh, ⟨D.d, by simp [fx, e1, e2], by simp [fx, e1, e2]⟩, hV⟩
theorem ziX {f : Form} {g h : Half} (D : Df f g h) {q : Corner} (h1 : ef g q <= 0) (h2 : ef h q <= 0) : det g h * (f.X * q.X + f.Y * q.Y) <= num f g h * q.Den := by
 have e : det g h * (f.X * q.X + f.Y * q.Y) - num f g h * q.Den = fx f h * ef g q - fx f g * ef h q := by
  unfold num fx ef
  simp only [zai]
  grind
 have a1 := Int.mul_nonneg_of_nonpos_of_nonpos D.t h2
 have a2 : fx f h * ef g q <= 0 := Int.mul_nonpos_of_nonneg_of_nonpos D.s h1
 omega
theorem zfj {hs : List Half} (hc : Cert hs) {q : Corner} (hD : 0 < q.Den) (hq : Fe hs q) : False := by
 rcases hc with ⟨g, hg, h, hh, c1, c2, c3⟩ | ⟨g, hg, h, hh, j, hj, c1, c2, c3, c4⟩
 ·have h1 := hq g hg
  have h2 := hq h hh
  rw [zai] at c1
  have hgz : g.A ≠ 0 \/ g.B ≠ 0 := by
   refine Classical.not_not.1 fun hn => ?_
   have e1 : g.A = 0 := by omega
   have e2 : g.B = 0 := by omega
   rw [e1, e2] at c2
   simp at c2
  have hp := zfx hgz
  have kA : (g.A * g.A + g.B * g.B) * h.A = -(-(g.A * h.A + g.B * h.B) * g.A) := by grind
  have kB : (g.A * g.A + g.B * g.B) * h.B = -(-(g.A * h.A + g.B * h.B) * g.B) := by grind
  have hn := zfM (h := g) (j := h) (b := -(g.A * h.A + g.B * h.B)) (d := g.A * g.A + g.B * g.B) (by omega) hp kA kB
  have zA : (g.A * g.A + g.B * g.B) * (nrm h * g.A + nrm g * h.A) = 0 := by grind
  have zB : (g.A * g.A + g.B * g.B) * (nrm h * g.B + nrm g * h.B) = 0 := by grind
  have yA : nrm h * g.A + nrm g * h.A = 0 := by
   rcases Int.mul_eq_zero.1 zA with e | e
   ·omega
   ·exact e
  have yB : nrm h * g.B + nrm g * h.B = 0 := by
   rcases Int.mul_eq_zero.1 zB with e | e
   ·omega
   ·exact e
  have a1 := Int.mul_nonpos_of_nonneg_of_nonpos (zeu h) h1
  have a2 := Int.mul_nonpos_of_nonneg_of_nonpos (zeu g) h2
  have e : nrm h * ef g q + nrm g * ef h q = (nrm h * g.A + nrm g * h.A) * q.X + (nrm h * g.B + nrm g * h.B) * q.Y - (nrm h * g.C + nrm g * h.C) * q.Den := by unfold ef; grind
  rw [yA, yB] at e
  have := Int.mul_neg_of_neg_of_pos c3 hD
  omega
 ·have a1 := Int.mul_nonpos_of_nonneg_of_nonpos (Int.le_of_lt c1) (hq g hg)
  have a2 := Int.mul_nonpos_of_nonneg_of_nonpos (Int.le_of_lt c2) (hq h hh)
  have a3 := Int.mul_nonpos_of_nonneg_of_nonpos (Int.le_of_lt c3) (hq j hj)
  have e : det h j * ef g q + det j g * ef h q + det g h * ef j q = -((det h j * g.C + det j g * h.C + det g h * j.C) * q.Den) := by
   unfold ef
   simp only [zai]
   grind
  have := Int.mul_neg_of_neg_of_pos c4 hD
  omega
theorem ziz {S : List Corner} (h : 3 <= S.length) : ∃ p0 mid m, S = p0 :: (mid ++ [m]) /\ mid ≠ [] := by
 match S, h with
 | p0 :: r, h =>
  rcases List.eq_nil_or_concat r with rfl | ⟨mid, m, rfl⟩
  ·simp at h
  ·refine ⟨p0, mid, m, by simp, ?_⟩
   rintro rfl
   simp at h
theorem zmu {th : Corner -> Half} {S : List Corner} (C : Conv th S) (q : Corner) : q ∈ hullL S ↔ q ∈ S := by
 by_cases h : S.length < 3
 ·have e : hullL S = S := by unfold hullL; rw [if_pos h]
  rw [e]
 ·obtain ⟨p0, mid, m, rfl, hm⟩ := ziz (Nat.le_of_not_lt h)
  rw [C.hull hm, List.mem_cons, C.round_mem, List.mem_cons]
theorem zcM {l : List Half} (hl : ∀ x ∈ l, okH x) (q : Corner) : q ∈ cornersL l ↔ Vt (hsL l) q := by
 rw [zgV hl, zmu (zmR hl), zkQ hl]
theorem zhH {l : List Half} (h : checkL l = 0) : OkS (hsL l) := by
 obtain ⟨n1, n2, n3⟩ := zaO h
 refine ⟨zjg l, zqw n3, fun x hx => ?_⟩
 rcases List.mem_append.1 hx with hx | hx
 ·have := n2 x hx
  unfold fit at this
  simp only [Bool.and_eq_true, Bool.or_eq_true, bne_iff_ne, ne_eq] at this
  exact this.1.2
 ·have : ∀ y ∈ sidesL, y.A ≠ 0 \/ y.B ≠ 0 := by decide
  exact this x hx
theorem zpF {hs : List Half} {q : Corner} (h : Vt hs q) : 0 < q.Den := denV h.va
theorem zgW {l : List Half} (hl : ∀ x ∈ l, okH x) : cornersL l = [] ↔ ¬ ∃ q, Vt (hsL l) q := by
 constructor
 ·rintro h ⟨q, hq⟩
  have := (zcM hl q).2 hq
  rw [h] at this
  cases this
 ·intro h
  refine List.eq_nil_iff_forall_not_mem.2 fun q hq => h ⟨q, (zcM hl q).1 hq⟩
theorem zpE {hs : List Half} (S : OkS hs) {f : Form} (hf : okF4 f) {q : Corner} (hD : 0 < q.Den) (hq : Fe hs q) : ∃ p, Vt hs p /\ (f.X * q.X + f.Y * q.Y) * p.Den <= (f.X * p.X + f.Y * p.Y) * q.Den /\
  ∀ r, 0 < r.Den -> Fe hs r -> (f.X * r.X + f.Y * r.Y) * p.Den <= (f.X * p.X + f.Y * p.Y) * r.Den := by
 rcases lp S hf with c | ⟨g, hg, h, hh, D, hV⟩
 ·exact (zfj c hD hq).elim
 ·have key : ∀ r, 0 < r.Den -> Fe hs r -> (f.X * r.X + f.Y * r.Y) * (crossing g h).Den <= (f.X * (crossing g h).X + f.Y * (crossing g h).Y) * r.Den := fun r hr hrF => by
   have hd := D.d
   have w := ziX D (hrF g hg) (hrF h hh)
   obtain ⟨t1, t2⟩ := zao (g := g) (h := h) (by omega)
   have e : det g h * (f.X * (crossing g h).X + f.Y * (crossing g h).Y) - num f g h * (crossing g h).Den = fx f h * ef g (crossing g h) - fx f g * ef h (crossing g h) := by
    unfold num fx ef
    simp only [zai]
    grind
   rw [t1, t2] at e
   simp at e
   have hp := zpF hV
   have w2 := Int.mul_le_mul_of_nonneg_right w (Int.le_of_lt hp)
   have e2 : num f g h * r.Den * (crossing g h).Den = det g h * ((f.X * (crossing g h).X + f.Y * (crossing g h).Y) * r.Den) := by grind
   have e3 : det g h * (f.X * r.X + f.Y * r.Y) * (crossing g h).Den = det g h * ((f.X * r.X + f.Y * r.Y) * (crossing g h).Den) := by grind
   rw [e2, e3] at w2
   exact Int.le_of_mul_le_mul_left w2 hd
  exact ⟨crossing g h, hV, key q hD hq, key⟩
theorem zmL (g : Half) : det g g = 0 := by rw [zai]; grind
def Pt (l : List Half) (q : Corner) : Prop := 0 < q.Den /\ Fe (hsL l) q
theorem zph {l : List Half} (h1 : checkL l = 0) : Cert (hsL l) ↔ ∀ q, ¬ Pt l q := by
 constructor
 ·exact fun c q hq => zfj c hq.1 hq.2
 ·intro h
  rcases lp (zhH h1) (f := ⟨0, 0⟩) ⟨by decide, by decide⟩ with c | ⟨g, _, k, _, D, hV⟩
  ·exact c
  ·exact (h _ ⟨by have := (zaK hV.va).d; omega, hV.fe⟩).elim
theorem znt {l : List Half} (h1 : checkL l = 0) : cornersL l = [] ↔ ∀ q, ¬ Pt l q := by
 obtain ⟨_, _, hl⟩ := zaO h1
 rw [zgW hl, <- zph h1]
 constructor
 ·intro h
  rcases lp (zhH h1) (f := ⟨0, 0⟩) ⟨by decide, by decide⟩ with c | ⟨g, _, k, _, D, hV⟩
  ·exact c
  ·exact (h ⟨_, hV⟩).elim
 ·rintro c ⟨q, hV⟩
  exact zfj c (by have := (zaK hV.va).d; omega) hV.fe
theorem zkW {l m : List Half} (h : checkL l = 0) (hm : ∀ x ∈ m, x ∈ l) (hn : m.length <= 40) : checkL m = 0 := by
 obtain ⟨n1, n2, n3⟩ := zaO h
 unfold checkL
 rw [if_neg (by omega), if_pos (List.all_eq_true.2 fun x hx => n2 x (hm x hx))]
theorem zgw (l : List Int) (i j : Nat) : (rmLh l i)[j]? = if j < i then l[j]? else l[j + 1]? := by
 have e : rmLh l i = l.eraseIdx i := by unfold rmLh; rw [List.eraseIdx_eq_take_drop_succ]
 rw [e, List.getElem?_eraseIdx]
theorem zp6 {l : List Int} {i : Nat} {x : Int} : x ∈ rmLh l i ↔ ∃ j, j ≠ i /\ l[j]? = some x := by
 rw [List.mem_iff_getElem?]
 constructor
 ·rintro ⟨j, hj⟩
  rw [zgw] at hj
  split at hj
  ·exact ⟨j, by omega, hj⟩
  ·exact ⟨j + 1, by omega, hj⟩
 ·rintro ⟨j, hne, hj⟩
  rcases Nat.lt_or_gt_of_ne hne with h | h
  ·exact ⟨j, by rw [zgw, if_pos h, hj]⟩
  ·exact ⟨j - 1, by rw [zgw, if_neg (by omega), show j - 1 + 1 = j by omega, hj]⟩
structure Js (l : List Half) (js : List Int) : Prop where
  len : js.length <= 40
  mem : ∀ j ∈ js, 0 <= j /\ j < l.length
theorem Js.ck {l : List Half} {js : List Int} (h : Js l js) (h1 : checkL l = 0) : checkL (pickL l js) = 0 := zkW h1 (zjS h.mem) (by rw [zjT]; exact h.len)
theorem Js.all {l : List Half} (h1 : checkL l = 0) : Js l (upTo l.length) := ⟨by rw [zlr]; exact (zaO h1).1, fun j hj => zlq hj⟩
theorem still (l : List Half) (js : List Int) {g : Half} (hg : g ∈ hsL (pickL l js)) : ∃ a, ∀ m, m ≠ a -> g ∈ hsL (pickL l (rmLh js m)) := by
 rcases List.mem_append.1 hg with h | h
 ·unfold pickL at h
  obtain ⟨j, hj, rfl⟩ := List.mem_map.1 h
  obtain ⟨a, ha⟩ := List.mem_iff_getElem?.1 hj
  refine ⟨a, fun m hm => List.mem_append_left _ ?_⟩
  unfold pickL
  exact List.mem_map.2 ⟨j, zp6.2 ⟨a, fun e => hm e.symm, ha⟩, rfl⟩
 ·exact ⟨0, fun m _ => List.mem_append_right _ h⟩
def plusH (a : Half) (t : Int) (h : Half) : Half := ⟨a.A + t * h.A, a.B + t * h.B, a.C + t * h.C⟩
theorem zkI (a : Half) (t : Int) (h : Half) (q : Corner) : ef (plusH a t h) q = ef a q + t * ef h q := by unfold plusH ef; grind
def useH (l : List Half) (n : Int) : Half := if n < 0 then sidesL.getD (-1 - n).toNat default else l.getD n.toNat default
def sumU (l : List Half) (Uh : List Use) : Half := Uh.foldl (fun a u => plusH a u.T (useH l u.H)) ⟨0, 0, 0⟩
theorem zdg {l : List Half} {x : Num} (hx : x ∈ allL l) : x.h = useH l x.n /\ -4 <= x.n /\ x.n < l.length := by
 unfold allL at hx
 obtain ⟨i, hi, rfl⟩ := List.mem_map.1 hx
 have hi := List.mem_range.1 hi
 unfold allAt
 by_cases h : i < l.length
 ·rw [if_pos h]
  refine ⟨?_, (by show -4 <= (i : Int); omega), (by show (i : Int) < _; omega)⟩
  show l.getD i default = useH l (i : Int)
  unfold useH
  rw [if_neg (by omega), Int.toNat_natCast]
 ·rw [if_neg h]
  refine ⟨?_, (by show -4 <= -1 - ((i : Int) - l.length); omega), (by show -1 - ((i : Int) - l.length) < _; omega)⟩
  show sidesL.getD (i - l.length) default = useH l (-1 - ((i : Int) - l.length))
  unfold useH
  rw [if_pos (by omega)]
  congr 1; omega
theorem zo4 {g h : Half} (hg : okH g) (hh : okH h) : -2000000 <= det g h /\ det g h <= 2000000 := by
 have b1 := mulB hg.a hh.b
 have b2 := mulB hh.a hg.b
 rw [zai]; omega
theorem zoD {l : List Half} {x y : Num} (hx : x ∈ allL l) (hy : y ∈ allL l) (h : x.h ≠ y.h) : x.n ≠ y.n := fun e => h (by rw [(zdg hx).1, (zdg hy).1, e])
def useOk (n : Nat) (u : Use) (ks : List Int) : Bool := within u.H (-4) ((n : Int) - 1) && !ks.contains u.H && within u.T 1 2097152
@[irreducible] def keysTo (Uh : List Use) (i : Nat) : List Int := (Uh.take i).map fun u => u.H
@[irreducible] def okTo (n : Nat) (Uh : List Use) (i : Nat) : Bool := (List.range i).all fun j => useOk n (Uh.getD j default) (keysTo Uh j)
theorem zfK (n : Nat) (Uh : List Use) : okTo n Uh 0 = true := by unfold okTo; rfl
theorem zjW (n : Nat) (Uh : List Use) (i : Nat) : okTo n Uh (i + 1) = (okTo n Uh i && useOk n (Uh.getD i default) (keysTo Uh i)) := by
 unfold okTo
 rw [List.range_succ, List.all_append]; simp
@[irreducible] def formedL (n : Nat) (Uh : List Use) : Bool := decide (Uh.length <= 4) && okTo n Uh Uh.length
@[irreducible] def sumE (l : List Half) (Uh : List Use) : Half × Bool := if formedL l.length Uh = true then (sumU l Uh, true) else (⟨0, 0, 0⟩, false)
structure SmallU (i : Nat) (h : Half) : Prop where
  a : -(2097152000 * i : Int) <= h.A /\ h.A <= 2097152000 * i
  b : -(2097152000 * i : Int) <= h.B /\ h.B <= 2097152000 * i
  c : -(549755813888 * i : Int) <= h.C /\ h.C <= 549755813888 * i
theorem zlW {t : Int} {h : Half} (ht : 1 <= t /\ t <= 2097152) (hh : okH h) : (-2097152000 <= t * h.A /\ t * h.A <= 2097152000) /\ (-2097152000 <= t * h.B /\ t * h.B <= 2097152000) /\ (-549755813888 <= t * h.C /\ t * h.C <= 549755813888) := by
 have q : -2097152 <= t /\ t <= 2097152 := by omega
 exact ⟨mulB q hh.a, mulB q hh.b, mulB q hh.c⟩
theorem SmallU.plus {i : Nat} {a h : Half} {t : Int} (s : SmallU i a) (ht : 1 <= t /\ t <= 2097152) (hh : okH h) : SmallU (i + 1) (plusH a t h) := by
 obtain ⟨b1, b2, b3⟩ := zlW ht hh
 have := s.a; have := s.b; have := s.c
 exact ⟨(by show _ <= a.A + t * h.A /\ a.A + t * h.A <= _; omega), (by show _ <= a.B + t * h.B /\ a.B + t * h.B <= _; omega), (by show _ <= a.C + t * h.C /\ a.C + t * h.C <= _; omega)⟩
theorem zjX {n : Nat} {Uh : List Use} (h : ∀ u ∈ Uh, (-4 <= u.H /\ u.H < n) /\ 1 <= u.T /\ u.T <= 2097152) (hd : (Uh.map fun u => u.H).Nodup) : ∀ i, i <= Uh.length -> okTo n Uh i = true
 | 0, _ => zfK n Uh
 | i + 1, hi => by
  rw [zjW, zjX h hd i (by omega), Bool.true_and]
  have hm := h _ (gd1 (show i < Uh.length by omega) default)
  unfold useOk
  simp only [Bool.and_eq_true, zab, Bool.not_eq_true']
  refine ⟨⟨⟨hm.1.1, by omega⟩, ?_⟩, hm.2⟩
  rw [Bool.eq_false_iff]
  intro hc
  have hc : (Uh.getD i default).H ∈ keysTo Uh i := by simpa using hc
  unfold keysTo at hc
  rw [List.map_take] at hc
  obtain ⟨j, hj, e⟩ := List.getElem_of_mem hc
  rw [List.length_take, List.length_map] at hj
  rw [List.getElem_take, gdI (show i < Uh.length by omega)] at e
  have hp := List.pairwise_iff_getElem.1 hd j i (by rw [List.length_map]; omega) (by rw [List.length_map]; omega) (by omega)
  exact hp (by rw [e]; simp)
theorem p4 : (1073741824 : Nat) ^ 4 = 1329227995784915872903807060280344576 := by decide
end Go.Pg
