/- Texts joined and shortened by program. -/
import Derived.Test.YtooepbnecjepnaaGreatBE
import Derived.Test.YtooepbnecjepnaaGreatBD
import Derived.Test.YtooepbnecjepnaaGreatBB
import Derived.Test.YtooepbnecjepnaaGreatBC
import Derived.Test.YtooepbnecjepnaaGreatBA
set_option maxHeartbeats 4000000
set_option linter.all false
set_option maxRecDepth 100000
namespace Go.Pg
open Go.Proofs Go.RowKit
structure Bst (l : List Half) (f : Form) (b : Bound) : Prop where
  sm : (sumE l b.Uses).2 = true
  sc : within b.Scale 1 2097152 = true
  fr : fraction b.V = true
  va : valid b.At = true
  A : (sumE l b.Uses).1.A = b.Scale * f.X
  B : (sumE l b.Uses).1.B = b.Scale * f.Y
  C : (sumE l b.Uses).1.C * b.V.Den = b.Scale * b.V.Num
  inn : outsideL (allL l) b.At = -5
  at_ : value f b.At = b.V
theorem zpZ (l : List Half) (f : Form) (b : Bound) : Bst l f b ↔ ((sumE l b.Uses).2 = true /\ within b.Scale 1 2097152 = true /\ fraction b.V = true /\ valid b.At = true /\ (sumE l b.Uses).1.A = b.Scale * f.X /\ (sumE l b.Uses).1.B = b.Scale * f.Y /\ (sumE l b.Uses).1.C * b.V.Den = b.Scale * b.V.Num /\ outsideL (allL l) b.At = -5 /\ value f b.At = b.V) :=
 ⟨fun h => ⟨h.sm, h.sc, h.fr, h.va, h.A, h.B, h.C, h.inn, h.at_⟩, fun ⟨a, b, c, d, e, f, g, h, i⟩ => ⟨a, b, c, d, e, f, g, h, i⟩⟩
noncomputable instance (l : List Half) (f : Form) (b : Bound) : Decidable (Bst l f b) := decidable_of_iff' _ (zpZ l f b)
@[irreducible] noncomputable def cbE (l : List Half) (f : Form) (b : Bound) : Int := if checkL l = 0 then if slope f.X f.Y = true then if Bst l f b then 0 else 8 else 1 else checkL l
theorem zqm {l : List Half} {Uh : List Use} (hl : ∀ x ∈ l, okH x) : (-8388608000 <= (sumE l Uh).1.A /\ (sumE l Uh).1.A <= 8388608000) /\ (-8388608000 <= (sumE l Uh).1.B /\ (sumE l Uh).1.B <= 8388608000) /\ (-2199023255552 <= (sumE l Uh).1.C /\ (sumE l Uh).1.C <= 2199023255552) := by
 unfold sumE
 split
 ·rename_i h
  unfold formedL at h
  rw [Bool.and_eq_true, decide_eq_true_iff] at h
  have s := zdF hl Uh.length (Nat.le_refl _) h.2
  rw [zfX] at s
  have := s.a; have := s.b; have := s.c
  have hl := h.1
  show (-8388608000 <= (sumU l Uh).A /\ (sumU l Uh).A <= 8388608000) /\ (-8388608000 <= (sumU l Uh).B /\ (sumU l Uh).B <= 8388608000) /\ (-2199023255552 <= (sumU l Uh).C /\ (sumU l Uh).C <= 2199023255552)
  omega
 ·exact ⟨⟨by decide, by decide⟩, ⟨by decide, by decide⟩, ⟨by decide, by decide⟩⟩
theorem zii {a b : Int} : ord a b = 0 ↔ a = b := by
 unfold ord
 constructor
 ·intro h
  split at h
  ·cases h
  ·split at h
   ·cases h
   ·omega
 ·rintro rfl; simp
theorem zg1 (l : List Half) (f : Form) (b : Bound) : Spec PP 33 [slH l, f.v, b.v] [N (cbE l f b)] := by
 refine zgR Tryz.func33 rfl (by kernel_rfl) rfl ?_
 refine cP (zfn l) rfl rfl ?_
 refine bY (fun h1 => ?_) (fun h1 => ?_)
 ·have h1 : checkL l ≠ 0 := by simpa using h1
  exact r1I rfl (by unfold cbE; rw [if_neg h1])
 have h1 : checkL l = 0 := by simpa using h1
 obtain ⟨n1, n2, n3⟩ := zaq h1
 refine cP (zgZ f.X f.Y) rfl rfl ?_
 refine bY (fun h2 => ?_) (fun h2 => ?_)
 ·have h2 : slope f.X f.Y = false := by simpa using h2
  exact r1I rfl (by unfold cbE; rw [if_pos h1, if_neg (by rw [h2]; decide)])
 have h2 : slope f.X f.Y = true := by simpa using h2
 have oF := zeQ h2
 have fx := oF.x
 have fy := oF.y
 have bad : ¬ Bst l f b -> cbE l f b = 8 := fun h => by unfold cbE; rw [if_pos h1, if_pos h2, if_neg h]
 obtain ⟨sA, sB, sC⟩ := zqm (Uh := b.Uses) n3
 refine cP (s_sum l b.Uses n3 (by omega)) rfl rfl ?_
 refine bY (fun g1 => ?_) (fun g1 => ?_)
 ·have g1 : (sumE l b.Uses).2 = false := by simpa using g1
  refine sT ?_
  refine sT ?_
  refine sT ?_
  refine sT ?_
  refine sT ?_
  refine sT ?_
  exact r1I rfl (bad fun h => by have := h.sm; rw [g1] at this; cases this).symm
 have g1 : (sumE l b.Uses).2 = true := by simpa using g1
 refine cP (zbh b.Scale 1 2097152) rfl rfl ?_
 refine sF ?_
 refine bY (fun g2 => ?_) (fun g2 => ?_)
 ·have g2 : within b.Scale 1 2097152 = false := by simpa using g2
  refine sT ?_
  refine sT ?_
  refine sT ?_
  refine sT ?_
  exact r1I rfl (bad fun h => by have := h.sc; rw [g2] at this; cases this).symm
 have g2 : within b.Scale 1 2097152 = true := by simpa using g2
 have sc := zab.1 g2
 refine cP (za5 b.V) rfl rfl ?_
 refine sF ?_
 refine bY (fun g3 => ?_) (fun g3 => ?_)
 ·have g3 : fraction b.V = false := by simpa using g3
  refine sT ?_
  refine sT ?_
  exact r1I rfl (bad fun h => by have := h.fr; rw [g3] at this; cases this).symm
 have g3 : fraction b.V = true := by simpa using g3
 obtain ⟨vd, vn⟩ := zci g3
 refine cP (zj7 b.At) rfl rfl ?_
 refine sF ?_
 refine bY (fun g4 => ?_) (fun g4 => ?_)
 ·have g4 : valid b.At = false := by simpa using g4
  exact r1I rfl (bad fun h => by have := h.va; rw [g4] at this; cases this).symm
 have g4 : valid b.At = true := by simpa using g4
 have q : -2097152 <= b.Scale /\ b.Scale <= 2097152 := by omega
 have m1 := mulB q fx
 have m2 := mulB q fy
 refine Exists.intro (List.range 35) (And.intro (by kernel_rfl) (FzOb.no ?_))
 refine ⟨i6, ?_⟩
 refine bY (fun g5 => ?_) (fun g5 => ?_)
 case refine_2 =>
  have g5 : (sumE l b.Uses).1.A ≠ b.Scale * f.X := by simpa using g5
  refine sF ?_
  refine sF ?_
  refine sF ?_
  refine Exists.intro (List.range 19) (And.intro (by kernel_rfl) (FzOb.no ?_))
  refine sT ?_
  refine sT ?_
  refine sT ?_
  refine sT ?_
  refine sT ?_
  exact r1I rfl (bad fun h => g5 h.A).symm
 have g5 : (sumE l b.Uses).1.A = b.Scale * f.X := by simpa using g5
 refine ⟨i6, ?_⟩
 refine sT ?_
 refine bY (fun g6 => ?_) (fun g6 => ?_)
 case refine_2 =>
  have g6 : (sumE l b.Uses).1.B ≠ b.Scale * f.Y := by simpa using g6
  refine sF ?_
  refine Exists.intro (List.range 19) (And.intro (by kernel_rfl) (FzOb.no ?_))
  refine sT ?_
  refine sT ?_
  refine sT ?_
  refine sT ?_
  refine sT ?_
  exact r1I rfl (bad fun h => g6 h.B).symm
 have g6 : (sumE l b.Uses).1.B = b.Scale * f.Y := by simpa using g6
 refine oP (zfk (sumE l b.Uses).1.C b.V.Den (by omega) (by omega)) rfl rfl ?_
 refine oP (zfk b.Scale b.V.Num (by omega) (by omega)) rfl rfl ?_
 refine oP (znQ ((sumE l b.Uses).1.C * b.V.Den) (b.Scale * b.V.Num)) rfl rfl ?_
 refine sT ?_
 refine Exists.intro (List.range 19) (And.intro (by kernel_rfl) (FzOb.no ?_))
 refine bY (fun g7 => ?_) (fun g7 => ?_)
 ·have g7 : ord ((sumE l b.Uses).1.C * b.V.Den) (b.Scale * b.V.Num) ≠ 0 := by simpa using g7
  refine sT ?_
  refine sT ?_
  refine sT ?_
  refine sT ?_
  exact r1I rfl (bad fun h => g7 (zii.2 h.C)).symm
 have g7 : (sumE l b.Uses).1.C * b.V.Den = b.Scale * b.V.Num := by
  have : ord ((sumE l b.Uses).1.C * b.V.Den) (b.Scale * b.V.Num) = 0 := by simpa using g7
  exact zii.1 this
 have hlen := zcd l
 refine CallOb.ro (zmj l (by omega)) rfl rfl ?_
 refine oP (zdK (allL l) b.At (zbH n3) (zas g4) (by omega)) rfl rfl ?_
 refine sF ?_
 refine bY (fun g8 => ?_) (fun g8 => ?_)
 ·have g8 : outsideL (allL l) b.At ≠ -5 := by simpa using g8
  refine sT ?_
  refine sT ?_
  exact r1I rfl (bad fun h => g8 h.inn).symm
 have g8 : outsideL (allL l) b.At = -5 := by simpa using g8
 refine oP (zfj f b.At oF (zas g4)) rfl rfl ?_
 refine sF ?_
 refine bY (fun g9 => ?_) (fun g9 => ?_)
 ·have g9 : value f b.At ≠ b.V := fun e => by
   have g9 : (!((value f b.At).Num == b.V.Num && ((value f b.At).Den == b.V.Den && true))) = true := g9
   rw [e] at g9; simp at g9
  exact r1I rfl (bad fun h => g9 h.at_).symm
 have g9 : value f b.At = b.V := by
  have g9 : (!((value f b.At).Num == b.V.Num && ((value f b.At).Den == b.V.Den && true))) = false := g9
  simp only [Bool.not_eq_false', Bool.and_eq_true, beq_iff_eq, and_true] at g9
  cases hv : value f b.At; cases hb : b.V; rw [hv, hb] at g9; simp at g9; rw [g9.1, g9.2]
 exact r1I rfl (by unfold cbE; rw [if_pos h1, if_pos h2, if_pos ⟨g1, g2, g3, g4, g5, g6, g7, g8, g9⟩])
theorem ziQ {l : List Half} {f : Form} (h1 : checkL l = 0) (h0 : cornersL l ≠ []) (hf : slope f.X f.Y = true) : ∃ b, bestE l f = (b, 0) /\ b.V = value f (bestAt f (cornersL l)) := by
 unfold bestE
 rw [if_pos h1, if_pos hf, if_neg h0]
 split
 ·exact ⟨_, rfl, rfl⟩
 ·split
  ·exact ⟨_, rfl, rfl⟩
  ·exact ⟨_, rfl, rfl⟩
theorem zc2 {l : List Corner} (f : Form) (h0 : l ≠ []) : bestAt f l ∈ l := by
 unfold bestAt
 exact zcc f l (List.length_pos_iff.2 h0) l.length (Nat.le_refl _)
theorem zcN {l : List Half} {f : Form} (h1 : checkL l = 0) (hf : slope f.X f.Y = false) : bestE l f = (noBound, 1) := by
 unfold bestE
 rw [if_pos h1, if_neg (by rw [hf]; decide)]
def fv (f : Form) (p : Corner) : Int := f.X * p.X + f.Y * p.Y
theorem zbl {f : Form} {p : Corner} (hf : slope f.X f.Y = true) (hp : valid p = true) : fraction (value f p) = true /\ ∃ g : Int, 0 < g /\ fv f p = g * (value f p).Num /\ p.Den = g * (value f p).Den := by
 have oF := zeQ hf
 have oC := zas hp
 have b1 := mulB oF.x oC.x
 have b2 := mulB oF.y oC.y
 have d := oC.d
 have e : value f p = ⟨(fv f p).tdiv (Nat.gcd (fv f p).natAbs p.Den.natAbs), p.Den.tdiv (Nat.gcd (fv f p).natAbs p.Den.natAbs)⟩ := by
  unfold value fv
  simp only [gcdL, List.foldl_cons, List.foldl_nil, Nat.gcd_zero_left]
 have nb : -2199023255552 <= fv f p /\ fv f p <= 2199023255552 := by unfold fv; omega
 have hg : 0 < Nat.gcd (fv f p).natAbs p.Den.natAbs := Nat.gcd_pos_of_pos_right _ (by omega)
 rw [e]
 generalize fv f p = n at *
 generalize hG : Nat.gcd n.natAbs p.Den.natAbs = G at *
 obtain ⟨a, ha⟩ : (G : Int) ∣ n := Int.ofNat_dvd_left.2 (by rw [<- hG]; exact Nat.gcd_dvd_left _ _)
 obtain ⟨b, hb⟩ : (G : Int) ∣ p.Den := Int.ofNat_dvd_left.2 (by rw [<- hG]; exact Nat.gcd_dvd_right _ _)
 have gpos : (0 : Int) < G := by omega
 have e1 : n.tdiv G = a := by rw [ha]; exact Int.mul_tdiv_cancel_left _ (by omega)
 have e2 : p.Den.tdiv G = b := by rw [hb]; exact Int.mul_tdiv_cancel_left _ (by omega)
 have hbpos : 0 < b := by
  have : 0 < (G : Int) * b := by omega
  exact Int.pos_of_mul_pos_right this (by omega) |> fun h => h
 have hle : b <= (G : Int) * b := by
  have := Int.mul_le_mul_of_nonneg_right (show (1 : Int) <= G by omega) (show 0 <= b by omega)
  omega
 have hna : a.natAbs <= n.natAbs := by
  rw [ha, Int.natAbs_mul, Int.natAbs_natCast]
  exact Nat.le_mul_of_pos_left _ hg
 have hone : Nat.gcd a.natAbs b.natAbs = 1 := by
  have : G * Nat.gcd a.natAbs b.natAbs = G := by
   rw [<- Nat.gcd_mul_left]
   have q1 : G * a.natAbs = n.natAbs := by rw [ha, Int.natAbs_mul, Int.natAbs_natCast]
   have q2 : G * b.natAbs = p.Den.natAbs := by rw [hb, Int.natAbs_mul, Int.natAbs_natCast]
   rw [q1, q2, hG]
  exact Nat.eq_of_mul_eq_mul_left hg (by omega)
 refine ⟨?_, G, gpos, by rw [e1]; exact ha, by rw [e2]; exact hb⟩
 unfold fraction
 rw [e1, e2]
 simp only [Bool.and_eq_true, zab, beq_iff_eq, gcdL, List.foldl_cons, List.foldl_nil, Nat.gcd_zero_left, hone]
 exact ⟨⟨⟨by omega, by omega⟩, by omega, by omega⟩, rfl⟩
def vle (f : Form) (p q : Corner) : Prop := fv f p * q.Den <= fv f q * p.Den
theorem zhS (f : Form) (p : Corner) : vle f p p := Int.le_refl _
theorem zdA {f : Form} {p q r : Corner} (hp : 0 < p.Den) (hq : 0 < q.Den) (hr : 0 < r.Den) (h1 : vle f p q) (h2 : vle f q r) : vle f p r := by
 unfold vle at *
 have a1 := Int.mul_le_mul_of_nonneg_right h1 (Int.le_of_lt hr)
 have a2 := Int.mul_le_mul_of_nonneg_right h2 (Int.le_of_lt hp)
 have e1 : fv f q * p.Den * r.Den = fv f q * r.Den * p.Den := by grind
 have e2 : fv f p * q.Den * r.Den = q.Den * (fv f p * r.Den) := by grind
 have e3 : fv f r * q.Den * p.Den = q.Den * (fv f r * p.Den) := by grind
 have : q.Den * (fv f p * r.Den) <= q.Den * (fv f r * p.Den) := by omega
 exact Int.le_of_mul_le_mul_left this hq
theorem zin {f : Form} {p q : Corner} (hf : slope f.X f.Y = true) (hp : valid p = true) (hq : valid q = true) : ¬ less (value f p) (value f q) < 0 ↔ vle f q p := by
 obtain ⟨f1, g1, p1, n1, d1⟩ := zbl hf hp
 obtain ⟨f2, g2, p2, n2, d2⟩ := zbl hf hq
 unfold less
 rw [if_pos ⟨f1, f2⟩]
 unfold vle
 rw [n1, n2, d1, d2]
 have e1 : g2 * (value f q).Num * (g1 * (value f p).Den) = g1 * g2 * ((value f q).Num * (value f p).Den) := by grind
 have e2 : g1 * (value f p).Num * (g2 * (value f q).Den) = g1 * g2 * ((value f p).Num * (value f q).Den) := by grind
 rw [e1, e2]
 have gp := Int.mul_pos p1 p2
 unfold ord
 constructor
 ·intro h
  refine Int.mul_le_mul_of_nonneg_left ?_ (Int.le_of_lt gp)
  refine Classical.byContradiction fun hh => h ?_
  rw [if_pos (by omega)]; decide
 ·intro h
  have := Int.le_of_mul_le_mul_left h gp
  rw [if_neg (by omega)]
  split <;> decide
theorem zbu {f : Form} {l : List Corner} (hf : slope f.X f.Y = true) (hl : ∀ q ∈ l, valid q = true) (h0 : 0 < l.length) : ∀ i, i <= l.length -> ∀ j, j < i \/ j = 0 -> vle f (l.getD j default) (bestTo f l i)
 | 0, _, j, hj => by
  obtain rfl : j = 0 := by omega
  rw [zco]; exact zhS f _
 | i + 1, hi, j, hj => by
  have vi := hl _ (gd1 (show i < l.length by omega) default)
  have vb := hl _ (zcc f l h0 i (by omega))
  have den := fun (q : Corner) (h : valid q = true) => (zas h).d
  have vj : valid (l.getD j default) = true := hl _ (gd1 (by omega) default)
  rw [zbG f l (by omega)]
  unfold stepB
  by_cases hc : less (value f (bestTo f l i)) (value f (l.getD i default)) < 0
  ·rw [if_pos hc]
   have hle : vle f (bestTo f l i) (l.getD i default) := by
    unfold vle
    have : ¬ vle f (l.getD i default) (bestTo f l i) := fun h => ((zin hf vb vi).2 h) hc
    unfold vle at this
    omega
   rcases Nat.lt_or_ge j i with h | h
   ·exact zdA (by have := den _ vj; omega) (by have := den _ vb; omega) (by have := den _ vi; omega) (zbu hf hl h0 i (by omega) j (.inl h)) hle
   ·by_cases hj0 : j = 0
    ·exact zdA (by have := den _ vj; omega) (by have := den _ vb; omega) (by have := den _ vi; omega) (zbu hf hl h0 i (by omega) j (.inr hj0)) hle
    ·obtain rfl : j = i := by omega
     exact zhS f _
  ·rw [if_neg hc]
   rcases Nat.lt_or_ge j i with h | h
   ·exact zbu hf hl h0 i (by omega) j (.inl h)
   ·by_cases hj0 : j = 0
    ·exact zbu hf hl h0 i (by omega) j (.inr hj0)
    ·obtain rfl : j = i := by omega
     exact (zin hf vb vi).1 hc
theorem zjm {f : Form} {l : List Corner} (hf : slope f.X f.Y = true) (hl : ∀ q ∈ l, valid q = true) {q : Corner} (hq : q ∈ l) : vle f q (bestAt f l) := by
 obtain ⟨j, hj, rfl⟩ := List.getElem_of_mem hq
 have := zbu hf hl (by omega) l.length (Nat.le_refl _) j (.inl hj)
 unfold bestAt
 rwa [gdI hj] at this
theorem ziR {l : List Half} {f : Form} (h1 : checkL l = 0) (hf : slope f.X f.Y = true) {q : Corner} (hq : Pt l q) : vle f q (bestAt f (cornersL l)) := by
 obtain ⟨_, _, n3⟩ := zaq h1
 obtain ⟨p, hV, _, hmax⟩ := zqd (zik h1) (f := f) (zeQ hf).to4 hq.1 hq.2
 have hp := (zcl n3 p).2 hV
 have hb := zc2 f (l := cornersL l) (fun e => by rw [e] at hp; cases hp)
 have vb := ((zcl n3 _).1 hb).va
 have d1 := (zas hV.va).d
 have d2 := (zas vb).d
 refine zdA hq.1 (by omega) (by omega) (hmax q hq.1 hq.2) (zjm hf (zea n3) hp)
theorem ze8 (h : Half) (q : Corner) : tight h q = true ↔ ef h q = 0 := by
 unfold tight ef
 rw [beq_iff_eq]; omega
theorem zgw {n m : Int} (h : n ≠ 0) : flip (-n) (-m) = flip n m := by unfold flip; split <;> split <;> omega
theorem zfE {n : Int} (h : n ≠ 0) : 0 < flip n n := by unfold flip; split <;> omega
theorem zb5 (n a b : Int) : flip n (a * b) = flip n a * b := by
 unfold flip
 split
 ·rw [Int.neg_mul]
 ·rfl
theorem ziy (n a b : Int) : flip n (a + b) = flip n a + flip n b := by unfold flip; split <;> omega
theorem zht {n m b : Int} (h : -b <= m /\ m <= b) : flip n m <= b := by unfold flip; split <;> omega
def Cn (f : Form) (g h : Half) : Prop := 0 <= flip (det g h) (fx f h) /\ 0 <= flip (det g h) (-fx f g)
theorem Cn.symm {f : Form} {g h : Half} (hd : det g h ≠ 0) (c : Cn f g h) : Cn f h g := by
 unfold Cn at *
 have e : det h g = -det g h := by rw [zcJ]
 have e1 := zgw (n := det g h) (m := -fx f g) hd
 have e2 := zgw (n := det g h) (m := fx f h) hd
 rw [Int.neg_neg] at e1
 rw [e, e1, e2]
 exact ⟨c.2, c.1⟩
theorem zfU {f : Form} {a : Corner} {x : Num × Num} (h1 : ef x.1.h a = 0) (h2 : ef x.2.h a = 0) (c : Cn f x.1.h x.2.h) : usesB f a x ≠ none := by
 unfold usesB
 have e : f.Y * x.1.h.A - f.X * x.1.h.B = -fx f x.1.h := by unfold fx; omega
 have c2 : 0 <= flip (det x.1.h x.2.h) (f.Y * x.1.h.A - f.X * x.1.h.B) := by rw [e]; exact c.2
 rw [if_pos ⟨⟨(ze8 _ _).2 h1, (ze8 _ _).2 h2⟩, c.1, c2⟩]
 exact fun e => by cases e
theorem zdR {l : List Half} {f : Form} {a : Corner} {g h : Half} (hg : g ∈ hsL l) (hh : h ∈ hsL l) (hd : det g h ≠ 0) (h1 : ef g a = 0) (h2 : ef h a = 0) (c : Cn f g h) : ∃ x ∈ pairsL (allL l), usesB f a x ≠ none := by
 rw [<- ze2] at hg hh
 obtain ⟨x, hx, rfl⟩ := List.mem_map.1 hg
 obtain ⟨y, hy, rfl⟩ := List.mem_map.1 hh
 rcases pairs_of hx hy hd with hp | hp
 ·exact ⟨_, hp, zfU h1 h2 c⟩
 ·exact ⟨_, hp, zfU h2 h1 (c.symm hd)⟩
theorem zoi {f : Form} {h j : Half} (hd : det h j ≠ 0) (h0 : fx f h = 0) (hp : 0 <= f.X * h.A + f.Y * h.B) : Cn f h j := by
 have hz : h.A ≠ 0 \/ h.B ≠ 0 := by
  refine Classical.not_not.1 fun hn => hd ?_
  have e1 : h.A = 0 := by omega
  have e2 : h.B = 0 := by omega
  rw [zai, e1, e2]; simp
 have sq := zfY hz
 have e : (h.A * h.A + h.B * h.B) * fx f j = (f.X * h.A + f.Y * h.B) * det h j := by
  unfold fx at h0 ⊢
  rw [zai]
  have h0' : f.X * h.B = f.Y * h.A := by omega
  grind
 unfold Cn
 rw [h0]
 refine ⟨?_, by unfold flip; split <;> omega⟩
 unfold flip
 split
 ·rename_i hn
  have : (f.X * h.A + f.Y * h.B) * det h j <= 0 := Int.mul_nonpos_of_nonneg_of_nonpos hp (by omega)
  rcases Int.lt_or_le 0 (fx f j) with g | g
  ·have := Int.mul_pos sq g; omega
  ·omega
 ·have : 0 <= (f.X * h.A + f.Y * h.B) * det h j := Int.mul_nonneg hp (by omega)
  rcases Int.lt_or_le (fx f j) 0 with g | g
  ·have := Int.mul_neg_of_pos_of_neg sq g; omega
  ·omega
theorem other_edge {h g1 g2 : Half} (hz : h.A ≠ 0 \/ h.B ≠ 0) (hd : det g1 g2 ≠ 0) : det h g1 ≠ 0 \/ det h g2 ≠ 0 := by
 refine Classical.not_not.1 fun hn => hd ?_
 have e1 : det h g1 = 0 := by omega
 have e2 : det h g2 = 0 := by omega
 rw [zai] at e1 e2 ⊢
 rcases hz with hz | hz
 ·have : h.A * (g1.A * g2.B - g2.A * g1.B) = 0 := by
   have q1 : h.A * g1.B = g1.A * h.B := by omega
   have q2 : h.A * g2.B = g2.A * h.B := by omega
   grind
  rcases Int.mul_eq_zero.1 this with e | e
  ·exact absurd e hz
  ·exact e
 ·have : h.B * (g1.A * g2.B - g2.A * g1.B) = 0 := by
   have q1 : h.A * g1.B = g1.A * h.B := by omega
   have q2 : h.A * g2.B = g2.A * h.B := by omega
   grind
  rcases Int.mul_eq_zero.1 this with e | e
  ·exact absurd e hz
  ·exact e
theorem zif {l : List Half} {f : Form} {a : Corner} (V : Vt (hsL l) a) {h : Half} (hh : h ∈ hsL l) (hz : h.A ≠ 0 \/ h.B ≠ 0) (ht : ef h a = 0) (h0 : fx f h = 0) (hp : 0 <= f.X * h.A + f.Y * h.B) : ∃ x ∈ pairsL (allL l), usesB f a x ≠ none := by
 obtain ⟨g1, m1, g2, m2, hd, t1, t2⟩ := V.ti
 rcases other_edge hz hd with e | e
 ·exact zdR hh m1 e ht t1 (zoi e h0 hp)
 ·exact zdR hh m2 e ht t2 (zoi e h0 hp)
theorem zjl {l : List Half} {f : Form} {a : Corner} (h1 : checkL l = 0) (hf : slope f.X f.Y = true) (h0 : f ≠ ⟨0, 0⟩) (V : Vt (hsL l) a) (hmax : ∀ q, Pt l q -> vle f q a) : ∃ x ∈ pairsL (allL l), usesB f a x ≠ none := by
 have S := zik h1
 have aD : 0 < a.Den := by have := (zas V.va).d; omega
 rcases lp S (f := f) (zeQ hf).to4 with c | ⟨g, hg, h, hh, D, hV⟩
 ·exact (zfL c aD V.fe).elim
 ·have pD : 0 < (crossing g h).Den := by have := (zas hV.va).d; omega
  have dp := D.d
  obtain ⟨t1, t2⟩ := zao (g := g) (h := h) (by omega)
  have slack : ∀ q : Corner, det g h * fv f q - num f g h * q.Den = fx f h * ef g q - fx f g * ef h q := fun q => by
   unfold num fx ef fv
   simp only [zai]
   grind
  have sp := slack (crossing g h)
  rw [t1, t2, Int.mul_zero, Int.mul_zero] at sp
  have sa := slack a
  have hm := hmax (crossing g h) ⟨pD, hV.fe⟩
  unfold vle at hm
  have k1 := Int.mul_le_mul_of_nonneg_left hm (Int.le_of_lt dp)
  have e1 : det g h * (fv f (crossing g h) * a.Den) = (num f g h * (crossing g h).Den) * a.Den := by
   have : det g h * fv f (crossing g h) = num f g h * (crossing g h).Den := by omega
   rw [<- Int.mul_assoc, this]
  have e2 : num f g h * (crossing g h).Den * a.Den = (crossing g h).Den * (num f g h * a.Den) := by grind
  have e3 : det g h * (fv f a * (crossing g h).Den) = (crossing g h).Den * (det g h * fv f a) := by grind
  have k2 : num f g h * a.Den <= det g h * fv f a := Int.le_of_mul_le_mul_left (by omega) pD
  have ga := V.fe g hg
  have ha := V.fe h hh
  have u1 : fx f h * ef g a <= 0 := Int.mul_nonpos_of_nonneg_of_nonpos D.s ga
  have u2 : 0 <= fx f g * ef h a := Int.mul_nonneg_of_nonpos_of_nonpos D.t ha
  have z1 : fx f h * ef g a = 0 := by omega
  have z2 : fx f g * ef h a = 0 := by omega
  have gz := S.nz g hg
  have hz := S.nz h hh
  by_cases c1 : fx f h = 0
  ·-- the form lies along h's normal
   have hp : 0 <= f.X * h.A + f.Y * h.B := by
    have e : (h.A * h.A + h.B * h.B) * fx f g = -((f.X * h.A + f.Y * h.B) * det g h) := by
     unfold fx at c1 ⊢
     rw [zai]
     have c1' : f.X * h.B = f.Y * h.A := by omega
     grind
    have hs := Int.mul_nonpos_of_nonneg_of_nonpos (Int.le_of_lt (zfY hz)) D.t
    rcases Int.lt_or_le (f.X * h.A + f.Y * h.B) 0 with q | q
    ·have := Int.mul_neg_of_neg_of_pos q dp; omega
    ·exact q
   by_cases c2 : fx f g = 0
   ·exfalso
    apply h0
    have q1 : det g h * f.X = 0 := by
     have : det g h * f.X = fx f h * g.A - fx f g * h.A := by unfold fx; rw [zai]; grind
     rw [this, c1, c2]; simp
    have q2 : det g h * f.Y = 0 := by
     have : det g h * f.Y = fx f h * g.B - fx f g * h.B := by unfold fx; rw [zai]; grind
     rw [this, c1, c2]; simp
    have r1 : f.X = 0 := by rcases Int.mul_eq_zero.1 q1 with e | e <;> omega
    have r2 : f.Y = 0 := by rcases Int.mul_eq_zero.1 q2 with e | e <;> omega
    cases f; simp at r1 r2; rw [r1, r2]
   ·have th : ef h a = 0 := by rcases Int.mul_eq_zero.1 z2 with e | e; exact absurd e c2; exact e
    exact zif V hh hz th c1 hp
  ·have tg : ef g a = 0 := by rcases Int.mul_eq_zero.1 z1 with e | e; exact absurd e c1; exact e
   by_cases c2 : fx f g = 0
   ·have hp : 0 <= f.X * g.A + f.Y * g.B := by
     have e : (g.A * g.A + g.B * g.B) * fx f h = (f.X * g.A + f.Y * g.B) * det g h := by
      unfold fx at c2 ⊢
      rw [zai]
      have c2' : f.X * g.B = f.Y * g.A := by omega
      grind
     have hs := Int.mul_nonneg (Int.le_of_lt (zfY gz)) D.s
     rcases Int.lt_or_le (f.X * g.A + f.Y * g.B) 0 with q | q
     ·have := Int.mul_neg_of_neg_of_pos q dp; omega
     ·exact q
    exact zif V hg gz tg c2 hp
   ·have th : ef h a = 0 := by rcases Int.mul_eq_zero.1 z2 with e | e; exact absurd e c2; exact e
    refine zdR hg hh (by omega) tg th ⟨?_, ?_⟩
    ·unfold flip; rw [if_neg (by omega)]; exact D.s
    ·unfold flip; rw [if_neg (by omega)]; have := D.t; omega
theorem zhV (u v : Use) : usedL [u, v] = (if u.T = 0 then [] else [u]) ++ (if v.T = 0 then [] else [v]) := by
 have e : usedL [u, v] = filtP unused [u, v] 2 := by unfold usedL; rfl
 rw [e, za8, za8, zeW, List.nil_append]
 have e1 : unused ([u, v].getD 0 default) = (u.T == 0) := rfl
 have e2 : unused ([u, v].getD 1 default) = (v.T == 0) := rfl
 rw [e1, e2]
 simp only [beq_iff_eq]
 rfl
theorem zoD (l : List Half) (u v : Use) : sumU l (usedL [u, v]) = ⟨u.T * (useH l u.H).A + v.T * (useH l v.H).A, u.T * (useH l u.H).B + v.T * (useH l v.H).B, u.T * (useH l u.H).C + v.T * (useH l v.H).C⟩ := by
 rw [zhV]
 split
 ·rename_i h1
  split
  ·rename_i h2; simp [sumU, h1, h2]
  ·simp [sumU, plusH, h1]
 ·split
  ·rename_i h2; simp [sumU, plusH, h2]
  ·simp [sumU, plusH]
theorem znc {l : List Half} {f : Form} {a : Corner} (h1 : checkL l = 0) (hf : slope f.X f.Y = true) (V : Vt (hsL l) a) {x : Num × Num} (hx : x ∈ pairsL (allL l)) {d : Int} {u : List Use} (hu : usesB f a x = some (d, u)) : Bst l f ⟨value f a, a, d, u⟩ := by
 obtain ⟨_, _, n3⟩ := zaq h1
 obtain ⟨m1, m2, m3⟩ := zbp hx
 have a1 := zdx m1
 have a2 := zdx m2
 have o1 := zbH n3 _ m1
 have o2 := zbH n3 _ m2
 have oF := zeQ hf
 unfold usesB at hu
 split at hu
 case isFalse => cases hu
 rename_i hc
 obtain ⟨⟨t1, t2⟩, c1, c2⟩ := hc
 rw [ze8] at t1 t2
 simp only [Option.some.injEq, Prod.mk.injEq] at hu
 obtain ⟨rfl, rfl⟩ := hu
 generalize hs : flip (det x.1.h x.2.h) (f.X * x.2.h.B - f.Y * x.2.h.A) = s at *
 generalize ht : flip (det x.1.h x.2.h) (f.Y * x.1.h.A - f.X * x.1.h.B) = t at *
 have bs : s <= 2000000 := by
  rw [<- hs]
  have b1 := mulB oF.x o2.b
  have b2 := mulB oF.y o2.a
  exact zht (by omega)
 have bt : t <= 2000000 := by
  rw [<- ht]
  have b1 := mulB oF.y o1.a
  have b2 := mulB oF.x o1.b
  exact zht (by omega)
 have dp := zfE m3
 have db : flip (det x.1.h x.2.h) (det x.1.h x.2.h) <= 2000000 := zht (zpG o1 o2)
 have hne : x.1.n ≠ x.2.n := zpc m1 m2 fun e => m3 (by rw [e, znk])
 have fm : formedL l.length (usedL [⟨x.1.n, s⟩, ⟨x.2.n, t⟩]) = true := by
  unfold formedL
  rw [Bool.and_eq_true, decide_eq_true_iff, zhV]
  refine ⟨?_, zkv (fun u hu => ?_) ?_ _ (Nat.le_refl _)⟩
  ·split <;> split <;> simp
  ·rcases List.mem_append.1 hu with hu | hu
   ·split at hu
    ·cases hu
    ·rename_i h0
     obtain rfl := List.mem_singleton.1 hu
     exact ⟨a1.2, (by show 1 <= s; have : s ≠ 0 := h0; omega), (by show s <= 2097152; omega)⟩
   ·split at hu
    ·cases hu
    ·rename_i h0
     obtain rfl := List.mem_singleton.1 hu
     exact ⟨a2.2, (by show 1 <= t; have : t ≠ 0 := h0; omega), (by show t <= 2097152; omega)⟩
  ·split <;> split <;> simp [hne]
 have es : sumE l (usedL [⟨x.1.n, s⟩, ⟨x.2.n, t⟩]) = (⟨s * x.1.h.A + t * x.2.h.A, s * x.1.h.B + t * x.2.h.B, s * x.1.h.C + t * x.2.h.C⟩, true) := by
  unfold sumE
  rw [if_pos fm, zoD, <- a1.1, <- a2.1]
 have idA : s * x.1.h.A + t * x.2.h.A = flip (det x.1.h x.2.h) (det x.1.h x.2.h) * f.X := by
  rw [<- hs, <- ht, <- zb5, <- zb5, <- ziy, <- zb5]
  congr 1
  rw [zai]; grind
 have idB : s * x.1.h.B + t * x.2.h.B = flip (det x.1.h x.2.h) (det x.1.h x.2.h) * f.Y := by
  rw [<- hs, <- ht, <- zb5, <- zb5, <- ziy, <- zb5]
  congr 1
  rw [zai]; grind
 obtain ⟨vf, g, gp, vn, vd⟩ := zbl hf V.va
 refine ⟨by rw [es], ?_, vf, V.va, by rw [es]; exact idA, by rw [es]; exact idB, ?_, (zaK l a).2 V.fe, rfl⟩
 ·rw [zab]
  show 1 <= flip (det x.1.h x.2.h) (det x.1.h x.2.h) /\ flip (det x.1.h x.2.h) (det x.1.h x.2.h) <= 2097152
  omega
 ·rw [es]
  show (s * x.1.h.C + t * x.2.h.C) * (value f a).Den = flip (det x.1.h x.2.h) (det x.1.h x.2.h) * (value f a).Num
  generalize flip (det x.1.h x.2.h) (det x.1.h x.2.h) = d at *
  unfold ef at t1 t2
  unfold fv at vn
  have e1 : (s * x.1.h.C + t * x.2.h.C) * a.Den = d * (f.X * a.X + f.Y * a.Y) := by
   have q1 : x.1.h.C * a.Den = x.1.h.A * a.X + x.1.h.B * a.Y := by omega
   have q2 : x.2.h.C * a.Den = x.2.h.A * a.X + x.2.h.B * a.Y := by omega
   grind
  rw [vn, vd] at e1
  have e2 : g * ((s * x.1.h.C + t * x.2.h.C) * (value f a).Den) = g * (d * (value f a).Num) := by grind
  exact Int.eq_of_mul_eq_mul_left (by omega) e2
theorem zp0 {l : List Half} {f : Form} (e : (bestE l f).2 = 0) : cbE l f (bestE l f).1 = 0 := by
 by_cases h1 : checkL l = 0
 case neg => unfold bestE at e; rw [if_neg h1] at e; exact absurd e h1
 by_cases hf : slope f.X f.Y = true
 case neg => rw [zcN h1 (by simpa using hf)] at e; cases e
 by_cases h0 : cornersL l = []
 ·rw [show bestE l f = (noBound, 9) by unfold bestE; rw [if_pos h1, if_pos hf, if_pos h0]] at e; cases e
 obtain ⟨n1, n2, n3⟩ := zaq h1
 have V := (zcl n3 _).1 (zc2 f h0)
 have B : Bst l f (bestE l f).1 := by
  unfold bestE
  rw [if_pos h1, if_pos hf, if_neg h0]
  by_cases hz : f = ⟨0, 0⟩
  ·rw [if_pos hz]
   obtain ⟨vf, g, gp, vn, vd⟩ := zbl hf V.va
   have fm : formedL l.length [] = true := by
    unfold formedL
    rw [Bool.and_eq_true, decide_eq_true_iff]
    exact ⟨by simp, zdS _ _⟩
   have es : sumE l [] = (⟨0, 0, 0⟩, true) := by unfold sumE; rw [if_pos fm]; rfl
   refine ⟨by rw [es], zab.2 (show (1 : Int) <= 1 /\ (1 : Int) <= 2097152 by decide), vf, V.va, ?_, ?_, ?_, (zaK l _).2 V.fe, rfl⟩
   ·rw [es, hz]; rfl
   ·rw [es, hz]; rfl
   ·rw [es]
    show 0 * _ = 1 * (value f (bestAt f (cornersL l))).Num
    have : fv f (bestAt f (cornersL l)) = 0 := by unfold fv; rw [hz]; simp
    rw [this] at vn
    rcases Int.mul_eq_zero.1 vn.symm with q | q
    ·omega
    ·rw [q]; simp
  ·rw [if_neg hz]
   obtain ⟨x, hx, hn⟩ := zjl h1 hf hz V fun q hq => ziR h1 hf hq
   cases hfs : (pairsL (allL l)).findSome? (usesB f (bestAt f (cornersL l))) with
   | none =>
    exfalso
    have := List.findSome?_eq_none_iff.1 hfs x hx
    exact hn this
   | some p =>
    obtain ⟨d, u⟩ := p
    obtain ⟨y, hy, hyu⟩ := List.exists_of_findSome?_eq_some hfs
    exact znc h1 hf V hy hyu
 unfold cbE
 rw [if_pos h1, if_pos hf, if_pos B]
end Go.Pg
