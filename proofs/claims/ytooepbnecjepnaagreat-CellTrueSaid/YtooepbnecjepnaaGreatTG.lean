/- Texts joined and shortened by program. -/
import Derived.Test.YtooepbnecjepnaaGreatTF
import Derived.Test.YtooepbnecjepnaaGreatTE
import Derived.Test.YtooepbnecjepnaaGreatTB
import Derived.Test.YtooepbnecjepnaaGreatTC
import Derived.Test.YtooepbnecjepnaaGreatTA
import Derived.Test.YtooepbnecjepnaaGreatT8
set_option maxHeartbeats 4000000
set_option linter.all false
set_option maxRecDepth 100000
namespace Go.Pg
open Go.Proofs Go.RowKit
structure Bst (l : List Half) (f : Form) (b : Bound) : Prop where
  sm : (sumE l b.Uses).2 = true
  sc : within b.Scale 1 2097152 = true
  fr : fraction b.V = true
  va : valid b.At = true
  A : (sumE l b.Uses).1.A = b.Scale * f.X
  B : (sumE l b.Uses).1.B = b.Scale * f.Y
  C : (sumE l b.Uses).1.C * b.V.Den = b.Scale * b.V.Num
  inn : outsideL (allL l) b.At = -5
  at_ : value f b.At = b.V
theorem zpp (l : List Half) (f : Form) (b : Bound) : Bst l f b ↔ ((sumE l b.Uses).2 = true /\ within b.Scale 1 2097152 = true /\ fraction b.V = true /\ valid b.At = true /\ (sumE l b.Uses).1.A = b.Scale * f.X /\ (sumE l b.Uses).1.B = b.Scale * f.Y /\ (sumE l b.Uses).1.C * b.V.Den = b.Scale * b.V.Num /\ outsideL (allL l) b.At = -5 /\ value f b.At = b.V) :=
 ⟨fun h => ⟨h.sm, h.sc, h.fr, h.va, h.A, h.B, h.C, h.inn, h.at_⟩, fun ⟨a, b, c, d, e, f, g, h, i⟩ => ⟨a, b, c, d, e, f, g, h, i⟩⟩
noncomputable instance (l : List Half) (f : Form) (b : Bound) : Decidable (Bst l f b) := decidable_of_iff' _ (zpp l f b)
@[irreducible] noncomputable def cbE (l : List Half) (f : Form) (b : Bound) : Int := if checkL l = 0 then if slope f.X f.Y = true then if Bst l f b then 0 else 8 else 1 else checkL l
theorem zh8 {l : List Half} {f : Form} (h1 : checkL l = 0) (h0 : cornersL l ≠ []) (hf : slope f.X f.Y = true) : ∃ b, bestE l f = (b, 0) /\ b.V = value f (bestAt f (cornersL l)) := by
 unfold bestE
 rw [if_pos h1, if_pos hf, if_neg h0]
 split
 ·exact ⟨_, rfl, rfl⟩
 ·split
  ·exact ⟨_, rfl, rfl⟩
  ·exact ⟨_, rfl, rfl⟩
theorem zcO {l : List Corner} (f : Form) (h0 : l ≠ []) : bestAt f l ∈ l := by
 unfold bestAt
 exact zb7 f l (List.length_pos_iff.2 h0) l.length (Nat.le_refl _)
theorem zcE {l : List Half} {f : Form} (h1 : checkL l = 0) (hf : slope f.X f.Y = false) : bestE l f = (noBound, 1) := by
 unfold bestE
 rw [if_pos h1, if_neg (by rw [hf]; decide)]
def fv (f : Form) (p : Corner) : Int := f.X * p.X + f.Y * p.Y
theorem zbg {f : Form} {p : Corner} (hf : slope f.X f.Y = true) (hp : valid p = true) : fraction (value f p) = true /\ ∃ g : Int, 0 < g /\ fv f p = g * (value f p).Num /\ p.Den = g * (value f p).Den := by
 have oF := zfL hf
 have oC := zaK hp
 have b1 := mulB oF.x oC.x
 have b2 := mulB oF.y oC.y
 have d := oC.d
 have e : value f p = ⟨(fv f p).tdiv (Nat.gcd (fv f p).natAbs p.Den.natAbs), p.Den.tdiv (Nat.gcd (fv f p).natAbs p.Den.natAbs)⟩ := by
  unfold value fv
  simp only [gcdL, List.foldl_cons, List.foldl_nil, Nat.gcd_zero_left]
 have nb : -2199023255552 <= fv f p /\ fv f p <= 2199023255552 := by unfold fv; omega
 have hg : 0 < Nat.gcd (fv f p).natAbs p.Den.natAbs := Nat.gcd_pos_of_pos_right _ (by omega)
 rw [e]
 generalize fv f p = n at *
 generalize hG : Nat.gcd n.natAbs p.Den.natAbs = G at *
 obtain ⟨a, ha⟩ : (G : Int) ∣ n := Int.ofNat_dvd_left.2 (by rw [<- hG]; exact Nat.gcd_dvd_left _ _)
 obtain ⟨b, hb⟩ : (G : Int) ∣ p.Den := Int.ofNat_dvd_left.2 (by rw [<- hG]; exact Nat.gcd_dvd_right _ _)
 have gpos : (0 : Int) < G := by omega
 have e1 : n.tdiv G = a := by rw [ha]; exact Int.mul_tdiv_cancel_left _ (by omega)
 have e2 : p.Den.tdiv G = b := by rw [hb]; exact Int.mul_tdiv_cancel_left _ (by omega)
 have hbpos : 0 < b := by
  have : 0 < (G : Int) * b := by omega
  exact Int.pos_of_mul_pos_right this (by omega) |> fun h => h
 have hle : b <= (G : Int) * b := by
  have := Int.mul_le_mul_of_nonneg_right (show (1 : Int) <= G by omega) (show 0 <= b by omega)
  omega
 have hna : a.natAbs <= n.natAbs := by
  rw [ha, Int.natAbs_mul, Int.natAbs_natCast]
  exact Nat.le_mul_of_pos_left _ hg
 have hone : Nat.gcd a.natAbs b.natAbs = 1 := by
  have : G * Nat.gcd a.natAbs b.natAbs = G := by
   rw [<- Nat.gcd_mul_left]
   have q1 : G * a.natAbs = n.natAbs := by rw [ha, Int.natAbs_mul, Int.natAbs_natCast]
   have q2 : G * b.natAbs = p.Den.natAbs := by rw [hb, Int.natAbs_mul, Int.natAbs_natCast]
   rw [q1, q2, hG]
  exact Nat.eq_of_mul_eq_mul_left hg (by omega)
 refine ⟨?_, G, gpos, by rw [e1]; exact ha, by rw [e2]; exact hb⟩
 unfold fraction
 rw [e1, e2]
 simp only [Bool.and_eq_true, zab, beq_iff_eq, gcdL, List.foldl_cons, List.foldl_nil, Nat.gcd_zero_left, hone]
 exact ⟨⟨⟨by omega, by omega⟩, by omega, by omega⟩, rfl⟩
def vle (f : Form) (p q : Corner) : Prop := fv f p * q.Den <= fv f q * p.Den
theorem zhe (f : Form) (p : Corner) : vle f p p := Int.le_refl _
theorem zdk {f : Form} {p q r : Corner} (hp : 0 < p.Den) (hq : 0 < q.Den) (hr : 0 < r.Den) (h1 : vle f p q) (h2 : vle f q r) : vle f p r := by
 unfold vle at *
 have a1 := Int.mul_le_mul_of_nonneg_right h1 (Int.le_of_lt hr)
 have a2 := Int.mul_le_mul_of_nonneg_right h2 (Int.le_of_lt hp)
 have e1 : fv f q * p.Den * r.Den = fv f q * r.Den * p.Den := by grind
 have e2 : fv f p * q.Den * r.Den = q.Den * (fv f p * r.Den) := by grind
 have e3 : fv f r * q.Den * p.Den = q.Den * (fv f r * p.Den) := by grind
 have : q.Den * (fv f p * r.Den) <= q.Den * (fv f r * p.Den) := by omega
 exact Int.le_of_mul_le_mul_left this hq
theorem zhL {f : Form} {p q : Corner} (hf : slope f.X f.Y = true) (hp : valid p = true) (hq : valid q = true) : ¬ less (value f p) (value f q) < 0 ↔ vle f q p := by
 obtain ⟨f1, g1, p1, n1, d1⟩ := zbg hf hp
 obtain ⟨f2, g2, p2, n2, d2⟩ := zbg hf hq
 unfold less
 rw [if_pos ⟨f1, f2⟩]
 unfold vle
 rw [n1, n2, d1, d2]
 have e1 : g2 * (value f q).Num * (g1 * (value f p).Den) = g1 * g2 * ((value f q).Num * (value f p).Den) := by grind
 have e2 : g1 * (value f p).Num * (g2 * (value f q).Den) = g1 * g2 * ((value f p).Num * (value f q).Den) := by grind
 rw [e1, e2]
 have gp := Int.mul_pos p1 p2
 unfold ord
 constructor
 ·intro h
  refine Int.mul_le_mul_of_nonneg_left ?_ (Int.le_of_lt gp)
  refine Classical.byContradiction fun hh => h ?_
  rw [if_pos (by omega)]; decide
 ·intro h
  have := Int.le_of_mul_le_mul_left h gp
  rw [if_neg (by omega)]
  split <;> decide
theorem zbq {f : Form} {l : List Corner} (hf : slope f.X f.Y = true) (hl : ∀ q ∈ l, valid q = true) (h0 : 0 < l.length) : ∀ i, i <= l.length -> ∀ j, j < i \/ j = 0 -> vle f (l.getD j default) (bestTo f l i)
 | 0, _, j, hj => by
  obtain rfl : j = 0 := by omega
  rw [zce]; exact zhe f _
 | i + 1, hi, j, hj => by
  have vi := hl _ (gd1 (show i < l.length by omega) default)
  have vb := hl _ (zb7 f l h0 i (by omega))
  have den := fun (q : Corner) (h : valid q = true) => (zaK h).d
  have vj : valid (l.getD j default) = true := hl _ (gd1 (by omega) default)
  rw [zbA f l (by omega)]
  unfold stepB
  by_cases hc : less (value f (bestTo f l i)) (value f (l.getD i default)) < 0
  ·rw [if_pos hc]
   have hle : vle f (bestTo f l i) (l.getD i default) := by
    unfold vle
    have : ¬ vle f (l.getD i default) (bestTo f l i) := fun h => ((zhL hf vb vi).2 h) hc
    unfold vle at this
    omega
   rcases Nat.lt_or_ge j i with h | h
   ·exact zdk (by have := den _ vj; omega) (by have := den _ vb; omega) (by have := den _ vi; omega) (zbq hf hl h0 i (by omega) j (.inl h)) hle
   ·by_cases hj0 : j = 0
    ·exact zdk (by have := den _ vj; omega) (by have := den _ vb; omega) (by have := den _ vi; omega) (zbq hf hl h0 i (by omega) j (.inr hj0)) hle
    ·obtain rfl : j = i := by omega
     exact zhe f _
  ·rw [if_neg hc]
   rcases Nat.lt_or_ge j i with h | h
   ·exact zbq hf hl h0 i (by omega) j (.inl h)
   ·by_cases hj0 : j = 0
    ·exact zbq hf hl h0 i (by omega) j (.inr hj0)
    ·obtain rfl : j = i := by omega
     exact (zhL hf vb vi).1 hc
theorem ziL {f : Form} {l : List Corner} (hf : slope f.X f.Y = true) (hl : ∀ q ∈ l, valid q = true) {q : Corner} (hq : q ∈ l) : vle f q (bestAt f l) := by
 obtain ⟨j, hj, rfl⟩ := List.getElem_of_mem hq
 have := zbq hf hl (by omega) l.length (Nat.le_refl _) j (.inl hj)
 unfold bestAt
 rwa [gdI hj] at this
theorem zh9 {l : List Half} {f : Form} (h1 : checkL l = 0) (hf : slope f.X f.Y = true) {q : Corner} (hq : Pt l q) : vle f q (bestAt f (cornersL l)) := by
 obtain ⟨_, _, n3⟩ := zaO h1
 obtain ⟨p, hV, _, hmax⟩ := zpE (zhH h1) (f := f) (zfL hf).to4 hq.1 hq.2
 have hp := (zcM n3 p).2 hV
 have hb := zcO f (l := cornersL l) (fun e => by rw [e] at hp; cases hp)
 have vb := ((zcM n3 _).1 hb).va
 have d1 := (zaK hV.va).d
 have d2 := (zaK vb).d
 refine zdk hq.1 (by omega) (by omega) (hmax q hq.1 hq.2) (ziL hf (zdR n3) hp)
theorem zeO (h : Half) (q : Corner) : tight h q = true ↔ ef h q = 0 := by
 unfold tight ef
 rw [beq_iff_eq]; omega
theorem zf2 {n m : Int} (h : n ≠ 0) : flip (-n) (-m) = flip n m := by unfold flip; split <;> split <;> omega
theorem zfd {n : Int} (h : n ≠ 0) : 0 < flip n n := by unfold flip; split <;> omega
theorem zbY (n a b : Int) : flip n (a * b) = flip n a * b := by
 unfold flip
 split
 ·rw [Int.neg_mul]
 ·rfl
theorem zhT (n a b : Int) : flip n (a + b) = flip n a + flip n b := by unfold flip; split <;> omega
theorem zgQ {n m b : Int} (h : -b <= m /\ m <= b) : flip n m <= b := by unfold flip; split <;> omega
def Cn (f : Form) (g h : Half) : Prop := 0 <= flip (det g h) (fx f h) /\ 0 <= flip (det g h) (-fx f g)
theorem Cn.symm {f : Form} {g h : Half} (hd : det g h ≠ 0) (c : Cn f g h) : Cn f h g := by
 unfold Cn at *
 have e : det h g = -det g h := by rw [zcB]
 have e1 := zf2 (n := det g h) (m := -fx f g) hd
 have e2 := zf2 (n := det g h) (m := fx f h) hd
 rw [Int.neg_neg] at e1
 rw [e, e1, e2]
 exact ⟨c.2, c.1⟩
theorem zft {f : Form} {a : Corner} {x : Num × Num} (h1 : ef x.1.h a = 0) (h2 : ef x.2.h a = 0) (c : Cn f x.1.h x.2.h) : usesB f a x ≠ none := by
 unfold usesB
 have e : f.Y * x.1.h.A - f.X * x.1.h.B = -fx f x.1.h := by unfold fx; omega
 have c2 : 0 <= flip (det x.1.h x.2.h) (f.Y * x.1.h.A - f.X * x.1.h.B) := by rw [e]; exact c.2
 rw [if_pos ⟨⟨(zeO _ _).2 h1, (zeO _ _).2 h2⟩, c.1, c2⟩]
 exact fun e => by cases e
theorem zdy {l : List Half} {f : Form} {a : Corner} {g h : Half} (hg : g ∈ hsL l) (hh : h ∈ hsL l) (hd : det g h ≠ 0) (h1 : ef g a = 0) (h2 : ef h a = 0) (c : Cn f g h) : ∃ x ∈ pairsL (allL l), usesB f a x ≠ none := by
 rw [<- zeJ] at hg hh
 obtain ⟨x, hx, rfl⟩ := List.mem_map.1 hg
 obtain ⟨y, hy, rfl⟩ := List.mem_map.1 hh
 rcases pairs_of hx hy hd with hp | hp
 ·exact ⟨_, hp, zft h1 h2 c⟩
 ·exact ⟨_, hp, zft h2 h1 (c.symm hd)⟩
theorem znH {f : Form} {h j : Half} (hd : det h j ≠ 0) (h0 : fx f h = 0) (hp : 0 <= f.X * h.A + f.Y * h.B) : Cn f h j := by
 have hz : h.A ≠ 0 \/ h.B ≠ 0 := by
  refine Classical.not_not.1 fun hn => hd ?_
  have e1 : h.A = 0 := by omega
  have e2 : h.B = 0 := by omega
  rw [zai, e1, e2]; simp
 have sq := zfx hz
 have e : (h.A * h.A + h.B * h.B) * fx f j = (f.X * h.A + f.Y * h.B) * det h j := by
  unfold fx at h0 ⊢
  rw [zai]
  have h0' : f.X * h.B = f.Y * h.A := by omega
  grind
 unfold Cn
 rw [h0]
 refine ⟨?_, by unfold flip; split <;> omega⟩
 unfold flip
 split
 ·rename_i hn
  have : (f.X * h.A + f.Y * h.B) * det h j <= 0 := Int.mul_nonpos_of_nonneg_of_nonpos hp (by omega)
  rcases Int.lt_or_le 0 (fx f j) with g | g
  ·have := Int.mul_pos sq g; omega
  ·omega
 ·have : 0 <= (f.X * h.A + f.Y * h.B) * det h j := Int.mul_nonneg hp (by omega)
  rcases Int.lt_or_le (fx f j) 0 with g | g
  ·have := Int.mul_neg_of_pos_of_neg sq g; omega
  ·omega
theorem other_edge {h g1 g2 : Half} (hz : h.A ≠ 0 \/ h.B ≠ 0) (hd : det g1 g2 ≠ 0) : det h g1 ≠ 0 \/ det h g2 ≠ 0 := by
 refine Classical.not_not.1 fun hn => hd ?_
 have e1 : det h g1 = 0 := by omega
 have e2 : det h g2 = 0 := by omega
 rw [zai] at e1 e2 ⊢
 rcases hz with hz | hz
 ·have : h.A * (g1.A * g2.B - g2.A * g1.B) = 0 := by
   have q1 : h.A * g1.B = g1.A * h.B := by omega
   have q2 : h.A * g2.B = g2.A * h.B := by omega
   grind
  rcases Int.mul_eq_zero.1 this with e | e
  ·exact absurd e hz
  ·exact e
 ·have : h.B * (g1.A * g2.B - g2.A * g1.B) = 0 := by
   have q1 : h.A * g1.B = g1.A * h.B := by omega
   have q2 : h.A * g2.B = g2.A * h.B := by omega
   grind
  rcases Int.mul_eq_zero.1 this with e | e
  ·exact absurd e hz
  ·exact e
theorem zhC {l : List Half} {f : Form} {a : Corner} (V : Vt (hsL l) a) {h : Half} (hh : h ∈ hsL l) (hz : h.A ≠ 0 \/ h.B ≠ 0) (ht : ef h a = 0) (h0 : fx f h = 0) (hp : 0 <= f.X * h.A + f.Y * h.B) : ∃ x ∈ pairsL (allL l), usesB f a x ≠ none := by
 obtain ⟨g1, m1, g2, m2, hd, t1, t2⟩ := V.ti
 rcases other_edge hz hd with e | e
 ·exact zdy hh m1 e ht t1 (znH e h0 hp)
 ·exact zdy hh m2 e ht t2 (znH e h0 hp)
theorem ziK {l : List Half} {f : Form} {a : Corner} (h1 : checkL l = 0) (hf : slope f.X f.Y = true) (h0 : f ≠ ⟨0, 0⟩) (V : Vt (hsL l) a) (hmax : ∀ q, Pt l q -> vle f q a) : ∃ x ∈ pairsL (allL l), usesB f a x ≠ none := by
 have S := zhH h1
 have aD : 0 < a.Den := by have := (zaK V.va).d; omega
 rcases lp S (f := f) (zfL hf).to4 with c | ⟨g, hg, h, hh, D, hV⟩
 ·exact (zfj c aD V.fe).elim
 ·have pD : 0 < (crossing g h).Den := by have := (zaK hV.va).d; omega
  have dp := D.d
  obtain ⟨t1, t2⟩ := zao (g := g) (h := h) (by omega)
  have slack : ∀ q : Corner, det g h * fv f q - num f g h * q.Den = fx f h * ef g q - fx f g * ef h q := fun q => by
   unfold num fx ef fv
   simp only [zai]
   grind
  have sp := slack (crossing g h)
  rw [t1, t2, Int.mul_zero, Int.mul_zero] at sp
  have sa := slack a
  have hm := hmax (crossing g h) ⟨pD, hV.fe⟩
  unfold vle at hm
  have k1 := Int.mul_le_mul_of_nonneg_left hm (Int.le_of_lt dp)
  have e1 : det g h * (fv f (crossing g h) * a.Den) = (num f g h * (crossing g h).Den) * a.Den := by
   have : det g h * fv f (crossing g h) = num f g h * (crossing g h).Den := by omega
   rw [<- Int.mul_assoc, this]
  have e2 : num f g h * (crossing g h).Den * a.Den = (crossing g h).Den * (num f g h * a.Den) := by grind
  have e3 : det g h * (fv f a * (crossing g h).Den) = (crossing g h).Den * (det g h * fv f a) := by grind
  have k2 : num f g h * a.Den <= det g h * fv f a := Int.le_of_mul_le_mul_left (by omega) pD
  have ga := V.fe g hg
  have ha := V.fe h hh
  have u1 : fx f h * ef g a <= 0 := Int.mul_nonpos_of_nonneg_of_nonpos D.s ga
  have u2 : 0 <= fx f g * ef h a := Int.mul_nonneg_of_nonpos_of_nonpos D.t ha
  have z1 : fx f h * ef g a = 0 := by omega
  have z2 : fx f g * ef h a = 0 := by omega
  have gz := S.nz g hg
  have hz := S.nz h hh
  by_cases c1 : fx f h = 0
  ·-- the form lies along h's normal
   have hp : 0 <= f.X * h.A + f.Y * h.B := by
    have e : (h.A * h.A + h.B * h.B) * fx f g = -((f.X * h.A + f.Y * h.B) * det g h) := by
     unfold fx at c1 ⊢
     rw [zai]
     have c1' : f.X * h.B = f.Y * h.A := by omega
     grind
    have hs := Int.mul_nonpos_of_nonneg_of_nonpos (Int.le_of_lt (zfx hz)) D.t
    rcases Int.lt_or_le (f.X * h.A + f.Y * h.B) 0 with q | q
    ·have := Int.mul_neg_of_neg_of_pos q dp; omega
    ·exact q
   by_cases c2 : fx f g = 0
   ·exfalso
    apply h0
    have q1 : det g h * f.X = 0 := by
     have : det g h * f.X = fx f h * g.A - fx f g * h.A := by unfold fx; rw [zai]; grind
     rw [this, c1, c2]; simp
    have q2 : det g h * f.Y = 0 := by
     have : det g h * f.Y = fx f h * g.B - fx f g * h.B := by unfold fx; rw [zai]; grind
     rw [this, c1, c2]; simp
    have r1 : f.X = 0 := by rcases Int.mul_eq_zero.1 q1 with e | e <;> omega
    have r2 : f.Y = 0 := by rcases Int.mul_eq_zero.1 q2 with e | e <;> omega
    cases f; simp at r1 r2; rw [r1, r2]
   ·have th : ef h a = 0 := by rcases Int.mul_eq_zero.1 z2 with e | e; exact absurd e c2; exact e
    exact zhC V hh hz th c1 hp
  ·have tg : ef g a = 0 := by rcases Int.mul_eq_zero.1 z1 with e | e; exact absurd e c1; exact e
   by_cases c2 : fx f g = 0
   ·have hp : 0 <= f.X * g.A + f.Y * g.B := by
     have e : (g.A * g.A + g.B * g.B) * fx f h = (f.X * g.A + f.Y * g.B) * det g h := by
      unfold fx at c2 ⊢
      rw [zai]
      have c2' : f.X * g.B = f.Y * g.A := by omega
      grind
     have hs := Int.mul_nonneg (Int.le_of_lt (zfx gz)) D.s
     rcases Int.lt_or_le (f.X * g.A + f.Y * g.B) 0 with q | q
     ·have := Int.mul_neg_of_neg_of_pos q dp; omega
     ·exact q
    exact zhC V hg gz tg c2 hp
   ·have th : ef h a = 0 := by rcases Int.mul_eq_zero.1 z2 with e | e; exact absurd e c2; exact e
    refine zdy hg hh (by omega) tg th ⟨?_, ?_⟩
    ·unfold flip; rw [if_neg (by omega)]; exact D.s
    ·unfold flip; rw [if_neg (by omega)]; have := D.t; omega
theorem zhh (u v : Use) : usedL [u, v] = (if u.T = 0 then [] else [u]) ++ (if v.T = 0 then [] else [v]) := by
 have e : usedL [u, v] = filtP unused [u, v] 2 := by unfold usedL; rfl
 rw [e, za3, za3, zeA, List.nil_append]
 have e1 : unused ([u, v].getD 0 default) = (u.T == 0) := rfl
 have e2 : unused ([u, v].getD 1 default) = (v.T == 0) := rfl
 rw [e1, e2]
 simp only [beq_iff_eq]
 rfl
theorem zn1 (l : List Half) (u v : Use) : sumU l (usedL [u, v]) = ⟨u.T * (useH l u.H).A + v.T * (useH l v.H).A, u.T * (useH l u.H).B + v.T * (useH l v.H).B, u.T * (useH l u.H).C + v.T * (useH l v.H).C⟩ := by
 rw [zhh]
 split
 ·rename_i h1
  split
  ·rename_i h2; simp [sumU, h1, h2]
  ·simp [sumU, plusH, h1]
 ·split
  ·rename_i h2; simp [sumU, plusH, h2]
  ·simp [sumU, plusH]
theorem zmC {l : List Half} {f : Form} {a : Corner} (h1 : checkL l = 0) (hf : slope f.X f.Y = true) (V : Vt (hsL l) a) {x : Num × Num} (hx : x ∈ pairsL (allL l)) {d : Int} {u : List Use} (hu : usesB f a x = some (d, u)) : Bst l f ⟨value f a, a, d, u⟩ := by
 obtain ⟨_, _, n3⟩ := zaO h1
 obtain ⟨m1, m2, m3⟩ := zbk hx
 have a1 := zdg m1
 have a2 := zdg m2
 have o1 := zcf n3 _ m1
 have o2 := zcf n3 _ m2
 have oF := zfL hf
 unfold usesB at hu
 split at hu
 case isFalse => cases hu
 rename_i hc
 obtain ⟨⟨t1, t2⟩, c1, c2⟩ := hc
 rw [zeO] at t1 t2
 simp only [Option.some.injEq, Prod.mk.injEq] at hu
 obtain ⟨rfl, rfl⟩ := hu
 generalize hs : flip (det x.1.h x.2.h) (f.X * x.2.h.B - f.Y * x.2.h.A) = s at *
 generalize ht : flip (det x.1.h x.2.h) (f.Y * x.1.h.A - f.X * x.1.h.B) = t at *
 have bs : s <= 2000000 := by
  rw [<- hs]
  have b1 := mulB oF.x o2.b
  have b2 := mulB oF.y o2.a
  exact zgQ (by omega)
 have bt : t <= 2000000 := by
  rw [<- ht]
  have b1 := mulB oF.y o1.a
  have b2 := mulB oF.x o1.b
  exact zgQ (by omega)
 have dp := zfd m3
 have db : flip (det x.1.h x.2.h) (det x.1.h x.2.h) <= 2000000 := zgQ (zo4 o1 o2)
 have hne : x.1.n ≠ x.2.n := zoD m1 m2 fun e => m3 (by rw [e, zmL])
 have fm : formedL l.length (usedL [⟨x.1.n, s⟩, ⟨x.2.n, t⟩]) = true := by
  unfold formedL
  rw [Bool.and_eq_true, decide_eq_true_iff, zhh]
  refine ⟨?_, zjX (fun u hu => ?_) ?_ _ (Nat.le_refl _)⟩
  ·split <;> split <;> simp
  ·rcases List.mem_append.1 hu with hu | hu
   ·split at hu
    ·cases hu
    ·rename_i h0
     obtain rfl := List.mem_singleton.1 hu
     exact ⟨a1.2, (by show 1 <= s; have : s ≠ 0 := h0; omega), (by show s <= 2097152; omega)⟩
   ·split at hu
    ·cases hu
    ·rename_i h0
     obtain rfl := List.mem_singleton.1 hu
     exact ⟨a2.2, (by show 1 <= t; have : t ≠ 0 := h0; omega), (by show t <= 2097152; omega)⟩
  ·split <;> split <;> simp [hne]
 have es : sumE l (usedL [⟨x.1.n, s⟩, ⟨x.2.n, t⟩]) = (⟨s * x.1.h.A + t * x.2.h.A, s * x.1.h.B + t * x.2.h.B, s * x.1.h.C + t * x.2.h.C⟩, true) := by
  unfold sumE
  rw [if_pos fm, zn1, <- a1.1, <- a2.1]
 have idA : s * x.1.h.A + t * x.2.h.A = flip (det x.1.h x.2.h) (det x.1.h x.2.h) * f.X := by
  rw [<- hs, <- ht, <- zbY, <- zbY, <- zhT, <- zbY]
  congr 1
  rw [zai]; grind
 have idB : s * x.1.h.B + t * x.2.h.B = flip (det x.1.h x.2.h) (det x.1.h x.2.h) * f.Y := by
  rw [<- hs, <- ht, <- zbY, <- zbY, <- zhT, <- zbY]
  congr 1
  rw [zai]; grind
 obtain ⟨vf, g, gp, vn, vd⟩ := zbg hf V.va
 refine ⟨by rw [es], ?_, vf, V.va, by rw [es]; exact idA, by rw [es]; exact idB, ?_, (zaJ l a).2 V.fe, rfl⟩
 ·rw [zab]
  show 1 <= flip (det x.1.h x.2.h) (det x.1.h x.2.h) /\ flip (det x.1.h x.2.h) (det x.1.h x.2.h) <= 2097152
  omega
 ·rw [es]
  show (s * x.1.h.C + t * x.2.h.C) * (value f a).Den = flip (det x.1.h x.2.h) (det x.1.h x.2.h) * (value f a).Num
  generalize flip (det x.1.h x.2.h) (det x.1.h x.2.h) = d at *
  unfold ef at t1 t2
  unfold fv at vn
  have e1 : (s * x.1.h.C + t * x.2.h.C) * a.Den = d * (f.X * a.X + f.Y * a.Y) := by
   have q1 : x.1.h.C * a.Den = x.1.h.A * a.X + x.1.h.B * a.Y := by omega
   have q2 : x.2.h.C * a.Den = x.2.h.A * a.X + x.2.h.B * a.Y := by omega
   grind
  rw [vn, vd] at e1
  have e2 : g * ((s * x.1.h.C + t * x.2.h.C) * (value f a).Den) = g * (d * (value f a).Num) := by grind
  exact Int.eq_of_mul_eq_mul_left (by omega) e2
theorem zpr {l : List Half} {f : Form} (e : (bestE l f).2 = 0) : cbE l f (bestE l f).1 = 0 := by
 by_cases h1 : checkL l = 0
 case neg => unfold bestE at e; rw [if_neg h1] at e; exact absurd e h1
 by_cases hf : slope f.X f.Y = true
 case neg => rw [zcE h1 (by simpa using hf)] at e; cases e
 by_cases h0 : cornersL l = []
 ·rw [show bestE l f = (noBound, 9) by unfold bestE; rw [if_pos h1, if_pos hf, if_pos h0]] at e; cases e
 obtain ⟨n1, n2, n3⟩ := zaO h1
 have V := (zcM n3 _).1 (zcO f h0)
 have B : Bst l f (bestE l f).1 := by
  unfold bestE
  rw [if_pos h1, if_pos hf, if_neg h0]
  by_cases hz : f = ⟨0, 0⟩
  ·rw [if_pos hz]
   obtain ⟨vf, g, gp, vn, vd⟩ := zbg hf V.va
   have fm : formedL l.length [] = true := by
    unfold formedL
    rw [Bool.and_eq_true, decide_eq_true_iff]
    exact ⟨by simp, zfK _ _⟩
   have es : sumE l [] = (⟨0, 0, 0⟩, true) := by unfold sumE; rw [if_pos fm]; rfl
   refine ⟨by rw [es], zab.2 (show (1 : Int) <= 1 /\ (1 : Int) <= 2097152 by decide), vf, V.va, ?_, ?_, ?_, (zaJ l _).2 V.fe, rfl⟩
   ·rw [es, hz]; rfl
   ·rw [es, hz]; rfl
   ·rw [es]
    show 0 * _ = 1 * (value f (bestAt f (cornersL l))).Num
    have : fv f (bestAt f (cornersL l)) = 0 := by unfold fv; rw [hz]; simp
    rw [this] at vn
    rcases Int.mul_eq_zero.1 vn.symm with q | q
    ·omega
    ·rw [q]; simp
  ·rw [if_neg hz]
   obtain ⟨x, hx, hn⟩ := ziK h1 hf hz V fun q hq => zh9 h1 hf hq
   cases hfs : (pairsL (allL l)).findSome? (usesB f (bestAt f (cornersL l))) with
   | none =>
    exfalso
    have := List.findSome?_eq_none_iff.1 hfs x hx
    exact hn this
   | some p =>
    obtain ⟨d, u⟩ := p
    obtain ⟨y, hy, hyu⟩ := List.exists_of_findSome?_eq_some hfs
    exact zmC h1 hf V hy hyu
 unfold cbE
 rw [if_pos h1, if_pos hf, if_pos B]
def co (p : Place) : Corner := ⟨p.X, p.Y, 1⟩
def sepStep (l m : List Half) (p : Half × Half) (u : Use) : Half × Half :=
 if (l.length : Int) <= u.H then (p.1, plusH p.2 u.T (m.getD (u.H - l.length).toNat default))
 else if 0 <= u.H then (plusH p.1 u.T (l.getD u.H.toNat default), p.2) else p
structure SmallH (i : Nat) (h : Half) : Prop where
  a : -(2000000000 * i : Int) <= h.A /\ h.A <= 2000000000 * i
  b : -(2000000000 * i : Int) <= h.B /\ h.B <= 2000000000 * i
  c : -(524288000000 * i : Int) <= h.C /\ h.C <= 524288000000 * i
theorem SmallH.up {i : Nat} {h : Half} (s : SmallH i h) : SmallH (i + 1) h := ⟨by have := s.a; omega, by have := s.b; omega, by have := s.c; omega⟩
theorem zor {t : Int} {h : Half} (ht : 0 < t /\ t <= 2000000) (hh : okH h) : (-2000000000 <= t * h.A /\ t * h.A <= 2000000000) /\ (-2000000000 <= t * h.B /\ t * h.B <= 2000000000) /\ (-524288000000 <= t * h.C /\ t * h.C <= 524288000000) := by
 have q : -2000000 <= t /\ t <= 2000000 := by omega
 exact ⟨mulB q hh.a, mulB q hh.b, mulB q hh.c⟩
theorem SmallH.plus {i : Nat} {a h : Half} {t : Int} (s : SmallH i a) (ht : 0 < t /\ t <= 2000000) (hh : okH h) : SmallH (i + 1) (plusH a t h) := by
 obtain ⟨b1, b2, b3⟩ := zor ht hh
 have := s.a; have := s.b; have := s.c
 exact ⟨(by show _ <= a.A + t * h.A /\ a.A + t * h.A <= _; omega), (by show _ <= a.B + t * h.B /\ a.B + t * h.B <= _; omega), (by show _ <= a.C + t * h.C /\ a.C + t * h.C <= _; omega)⟩
structure SepInv (l m : List Half) (i : Nat) (p : Half × Half) (s : Half) : Prop where
  one : SmallH i p.1
  two : SmallH i p.2
  h1 : ∀ q, 0 < q.Den -> Fe (hsL l) q -> ef p.1 q <= 0
  h2 : ∀ q, 0 < q.Den -> Fe (hsL m) q -> ef p.2 q <= 0
  rest : max 0 (s.A - p.1.A - p.2.A) * 48 + max 0 (s.B - p.1.B - p.2.B) * 48 <= s.C - p.1.C - p.2.C
theorem sides_get {n : Int} (h1 : -4 <= n) (h2 : n < 0) : (n = -1 /\ sidesL.getD (-1 - n).toNat default = ⟨-1, 0, 0⟩) \/ (n = -2 /\ sidesL.getD (-1 - n).toNat default = ⟨1, 0, 48⟩) \/ (n = -3 /\ sidesL.getD (-1 - n).toNat default = ⟨0, -1, 0⟩) \/ (n = -4 /\ sidesL.getD (-1 - n).toNat default = ⟨0, 1, 48⟩) := by
 obtain rfl | rfl | rfl | rfl : n = -1 \/ n = -2 \/ n = -3 \/ n = -4 := by omega
 ·exact .inl ⟨rfl, rfl⟩
 ·exact .inr (.inl ⟨rfl, rfl⟩)
 ·exact .inr (.inr (.inl ⟨rfl, rfl⟩))
 ·exact .inr (.inr (.inr ⟨rfl, rfl⟩))
theorem zlo (l m : List Half) {n : Int} (h1 : 0 <= n) (h2 : n < l.length) : useH (l ++ m) n = l.getD n.toNat default := by
 unfold useH
 rw [if_neg (by omega), gdq, List.getElem?_append_left (by omega), <- gdq]
theorem zi4 (l m : List Half) {n : Int} (h1 : l.length <= n) : useH (l ++ m) n = m.getD (n - l.length).toNat default := by
 unfold useH
 rw [if_neg (by omega), gdq, List.getElem?_append_right (by omega), <- gdq]
 congr 1; omega
theorem SepInv.step {l m : List Half} (hl : ∀ x ∈ l, okH x) (hm : ∀ x ∈ m, okH x) {i : Nat} {p : Half × Half} {s : Half} (I : SepInv l m i p s) {u : Use} (hu : (-4 <= u.H /\ u.H < (l ++ m).length) /\ 0 < u.T /\ u.T <= 2000000) :
  SepInv l m (i + 1) (sepStep l m p u) (plusH s u.T (useH (l ++ m) u.H)) := by
 obtain ⟨⟨u1, u2⟩, u3⟩ := hu
 rw [List.length_append] at u2
 have r := I.rest
 unfold sepStep
 by_cases c1 : (l.length : Int) <= u.H
 ·rw [if_pos c1, zi4 l m c1]
  have hmem := gd1 (show (u.H - l.length).toNat < m.length by omega) (default : Half)
  generalize m.getD (u.H - l.length).toNat default = h at *
  refine ⟨I.one.up, I.two.plus u3 (hm h hmem), I.h1, fun q hD hq => ?_, ?_⟩
  ·have a1 := I.h2 q hD hq
   have a2 := Int.mul_nonpos_of_nonneg_of_nonpos (Int.le_of_lt u3.1) (hq h (List.mem_append_left _ hmem))
   rw [zkI]; omega
  ·show max 0 (s.A + u.T * h.A - p.1.A - (p.2.A + u.T * h.A)) * 48 + max 0 (s.B + u.T * h.B - p.1.B - (p.2.B + u.T * h.B)) * 48 <= s.C + u.T * h.C - p.1.C - (p.2.C + u.T * h.C)
   omega
 ·rw [if_neg c1]
  by_cases c2 : 0 <= u.H
  ·rw [if_pos c2, zlo l m c2 (by omega)]
   have hmem := gd1 (show u.H.toNat < l.length by omega) (default : Half)
   generalize l.getD u.H.toNat default = h at *
   refine ⟨I.one.plus u3 (hl h hmem), I.two.up, fun q hD hq => ?_, I.h2, ?_⟩
   ·have a1 := I.h1 q hD hq
    have a2 := Int.mul_nonpos_of_nonneg_of_nonpos (Int.le_of_lt u3.1) (hq h (List.mem_append_left _ hmem))
    rw [zkI]; omega
   ·show max 0 (s.A + u.T * h.A - (p.1.A + u.T * h.A) - p.2.A) * 48 + max 0 (s.B + u.T * h.B - (p.1.B + u.T * h.B) - p.2.B) * 48 <= s.C + u.T * h.C - (p.1.C + u.T * h.C) - p.2.C
    omega
  ·rw [if_neg c2]
   have e : useH (l ++ m) u.H = sidesL.getD (-1 - u.H).toNat default := by unfold useH; rw [if_pos (by omega)]
   rw [e]
   refine ⟨I.one.up, I.two.up, I.h1, I.h2, ?_⟩
   rcases sides_get u1 (by omega) with ⟨_, h⟩ | ⟨_, h⟩ | ⟨_, h⟩ | ⟨_, h⟩ <;> rw [h] <;> simp only [plusH] <;> omega
end Go.Pg
