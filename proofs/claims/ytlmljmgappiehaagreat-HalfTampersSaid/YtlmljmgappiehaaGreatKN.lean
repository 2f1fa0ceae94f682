/-
  The greatest value of a form: Best finds it. Plain.
-/
import Derived.Test.YtlmljmgappiehaaGreatKT
import Derived.Test.YtlmljmgappiehaaGreatK6
import Derived.Test.YtlmljmgappiehaaGreatKM
set_option linter.all false
namespace Go.Pg
open Go.Proofs Go.RowKit

/-- Best finds something wherever there are corners and the form is right. -/
theorem best_val {l : List Half} {f : Form} (h1 : checkL l = 0) (h0 : cornersL l ≠ []) (hf : slope f.X f.Y = true) : ∃ b, bestE l f = (b, 0) ∧ b.V = value f (bestAt f (cornersL l)) := by
  unfold bestE
  rw [if_pos h1, if_pos hf, if_neg h0]
  split
  · exact ⟨_, rfl, rfl⟩
  · split
    · exact ⟨_, rfl, rfl⟩
    · exact ⟨_, rfl, rfl⟩
theorem bestAt_mem {l : List Corner} (f : Form) (h0 : l ≠ []) : bestAt f l ∈ l := by
  unfold bestAt
  exact bestTo_mem f l (List.length_pos_iff.2 h0) l.length (Nat.le_refl _)
theorem best_none {l : List Half} {f : Form} (h1 : checkL l = 0) (hf : slope f.X f.Y = false) : bestE l f = (noBound, 1) := by
  unfold bestE
  rw [if_pos h1, if_neg (by rw [hf]; decide)]
def fv (f : Form) (p : Corner) : Int := f.X * p.X + f.Y * p.Y
theorem value_spec {f : Form} {p : Corner} (hf : slope f.X f.Y = true) (hp : valid p = true) : fraction (value f p) = true ∧ ∃ g : Int, 0 < g ∧ fv f p = g * (value f p).Num ∧ p.Den = g * (value f p).Den := by
  have oF := okF_of hf
  have oC := okC_of hp
  have b1 := mulB oF.x oC.x
  have b2 := mulB oF.y oC.y
  have d := oC.d
  have e : value f p = ⟨(fv f p).tdiv (Nat.gcd (fv f p).natAbs p.Den.natAbs), p.Den.tdiv (Nat.gcd (fv f p).natAbs p.Den.natAbs)⟩ := by
    unfold value fv
    simp only [gcdL, List.foldl_cons, List.foldl_nil, Nat.gcd_zero_left]
  have nb : -2199023255552 ≤ fv f p ∧ fv f p ≤ 2199023255552 := by unfold fv; omega
  have hg : 0 < Nat.gcd (fv f p).natAbs p.Den.natAbs := Nat.gcd_pos_of_pos_right _ (by omega)
  rw [e]
  generalize fv f p = n at *
  generalize hG : Nat.gcd n.natAbs p.Den.natAbs = G at *
  obtain ⟨a, ha⟩ : (G : Int) ∣ n := Int.ofNat_dvd_left.2 (by rw [← hG]; exact Nat.gcd_dvd_left _ _)
  obtain ⟨b, hb⟩ : (G : Int) ∣ p.Den := Int.ofNat_dvd_left.2 (by rw [← hG]; exact Nat.gcd_dvd_right _ _)
  have gpos : (0 : Int) < G := by omega
  have e1 : n.tdiv G = a := by rw [ha]; exact Int.mul_tdiv_cancel_left _ (by omega)
  have e2 : p.Den.tdiv G = b := by rw [hb]; exact Int.mul_tdiv_cancel_left _ (by omega)
  have hbpos : 0 < b := by
    have : 0 < (G : Int) * b := by omega
    exact Int.pos_of_mul_pos_right this (by omega) |> fun h => h
  have hle : b ≤ (G : Int) * b := by
    have := Int.mul_le_mul_of_nonneg_right (show (1 : Int) ≤ G by omega) (show 0 ≤ b by omega)
    omega
  have hna : a.natAbs ≤ n.natAbs := by
    rw [ha, Int.natAbs_mul, Int.natAbs_natCast]
    exact Nat.le_mul_of_pos_left _ hg
  have hone : Nat.gcd a.natAbs b.natAbs = 1 := by
    have : G * Nat.gcd a.natAbs b.natAbs = G := by
      rw [← Nat.gcd_mul_left]
      have q1 : G * a.natAbs = n.natAbs := by rw [ha, Int.natAbs_mul, Int.natAbs_natCast]
      have q2 : G * b.natAbs = p.Den.natAbs := by rw [hb, Int.natAbs_mul, Int.natAbs_natCast]
      rw [q1, q2, hG]
    exact Nat.eq_of_mul_eq_mul_left hg (by omega)
  refine ⟨?_, G, gpos, by rw [e1]; exact ha, by rw [e2]; exact hb⟩
  unfold fraction
  rw [e1, e2]
  simp only [Bool.and_eq_true, within_spec, beq_iff_eq, gcdL, List.foldl_cons, List.foldl_nil, Nat.gcd_zero_left, hone]
  exact ⟨⟨⟨by omega, by omega⟩, by omega, by omega⟩, rfl⟩
/-- The one's value is at most the other one's. -/
def vle (f : Form) (p q : Corner) : Prop := fv f p * q.Den ≤ fv f q * p.Den
theorem vle_refl (f : Form) (p : Corner) : vle f p p := Int.le_refl _
theorem vle_trans {f : Form} {p q r : Corner} (hp : 0 < p.Den) (hq : 0 < q.Den) (hr : 0 < r.Den) (h1 : vle f p q) (h2 : vle f q r) : vle f p r := by
  unfold vle at *
  have a1 := Int.mul_le_mul_of_nonneg_right h1 (Int.le_of_lt hr)
  have a2 := Int.mul_le_mul_of_nonneg_right h2 (Int.le_of_lt hp)
  have e1 : fv f q * p.Den * r.Den = fv f q * r.Den * p.Den := by grind
  have e2 : fv f p * q.Den * r.Den = q.Den * (fv f p * r.Den) := by grind
  have e3 : fv f r * q.Den * p.Den = q.Den * (fv f r * p.Den) := by grind
  have : q.Den * (fv f p * r.Den) ≤ q.Den * (fv f r * p.Den) := by omega
  exact Int.le_of_mul_le_mul_left this hq
theorem less_vle {f : Form} {p q : Corner} (hf : slope f.X f.Y = true) (hp : valid p = true) (hq : valid q = true) : ¬ less (value f p) (value f q) < 0 ↔ vle f q p := by
  obtain ⟨f1, g1, p1, n1, d1⟩ := value_spec hf hp
  obtain ⟨f2, g2, p2, n2, d2⟩ := value_spec hf hq
  unfold less
  rw [if_pos ⟨f1, f2⟩]
  unfold vle
  rw [n1, n2, d1, d2]
  have e1 : g2 * (value f q).Num * (g1 * (value f p).Den) = g1 * g2 * ((value f q).Num * (value f p).Den) := by grind
  have e2 : g1 * (value f p).Num * (g2 * (value f q).Den) = g1 * g2 * ((value f p).Num * (value f q).Den) := by grind
  rw [e1, e2]
  have gp := Int.mul_pos p1 p2
  unfold ord
  constructor
  · intro h
    refine Int.mul_le_mul_of_nonneg_left ?_ (Int.le_of_lt gp)
    refine Classical.byContradiction fun hh => h ?_
    rw [if_pos (by omega)]; decide
  · intro h
    have := Int.le_of_mul_le_mul_left h gp
    rw [if_neg (by omega)]
    split <;> decide
theorem bestTo_max {f : Form} {l : List Corner} (hf : slope f.X f.Y = true) (hl : ∀ q ∈ l, valid q = true) (h0 : 0 < l.length) : ∀ i, i ≤ l.length → ∀ j, j < i ∨ j = 0 → vle f (l.getD j default) (bestTo f l i)
  | 0, _, j, hj => by
    obtain rfl : j = 0 := by omega
    rw [bestTo_zero]; exact vle_refl f _
  | i + 1, hi, j, hj => by
    have vi := hl _ (gd1 (show i < l.length by omega) default)
    have vb := hl _ (bestTo_mem f l h0 i (by omega))
    have den := fun (q : Corner) (h : valid q = true) => (okC_of h).d
    have vj : valid (l.getD j default) = true := hl _ (gd1 (by omega) default)
    rw [bestTo_succ f l (by omega)]
    unfold stepB
    by_cases hc : less (value f (bestTo f l i)) (value f (l.getD i default)) < 0
    · rw [if_pos hc]
      have hle : vle f (bestTo f l i) (l.getD i default) := by
        unfold vle
        have : ¬ vle f (l.getD i default) (bestTo f l i) := fun h => ((less_vle hf vb vi).2 h) hc
        unfold vle at this
        omega
      rcases Nat.lt_or_ge j i with h | h
      · exact vle_trans (by have := den _ vj; omega) (by have := den _ vb; omega) (by have := den _ vi; omega) (bestTo_max hf hl h0 i (by omega) j (.inl h)) hle
      · by_cases hj0 : j = 0
        · exact vle_trans (by have := den _ vj; omega) (by have := den _ vb; omega) (by have := den _ vi; omega) (bestTo_max hf hl h0 i (by omega) j (.inr hj0)) hle
        · obtain rfl : j = i := by omega
          exact vle_refl f _
    · rw [if_neg hc]
      rcases Nat.lt_or_ge j i with h | h
      · exact bestTo_max hf hl h0 i (by omega) j (.inl h)
      · by_cases hj0 : j = 0
        · exact bestTo_max hf hl h0 i (by omega) j (.inr hj0)
        · obtain rfl : j = i := by omega
          exact (less_vle hf vb vi).1 hc
theorem bestAt_max {f : Form} {l : List Corner} (hf : slope f.X f.Y = true) (hl : ∀ q ∈ l, valid q = true) {q : Corner} (hq : q ∈ l) : vle f q (bestAt f l) := by
  obtain ⟨j, hj, rfl⟩ := List.getElem_of_mem hq
  have := bestTo_max hf hl (by omega) l.length (Nat.le_refl _) j (.inl hj)
  unfold bestAt
  rwa [gdI hj] at this
/-- No point of the polygon has a greater value. -/
theorem best_all {l : List Half} {f : Form} (h1 : checkL l = 0) (hf : slope f.X f.Y = true) {q : Corner} (hq : Pt l q) : vle f q (bestAt f (cornersL l)) := by
  obtain ⟨_, _, n3⟩ := checkL_ok h1
  obtain ⟨p, hV, _, hmax⟩ := vt_max (okS_of h1) (f := f) (okF_of hf).to4 hq.1 hq.2
  have hp := (cor_mem n3 p).2 hV
  have hb := bestAt_mem f (l := cornersL l) (fun e => by rw [e] at hp; cases hp)
  have vb := ((cor_mem n3 _).1 hb).va
  have d1 := (okC_of hV.va).d
  have d2 := (okC_of vb).d
  refine vle_trans hq.1 (by omega) (by omega) (hmax q hq.1 hq.2) (bestAt_max hf (cornersL_ok n3) hp)
end Go.Pg
/-
  Contracts: half.CheckBest.
-/
set_option linter.all false
set_option maxRecDepth 100000
namespace Go.Pg
open Go.Proofs Go.RowKit

/-- What a bound has to be. -/
structure Bst (l : List Half) (f : Form) (b : Bound) : Prop where
  sm : (sumE l b.Uses).2 = true
  sc : within b.Scale 1 2097152 = true
  fr : fraction b.V = true
  va : valid b.At = true
  A : (sumE l b.Uses).1.A = b.Scale * f.X
  B : (sumE l b.Uses).1.B = b.Scale * f.Y
  C : (sumE l b.Uses).1.C * b.V.Den = b.Scale * b.V.Num
  inn : outsideL (allL l) b.At = -5
  at_ : value f b.At = b.V
theorem bst_iff (l : List Half) (f : Form) (b : Bound) : Bst l f b ↔ ((sumE l b.Uses).2 = true ∧ within b.Scale 1 2097152 = true ∧ fraction b.V = true ∧ valid b.At = true ∧ (sumE l b.Uses).1.A = b.Scale * f.X ∧ (sumE l b.Uses).1.B = b.Scale * f.Y ∧ (sumE l b.Uses).1.C * b.V.Den = b.Scale * b.V.Num ∧ outsideL (allL l) b.At = -5 ∧ value f b.At = b.V) :=
  ⟨fun h => ⟨h.sm, h.sc, h.fr, h.va, h.A, h.B, h.C, h.inn, h.at_⟩, fun ⟨a, b, c, d, e, f, g, h, i⟩ => ⟨a, b, c, d, e, f, g, h, i⟩⟩
noncomputable instance (l : List Half) (f : Form) (b : Bound) : Decidable (Bst l f b) := decidable_of_iff' _ (bst_iff l f b)
@[irreducible] noncomputable def cbE (l : List Half) (f : Form) (b : Bound) : Int := if checkL l = 0 then if slope f.X f.Y = true then if Bst l f b then 0 else 8 else 1 else checkL l
theorem sum_bd {l : List Half} {U : List Use} (hl : ∀ x ∈ l, okH x) : (-8388608000 ≤ (sumE l U).1.A ∧ (sumE l U).1.A ≤ 8388608000) ∧ (-8388608000 ≤ (sumE l U).1.B ∧ (sumE l U).1.B ≤ 8388608000) ∧ (-2199023255552 ≤ (sumE l U).1.C ∧ (sumE l U).1.C ≤ 2199023255552) := by
  unfold sumE
  split
  · rename_i h
    unfold formedL at h
    rw [Bool.and_eq_true, decide_eq_true_iff] at h
    have s := sum_small hl U.length (Nat.le_refl _) h.2
    rw [sumAt_all] at s
    have := s.a; have := s.b; have := s.c
    have hl := h.1
    show (-8388608000 ≤ (sumU l U).A ∧ (sumU l U).A ≤ 8388608000) ∧ (-8388608000 ≤ (sumU l U).B ∧ (sumU l U).B ≤ 8388608000) ∧ (-2199023255552 ≤ (sumU l U).C ∧ (sumU l U).C ≤ 2199023255552)
    omega
  · exact ⟨⟨by decide, by decide⟩, ⟨by decide, by decide⟩, ⟨by decide, by decide⟩⟩
theorem ord_zero {a b : Int} : ord a b = 0 ↔ a = b := by
  unfold ord
  constructor
  · intro h
    split at h
    · cases h
    · split at h
      · cases h
      · omega
  · rintro rfl; simp
set_option maxHeartbeats 4000000 in
theorem s_CheckBest (l : List Half) (f : Form) (b : Bound) : Spec PP 49 [slH l, f.v, b.v] [N (cbE l f b)] := by
  refine spec_at Tryz.func49 rfl (by kernel_rfl) rfl ?_
  refine CallSt.pure (s_Check l) rfl rfl ?_
  refine Split.by (fun h1 => ?_) (fun h1 => ?_)
  · have h1 : checkL l ≠ 0 := by simpa using h1
    exact r1I rfl (by unfold cbE; rw [if_neg h1])
  have h1 : checkL l = 0 := by simpa using h1
  obtain ⟨n1, n2, n3⟩ := checkL_ok h1
  refine CallSt.pure (s_slope f.X f.Y) rfl rfl ?_
  refine Split.by (fun h2 => ?_) (fun h2 => ?_)
  · have h2 : slope f.X f.Y = false := by simpa using h2
    exact r1I rfl (by unfold cbE; rw [if_pos h1, if_neg (by rw [h2]; decide)])
  have h2 : slope f.X f.Y = true := by simpa using h2
  have oF := okF_of h2
  have fx := oF.x
  have fy := oF.y
  have bad : ¬ Bst l f b → cbE l f b = 8 := fun h => by unfold cbE; rw [if_pos h1, if_pos h2, if_neg h]
  obtain ⟨sA, sB, sC⟩ := sum_bd (U := b.Uses) n3
  refine CallSt.pure (s_sum l b.Uses n3 (by omega)) rfl rfl ?_
  refine Split.by (fun g1 => ?_) (fun g1 => ?_)
  · have g1 : (sumE l b.Uses).2 = false := by simpa using g1
    refine Split.tt ?_
    refine Split.tt ?_
    refine Split.tt ?_
    refine Split.tt ?_
    refine Split.tt ?_
    refine Split.tt ?_
    exact r1I rfl (bad fun h => by have := h.sm; rw [g1] at this; cases this).symm
  have g1 : (sumE l b.Uses).2 = true := by simpa using g1
  refine CallSt.pure (s_within b.Scale 1 2097152) rfl rfl ?_
  refine Split.ff ?_
  refine Split.by (fun g2 => ?_) (fun g2 => ?_)
  · have g2 : within b.Scale 1 2097152 = false := by simpa using g2
    refine Split.tt ?_
    refine Split.tt ?_
    refine Split.tt ?_
    refine Split.tt ?_
    exact r1I rfl (bad fun h => by have := h.sc; rw [g2] at this; cases this).symm
  have g2 : within b.Scale 1 2097152 = true := by simpa using g2
  have sc := within_spec.1 g2
  refine CallSt.pure (s_fraction b.V) rfl rfl ?_
  refine Split.ff ?_
  refine Split.by (fun g3 => ?_) (fun g3 => ?_)
  · have g3 : fraction b.V = false := by simpa using g3
    refine Split.tt ?_
    refine Split.tt ?_
    exact r1I rfl (bad fun h => by have := h.fr; rw [g3] at this; cases this).symm
  have g3 : fraction b.V = true := by simpa using g3
  obtain ⟨vd, vn⟩ := fraction_bd g3
  refine CallSt.pure (s_Valid b.At) rfl rfl ?_
  refine Split.ff ?_
  refine Split.by (fun g4 => ?_) (fun g4 => ?_)
  · have g4 : valid b.At = false := by simpa using g4
    exact r1I rfl (bad fun h => by have := h.va; rw [g4] at this; cases this).symm
  have g4 : valid b.At = true := by simpa using g4
  have q : -2097152 ≤ b.Scale ∧ b.Scale ≤ 2097152 := by omega
  have m1 := mulB q fx
  have m2 := mulB q fy
  refine Exists.intro (List.range 35) (And.intro (by kernel_rfl) (FzOb.no ?_))
  refine ⟨inI64 (by omega) (by omega), ?_⟩
  refine Split.by (fun g5 => ?_) (fun g5 => ?_)
  case refine_2 =>
    have g5 : (sumE l b.Uses).1.A ≠ b.Scale * f.X := by simpa using g5
    refine Split.ff ?_
    refine Split.ff ?_
    refine Split.ff ?_
    refine Exists.intro (List.range 19) (And.intro (by kernel_rfl) (FzOb.no ?_))
    refine Split.tt ?_
    refine Split.tt ?_
    refine Split.tt ?_
    refine Split.tt ?_
    refine Split.tt ?_
    exact r1I rfl (bad fun h => g5 h.A).symm
  have g5 : (sumE l b.Uses).1.A = b.Scale * f.X := by simpa using g5
  refine ⟨inI64 (by omega) (by omega), ?_⟩
  refine Split.tt ?_
  refine Split.by (fun g6 => ?_) (fun g6 => ?_)
  case refine_2 =>
    have g6 : (sumE l b.Uses).1.B ≠ b.Scale * f.Y := by simpa using g6
    refine Split.ff ?_
    refine Exists.intro (List.range 19) (And.intro (by kernel_rfl) (FzOb.no ?_))
    refine Split.tt ?_
    refine Split.tt ?_
    refine Split.tt ?_
    refine Split.tt ?_
    refine Split.tt ?_
    exact r1I rfl (bad fun h => g6 h.B).symm
  have g6 : (sumE l b.Uses).1.B = b.Scale * f.Y := by simpa using g6
  refine CallOb.pure (s_times (sumE l b.Uses).1.C b.V.Den (by omega) (by omega)) rfl rfl ?_
  refine CallOb.pure (s_times b.Scale b.V.Num (by omega) (by omega)) rfl rfl ?_
  refine CallOb.pure (s_than ((sumE l b.Uses).1.C * b.V.Den) (b.Scale * b.V.Num)) rfl rfl ?_
  refine Split.tt ?_
  refine Exists.intro (List.range 19) (And.intro (by kernel_rfl) (FzOb.no ?_))
  refine Split.by (fun g7 => ?_) (fun g7 => ?_)
  · have g7 : ord ((sumE l b.Uses).1.C * b.V.Den) (b.Scale * b.V.Num) ≠ 0 := by simpa using g7
    refine Split.tt ?_
    refine Split.tt ?_
    refine Split.tt ?_
    refine Split.tt ?_
    exact r1I rfl (bad fun h => g7 (ord_zero.2 h.C)).symm
  have g7 : (sumE l b.Uses).1.C * b.V.Den = b.Scale * b.V.Num := by
    have : ord ((sumE l b.Uses).1.C * b.V.Den) (b.Scale * b.V.Num) = 0 := by simpa using g7
    exact ord_zero.1 this
  have hlen := allL_len l
  refine CallOb.ro (s_all l (by omega)) rfl rfl ?_
  refine CallOb.pure (s_outside (allL l) b.At (allL_ok n3) (okC_of g4) (by omega)) rfl rfl ?_
  refine Split.ff ?_
  refine Split.by (fun g8 => ?_) (fun g8 => ?_)
  · have g8 : outsideL (allL l) b.At ≠ -5 := by simpa using g8
    refine Split.tt ?_
    refine Split.tt ?_
    exact r1I rfl (bad fun h => g8 h.inn).symm
  have g8 : outsideL (allL l) b.At = -5 := by simpa using g8
  refine CallOb.pure (s_value f b.At oF (okC_of g4)) rfl rfl ?_
  refine Split.ff ?_
  refine Split.by (fun g9 => ?_) (fun g9 => ?_)
  · have g9 : value f b.At ≠ b.V := fun e => by
      have g9 : (!((value f b.At).Num == b.V.Num && ((value f b.At).Den == b.V.Den && true))) = true := g9
      rw [e] at g9; simp at g9
    exact r1I rfl (bad fun h => g9 h.at_).symm
  have g9 : value f b.At = b.V := by
    have g9 : (!((value f b.At).Num == b.V.Num && ((value f b.At).Den == b.V.Den && true))) = false := g9
    simp only [Bool.not_eq_false', Bool.and_eq_true, beq_iff_eq, and_true] at g9
    cases hv : value f b.At; cases hb : b.V; rw [hv, hb] at g9; simp at g9; rw [g9.1, g9.2]
  exact r1I rfl (by unfold cbE; rw [if_pos h1, if_pos h2, if_pos ⟨g1, g2, g3, g4, g5, g6, g7, g8, g9⟩])
end Go.Pg
/-
  Best's bound is accepted. Plain.
-/
set_option linter.all false
namespace Go.Pg
open Go.Proofs Go.RowKit

theorem tight_ef (h : Half) (q : Corner) : tight h q = true ↔ ef h q = 0 := by
  unfold tight ef
  rw [beq_iff_eq]; omega
theorem flip_negs {n m : Int} (h : n ≠ 0) : flip (-n) (-m) = flip n m := by unfold flip; split <;> split <;> omega
theorem flip_self_pos {n : Int} (h : n ≠ 0) : 0 < flip n n := by unfold flip; split <;> omega
theorem flip_mul (n a b : Int) : flip n (a * b) = flip n a * b := by
  unfold flip
  split
  · rw [Int.neg_mul]
  · rfl
theorem flip_add (n a b : Int) : flip n (a + b) = flip n a + flip n b := by unfold flip; split <;> omega
theorem flip_bd {n m b : Int} (h : -b ≤ m ∧ m ≤ b) : flip n m ≤ b := by unfold flip; split <;> omega
/-- The form lies between both normals. -/
def Cn (f : Form) (g h : Half) : Prop := 0 ≤ flip (det g h) (fx f h) ∧ 0 ≤ flip (det g h) (-fx f g)
theorem Cn.symm {f : Form} {g h : Half} (hd : det g h ≠ 0) (c : Cn f g h) : Cn f h g := by
  unfold Cn at *
  have e : det h g = -det g h := by rw [det_swap]
  have e1 := flip_negs (n := det g h) (m := -fx f g) hd
  have e2 := flip_negs (n := det g h) (m := fx f h) hd
  rw [Int.neg_neg] at e1
  rw [e, e1, e2]
  exact ⟨c.2, c.1⟩
theorem uses_some {f : Form} {a : Corner} {x : Num × Num} (h1 : ef x.1.h a = 0) (h2 : ef x.2.h a = 0) (c : Cn f x.1.h x.2.h) : usesB f a x ≠ none := by
  unfold usesB
  have e : f.Y * x.1.h.A - f.X * x.1.h.B = -fx f x.1.h := by unfold fx; omega
  have c2 : 0 ≤ flip (det x.1.h x.2.h) (f.Y * x.1.h.A - f.X * x.1.h.B) := by rw [e]; exact c.2
  rw [if_pos ⟨⟨(tight_ef _ _).2 h1, (tight_ef _ _).2 h2⟩, c.1, c2⟩]
  exact fun e => by cases e
theorem pair_some {l : List Half} {f : Form} {a : Corner} {g h : Half} (hg : g ∈ hsL l) (hh : h ∈ hsL l) (hd : det g h ≠ 0) (h1 : ef g a = 0) (h2 : ef h a = 0) (c : Cn f g h) : ∃ x ∈ pairsL (allL l), usesB f a x ≠ none := by
  rw [← allL_h] at hg hh
  obtain ⟨x, hx, rfl⟩ := List.mem_map.1 hg
  obtain ⟨y, hy, rfl⟩ := List.mem_map.1 hh
  rcases pairs_of hx hy hd with hp | hp
  · exact ⟨_, hp, uses_some h1 h2 c⟩
  · exact ⟨_, hp, uses_some h2 h1 (c.symm hd)⟩
/-- A form along h's normal lies between h and whatever is not parallel to it. -/
theorem cn_par {f : Form} {h j : Half} (hd : det h j ≠ 0) (h0 : fx f h = 0) (hp : 0 ≤ f.X * h.A + f.Y * h.B) : Cn f h j := by
  have hz : h.A ≠ 0 ∨ h.B ≠ 0 := by
    refine Classical.not_not.1 fun hn => hd ?_
    have e1 : h.A = 0 := by omega
    have e2 : h.B = 0 := by omega
    rw [det_def, e1, e2]; simp
  have sq := sq_pos hz
  have e : (h.A * h.A + h.B * h.B) * fx f j = (f.X * h.A + f.Y * h.B) * det h j := by
    unfold fx at h0 ⊢
    rw [det_def]
    have h0' : f.X * h.B = f.Y * h.A := by omega
    grind
  unfold Cn
  rw [h0]
  refine ⟨?_, by unfold flip; split <;> omega⟩
  unfold flip
  split
  · rename_i hn
    have : (f.X * h.A + f.Y * h.B) * det h j ≤ 0 := Int.mul_nonpos_of_nonneg_of_nonpos hp (by omega)
    rcases Int.lt_or_le 0 (fx f j) with g | g
    · have := Int.mul_pos sq g; omega
    · omega
  · have : 0 ≤ (f.X * h.A + f.Y * h.B) * det h j := Int.mul_nonneg hp (by omega)
    rcases Int.lt_or_le (fx f j) 0 with g | g
    · have := Int.mul_neg_of_pos_of_neg sq g; omega
    · omega
/-- One of two edges that are not parallel is not parallel to h. -/
theorem other_edge {h g1 g2 : Half} (hz : h.A ≠ 0 ∨ h.B ≠ 0) (hd : det g1 g2 ≠ 0) : det h g1 ≠ 0 ∨ det h g2 ≠ 0 := by
  refine Classical.not_not.1 fun hn => hd ?_
  have e1 : det h g1 = 0 := by omega
  have e2 : det h g2 = 0 := by omega
  rw [det_def] at e1 e2 ⊢
  rcases hz with hz | hz
  · have : h.A * (g1.A * g2.B - g2.A * g1.B) = 0 := by
      have q1 : h.A * g1.B = g1.A * h.B := by omega
      have q2 : h.A * g2.B = g2.A * h.B := by omega
      grind
    rcases Int.mul_eq_zero.1 this with e | e
    · exact absurd e hz
    · exact e
  · have : h.B * (g1.A * g2.B - g2.A * g1.B) = 0 := by
      have q1 : h.A * g1.B = g1.A * h.B := by omega
      have q2 : h.A * g2.B = g2.A * h.B := by omega
      grind
    rcases Int.mul_eq_zero.1 this with e | e
    · exact absurd e hz
    · exact e
theorem par_pair {l : List Half} {f : Form} {a : Corner} (V : Vt (hsL l) a) {h : Half} (hh : h ∈ hsL l) (hz : h.A ≠ 0 ∨ h.B ≠ 0) (ht : ef h a = 0) (h0 : fx f h = 0) (hp : 0 ≤ f.X * h.A + f.Y * h.B) : ∃ x ∈ pairsL (allL l), usesB f a x ≠ none := by
  obtain ⟨g1, m1, g2, m2, hd, t1, t2⟩ := V.ti
  rcases other_edge hz hd with e | e
  · exact pair_some hh m1 e ht t1 (cn_par e h0 hp)
  · exact pair_some hh m2 e ht t2 (cn_par e h0 hp)
/-- In the greatest corner some pair of edges proves it. -/
theorem best_found {l : List Half} {f : Form} {a : Corner} (h1 : checkL l = 0) (hf : slope f.X f.Y = true) (h0 : f ≠ ⟨0, 0⟩) (V : Vt (hsL l) a) (hmax : ∀ q, Pt l q → vle f q a) : ∃ x ∈ pairsL (allL l), usesB f a x ≠ none := by
  have S := okS_of h1
  have aD : 0 < a.Den := by have := (okC_of V.va).d; omega
  rcases lp S (f := f) (okF_of hf).to4 with c | ⟨g, hg, h, hh, D, hV⟩
  · exact (cert_no c aD V.fe).elim
  · have pD : 0 < (crossing g h).Den := by have := (okC_of hV.va).d; omega
    have dp := D.d
    obtain ⟨t1, t2⟩ := crossing_tight (g := g) (h := h) (by omega)
    have slack : ∀ q : Corner, det g h * fv f q - num f g h * q.Den = fx f h * ef g q - fx f g * ef h q := fun q => by
      unfold num fx ef fv
      simp only [det_def]
      grind
    have sp := slack (crossing g h)
    rw [t1, t2, Int.mul_zero, Int.mul_zero] at sp
    have sa := slack a
    have hm := hmax (crossing g h) ⟨pD, hV.fe⟩
    unfold vle at hm
    have k1 := Int.mul_le_mul_of_nonneg_left hm (Int.le_of_lt dp)
    have e1 : det g h * (fv f (crossing g h) * a.Den) = (num f g h * (crossing g h).Den) * a.Den := by
      have : det g h * fv f (crossing g h) = num f g h * (crossing g h).Den := by omega
      rw [← Int.mul_assoc, this]
    have e2 : num f g h * (crossing g h).Den * a.Den = (crossing g h).Den * (num f g h * a.Den) := by grind
    have e3 : det g h * (fv f a * (crossing g h).Den) = (crossing g h).Den * (det g h * fv f a) := by grind
    have k2 : num f g h * a.Den ≤ det g h * fv f a := Int.le_of_mul_le_mul_left (by omega) pD
    have ga := V.fe g hg
    have ha := V.fe h hh
    have u1 : fx f h * ef g a ≤ 0 := Int.mul_nonpos_of_nonneg_of_nonpos D.s ga
    have u2 : 0 ≤ fx f g * ef h a := Int.mul_nonneg_of_nonpos_of_nonpos D.t ha
    have z1 : fx f h * ef g a = 0 := by omega
    have z2 : fx f g * ef h a = 0 := by omega
    have gz := S.nz g hg
    have hz := S.nz h hh
    by_cases c1 : fx f h = 0
    · -- the form lies along h's normal
      have hp : 0 ≤ f.X * h.A + f.Y * h.B := by
        have e : (h.A * h.A + h.B * h.B) * fx f g = -((f.X * h.A + f.Y * h.B) * det g h) := by
          unfold fx at c1 ⊢
          rw [det_def]
          have c1' : f.X * h.B = f.Y * h.A := by omega
          grind
        have hs := Int.mul_nonpos_of_nonneg_of_nonpos (Int.le_of_lt (sq_pos hz)) D.t
        rcases Int.lt_or_le (f.X * h.A + f.Y * h.B) 0 with q | q
        · have := Int.mul_neg_of_neg_of_pos q dp; omega
        · exact q
      by_cases c2 : fx f g = 0
      · exfalso
        apply h0
        have q1 : det g h * f.X = 0 := by
          have : det g h * f.X = fx f h * g.A - fx f g * h.A := by unfold fx; rw [det_def]; grind
          rw [this, c1, c2]; simp
        have q2 : det g h * f.Y = 0 := by
          have : det g h * f.Y = fx f h * g.B - fx f g * h.B := by unfold fx; rw [det_def]; grind
          rw [this, c1, c2]; simp
        have r1 : f.X = 0 := by rcases Int.mul_eq_zero.1 q1 with e | e <;> omega
        have r2 : f.Y = 0 := by rcases Int.mul_eq_zero.1 q2 with e | e <;> omega
        cases f; simp at r1 r2; rw [r1, r2]
      · have th : ef h a = 0 := by rcases Int.mul_eq_zero.1 z2 with e | e; exact absurd e c2; exact e
        exact par_pair V hh hz th c1 hp
    · have tg : ef g a = 0 := by rcases Int.mul_eq_zero.1 z1 with e | e; exact absurd e c1; exact e
      by_cases c2 : fx f g = 0
      · have hp : 0 ≤ f.X * g.A + f.Y * g.B := by
          have e : (g.A * g.A + g.B * g.B) * fx f h = (f.X * g.A + f.Y * g.B) * det g h := by
            unfold fx at c2 ⊢
            rw [det_def]
            have c2' : f.X * g.B = f.Y * g.A := by omega
            grind
          have hs := Int.mul_nonneg (Int.le_of_lt (sq_pos gz)) D.s
          rcases Int.lt_or_le (f.X * g.A + f.Y * g.B) 0 with q | q
          · have := Int.mul_neg_of_neg_of_pos q dp; omega
          · exact q
        exact par_pair V hg gz tg c2 hp
      · have th : ef h a = 0 := by rcases Int.mul_eq_zero.1 z2 with e | e; exact absurd e c2; exact e
        refine pair_some hg hh (by omega) tg th ⟨?_, ?_⟩
        · unfold flip; rw [if_neg (by omega)]; exact D.s
        · unfold flip; rw [if_neg (by omega)]; have := D.t; omega
/-! ### What is found is accepted -/
theorem used_two (u v : Use) : usedL [u, v] = (if u.T = 0 then [] else [u]) ++ (if v.T = 0 then [] else [v]) := by
  have e : usedL [u, v] = filtP unused [u, v] 2 := by unfold usedL; rfl
  rw [e, filtP_succ, filtP_succ, filtP_zero, List.nil_append]
  have e1 : unused ([u, v].getD 0 default) = (u.T == 0) := rfl
  have e2 : unused ([u, v].getD 1 default) = (v.T == 0) := rfl
  rw [e1, e2]
  simp only [beq_iff_eq]
  rfl
theorem sum_two (l : List Half) (u v : Use) : sumU l (usedL [u, v]) = ⟨u.T * (useH l u.H).A + v.T * (useH l v.H).A, u.T * (useH l u.H).B + v.T * (useH l v.H).B, u.T * (useH l u.H).C + v.T * (useH l v.H).C⟩ := by
  rw [used_two]
  split
  · rename_i h1
    split
    · rename_i h2; simp [sumU, h1, h2]
    · simp [sumU, plusH, h1]
  · split
    · rename_i h2; simp [sumU, plusH, h2]
    · simp [sumU, plusH]
theorem found_ok {l : List Half} {f : Form} {a : Corner} (h1 : checkL l = 0) (hf : slope f.X f.Y = true) (V : Vt (hsL l) a) {x : Num × Num} (hx : x ∈ pairsL (allL l)) {d : Int} {u : List Use} (hu : usesB f a x = some (d, u)) : Bst l f ⟨value f a, a, d, u⟩ := by
  obtain ⟨_, _, n3⟩ := checkL_ok h1
  obtain ⟨m1, m2, m3⟩ := pairsL_mem hx
  have a1 := allL_use m1
  have a2 := allL_use m2
  have o1 := allL_ok n3 _ m1
  have o2 := allL_ok n3 _ m2
  have oF := okF_of hf
  unfold usesB at hu
  split at hu
  case isFalse => cases hu
  rename_i hc
  obtain ⟨⟨t1, t2⟩, c1, c2⟩ := hc
  rw [tight_ef] at t1 t2
  simp only [Option.some.injEq, Prod.mk.injEq] at hu
  obtain ⟨rfl, rfl⟩ := hu
  generalize hs : flip (det x.1.h x.2.h) (f.X * x.2.h.B - f.Y * x.2.h.A) = s at *
  generalize ht : flip (det x.1.h x.2.h) (f.Y * x.1.h.A - f.X * x.1.h.B) = t at *
  have bs : s ≤ 2000000 := by
    rw [← hs]
    have b1 := mulB oF.x o2.b
    have b2 := mulB oF.y o2.a
    exact flip_bd (by omega)
  have bt : t ≤ 2000000 := by
    rw [← ht]
    have b1 := mulB oF.y o1.a
    have b2 := mulB oF.x o1.b
    exact flip_bd (by omega)
  have dp := flip_self_pos m3
  have db : flip (det x.1.h x.2.h) (det x.1.h x.2.h) ≤ 2000000 := flip_bd (det_bd2 o1 o2)
  have hne : x.1.n ≠ x.2.n := num_inj m1 m2 fun e => m3 (by rw [e, det_self])
  have fm : formedL l.length (usedL [⟨x.1.n, s⟩, ⟨x.2.n, t⟩]) = true := by
    unfold formedL
    rw [Bool.and_eq_true, decide_eq_true_iff, used_two]
    refine ⟨?_, okTo_of (fun u hu => ?_) ?_ _ (Nat.le_refl _)⟩
    · split <;> split <;> simp
    · rcases List.mem_append.1 hu with hu | hu
      · split at hu
        · cases hu
        · rename_i h0
          obtain rfl := List.mem_singleton.1 hu
          exact ⟨a1.2, (by show 1 ≤ s; have : s ≠ 0 := h0; omega), (by show s ≤ 2097152; omega)⟩
      · split at hu
        · cases hu
        · rename_i h0
          obtain rfl := List.mem_singleton.1 hu
          exact ⟨a2.2, (by show 1 ≤ t; have : t ≠ 0 := h0; omega), (by show t ≤ 2097152; omega)⟩
    · split <;> split <;> simp [hne]
  have es : sumE l (usedL [⟨x.1.n, s⟩, ⟨x.2.n, t⟩]) = (⟨s * x.1.h.A + t * x.2.h.A, s * x.1.h.B + t * x.2.h.B, s * x.1.h.C + t * x.2.h.C⟩, true) := by
    unfold sumE
    rw [if_pos fm, sum_two, ← a1.1, ← a2.1]
  have idA : s * x.1.h.A + t * x.2.h.A = flip (det x.1.h x.2.h) (det x.1.h x.2.h) * f.X := by
    rw [← hs, ← ht, ← flip_mul, ← flip_mul, ← flip_add, ← flip_mul]
    congr 1
    rw [det_def]; grind
  have idB : s * x.1.h.B + t * x.2.h.B = flip (det x.1.h x.2.h) (det x.1.h x.2.h) * f.Y := by
    rw [← hs, ← ht, ← flip_mul, ← flip_mul, ← flip_add, ← flip_mul]
    congr 1
    rw [det_def]; grind
  obtain ⟨vf, g, gp, vn, vd⟩ := value_spec hf V.va
  refine ⟨by rw [es], ?_, vf, V.va, by rw [es]; exact idA, by rw [es]; exact idB, ?_, (outside_fe l a).2 V.fe, rfl⟩
  · rw [within_spec]
    show 1 ≤ flip (det x.1.h x.2.h) (det x.1.h x.2.h) ∧ flip (det x.1.h x.2.h) (det x.1.h x.2.h) ≤ 2097152
    omega
  · rw [es]
    show (s * x.1.h.C + t * x.2.h.C) * (value f a).Den = flip (det x.1.h x.2.h) (det x.1.h x.2.h) * (value f a).Num
    generalize flip (det x.1.h x.2.h) (det x.1.h x.2.h) = d at *
    unfold ef at t1 t2
    unfold fv at vn
    have e1 : (s * x.1.h.C + t * x.2.h.C) * a.Den = d * (f.X * a.X + f.Y * a.Y) := by
      have q1 : x.1.h.C * a.Den = x.1.h.A * a.X + x.1.h.B * a.Y := by omega
      have q2 : x.2.h.C * a.Den = x.2.h.A * a.X + x.2.h.B * a.Y := by omega
      grind
    rw [vn, vd] at e1
    have e2 : g * ((s * x.1.h.C + t * x.2.h.C) * (value f a).Den) = g * (d * (value f a).Num) := by grind
    exact Int.eq_of_mul_eq_mul_left (by omega) e2
/-- The bound of Best is accepted. -/
theorem best_ok {l : List Half} {f : Form} (e : (bestE l f).2 = 0) : cbE l f (bestE l f).1 = 0 := by
  by_cases h1 : checkL l = 0
  case neg => unfold bestE at e; rw [if_neg h1] at e; exact absurd e h1
  by_cases hf : slope f.X f.Y = true
  case neg => rw [best_none h1 (by simpa using hf)] at e; cases e
  by_cases h0 : cornersL l = []
  · rw [show bestE l f = (noBound, 9) by unfold bestE; rw [if_pos h1, if_pos hf, if_pos h0]] at e; cases e
  obtain ⟨n1, n2, n3⟩ := checkL_ok h1
  have V := (cor_mem n3 _).1 (bestAt_mem f h0)
  have B : Bst l f (bestE l f).1 := by
    unfold bestE
    rw [if_pos h1, if_pos hf, if_neg h0]
    by_cases hz : f = ⟨0, 0⟩
    · rw [if_pos hz]
      obtain ⟨vf, g, gp, vn, vd⟩ := value_spec hf V.va
      have fm : formedL l.length [] = true := by
        unfold formedL
        rw [Bool.and_eq_true, decide_eq_true_iff]
        exact ⟨by simp, okTo_zero _ _⟩
      have es : sumE l [] = (⟨0, 0, 0⟩, true) := by unfold sumE; rw [if_pos fm]; rfl
      refine ⟨by rw [es], within_spec.2 (show (1 : Int) ≤ 1 ∧ (1 : Int) ≤ 2097152 by decide), vf, V.va, ?_, ?_, ?_, (outside_fe l _).2 V.fe, rfl⟩
      · rw [es, hz]; rfl
      · rw [es, hz]; rfl
      · rw [es]
        show 0 * _ = 1 * (value f (bestAt f (cornersL l))).Num
        have : fv f (bestAt f (cornersL l)) = 0 := by unfold fv; rw [hz]; simp
        rw [this] at vn
        rcases Int.mul_eq_zero.1 vn.symm with q | q
        · omega
        · rw [q]; simp
    · rw [if_neg hz]
      obtain ⟨x, hx, hn⟩ := best_found h1 hf hz V fun q hq => best_all h1 hf hq
      cases hfs : (pairsL (allL l)).findSome? (usesB f (bestAt f (cornersL l))) with
      | none =>
        exfalso
        have := List.findSome?_eq_none_iff.1 hfs x hx
        exact hn this
      | some p =>
        obtain ⟨d, u⟩ := p
        obtain ⟨y, hy, hyu⟩ := List.exists_of_findSome?_eq_some hfs
        exact found_ok h1 hf V hy hyu
  unfold cbE
  rw [if_pos h1, if_pos hf, if_pos B]
end Go.Pg
/-
  Contracts: the specification's Greatest and CheckBest; the law HalfBests: walk.
-/
set_option linter.all false
set_option maxRecDepth 100000
namespace Go.Pg
open Go.Proofs Go.RowKit

/-! ### Lowest terms are unique -/
theorem frac_uniq {a b : Frac} (ha : fraction a = true) (hb : fraction b = true) (h : a.Num * b.Den = b.Num * a.Den) : a = b := by
  have da := (fraction_bd ha).1
  have db := (fraction_bd hb).1
  have ga : Nat.gcd a.Num.natAbs a.Den.natAbs = 1 := by
    unfold fraction at ha
    simp only [Bool.and_eq_true, beq_iff_eq, gcdL, List.foldl_cons, List.foldl_nil, Nat.gcd_zero_left] at ha
    have := ha.2
    omega
  have gb : Nat.gcd b.Num.natAbs b.Den.natAbs = 1 := by
    unfold fraction at hb
    simp only [Bool.and_eq_true, beq_iff_eq, gcdL, List.foldl_cons, List.foldl_nil, Nat.gcd_zero_left] at hb
    have := hb.2
    omega
  have hn : a.Num.natAbs * b.Den.natAbs = b.Num.natAbs * a.Den.natAbs := by rw [← Int.natAbs_mul, ← Int.natAbs_mul, h]
  have c1 : a.Den.natAbs ∣ b.Den.natAbs := by
    refine Nat.Coprime.dvd_of_dvd_mul_left (k := a.Den.natAbs) (m := a.Num.natAbs) ?_ ⟨b.Num.natAbs, by rw [hn, Nat.mul_comm]⟩
    unfold Nat.Coprime; rw [Nat.gcd_comm]; exact ga
  have c2 : b.Den.natAbs ∣ a.Den.natAbs := by
    refine Nat.Coprime.dvd_of_dvd_mul_left (k := b.Den.natAbs) (m := b.Num.natAbs) ?_ ⟨a.Num.natAbs, by rw [← hn, Nat.mul_comm]⟩
    unfold Nat.Coprime; rw [Nat.gcd_comm]; exact gb
  have e := Nat.dvd_antisymm c1 c2
  have e1 : a.Den = b.Den := by omega
  have e2 : a.Num = b.Num := by
    rw [e1] at h
    exact Int.eq_of_mul_eq_mul_right (by omega) h
  cases a; cases b; simp at e1 e2; rw [e1, e2]
theorem value_eq {f : Form} {p q : Corner} (hf : slope f.X f.Y = true) (hp : valid p = true) (hq : valid q = true) (h1 : vle f p q) (h2 : vle f q p) : value f p = value f q := by
  obtain ⟨f1, g1, p1, n1, d1⟩ := value_spec hf hp
  obtain ⟨f2, g2, p2, n2, d2⟩ := value_spec hf hq
  refine frac_uniq f1 f2 ?_
  have h : fv f p * q.Den = fv f q * p.Den := Int.le_antisymm h1 h2
  rw [n1, n2, d1, d2] at h
  have e1 : g2 * (value f q).Num * (g1 * (value f p).Den) = g1 * g2 * ((value f q).Num * (value f p).Den) := by grind
  have e2 : g1 * (value f p).Num * (g2 * (value f q).Den) = g1 * g2 * ((value f p).Num * (value f q).Den) := by grind
  rw [e1, e2] at h
  have gp := Int.mul_pos p1 p2
  exact Int.eq_of_mul_eq_mul_left (by omega) h
/-- The greatest value among the crossings is that among the corners. -/
theorem best_crs {l : List Half} {f : Form} (hl : ∀ x ∈ l, okH x) (hf : slope f.X f.Y = true) (h0 : cornersL l ≠ []) : value f (bestAt f (crsL l)) = value f (bestAt f (cornersL l)) := by
  have h1 : crsL l ≠ [] := fun e => h0 ((cor_nil hl).2 e)
  have m1 := bestAt_mem f h1
  have m2 := bestAt_mem f h0
  have v1 := (crs_iff hl _).1 m1
  have v2 := (cor_mem hl _).1 m2
  refine value_eq hf v1.va v2.va ?_ ?_
  · exact bestAt_max hf (cornersL_ok hl) ((cor_mem hl _).2 v1)
  · exact bestAt_max hf (fun q hq => ((crs_iff hl q).1 hq).va) ((crs_iff hl _).2 v2)
theorem bestTo_one (f : Form) {l : List Corner} (h0 : 0 < l.length) (hf : slope f.X f.Y = true) (hv : valid (l.getD 0 default) = true) : bestTo f l 1 = l.getD 0 default := by
  rw [bestTo_succ f l h0, bestTo_zero]
  unfold stepB
  rw [if_neg]
  exact (less_vle hf hv hv).2 (vle_refl f _)
/-! ### Greatest -/
@[irreducible] noncomputable def mostE (l : List Half) (f : Form) : Frac × Int := if checkL l = 0 then if slope f.X f.Y = true then if cornersL l = [] then (⟨0, 0⟩, 9) else (value f (bestAt f (cornersL l)), 0) else (⟨0, 0⟩, 1) else (⟨0, 0⟩, checkL l)
abbrev vMost (x : Frac × Int) : V1 := .agg [I x.1.Num, I x.1.Den, I x.2]
theorem r_Greatest (l : List Half) (f : Form) : Spec PP 47 [slH l, f.v] [vMost (mostE l f)] := by
  refine spec_at Tryz.func47 rfl (by kernel_rfl) rfl ?_
  refine CallSt.pure (r_Check l) rfl rfl ?_
  refine Split.by (fun h1 => ?_) (fun h1 => ?_)
  · have h1 : checkL l ≠ 0 := by simpa using h1
    have e : mostE l f = (⟨0, 0⟩, checkL l) := by unfold mostE; rw [if_neg h1]
    rw [e]
    exact r1C rfl rfl rfl rfl rfl rfl (eqvs_refl _)
  have h1 : checkL l = 0 := by simpa using h1
  obtain ⟨n1, n2, n3⟩ := checkL_ok h1
  refine CallSt.pure (r_form f) rfl rfl ?_
  refine Split.by (fun h2 => ?_) (fun h2 => ?_)
  · have h2 : slope f.X f.Y = false := by simpa using h2
    have e : mostE l f = (⟨0, 0⟩, 1) := by unfold mostE; rw [if_pos h1, if_neg (by rw [h2]; decide)]
    rw [e]
    exact r1C rfl rfl rfl rfl rfl rfl (eqvs_refl _)
  have h2 : slope f.X f.Y = true := by simpa using h2
  have oF := okF_of h2
  refine CallSt.ro (r_crossings l n3 (by omega)) rfl rfl ?_
  refine Split.by (fun h3 => ?_) (fun h3 => ?_)
  · have h3 : crsL l = [] := len_nil.1 h3
    have e : mostE l f = (⟨0, 0⟩, 9) := by unfold mostE; rw [if_pos h1, if_pos h2, if_pos ((cor_nil n3).2 h3)]
    rw [e]
    exact r1C rfl rfl rfl rfl rfl rfl (eqvs_refl _)
  have h3 : crsL l ≠ [] := fun h => by rw [len_nil.2 h] at h3; cases h3
  have hc : cornersL l ≠ [] := fun h => h3 ((cor_nil n3).1 h)
  have e : mostE l f = (value f (bestAt f (crsL l)), 0) := by unfold mostE; rw [if_pos h1, if_pos h2, if_neg hc, best_crs n3 h2 hc]
  have hlen := crsL_len n3 (by omega)
  have hpos : 0 < (crsL l).length := List.length_pos_iff.2 h3
  have hok := crs_valid n3
  have hva : ∀ q ∈ crsL l, valid q = true := fun q hq => ((crs_iff n3 q).1 hq).va
  refine Exists.intro (List.range 7) (And.intro (by kernel_rfl) (FzOb.no ?_))
  refine ⟨⟨rfl, by omega, by omega⟩, ?_⟩
  refine CallOb.pure (r_value f ((crsL l).getD 0 default) oF (hok _ (gd1 hpos default))) rfl rfl ?_
  refine LoopOb.of (σ := Nat) (fun i => ([(3, .box 3 0), (4, .box 4 0), (7, avOf (slC (crsL l))), (8, .box 8 0), (9, .d (I i))], [(3, .box [.d (I f.X), .d (I f.Y)]), (4, .box [.d (I 0), .d (I 0), .d (I 0)]), (8, .box [.d (I (value f (bestTo f (crsL l) i)).Num), .d (I (value f (bestTo f (crsL l) i)).Den)])])) (fun i => 1 ≤ i ∧ i ≤ (crsL l).length) (fun i => (crsL l).length - i) 1
    ⟨rfl, ⟨obX rfl, obX rfl, obX (by rw [bestTo_one f hpos h2 (hva _ (gd1 hpos default))]; rfl), trivial⟩, avQ rfl, avQ rfl, avR _ rfl, avQ rfl, avR _ rfl, trivial⟩ ⟨Nat.le_refl _, hpos⟩ fun i hi => ?_
  obtain ⟨i0, i1⟩ := hi
  have mb := bestTo_mem f (crsL l) hpos i i1
  refine Split.by (fun g1 => ?_) (fun g1 => ?_)
  · have g1 : i < (crsL l).length := by have := dT g1; omega
    have hm := gd1 g1 (default : Corner)
    refine Exists.intro (List.range 8) (And.intro (by kernel_rfl) (FzOb.no ?_))
    refine ⟨⟨rfl, by omega, by omega⟩, ?_⟩
    refine CallOb.pure (r_value f ((crsL l).getD i default) oF (hok _ hm)) rfl rfl ?_
    refine CallSt.pure (r_Less (value f (bestTo f (crsL l) i)) (value f ((crsL l).getD i default))) rfl rfl ?_
    refine Split.by (fun g2 => ?_) (fun g2 => ?_)
    · have g2 : less (value f (bestTo f (crsL l) i)) (value f ((crsL l).getD i default)) < 0 := dT g2
      refine ⟨inI64 (by omega) (by omega), ?_⟩
      refine ⟨i + 1, ⟨rfl, ⟨obX rfl, obX rfl, obX (by rw [bestTo_succ f _ g1]; unfold stepB; rw [if_pos g2]; rfl), trivial⟩, avQ rfl, avQ rfl, avR _ rfl, avQ rfl, avI rfl rfl, trivial⟩, (show 1 ≤ i + 1 ∧ i + 1 ≤ (crsL l).length by omega), (show (crsL l).length - (i + 1) < (crsL l).length - i by omega)⟩
    · have g2 : ¬ less (value f (bestTo f (crsL l) i)) (value f ((crsL l).getD i default)) < 0 := dF g2
      refine ⟨inI64 (by omega) (by omega), ?_⟩
      refine ⟨i + 1, ⟨rfl, ⟨obX rfl, obX rfl, obX (by rw [bestTo_succ f _ g1]; unfold stepB; rw [if_neg g2]; rfl), trivial⟩, avQ rfl, avQ rfl, avR _ rfl, avQ rfl, avI rfl rfl, trivial⟩, (show 1 ≤ i + 1 ∧ i + 1 ≤ (crsL l).length by omega), (show (crsL l).length - (i + 1) < (crsL l).length - i by omega)⟩
  · have g1 : i = (crsL l).length := by have := dF g1; omega
    subst g1
    rw [e]
    have eb : bestAt f (crsL l) = bestTo f (crsL l) (crsL l).length := by unfold bestAt; rfl
    rw [eb]
    exact r1C rfl rfl rfl rfl rfl rfl (eqvs_refl _)
/-! ### CheckBest -/
theorem r_proved (l : List Half) (f : Form) (b : Bound) (h1 : checkL l = 0) (hs : slope f.X f.Y = true) (hU : UB b.Uses) : Spec PP 100 [slH l, f.v, b.v] [B (decide (Bst l f b))] := by
  obtain ⟨n1, n2, n3⟩ := checkL_ok h1
  have oF := okF_of hs
  refine spec_at Tryz.func100 rfl (by kernel_rfl) rfl ?_
  refine CallSt.pure (r_Allows l b.At) rfl rfl ?_
  refine CallSt.pure (r_formed l b.Uses hU (by omega)) rfl rfl ?_
  refine Exists.intro (List.range 21) (And.intro (by kernel_rfl) (FzOb.no ?_))
  have bad : ¬ Bst l f b → false = decide (Bst l f b) := fun h => (decide_eq_false h).symm
  have smOf : formedL l.length b.Uses = true → sumE l b.Uses = (sumU l b.Uses, true) := fun h => by unfold sumE; rw [if_pos h]
  refine Split.by (fun g1 => ?_) (fun g1 => ?_)
  · have g1 : (allowsE l b.At).2 = false := by simpa using g1
    repeat refine Split.tt ?_
    refine r1B rfl (bad fun h => ?_)
    have e : allowsE l b.At = (outsideL (allL l) b.At, outsideL (allL l) b.At == -5) := by unfold allowsE; rw [if_pos ⟨h1, h.va⟩]
    rw [e, h.inn] at g1
    cases g1
  have g1 : (allowsE l b.At).2 = true := by simpa using g1
  have gva : valid b.At = true := by
    refine Classical.byContradiction fun h => ?_
    have e : allowsE l b.At = (-5, false) := by unfold allowsE; rw [if_neg fun hh => h hh.2]
    rw [e] at g1; cases g1
  have gin : outsideL (allL l) b.At = -5 := by
    have e : allowsE l b.At = (outsideL (allL l) b.At, outsideL (allL l) b.At == -5) := by unfold allowsE; rw [if_pos ⟨h1, gva⟩]
    rw [e] at g1; simpa using g1
  repeat refine Split.ff ?_
  refine Split.by (fun g2 => ?_) (fun g2 => ?_)
  · have g2 : formedL l.length b.Uses = false := by simpa using g2
    repeat refine Split.tt ?_
    refine r1B rfl (bad fun h => ?_)
    have := h.sm
    unfold sumE at this
    rw [g2] at this
    cases this
  have g2 : formedL l.length b.Uses = true := by simpa using g2
  have es := smOf g2
  repeat refine Split.ff ?_
  refine CallOb.pure (r_in b.Scale 1 2097152) rfl rfl ?_
  repeat refine Split.ff ?_
  refine Split.by (fun g3 => ?_) (fun g3 => ?_)
  · have g3 : within b.Scale 1 2097152 = false := by simpa using g3
    repeat refine Split.tt ?_
    refine r1B rfl (bad fun h => ?_)
    rw [h.sc] at g3; cases g3
  have g3 : within b.Scale 1 2097152 = true := by simpa using g3
  repeat refine Split.ff ?_
  refine CallOb.pure (r_value f b.At oF (okC_of gva)) rfl rfl ?_
  repeat refine Split.ff ?_
  refine Split.by (fun g9 => ?_) (fun g9 => ?_)
  · have g9 : value f b.At ≠ b.V := fun e => by
      have g9 : (!(b.V.Num == (value f b.At).Num && (b.V.Den == (value f b.At).Den && true))) = true := g9
      rw [e] at g9; simp at g9
    exact r1B rfl (bad fun h => g9 h.at_)
  have g9 : value f b.At = b.V := by
    have g9 : (!(b.V.Num == (value f b.At).Num && (b.V.Den == (value f b.At).Den && true))) = false := g9
    simp only [Bool.not_eq_false', Bool.and_eq_true, beq_iff_eq, and_true] at g9
    cases hv : value f b.At; cases hb : b.V; rw [hv, hb] at g9; simp at g9; rw [g9.1, g9.2]
  have gfr : fraction b.V = true := by rw [← g9]; exact (value_spec hs gva).1
  obtain ⟨vd, vn⟩ := fraction_bd gfr
  obtain ⟨sA, sB, sC⟩ := sum_bd (U := b.Uses) n3
  rw [es] at sA sB sC
  have sA : -8388608000 ≤ (sumU l b.Uses).A ∧ (sumU l b.Uses).A ≤ 8388608000 := sA
  have sB : -8388608000 ≤ (sumU l b.Uses).B ∧ (sumU l b.Uses).B ≤ 8388608000 := sB
  have sC : -2199023255552 ≤ (sumU l b.Uses).C ∧ (sumU l b.Uses).C ≤ 2199023255552 := sC
  have sc := within_spec.1 g3
  have q : -2097152 ≤ b.Scale ∧ b.Scale ≤ 2097152 := by omega
  have m1 := mulB q oF.x
  have m2 := mulB q oF.y
  refine CallSt.pure (r_sum l b.Uses n3 (by omega) g2) rfl rfl ?_
  have m3 := mulB sC (b := b.V.Den) (y := 2097152) (by omega)
  have m4 := mulB q (b := b.V.Num) (y := 2199023255552) (by omega)
  have sA' : (sumE l b.Uses).1.A = (sumU l b.Uses).A := by rw [es]
  have sB' : (sumE l b.Uses).1.B = (sumU l b.Uses).B := by rw [es]
  have sC' : (sumE l b.Uses).1.C = (sumU l b.Uses).C := by rw [es]
  refine ⟨inI64 (by omega) (by omega), ?_⟩
  refine Split.by (fun g5 => ?_) (fun g5 => ?_)
  case refine_2 =>
    have g5 : (sumU l b.Uses).A ≠ b.Scale * f.X := by simpa using g5
    repeat refine Split.ff ?_
    exact r1B rfl (bad fun h => g5 (by rw [← sA']; exact h.A))
  have g5 : (sumU l b.Uses).A = b.Scale * f.X := by simpa using g5
  refine ⟨inI64 (by omega) (by omega), ?_⟩
  repeat refine Split.tt ?_
  refine Split.by (fun g6 => ?_) (fun g6 => ?_)
  case refine_2 =>
    have g6 : (sumU l b.Uses).B ≠ b.Scale * f.Y := by simpa using g6
    repeat refine Split.ff ?_
    exact r1B rfl (bad fun h => g6 (by rw [← sB']; exact h.B))
  have g6 : (sumU l b.Uses).B = b.Scale * f.Y := by simpa using g6
  refine ⟨inI64 (by omega) (by omega), ?_⟩
  repeat refine Split.tt ?_
  refine ⟨inI64 (by omega) (by omega), ?_⟩
  repeat refine Split.tt ?_
  refine r1B rfl ?_
  have b2 : Bst l f b ↔ (sumU l b.Uses).C * b.V.Den = b.Scale * b.V.Num := by
    constructor
    · intro h; rw [← sC']; exact h.C
    · intro h; exact ⟨by rw [es], g3, gfr, gva, by rw [sA', g5], by rw [sB', g6], by rw [sC', h], gin, g9⟩
  show ((sumU l b.Uses).C * b.V.Den == b.Scale * b.V.Num) = decide (Bst l f b)
  by_cases c : (sumU l b.Uses).C * b.V.Den = b.Scale * b.V.Num
  · rw [decide_eq_true (b2.2 c)]; simpa using c
  · rw [decide_eq_false fun h => c (b2.1 h)]; simpa using c
theorem r_CheckBest (l : List Half) (f : Form) (b : Bound) (hU : UB b.Uses) : Spec PP 48 [slH l, f.v, b.v] [N (cbE l f b)] := by
  refine spec_at Tryz.func48 rfl (by kernel_rfl) rfl ?_
  refine CallSt.pure (r_Check l) rfl rfl ?_
  refine Split.by (fun h1 => ?_) (fun h1 => ?_)
  · have h1 : checkL l ≠ 0 := by simpa using h1
    exact r1I rfl (by unfold cbE; rw [if_neg h1])
  have h1 : checkL l = 0 := by simpa using h1
  refine CallSt.pure (r_form f) rfl rfl ?_
  refine Split.by (fun h2 => ?_) (fun h2 => ?_)
  · have h2 : slope f.X f.Y = false := by simpa using h2
    exact r1I rfl (by unfold cbE; rw [if_pos h1, if_neg (by rw [h2]; decide)])
  have h2 : slope f.X f.Y = true := by simpa using h2
  refine CallSt.pure (r_proved l f b h1 h2 hU) rfl rfl ?_
  refine Split.by (fun h3 => ?_) (fun h3 => ?_)
  · have h3 : ¬ Bst l f b := by simpa using h3
    exact r1I rfl (by unfold cbE; rw [if_pos h1, if_pos h2, if_neg h3])
  · have h3 : Bst l f b := by simpa using h3
    exact r1I rfl (by unfold cbE; rw [if_pos h1, if_pos h2, if_pos h3])
/-! ### The law HalfBests -/
/-- What Best finds has uses within the machine's numbers. -/
theorem bst_UB {l : List Half} {f : Form} {b : Bound} (h : Bst l f b) (hn : l.length ≤ 1000000) : UB b.Uses := fun u hu => by
  have hs := h.sm
  unfold sumE at hs
  split at hs
  case isFalse => cases hs
  rename_i hf
  unfold formedL at hf
  rw [Bool.and_eq_true, decide_eq_true_iff] at hf
  obtain ⟨k, hk, rfl⟩ := List.getElem_of_mem hu
  have h2 := hf.2
  unfold okTo at h2
  have := List.all_eq_true.1 h2 k (List.mem_range.2 hk)
  obtain ⟨p1, p2, p3⟩ := useOk_parts this
  rw [gdI hk] at p1 p2 p3
  omega
theorem cb_bst {l : List Half} {f : Form} {b : Bound} (h : cbE l f b = 0) : checkL l = 0 ∧ slope f.X f.Y = true ∧ Bst l f b := by
  unfold cbE at h
  split at h
  · rename_i h1
    split at h
    · rename_i h2
      split at h
      · rename_i h3; exact ⟨h1, h2, h3⟩
      · cases h
    · cases h
  · rename_i h1; exact absurd h h1
theorem most_err (l : List Half) (f : Form) : (mostE l f).2 = (bestE l f).2 := by
  unfold mostE bestE
  split
  · split
    · split
      · rfl
      · split
        · rfl
        · split <;> rfl
    · rfl
  · rfl
theorem best_err {l : List Half} {f : Form} (h : (bestE l f).2 ≠ 0) : (bestE l f).1 = noBound := by
  unfold bestE at h ⊢
  split
  · rename_i h1
    rw [if_pos h1] at h
    split
    · rename_i h2
      rw [if_pos h2] at h
      split
      · rfl
      · rename_i h3
        rw [if_neg h3] at h
        exfalso
        split at h
        · exact h rfl
        · split at h <;> exact h rfl
    · rfl
  · rfl
theorem most_val {l : List Half} {f : Form} (h : (bestE l f).2 = 0) : (mostE l f).1 = (bestE l f).1.V := by
  by_cases h1 : checkL l = 0
  case neg => unfold bestE at h; rw [if_neg h1] at h; exact absurd h h1
  by_cases h2 : slope f.X f.Y = true
  case neg => rw [best_none h1 (by simpa using h2)] at h; cases h
  by_cases h3 : cornersL l = []
  · rw [show bestE l f = (noBound, 9) by unfold bestE; rw [if_pos h1, if_pos h2, if_pos h3]] at h; cases h
  obtain ⟨b, e, eb⟩ := best_val h1 h3 h2
  rw [e, eb]
  unfold mostE
  rw [if_pos h1, if_pos h2, if_neg h3]
set_option maxHeartbeats 4000000 in
theorem s_HalfBests (l : List Half) (f : Form) : Spec PP 9 [slH l, f.v] [B true] := by
  refine spec_at Tryz.func9 rfl (by kernel_rfl) rfl ?_
  refine CallSt.pure (s_few l) rfl rfl ?_
  refine Split.by (fun h1 => ?_) (fun h1 => ?_)
  · refine CallSt.pure s_sanity rfl rfl ?_
    exact r1B rfl rfl
  have hfew : fewL l.length = true := by simpa using h1
  have hl := fewL_len hfew
  have em := most_err l f
  refine CallSt.ro (s_Best l f) rfl rfl ?_
  refine CallSt.pure (r_Greatest l f) rfl rfl ?_
  refine Split.no (by rw [em]; simp) ?_
  refine Split.by (fun g1 => ?_) (fun g1 => ?_)
  · have g1 : (bestE l f).2 ≠ 0 := by simpa using g1
    have eb := best_err g1
    refine CallSt.pure s_sanity rfl rfl ?_
    repeat refine Split.tt ?_
    refine Split.yes (by rw [eb]; rfl) ?_
    repeat refine Split.tt ?_
    try refine Split.yes (by rw [eb]; rfl) ?_
    exact r1B rfl (by rw [eb]; rfl)
  have g1 : (bestE l f).2 = 0 := by simpa using g1
  have z := best_ok g1
  obtain ⟨c1, c2, c3⟩ := cb_bst z
  obtain ⟨n1, n2, n3⟩ := checkL_ok c1
  have cR := r_CheckBest l f (bestE l f).1 (bst_UB c3 (by omega))
  have cH := s_CheckBest l f (bestE l f).1
  rw [z] at cR cH
  have ev := most_val g1
  refine CallSt.pure s_sanity rfl rfl ?_
  repeat refine Split.tt ?_
  have e1 : ((bestE l f).1.V.Num == (mostE l f).1.Num && ((bestE l f).1.V.Den == (mostE l f).1.Den && true)) = true := by rw [ev]; simp
  refine Split.yes e1 ?_
  refine CallSt.pure cR rfl rfl ?_
  repeat refine Split.tt ?_
  refine CallSt.pure cH rfl rfl ?_
  repeat refine Split.tt ?_
  exact r1B rfl rfl
end Go.Pg
