/-
  The greatest value of a form: Best finds it. Plain.
-/
import Derived.Test.YtlmljmgappiehaaKD
set_option linter.all false
namespace Go.Pg
open Go.Proofs Go.RowKit

def fv (f : Form) (p : Corner) : Int := f.X * p.X + f.Y * p.Y
theorem value_spec {f : Form} {p : Corner} (hf : slope f.X f.Y = true) (hp : valid p = true) : fraction (value f p) = true ∧ ∃ g : Int, 0 < g ∧ fv f p = g * (value f p).Num ∧ p.Den = g * (value f p).Den := by
  have oF := okF_of hf
  have oC := okC_of hp
  have b1 := mulB oF.x oC.x
  have b2 := mulB oF.y oC.y
  have d := oC.d
  have e : value f p = ⟨(fv f p).tdiv (Nat.gcd (fv f p).natAbs p.Den.natAbs), p.Den.tdiv (Nat.gcd (fv f p).natAbs p.Den.natAbs)⟩ := by
    unfold value fv
    simp only [gcdL, List.foldl_cons, List.foldl_nil, Nat.gcd_zero_left]
  have nb : -2199023255552 ≤ fv f p ∧ fv f p ≤ 2199023255552 := by unfold fv; omega
  have hg : 0 < Nat.gcd (fv f p).natAbs p.Den.natAbs := Nat.gcd_pos_of_pos_right _ (by omega)
  rw [e]
  generalize fv f p = n at *
  generalize hG : Nat.gcd n.natAbs p.Den.natAbs = G at *
  obtain ⟨a, ha⟩ : (G : Int) ∣ n := Int.ofNat_dvd_left.2 (by rw [← hG]; exact Nat.gcd_dvd_left _ _)
  obtain ⟨b, hb⟩ : (G : Int) ∣ p.Den := Int.ofNat_dvd_left.2 (by rw [← hG]; exact Nat.gcd_dvd_right _ _)
  have gpos : (0 : Int) < G := by omega
  have e1 : n.tdiv G = a := by rw [ha]; exact Int.mul_tdiv_cancel_left _ (by omega)
  have e2 : p.Den.tdiv G = b := by rw [hb]; exact Int.mul_tdiv_cancel_left _ (by omega)
  have hbpos : 0 < b := by
    have : 0 < (G : Int) * b := by omega
    exact Int.pos_of_mul_pos_right this (by omega) |> fun h => h
  have hle : b ≤ (G : Int) * b := by
    have := Int.mul_le_mul_of_nonneg_right (show (1 : Int) ≤ G by omega) (show 0 ≤ b by omega)
    omega
  have hna : a.natAbs ≤ n.natAbs := by
    rw [ha, Int.natAbs_mul, Int.natAbs_natCast]
    exact Nat.le_mul_of_pos_left _ hg
  have hone : Nat.gcd a.natAbs b.natAbs = 1 := by
    have : G * Nat.gcd a.natAbs b.natAbs = G := by
      rw [← Nat.gcd_mul_left]
      have q1 : G * a.natAbs = n.natAbs := by rw [ha, Int.natAbs_mul, Int.natAbs_natCast]
      have q2 : G * b.natAbs = p.Den.natAbs := by rw [hb, Int.natAbs_mul, Int.natAbs_natCast]
      rw [q1, q2, hG]
    exact Nat.eq_of_mul_eq_mul_left hg (by omega)
  refine ⟨?_, G, gpos, by rw [e1]; exact ha, by rw [e2]; exact hb⟩
  unfold fraction
  rw [e1, e2]
  simp only [Bool.and_eq_true, within_spec, beq_iff_eq, gcdL, List.foldl_cons, List.foldl_nil, Nat.gcd_zero_left, hone]
  exact ⟨⟨⟨by omega, by omega⟩, by omega, by omega⟩, rfl⟩
/-- The one's value is at most the other one's. -/
def vle (f : Form) (p q : Corner) : Prop := fv f p * q.Den ≤ fv f q * p.Den
theorem vle_refl (f : Form) (p : Corner) : vle f p p := Int.le_refl _
theorem vle_trans {f : Form} {p q r : Corner} (hp : 0 < p.Den) (hq : 0 < q.Den) (hr : 0 < r.Den) (h1 : vle f p q) (h2 : vle f q r) : vle f p r := by
  unfold vle at *
  have a1 := Int.mul_le_mul_of_nonneg_right h1 (Int.le_of_lt hr)
  have a2 := Int.mul_le_mul_of_nonneg_right h2 (Int.le_of_lt hp)
  have e1 : fv f q * p.Den * r.Den = fv f q * r.Den * p.Den := by grind
  have e2 : fv f p * q.Den * r.Den = q.Den * (fv f p * r.Den) := by grind
  have e3 : fv f r * q.Den * p.Den = q.Den * (fv f r * p.Den) := by grind
  have : q.Den * (fv f p * r.Den) ≤ q.Den * (fv f r * p.Den) := by omega
  exact Int.le_of_mul_le_mul_left this hq
theorem less_vle {f : Form} {p q : Corner} (hf : slope f.X f.Y = true) (hp : valid p = true) (hq : valid q = true) : ¬ less (value f p) (value f q) < 0 ↔ vle f q p := by
  obtain ⟨f1, g1, p1, n1, d1⟩ := value_spec hf hp
  obtain ⟨f2, g2, p2, n2, d2⟩ := value_spec hf hq
  unfold less
  rw [if_pos ⟨f1, f2⟩]
  unfold vle
  rw [n1, n2, d1, d2]
  have e1 : g2 * (value f q).Num * (g1 * (value f p).Den) = g1 * g2 * ((value f q).Num * (value f p).Den) := by grind
  have e2 : g1 * (value f p).Num * (g2 * (value f q).Den) = g1 * g2 * ((value f p).Num * (value f q).Den) := by grind
  rw [e1, e2]
  have gp := Int.mul_pos p1 p2
  unfold ord
  constructor
  · intro h
    refine Int.mul_le_mul_of_nonneg_left ?_ (Int.le_of_lt gp)
    refine Classical.byContradiction fun hh => h ?_
    rw [if_pos (by omega)]; decide
  · intro h
    have := Int.le_of_mul_le_mul_left h gp
    rw [if_neg (by omega)]
    split <;> decide
theorem bestTo_max {f : Form} {l : List Corner} (hf : slope f.X f.Y = true) (hl : ∀ q ∈ l, valid q = true) (h0 : 0 < l.length) : ∀ i, i ≤ l.length → ∀ j, j < i ∨ j = 0 → vle f (l.getD j default) (bestTo f l i)
  | 0, _, j, hj => by
    obtain rfl : j = 0 := by omega
    rw [bestTo_zero]; exact vle_refl f _
  | i + 1, hi, j, hj => by
    have vi := hl _ (gd1 (show i < l.length by omega) default)
    have vb := hl _ (bestTo_mem f l h0 i (by omega))
    have den := fun (q : Corner) (h : valid q = true) => (okC_of h).d
    have vj : valid (l.getD j default) = true := hl _ (gd1 (by omega) default)
    rw [bestTo_succ f l (by omega)]
    unfold stepB
    by_cases hc : less (value f (bestTo f l i)) (value f (l.getD i default)) < 0
    · rw [if_pos hc]
      have hle : vle f (bestTo f l i) (l.getD i default) := by
        unfold vle
        have : ¬ vle f (l.getD i default) (bestTo f l i) := fun h => ((less_vle hf vb vi).2 h) hc
        unfold vle at this
        omega
      rcases Nat.lt_or_ge j i with h | h
      · exact vle_trans (by have := den _ vj; omega) (by have := den _ vb; omega) (by have := den _ vi; omega) (bestTo_max hf hl h0 i (by omega) j (.inl h)) hle
      · by_cases hj0 : j = 0
        · exact vle_trans (by have := den _ vj; omega) (by have := den _ vb; omega) (by have := den _ vi; omega) (bestTo_max hf hl h0 i (by omega) j (.inr hj0)) hle
        · obtain rfl : j = i := by omega
          exact vle_refl f _
    · rw [if_neg hc]
      rcases Nat.lt_or_ge j i with h | h
      · exact bestTo_max hf hl h0 i (by omega) j (.inl h)
      · by_cases hj0 : j = 0
        · exact bestTo_max hf hl h0 i (by omega) j (.inr hj0)
        · obtain rfl : j = i := by omega
          exact (less_vle hf vb vi).1 hc
theorem bestAt_max {f : Form} {l : List Corner} (hf : slope f.X f.Y = true) (hl : ∀ q ∈ l, valid q = true) {q : Corner} (hq : q ∈ l) : vle f q (bestAt f l) := by
  obtain ⟨j, hj, rfl⟩ := List.getElem_of_mem hq
  have := bestTo_max hf hl (by omega) l.length (Nat.le_refl _) j (.inl hj)
  unfold bestAt
  rwa [gdI hj] at this
/-- No point of the polygon has a greater value. -/
theorem best_all {l : List Half} {f : Form} (h1 : checkL l = 0) (hf : slope f.X f.Y = true) {q : Corner} (hq : Pt l q) : vle f q (bestAt f (cornersL l)) := by
  obtain ⟨_, _, n3⟩ := checkL_ok h1
  obtain ⟨p, hV, _, hmax⟩ := vt_max (okS_of h1) (f := f) (okF_of hf).to4 hq.1 hq.2
  have hp := (cor_mem n3 p).2 hV
  have hb := bestAt_mem f (l := cornersL l) (fun e => by rw [e] at hp; cases hp)
  have vb := ((cor_mem n3 _).1 hb).va
  have d1 := (okC_of hV.va).d
  have d2 := (okC_of vb).d
  refine vle_trans hq.1 (by omega) (by omega) (hmax q hq.1 hq.2) (bestAt_max hf (cornersL_ok n3) hp)
end Go.Pg
/-
  The law HalfMore: walk. Written by program (genmore.py).
-/
set_option linter.all false
set_option maxRecDepth 100000
namespace Go.Pg
open Go.Proofs Go.RowKit

abbrev bxC (p : Corner) : Ob := .box [.d (I p.X), .d (I p.Y), .d (I p.Den)]
theorem obC {s : St} {ob : Nat → Option Ob} {p : Corner} {o : Option Ob} (g : o = some (bxC p)) : Oble s ob o (bxC p) := obD [I p.X, I p.Y, I p.Den] g
theorem app1H (f0 : Nat → Nat → D) (l : List Half) (h : Half) : D.eqv (.slc 3 (0 + l.length + 1) (appRow (0 + l.length) (appRow 0 f0 (rowH l)) (rowOf 3 [I h.A, I h.B, I h.C]))) (.slc 3 (l ++ [h]).length (rowH (l ++ [h]))) := by
  refine app_row (a := l) (b := [h]) (at_ := Half.at) (by omega) rfl (fun i hi j hj => ?_) (fun i hi j hj => ?_)
  · unfold appRow
    rw [if_neg (Nat.not_lt_zero _)]
    exact D.eqv_refl _
  · obtain rfl : i = 0 := by omega
    exact eqAtH h j hj
theorem more_pt {l : List Half} {h : Half} {q : Corner} (g : Pt (l ++ [h]) q) : Pt l q := pt_mono (fun x hx => List.mem_append_left _ hx) g
theorem more_ck {l : List Half} {h : Half} (h1 : checkL l = 0) (hf : fit h = true) (hn : l.length ≤ 11) : checkL (l ++ [h]) = 0 := by
  obtain ⟨_, n2, _⟩ := checkL_ok h1
  unfold checkL
  rw [if_neg (by simp; omega), if_pos]
  rw [List.all_append, List.all_eq_true.2 n2]; simp [hf]
theorem more_no {l : List Half} {h : Half} (hf : fit h = false) : checkL (l ++ [h]) ≠ 0 := fun e => by
  have := (checkL_ok e).2.1 h (by simp)
  rw [hf] at this; cases this
theorem best_less {l : List Half} {h : Half} {f : Form} (h1 : checkL l = 0) (h2 : checkL (l ++ [h]) = 0) (e1 : (bestE l f).2 = 0) (e2 : (bestE (l ++ [h]) f).2 = 0) : ¬ less (bestE l f).1.V (bestE (l ++ [h]) f).1.V < 0 := by
  by_cases hf : slope f.X f.Y = true
  case neg => rw [best_none h1 (by simpa using hf)] at e1; cases e1
  have ne : ∀ l, checkL l = 0 → (bestE l f).2 = 0 → cornersL l ≠ [] := fun l h1 e h0 => by
    rw [show bestE l f = (noBound, 9) by unfold bestE; rw [if_pos h1, if_pos hf, if_pos h0]] at e; cases e
  have z1 := ne _ h1 e1
  have z2 := ne _ h2 e2
  obtain ⟨b, q1, v1⟩ := best_val h1 z1 hf
  obtain ⟨c, q2, v2⟩ := best_val h2 z2 hf
  rw [q1, q2, v1, v2]
  have m1 := ((cor_mem (checkL_ok h1).2.2 _).1 (bestAt_mem f z1))
  have m2 := ((cor_mem (checkL_ok h2).2.2 _).1 (bestAt_mem f z2))
  refine (less_vle hf m1.va m2.va).2 (best_all h1 hf (more_pt (h := h) ⟨?_, m2.fe⟩))
  have := (okC_of m2.va).d
  omega
theorem implied_pt {l : List Half} {h : Half} (h1 : checkL l = 0) (hh : okH h) (g : (impliedE l h).1 = true) (q : Corner) : Pt l q ↔ Pt (l ++ [h]) q := by
  refine ⟨fun hq => ⟨hq.1, fun x hx => ?_⟩, more_pt⟩
  obtain ⟨_, _, n3⟩ := checkL_ok h1
  rcases List.mem_append.1 hx with hx | hx
  · rcases List.mem_append.1 hx with hx | hx
    · exact hq.2 x (List.mem_append_left _ hx)
    · obtain rfl := List.mem_singleton.1 hx
      unfold impliedE at g
      rw [if_pos h1] at g
      split at g
      · simp only [Bool.not_eq_true', List.any_eq_false, Bool.not_eq_true, Bool.not_eq_false'] at g
        refine (holds_iff (okS_of h1) hh).1 (fun p hp => ?_) q hq.1 hq.2
        have := g p ((cor_mem n3 p).2 hp)
        exact (lies_ef x p).1 (by simpa using this)
      · cases g
  · exact hq.2 x (List.mem_append_right _ hx)
theorem ne_no {a b : Int} (e : a = b) : (a != b) = false := by subst e; simp
theorem fr_no {a b : Frac} (e : a = b) : (!(a.Num == b.Num && (a.Den == b.Den && true))) = false := by subst e; simp
theorem back_holds {l : List Half} {h : Half} {p : Corner} (hf : fit h = true) (w1 : (allowsE l p).2 = true) (w2 : (!(fit h && valid p && lies h p)) = true) : (!(fit ⟨-h.A, -h.B, -h.C⟩ && valid p && lies ⟨-h.A, -h.B, -h.C⟩ p)) = false := by
  have hv : valid p = true := by
    unfold allowsE at w1
    split at w1
    · rename_i hh; exact hh.2
    · cases w1
  rw [hf, hv] at w2
  have w2 : lies h p = false := by simpa using w2
  have hfit : fit ⟨-h.A, -h.B, -h.C⟩ = true := by
    unfold fit slope at *
    simp only [Bool.and_eq_true, Bool.or_eq_true, within_spec, bne_iff_ne, ne_eq] at *
    omega
  have hl : lies ⟨-h.A, -h.B, -h.C⟩ p = true := by
    rw [lies_ef]
    have : ¬ ef h p ≤ 0 := fun g => by rw [(lies_ef h p).2 g] at w2; cases w2
    have e : ef ⟨-h.A, -h.B, -h.C⟩ p = -ef h p := by unfold ef; grind
    omega
  rw [hfit, hv, hl]; rfl
set_option maxHeartbeats 8000000 in
theorem s_HalfMore (l : List Half) (h : Half) (f : Form) (p : Corner) : Spec PP 10 [slH l, h.v, f.v, p.v] [B true] := by
  refine specC_at [4, 9] Try.func10 rfl (by kernel_rfl) rfl ?_
  refine Split.by (fun h1 => ?_) (fun h1 => ?_)
  · refine Split.tt ?_
    refine Split.tt ?_
    refine CallSt.pure s_sanity rfl rfl ?_
    exact r1B rfl rfl
  have hn : l.length ≤ 11 := by have := dF h1; omega
  refine CallSt.pure (s_Check l) rfl rfl ?_
  refine Split.ff ?_
  refine Split.by (fun h1 => ?_) (fun h1 => ?_)
  · refine CallSt.pure s_sanity rfl rfl ?_
    exact r1B rfl rfl
  have h1 : checkL l = 0 := by simpa using h1
  obtain ⟨n1, n2, n3⟩ := checkL_ok h1
  refine Exists.intro [1, 1003, 1004, 0, 2, 5, 6] (And.intro (by kernel_rfl) (FzOb.no ?_))
  refine ⟨rfl, ⟨rfl, ⟨rfl, ⟨rfl, ?_⟩⟩⟩⟩
  refine ⟨⟨.inr rfl, by unfold maxLen; show 0 + l.length ≤ _; omega, by show (0 + l.length) * 24 ≤ 140737488355328; omega⟩, ?_⟩
  refine ⟨⟨.inr rfl, by unfold maxLen; show 0 + l.length + 1 ≤ _; omega, by show (0 + l.length + 1) * 24 ≤ 140737488355328; omega⟩, ?_⟩
  refine CutOb.at [(0, avOf (slH l)), (5, .box 5 0), (6, .box 6 0), (7, .box 7 0), (9, avOf (slH (l ++ [h])))] [(5, bxH h), (6, bxF f), (7, bxC p)] ⟨rfl, ⟨obH rfl rfl, obF rfl, obC rfl, trivial⟩, avR _ rfl, avQ rfl, avQ rfl, avQ rfl, avOw rfl rfl rfl (app1H _ l h), trivial⟩ ?_
  have cA := s_Best l f
  have cB := s_Best (l ++ [h]) f
  have cI := s_Implied l h
  have cK := s_Back h
  have cW := s_Allows l p
  have cH := s_Holds h p
  by_cases hf : fit h = true
  case neg =>
    have hf' : fit h = false := by simpa using hf
    have gne : (bestE (l ++ [h]) f).2 ≠ 0 := by
      unfold bestE
      rw [if_neg (more_no hf')]
      exact more_no hf'
    rw [show impliedE l h = (false, 1) by unfold impliedE; rw [if_pos h1, if_neg hf]] at cI
    rw [show back h = (⟨0, 0, 0⟩, 1) by unfold back; rw [if_neg hf]] at cK
    refine CallSt.ro cA rfl rfl ?_
    refine CallSt.ro cB rfl rfl ?_
    refine CallSt.pure cI rfl rfl ?_
    refine Split.by (fun c1 => ?_) (fun c1 => ?_)
    · have c1 : (bestE l f).2 = 0 := by simpa using c1
      refine Split.tt ?_
      refine Split.no (beq_false_of_ne gne) ?_
      refine Split.ff ?_
      refine Split.ff ?_
      refine Split.ff ?_
      refine Split.ff ?_
      refine Split.ff ?_
      refine Split.ff ?_
      refine Split.ff ?_
      refine Split.ff ?_
      refine CutOb.at [(0, avOf (slH l)), (5, .box 5 0), (7, .box 7 0), (15, .d (I 1))] [(5, bxH h), (7, bxC p)] ⟨rfl, ⟨obH rfl rfl, obC rfl, trivial⟩, avR _ rfl, avQ rfl, avQ rfl, avI rfl rfl, trivial⟩ ?_
      refine CallSt.pure cK rfl rfl ?_
      refine Split.ff ?_
      refine Split.ff ?_
      refine Split.ff ?_
      refine CallSt.pure cW rfl rfl ?_
      refine Split.by (fun w1 => ?_) (fun w1 => ?_)
      · refine Split.tt ?_
        refine Split.ff ?_
        refine Split.ff ?_
        refine Split.ff ?_
        refine Split.ff ?_
        refine Split.ff ?_
        refine CallSt.pure s_sanity rfl rfl ?_
        exact r1B rfl rfl
      · refine Split.ff ?_
        refine Split.ff ?_
        refine Split.ff ?_
        refine Split.ff ?_
        refine Split.ff ?_
        refine Split.ff ?_
        refine CallSt.pure s_sanity rfl rfl ?_
        exact r1B rfl rfl
    · refine Split.ff ?_
      refine Split.ff ?_
      refine Split.ff ?_
      refine Split.ff ?_
      refine Split.ff ?_
      refine Split.ff ?_
      refine Split.ff ?_
      refine Split.ff ?_
      refine Split.ff ?_
      refine Split.ff ?_
      refine CutOb.at [(0, avOf (slH l)), (5, .box 5 0), (7, .box 7 0), (15, .d (I 1))] [(5, bxH h), (7, bxC p)] ⟨rfl, ⟨obH rfl rfl, obC rfl, trivial⟩, avR _ rfl, avQ rfl, avQ rfl, avI rfl rfl, trivial⟩ ?_
      refine CallSt.pure cK rfl rfl ?_
      refine Split.ff ?_
      refine Split.ff ?_
      refine Split.ff ?_
      refine CallSt.pure cW rfl rfl ?_
      refine Split.by (fun w1 => ?_) (fun w1 => ?_)
      · refine Split.tt ?_
        refine Split.ff ?_
        refine Split.ff ?_
        refine Split.ff ?_
        refine Split.ff ?_
        refine Split.ff ?_
        refine CallSt.pure s_sanity rfl rfl ?_
        exact r1B rfl rfl
      · refine Split.ff ?_
        refine Split.ff ?_
        refine Split.ff ?_
        refine Split.ff ?_
        refine Split.ff ?_
        refine Split.ff ?_
        refine CallSt.pure s_sanity rfl rfl ?_
        exact r1B rfl rfl
  have ck := more_ck h1 hf hn
  rw [show back h = (⟨-h.A, -h.B, -h.C⟩, 0) by unfold back; rw [if_pos hf]] at cK
  rw [show impliedE l h = ((impliedE l h).1, 0) by unfold impliedE; rw [if_pos h1, if_pos hf]] at cI
  by_cases hi : (impliedE l h).1 = true
  · have pt := implied_pt h1 (okH_of hf) hi
    obtain ⟨vE, eE⟩ := bestE_pt f h1 ck pt
    rw [hi] at cI
    refine CallSt.ro cA rfl rfl ?_
    refine CallSt.ro cB rfl rfl ?_
    refine CallSt.pure cI rfl rfl ?_
    refine Split.by (fun c1 => ?_) (fun c1 => ?_)
    · have c1 : (bestE l f).2 = 0 := by simpa using c1
      refine Split.tt ?_
      refine Split.by (fun c2 => ?_) (fun c2 => ?_)
      · have c2 : (bestE (l ++ [h]) f).2 = 0 := by simpa using c2
        refine CallSt.pure (s_Less (bestE l f).1.V (bestE (l ++ [h]) f).1.V) rfl rfl ?_
        refine Split.no (decide_eq_false (best_less h1 ck c1 c2)) ?_
        refine Split.tt ?_
        refine Split.tt ?_
        refine Split.ff ?_
        refine Split.tt ?_
        refine Split.no (fr_no vE) ?_
        refine Split.tt ?_
        refine Split.tt ?_
        refine Split.tt ?_
        refine Split.tt ?_
        refine Split.ff ?_
        refine Split.no (ne_no eE) ?_
        refine CutOb.at [(0, avOf (slH l)), (5, .box 5 0), (7, .box 7 0), (15, .d (I 0))] [(5, bxH h), (7, bxC p)] ⟨rfl, ⟨obH rfl rfl, obC rfl, trivial⟩, avR _ rfl, avQ rfl, avQ rfl, avI rfl rfl, trivial⟩ ?_
        refine CallSt.pure cK rfl rfl ?_
        refine Split.ff ?_
        refine Split.ff ?_
        refine Split.ff ?_
        refine CallSt.pure cW rfl rfl ?_
        refine Split.by (fun w1 => ?_) (fun w1 => ?_)
        · refine Split.tt ?_
          refine Split.tt ?_
          refine CallSt.pure cH rfl rfl ?_
          refine Split.tt ?_
          refine Split.by (fun w2 => ?_) (fun w2 => ?_)
          · refine CallSt.pure (s_Holds ⟨-h.A, -h.B, -h.C⟩ p) rfl rfl ?_
            refine Split.tt ?_
            refine Split.no (back_holds hf w1 w2) ?_
            refine CallSt.pure s_sanity rfl rfl ?_
            exact r1B rfl rfl
          · refine Split.ff ?_
            refine Split.ff ?_
            refine CallSt.pure s_sanity rfl rfl ?_
            exact r1B rfl rfl
        · refine Split.ff ?_
          refine Split.ff ?_
          refine Split.ff ?_
          refine Split.ff ?_
          refine Split.ff ?_
          refine Split.ff ?_
          refine CallSt.pure s_sanity rfl rfl ?_
          exact r1B rfl rfl
      · refine Split.ff ?_
        refine Split.ff ?_
        refine Split.tt ?_
        refine Split.tt ?_
        refine Split.tt ?_
        refine Split.tt ?_
        refine Split.ff ?_
        refine Split.no (ne_no eE) ?_
        refine CutOb.at [(0, avOf (slH l)), (5, .box 5 0), (7, .box 7 0), (15, .d (I 0))] [(5, bxH h), (7, bxC p)] ⟨rfl, ⟨obH rfl rfl, obC rfl, trivial⟩, avR _ rfl, avQ rfl, avQ rfl, avI rfl rfl, trivial⟩ ?_
        refine CallSt.pure cK rfl rfl ?_
        refine Split.ff ?_
        refine Split.ff ?_
        refine Split.ff ?_
        refine CallSt.pure cW rfl rfl ?_
        refine Split.by (fun w1 => ?_) (fun w1 => ?_)
        · refine Split.tt ?_
          refine Split.tt ?_
          refine CallSt.pure cH rfl rfl ?_
          refine Split.tt ?_
          refine Split.by (fun w2 => ?_) (fun w2 => ?_)
          · refine CallSt.pure (s_Holds ⟨-h.A, -h.B, -h.C⟩ p) rfl rfl ?_
            refine Split.tt ?_
            refine Split.no (back_holds hf w1 w2) ?_
            refine CallSt.pure s_sanity rfl rfl ?_
            exact r1B rfl rfl
          · refine Split.ff ?_
            refine Split.ff ?_
            refine CallSt.pure s_sanity rfl rfl ?_
            exact r1B rfl rfl
        · refine Split.ff ?_
          refine Split.ff ?_
          refine Split.ff ?_
          refine Split.ff ?_
          refine Split.ff ?_
          refine Split.ff ?_
          refine CallSt.pure s_sanity rfl rfl ?_
          exact r1B rfl rfl
    · refine Split.ff ?_
      refine Split.ff ?_
      refine Split.ff ?_
      refine Split.ff ?_
      refine Split.tt ?_
      refine Split.tt ?_
      refine Split.tt ?_
      refine Split.tt ?_
      refine Split.ff ?_
      refine Split.no (ne_no eE) ?_
      refine CutOb.at [(0, avOf (slH l)), (5, .box 5 0), (7, .box 7 0), (15, .d (I 0))] [(5, bxH h), (7, bxC p)] ⟨rfl, ⟨obH rfl rfl, obC rfl, trivial⟩, avR _ rfl, avQ rfl, avQ rfl, avI rfl rfl, trivial⟩ ?_
      refine CallSt.pure cK rfl rfl ?_
      refine Split.ff ?_
      refine Split.ff ?_
      refine Split.ff ?_
      refine CallSt.pure cW rfl rfl ?_
      refine Split.by (fun w1 => ?_) (fun w1 => ?_)
      · refine Split.tt ?_
        refine Split.tt ?_
        refine CallSt.pure cH rfl rfl ?_
        refine Split.tt ?_
        refine Split.by (fun w2 => ?_) (fun w2 => ?_)
        · refine CallSt.pure (s_Holds ⟨-h.A, -h.B, -h.C⟩ p) rfl rfl ?_
          refine Split.tt ?_
          refine Split.no (back_holds hf w1 w2) ?_
          refine CallSt.pure s_sanity rfl rfl ?_
          exact r1B rfl rfl
        · refine Split.ff ?_
          refine Split.ff ?_
          refine CallSt.pure s_sanity rfl rfl ?_
          exact r1B rfl rfl
      · refine Split.ff ?_
        refine Split.ff ?_
        refine Split.ff ?_
        refine Split.ff ?_
        refine Split.ff ?_
        refine Split.ff ?_
        refine CallSt.pure s_sanity rfl rfl ?_
        exact r1B rfl rfl
  · have hi : (impliedE l h).1 = false := by simpa using hi
    rw [hi] at cI
    refine CallSt.ro cA rfl rfl ?_
    refine CallSt.ro cB rfl rfl ?_
    refine CallSt.pure cI rfl rfl ?_
    refine Split.by (fun c1 => ?_) (fun c1 => ?_)
    · have c1 : (bestE l f).2 = 0 := by simpa using c1
      refine Split.tt ?_
      refine Split.by (fun c2 => ?_) (fun c2 => ?_)
      · have c2 : (bestE (l ++ [h]) f).2 = 0 := by simpa using c2
        refine CallSt.pure (s_Less (bestE l f).1.V (bestE (l ++ [h]) f).1.V) rfl rfl ?_
        refine Split.no (decide_eq_false (best_less h1 ck c1 c2)) ?_
        refine Split.ff ?_
        refine Split.ff ?_
        refine Split.ff ?_
        refine Split.tt ?_
        refine Split.ff ?_
        refine Split.ff ?_
        refine Split.ff ?_
        refine Split.ff ?_
        refine Split.ff ?_
        refine Split.ff ?_
        refine Split.ff ?_
        refine CutOb.at [(0, avOf (slH l)), (5, .box 5 0), (7, .box 7 0), (15, .d (I 0))] [(5, bxH h), (7, bxC p)] ⟨rfl, ⟨obH rfl rfl, obC rfl, trivial⟩, avR _ rfl, avQ rfl, avQ rfl, avI rfl rfl, trivial⟩ ?_
        refine CallSt.pure cK rfl rfl ?_
        refine Split.ff ?_
        refine Split.ff ?_
        refine Split.ff ?_
        refine CallSt.pure cW rfl rfl ?_
        refine Split.by (fun w1 => ?_) (fun w1 => ?_)
        · refine Split.tt ?_
          refine Split.tt ?_
          refine CallSt.pure cH rfl rfl ?_
          refine Split.tt ?_
          refine Split.by (fun w2 => ?_) (fun w2 => ?_)
          · refine CallSt.pure (s_Holds ⟨-h.A, -h.B, -h.C⟩ p) rfl rfl ?_
            refine Split.tt ?_
            refine Split.no (back_holds hf w1 w2) ?_
            refine CallSt.pure s_sanity rfl rfl ?_
            exact r1B rfl rfl
          · refine Split.ff ?_
            refine Split.ff ?_
            refine CallSt.pure s_sanity rfl rfl ?_
            exact r1B rfl rfl
        · refine Split.ff ?_
          refine Split.ff ?_
          refine Split.ff ?_
          refine Split.ff ?_
          refine Split.ff ?_
          refine Split.ff ?_
          refine CallSt.pure s_sanity rfl rfl ?_
          exact r1B rfl rfl
      · refine Split.ff ?_
        refine Split.ff ?_
        refine Split.ff ?_
        refine Split.ff ?_
        refine Split.ff ?_
        refine Split.ff ?_
        refine Split.ff ?_
        refine Split.ff ?_
        refine CutOb.at [(0, avOf (slH l)), (5, .box 5 0), (7, .box 7 0), (15, .d (I 0))] [(5, bxH h), (7, bxC p)] ⟨rfl, ⟨obH rfl rfl, obC rfl, trivial⟩, avR _ rfl, avQ rfl, avQ rfl, avI rfl rfl, trivial⟩ ?_
        refine CallSt.pure cK rfl rfl ?_
        refine Split.ff ?_
        refine Split.ff ?_
        refine Split.ff ?_
        refine CallSt.pure cW rfl rfl ?_
        refine Split.by (fun w1 => ?_) (fun w1 => ?_)
        · refine Split.tt ?_
          refine Split.tt ?_
          refine CallSt.pure cH rfl rfl ?_
          refine Split.tt ?_
          refine Split.by (fun w2 => ?_) (fun w2 => ?_)
          · refine CallSt.pure (s_Holds ⟨-h.A, -h.B, -h.C⟩ p) rfl rfl ?_
            refine Split.tt ?_
            refine Split.no (back_holds hf w1 w2) ?_
            refine CallSt.pure s_sanity rfl rfl ?_
            exact r1B rfl rfl
          · refine Split.ff ?_
            refine Split.ff ?_
            refine CallSt.pure s_sanity rfl rfl ?_
            exact r1B rfl rfl
        · refine Split.ff ?_
          refine Split.ff ?_
          refine Split.ff ?_
          refine Split.ff ?_
          refine Split.ff ?_
          refine Split.ff ?_
          refine CallSt.pure s_sanity rfl rfl ?_
          exact r1B rfl rfl
    · refine Split.ff ?_
      refine Split.ff ?_
      refine Split.ff ?_
      refine Split.ff ?_
      refine Split.ff ?_
      refine Split.ff ?_
      refine Split.ff ?_
      refine Split.ff ?_
      refine Split.ff ?_
      refine Split.ff ?_
      refine CutOb.at [(0, avOf (slH l)), (5, .box 5 0), (7, .box 7 0), (15, .d (I 0))] [(5, bxH h), (7, bxC p)] ⟨rfl, ⟨obH rfl rfl, obC rfl, trivial⟩, avR _ rfl, avQ rfl, avQ rfl, avI rfl rfl, trivial⟩ ?_
      refine CallSt.pure cK rfl rfl ?_
      refine Split.ff ?_
      refine Split.ff ?_
      refine Split.ff ?_
      refine CallSt.pure cW rfl rfl ?_
      refine Split.by (fun w1 => ?_) (fun w1 => ?_)
      · refine Split.tt ?_
        refine Split.tt ?_
        refine CallSt.pure cH rfl rfl ?_
        refine Split.tt ?_
        refine Split.by (fun w2 => ?_) (fun w2 => ?_)
        · refine CallSt.pure (s_Holds ⟨-h.A, -h.B, -h.C⟩ p) rfl rfl ?_
          refine Split.tt ?_
          refine Split.no (back_holds hf w1 w2) ?_
          refine CallSt.pure s_sanity rfl rfl ?_
          exact r1B rfl rfl
        · refine Split.ff ?_
          refine Split.ff ?_
          refine CallSt.pure s_sanity rfl rfl ?_
          exact r1B rfl rfl
      · refine Split.ff ?_
        refine Split.ff ?_
        refine Split.ff ?_
        refine Split.ff ?_
        refine Split.ff ?_
        refine Split.ff ?_
        refine CallSt.pure s_sanity rfl rfl ?_
        exact r1B rfl rfl
end Go.Pg
