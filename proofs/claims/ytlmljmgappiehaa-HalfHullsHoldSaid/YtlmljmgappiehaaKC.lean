/-
  The greatest value of a form: Best finds it. Plain.
-/
import Derived.Test.YtlmljmgappiehaaKA
import Derived.Test.YtlmljmgappiehaaK6
import Derived.Test.YtlmljmgappiehaaKB
set_option linter.all false
namespace Go.Pg
open Go.Proofs Go.RowKit

/-- Best finds something wherever there are corners and the form is right. -/
theorem best_val {l : List Half} {f : Form} (h1 : checkL l = 0) (h0 : cornersL l ≠ []) (hf : slope f.X f.Y = true) : ∃ b, bestE l f = (b, 0) ∧ b.V = value f (bestAt f (cornersL l)) := by
  unfold bestE
  rw [if_pos h1, if_pos hf, if_neg h0]
  split
  · exact ⟨_, rfl, rfl⟩
  · split
    · exact ⟨_, rfl, rfl⟩
    · exact ⟨_, rfl, rfl⟩
theorem bestAt_mem {l : List Corner} (f : Form) (h0 : l ≠ []) : bestAt f l ∈ l := by
  unfold bestAt
  exact bestTo_mem f l (List.length_pos_iff.2 h0) l.length (Nat.le_refl _)
theorem best_none {l : List Half} {f : Form} (h1 : checkL l = 0) (hf : slope f.X f.Y = false) : bestE l f = (noBound, 1) := by
  unfold bestE
  rw [if_pos h1, if_neg (by rw [hf]; decide)]
def fv (f : Form) (p : Corner) : Int := f.X * p.X + f.Y * p.Y
theorem value_spec {f : Form} {p : Corner} (hf : slope f.X f.Y = true) (hp : valid p = true) : fraction (value f p) = true ∧ ∃ g : Int, 0 < g ∧ fv f p = g * (value f p).Num ∧ p.Den = g * (value f p).Den := by
  have oF := okF_of hf
  have oC := okC_of hp
  have b1 := mulB oF.x oC.x
  have b2 := mulB oF.y oC.y
  have d := oC.d
  have e : value f p = ⟨(fv f p).tdiv (Nat.gcd (fv f p).natAbs p.Den.natAbs), p.Den.tdiv (Nat.gcd (fv f p).natAbs p.Den.natAbs)⟩ := by
    unfold value fv
    simp only [gcdL, List.foldl_cons, List.foldl_nil, Nat.gcd_zero_left]
  have nb : -2199023255552 ≤ fv f p ∧ fv f p ≤ 2199023255552 := by unfold fv; omega
  have hg : 0 < Nat.gcd (fv f p).natAbs p.Den.natAbs := Nat.gcd_pos_of_pos_right _ (by omega)
  rw [e]
  generalize fv f p = n at *
  generalize hG : Nat.gcd n.natAbs p.Den.natAbs = G at *
  obtain ⟨a, ha⟩ : (G : Int) ∣ n := Int.ofNat_dvd_left.2 (by rw [← hG]; exact Nat.gcd_dvd_left _ _)
  obtain ⟨b, hb⟩ : (G : Int) ∣ p.Den := Int.ofNat_dvd_left.2 (by rw [← hG]; exact Nat.gcd_dvd_right _ _)
  have gpos : (0 : Int) < G := by omega
  have e1 : n.tdiv G = a := by rw [ha]; exact Int.mul_tdiv_cancel_left _ (by omega)
  have e2 : p.Den.tdiv G = b := by rw [hb]; exact Int.mul_tdiv_cancel_left _ (by omega)
  have hbpos : 0 < b := by
    have : 0 < (G : Int) * b := by omega
    exact Int.pos_of_mul_pos_right this (by omega) |> fun h => h
  have hle : b ≤ (G : Int) * b := by
    have := Int.mul_le_mul_of_nonneg_right (show (1 : Int) ≤ G by omega) (show 0 ≤ b by omega)
    omega
  have hna : a.natAbs ≤ n.natAbs := by
    rw [ha, Int.natAbs_mul, Int.natAbs_natCast]
    exact Nat.le_mul_of_pos_left _ hg
  have hone : Nat.gcd a.natAbs b.natAbs = 1 := by
    have : G * Nat.gcd a.natAbs b.natAbs = G := by
      rw [← Nat.gcd_mul_left]
      have q1 : G * a.natAbs = n.natAbs := by rw [ha, Int.natAbs_mul, Int.natAbs_natCast]
      have q2 : G * b.natAbs = p.Den.natAbs := by rw [hb, Int.natAbs_mul, Int.natAbs_natCast]
      rw [q1, q2, hG]
    exact Nat.eq_of_mul_eq_mul_left hg (by omega)
  refine ⟨?_, G, gpos, by rw [e1]; exact ha, by rw [e2]; exact hb⟩
  unfold fraction
  rw [e1, e2]
  simp only [Bool.and_eq_true, within_spec, beq_iff_eq, gcdL, List.foldl_cons, List.foldl_nil, Nat.gcd_zero_left, hone]
  exact ⟨⟨⟨by omega, by omega⟩, by omega, by omega⟩, rfl⟩
/-- The one's value is at most the other one's. -/
def vle (f : Form) (p q : Corner) : Prop := fv f p * q.Den ≤ fv f q * p.Den
theorem vle_refl (f : Form) (p : Corner) : vle f p p := Int.le_refl _
theorem vle_trans {f : Form} {p q r : Corner} (hp : 0 < p.Den) (hq : 0 < q.Den) (hr : 0 < r.Den) (h1 : vle f p q) (h2 : vle f q r) : vle f p r := by
  unfold vle at *
  have a1 := Int.mul_le_mul_of_nonneg_right h1 (Int.le_of_lt hr)
  have a2 := Int.mul_le_mul_of_nonneg_right h2 (Int.le_of_lt hp)
  have e1 : fv f q * p.Den * r.Den = fv f q * r.Den * p.Den := by grind
  have e2 : fv f p * q.Den * r.Den = q.Den * (fv f p * r.Den) := by grind
  have e3 : fv f r * q.Den * p.Den = q.Den * (fv f r * p.Den) := by grind
  have : q.Den * (fv f p * r.Den) ≤ q.Den * (fv f r * p.Den) := by omega
  exact Int.le_of_mul_le_mul_left this hq
theorem less_vle {f : Form} {p q : Corner} (hf : slope f.X f.Y = true) (hp : valid p = true) (hq : valid q = true) : ¬ less (value f p) (value f q) < 0 ↔ vle f q p := by
  obtain ⟨f1, g1, p1, n1, d1⟩ := value_spec hf hp
  obtain ⟨f2, g2, p2, n2, d2⟩ := value_spec hf hq
  unfold less
  rw [if_pos ⟨f1, f2⟩]
  unfold vle
  rw [n1, n2, d1, d2]
  have e1 : g2 * (value f q).Num * (g1 * (value f p).Den) = g1 * g2 * ((value f q).Num * (value f p).Den) := by grind
  have e2 : g1 * (value f p).Num * (g2 * (value f q).Den) = g1 * g2 * ((value f p).Num * (value f q).Den) := by grind
  rw [e1, e2]
  have gp := Int.mul_pos p1 p2
  unfold ord
  constructor
  · intro h
    refine Int.mul_le_mul_of_nonneg_left ?_ (Int.le_of_lt gp)
    refine Classical.byContradiction fun hh => h ?_
    rw [if_pos (by omega)]; decide
  · intro h
    have := Int.le_of_mul_le_mul_left h gp
    rw [if_neg (by omega)]
    split <;> decide
theorem bestTo_max {f : Form} {l : List Corner} (hf : slope f.X f.Y = true) (hl : ∀ q ∈ l, valid q = true) (h0 : 0 < l.length) : ∀ i, i ≤ l.length → ∀ j, j < i ∨ j = 0 → vle f (l.getD j default) (bestTo f l i)
  | 0, _, j, hj => by
    obtain rfl : j = 0 := by omega
    rw [bestTo_zero]; exact vle_refl f _
  | i + 1, hi, j, hj => by
    have vi := hl _ (gd1 (show i < l.length by omega) default)
    have vb := hl _ (bestTo_mem f l h0 i (by omega))
    have den := fun (q : Corner) (h : valid q = true) => (okC_of h).d
    have vj : valid (l.getD j default) = true := hl _ (gd1 (by omega) default)
    rw [bestTo_succ f l (by omega)]
    unfold stepB
    by_cases hc : less (value f (bestTo f l i)) (value f (l.getD i default)) < 0
    · rw [if_pos hc]
      have hle : vle f (bestTo f l i) (l.getD i default) := by
        unfold vle
        have : ¬ vle f (l.getD i default) (bestTo f l i) := fun h => ((less_vle hf vb vi).2 h) hc
        unfold vle at this
        omega
      rcases Nat.lt_or_ge j i with h | h
      · exact vle_trans (by have := den _ vj; omega) (by have := den _ vb; omega) (by have := den _ vi; omega) (bestTo_max hf hl h0 i (by omega) j (.inl h)) hle
      · by_cases hj0 : j = 0
        · exact vle_trans (by have := den _ vj; omega) (by have := den _ vb; omega) (by have := den _ vi; omega) (bestTo_max hf hl h0 i (by omega) j (.inr hj0)) hle
        · obtain rfl : j = i := by omega
          exact vle_refl f _
    · rw [if_neg hc]
      rcases Nat.lt_or_ge j i with h | h
      · exact bestTo_max hf hl h0 i (by omega) j (.inl h)
      · by_cases hj0 : j = 0
        · exact bestTo_max hf hl h0 i (by omega) j (.inr hj0)
        · obtain rfl : j = i := by omega
          exact (less_vle hf vb vi).1 hc
theorem bestAt_max {f : Form} {l : List Corner} (hf : slope f.X f.Y = true) (hl : ∀ q ∈ l, valid q = true) {q : Corner} (hq : q ∈ l) : vle f q (bestAt f l) := by
  obtain ⟨j, hj, rfl⟩ := List.getElem_of_mem hq
  have := bestTo_max hf hl (by omega) l.length (Nat.le_refl _) j (.inl hj)
  unfold bestAt
  rwa [gdI hj] at this
/-- No point of the polygon has a greater value. -/
theorem best_all {l : List Half} {f : Form} (h1 : checkL l = 0) (hf : slope f.X f.Y = true) {q : Corner} (hq : Pt l q) : vle f q (bestAt f (cornersL l)) := by
  obtain ⟨_, _, n3⟩ := checkL_ok h1
  obtain ⟨p, hV, _, hmax⟩ := vt_max (okS_of h1) (f := f) (okF_of hf).to4 hq.1 hq.2
  have hp := (cor_mem n3 p).2 hV
  have hb := bestAt_mem f (l := cornersL l) (fun e => by rw [e] at hp; cases hp)
  have vb := ((cor_mem n3 _).1 hb).va
  have d1 := (okC_of hV.va).d
  have d2 := (okC_of vb).d
  refine vle_trans hq.1 (by omega) (by omega) (hmax q hq.1 hq.2) (bestAt_max hf (cornersL_ok n3) hp)
end Go.Pg
/-
  The law HalfCornersHold: the law's own functions, places in order.
-/
set_option linter.all false
set_option maxRecDepth 100000
namespace Go.Pg
open Go.Proofs Go.RowKit

theorem v_inside (h : Half) (p : Corner) (hh : okH h) (hp : okC p) : Spec PP 76 [h.v, p.v] [B (lies h p)] := by
  obtain ⟨h1, h2, h3⟩ := okHC hh hp
  refine spec_at Try.func76 rfl (by kernel_rfl) rfl ?_
  refine ⟨inI64 (by omega) (by omega), ⟨inI64 (by omega) (by omega), ⟨inI64 (by omega) (by omega), ⟨inI64 (by omega) (by omega), ?_⟩⟩⟩⟩
  refine r1B rfl ?_
  unfold lies; rfl
theorem v_within (l : List Half) (p : Corner) (hl : ∀ x ∈ l, okH x) (hp : okC p) (hq : Fe (hsL l) p) (hn : l.length ≤ 1000000) : Spec PP 31 [slH l, p.v] [B true] := by
  obtain ⟨⟨x1, x2⟩, y1, y2⟩ := side_bd (sub_hsL l) hq
  have d := hp.d
  refine spec_at Try.func31 rfl (by kernel_rfl) rfl ?_
  refine Split.no (decide_eq_false (by omega)) ?_
  refine Split.ff ?_
  refine Split.no (decide_eq_false (by omega)) ?_
  refine ⟨inI64 (by omega) (by omega), ?_⟩
  refine Split.ff ?_
  refine Split.no (decide_eq_false (by omega)) ?_
  refine ⟨inI64 (by omega) (by omega), ?_⟩
  refine Split.ff ?_
  refine Split.no (decide_eq_false (by omega)) ?_
  refine LoopOb.of (σ := Nat) (fun i => ([(3, .box 3 0), (31, avOf (slH l)), (32, .d (I l.length)), (33, .d (I i))], [(3, .box [.d (I p.X), .d (I p.Y), .d (I p.Den)])])) (fun i => i ≤ l.length) (fun i => l.length - i) 0
    ⟨rfl, ⟨obD [I p.X, I p.Y, I p.Den] rfl, trivial⟩, avQ rfl, avR _ rfl, avR _ rfl, avR _ rfl, trivial⟩ (Nat.zero_le _) fun i hi => ?_
  refine Split.by (fun g1 => ?_) (fun g1 => ?_)
  · have g1 : i < l.length := by have := dT g1; omega
    have m := gd1 g1 (default : Half)
    have c := v_inside (l.getD i default) p (hl _ m) hp
    rw [(lies_ef _ p).2 (hq _ (List.mem_append_left _ m))] at c
    refine ⟨⟨rfl, by omega, by omega⟩, ?_⟩
    refine CallSt.pure c rfl rfl ?_
    refine Split.ff ?_
    refine ⟨inI64 (by omega) (by omega), ?_⟩
    exact ⟨i + 1, ⟨rfl, ⟨obD [I p.X, I p.Y, I p.Den] rfl, trivial⟩, avQ rfl, avR _ rfl, avR _ rfl, avI rfl rfl, trivial⟩, g1, (show l.length - (i + 1) < l.length - i by omega)⟩
  exact r1B rfl rfl
/-- Both edges go through the corner, and are not parallel. -/
def goodP (hs : List Half) (p : Corner) (i k : Nat) : Prop := det (hs.getD i default) (hs.getD k default) ≠ 0 ∧ ef (hs.getD i default) p = 0 ∧ ef (hs.getD k default) p = 0
theorem good_of {hs : List Half} {p : Corner} (V : Vt hs p) : ∃ i k, k < i ∧ i < hs.length ∧ goodP hs p i k := by
  obtain ⟨g, hg, h, hh, hd, t1, t2⟩ := V.ti
  obtain ⟨a, ha, rfl⟩ := List.getElem_of_mem hg
  obtain ⟨b, hb, rfl⟩ := List.getElem_of_mem hh
  rw [← gdI ha default, ← gdI hb default] at hd
  rw [← gdI ha default] at t1
  rw [← gdI hb default] at t2
  rcases Nat.lt_trichotomy a b with h | h | h
  · exact ⟨b, a, h, hb, by rw [det_swap]; omega, t2, t1⟩
  · subst h; exact absurd (det_self _) hd
  · exact ⟨a, b, h, ha, hd, t1, t2⟩
theorem v_crossed (hs : List Half) (p : Corner) (hl : ∀ x ∈ hs, okH x) (hp : okC p) (V : Vt hs p) (hn : hs.length ≤ 1000000) : Spec PP 32 [slH hs, p.v] [B true] := by
  obtain ⟨i0, k0, j1, j2, j3⟩ := good_of V
  refine spec_at Try.func32 rfl (by kernel_rfl) rfl ?_
  refine LoopOb.of (σ := Nat) (fun i => ([(0, avOf (slH hs)), (3, .box 3 0), (9, avOf (slH hs)), (10, .d (I hs.length)), (11, .d (I i))], [(3, .box [.d (I p.X), .d (I p.Y), .d (I p.Den)])])) (fun i => i ≤ hs.length ∧ ∀ a b, a < i → b < a → ¬ goodP hs p a b) (fun i => hs.length - i) 0
    ⟨rfl, ⟨obD [I p.X, I p.Y, I p.Den] rfl, trivial⟩, avR _ rfl, avQ rfl, avR _ rfl, avR _ rfl, avR _ rfl, trivial⟩ ⟨Nat.zero_le _, fun a b h => absurd h (Nat.not_lt_zero _)⟩ fun i hi => ?_
  obtain ⟨i1, i2⟩ := hi
  refine Split.by (fun g1 => ?_) (fun g1 => ?_)
  · have g1 : i < hs.length := by have := dT g1; omega
    have oi := hl _ (gd1 g1 default)
    refine ⟨⟨rfl, by omega, by omega⟩, ?_⟩
    refine ⟨⟨.inr rfl, by omega, by omega⟩, ?_⟩
    refine LoopOb.of (σ := Nat) (fun k => ([(0, avOf (slH hs)), (3, .box 3 0), (6, .box 6 0), (9, avOf (slH hs)), (10, .d (I hs.length)), (11, .d (I i)), (18, .d (.slc 3 i fun k => (hs.getD k default).at)), (19, .d (I i)), (20, .d (I k))], [(3, .box [.d (I p.X), .d (I p.Y), .d (I p.Den)]), (6, bxH (hs.getD i default))])) (fun k => k ≤ i ∧ ∀ b, b < k → ¬ goodP hs p i b) (fun k => i - k) 0
      ⟨rfl, ⟨obD [I p.X, I p.Y, I p.Den] rfl, obH rfl rfl, trivial⟩, avR _ rfl, avQ rfl, avQ rfl, avR _ rfl, avR _ rfl, avR _ rfl, avR _ rfl, avR _ rfl, avR _ rfl, trivial⟩ ⟨Nat.zero_le _, fun b h => absurd h (Nat.not_lt_zero _)⟩ fun k hk => ?_
    obtain ⟨k1, k2⟩ := hk
    refine Split.by (fun g2 => ?_) (fun g2 => ?_)
    · have g2 : k < i := by have := dT g2; omega
      have ok := hl _ (gd1 (show k < hs.length by omega) default)
      obtain ⟨p1, p2, p3⟩ := okHC oi hp
      obtain ⟨q1, q2, q3⟩ := okHC ok hp
      have m1 := mulB oi.a ok.b
      have m2 := mulB ok.a oi.b
      have next : ¬ goodP hs p i k → ∃ x', k + 1 = x' ∧ (x' ≤ i ∧ ∀ b, b < x' → ¬ goodP hs p i b) ∧ i - x' < i - k := fun hg => ⟨_, rfl, ⟨g2, fun b hb => by
        rcases Nat.lt_or_ge b k with h | h
        · exact k2 b h
        · obtain rfl : b = k := by omega
          exact hg⟩, by omega⟩
      have fin : ¬ goodP hs p i k → (k + 1 ≤ i ∧ ∀ b, b < k + 1 → ¬ goodP hs p i b) ∧ i - (k + 1) < i - k := fun hg => by
        obtain ⟨_, rfl, h⟩ := next hg; exact h
      have gd : goodP hs p i k ↔ ((hs.getD i default).A * (hs.getD k default).B - (hs.getD k default).A * (hs.getD i default).B ≠ 0) ∧ (hs.getD i default).A * p.X + (hs.getD i default).B * p.Y - (hs.getD i default).C * p.Den = 0 ∧ (hs.getD k default).A * p.X + (hs.getD k default).B * p.Y - (hs.getD k default).C * p.Den = 0 := by
        unfold goodP ef; rw [det_def]
      have e1 : inR .i64 ((hs.getD i default).A * (hs.getD k default).B) := inI64 (by omega) (by omega)
      have e2 : inR .i64 ((hs.getD k default).A * (hs.getD i default).B) := inI64 (by omega) (by omega)
      have e3 : inR .i64 ((hs.getD k default).A * p.X) := inI64 (by omega) (by omega)
      have e4 : inR .i64 ((hs.getD k default).B * p.Y) := inI64 (by omega) (by omega)
      have e5 : inR .i64 ((hs.getD k default).A * p.X + (hs.getD k default).B * p.Y) := inI64 (by omega) (by omega)
      have e6 : inR .i64 ((hs.getD k default).C * p.Den) := inI64 (by omega) (by omega)
      refine ⟨⟨rfl, by omega, by omega⟩, ?_⟩
      refine ⟨e1, ⟨e2, ?_⟩⟩
      refine Split.by (fun t1 => ?_) (fun t1 => ?_)
      · have t1 : (hs.getD i default).A * (hs.getD k default).B ≠ (hs.getD k default).A * (hs.getD i default).B := by simpa using t1
        refine ⟨inI64 (by omega) (by omega), ⟨inI64 (by omega) (by omega), ⟨inI64 (by omega) (by omega), ⟨inI64 (by omega) (by omega), ?_⟩⟩⟩⟩
        refine Split.tt ?_
        refine Split.by (fun t2 => ?_) (fun t2 => ?_)
        · have t2 : (hs.getD i default).A * p.X + (hs.getD i default).B * p.Y = (hs.getD i default).C * p.Den := by simpa using t2
          refine ⟨e3, ⟨e4, ⟨e5, ⟨e6, ?_⟩⟩⟩⟩
          refine Split.tt ?_
          refine Split.by (fun t3 => ?_) (fun t3 => ?_)
          · exact r1B rfl rfl
          · have t3 : ¬ (hs.getD k default).A * p.X + (hs.getD k default).B * p.Y = (hs.getD k default).C * p.Den := by simpa using t3
            refine ⟨inI64 (by omega) (by omega), ?_⟩
            obtain ⟨f1, f2⟩ := fin (fun hx => t3 (by have := (gd.1 hx).2.2; omega))
            exact ⟨k + 1, ⟨rfl, ⟨obD [I p.X, I p.Y, I p.Den] rfl, obH rfl rfl, trivial⟩, avR _ rfl, avQ rfl, avQ rfl, avR _ rfl, avR _ rfl, avR _ rfl, avR _ rfl, avR _ rfl, avI rfl rfl, trivial⟩, f1, f2⟩
        · have t2 : ¬ (hs.getD i default).A * p.X + (hs.getD i default).B * p.Y = (hs.getD i default).C * p.Den := by simpa using t2
          refine Split.ff ?_
          refine Split.ff ?_
          refine ⟨inI64 (by omega) (by omega), ?_⟩
          obtain ⟨f1, f2⟩ := fin (fun hx => t2 (by have := (gd.1 hx).2.1; omega))
          exact ⟨k + 1, ⟨rfl, ⟨obD [I p.X, I p.Y, I p.Den] rfl, obH rfl rfl, trivial⟩, avR _ rfl, avQ rfl, avQ rfl, avR _ rfl, avR _ rfl, avR _ rfl, avR _ rfl, avR _ rfl, avI rfl rfl, trivial⟩, f1, f2⟩
      · have t1 : (hs.getD i default).A * (hs.getD k default).B = (hs.getD k default).A * (hs.getD i default).B := by simpa using t1
        refine Split.ff ?_
        refine Split.ff ?_
        refine Split.ff ?_
        refine Split.ff ?_
        refine ⟨inI64 (by omega) (by omega), ?_⟩
        obtain ⟨f1, f2⟩ := fin (fun hx => (gd.1 hx).1 (by omega))
        exact ⟨k + 1, ⟨rfl, ⟨obD [I p.X, I p.Y, I p.Den] rfl, obH rfl rfl, trivial⟩, avR _ rfl, avQ rfl, avQ rfl, avR _ rfl, avR _ rfl, avR _ rfl, avR _ rfl, avR _ rfl, avI rfl rfl, trivial⟩, f1, f2⟩
    · have g2 : k = i := by have := dF g2; omega
      subst g2
      refine ⟨inI64 (by omega) (by omega), ?_⟩
      refine ⟨k + 1, ⟨rfl, ⟨obD [I p.X, I p.Y, I p.Den] rfl, trivial⟩, avR _ rfl, avQ rfl, avR _ rfl, avR _ rfl, avI rfl rfl, trivial⟩, ⟨g1, fun a b ha hb => ?_⟩, (show hs.length - (k + 1) < hs.length - k by omega)⟩
      rcases Nat.lt_or_ge a k with h | h
      · exact i2 a b h hb
      · obtain rfl : a = k := by omega
        exact k2 b hb
  · have g1 : i = hs.length := by have := dF g1; omega
    exact absurd j3 (i2 i0 k0 (by omega) j1)
/-! ### Places -/
def ltP (a b : Place) : Prop := a.Y < b.Y ∨ (a.Y = b.Y ∧ a.X < b.X)
theorem row_mem {L : List Num} {y : Nat} {q : Place} : ∀ x, q ∈ placesRow L y x ↔ ∃ n : Nat, n < x ∧ inP L n y = true ∧ q = ⟨n, y⟩
  | 0 => by rw [placesRow_zero]; simp
  | x + 1 => by
    rw [placesRow_succ, List.mem_append, row_mem x]
    constructor
    · rintro (⟨n, h1, h2, h3⟩ | h)
      · exact ⟨n, by omega, h2, h3⟩
      · split at h
        · rename_i hi
          obtain rfl := List.mem_singleton.1 h
          exact ⟨x, by omega, hi, rfl⟩
        · cases h
    · rintro ⟨n, h1, h2, h3⟩
      rcases Nat.lt_or_ge n x with h | h
      · exact .inl ⟨n, h, h2, h3⟩
      · obtain rfl : n = x := by omega
        rw [if_pos h2]; exact .inr (by rw [h3]; exact List.mem_singleton.2 rfl)
theorem to_mem {L : List Num} {q : Place} : ∀ y, q ∈ placesTo L y ↔ ∃ x n : Nat, x < 49 ∧ n < y ∧ inP L x n = true ∧ q = ⟨x, n⟩
  | 0 => by rw [placesTo_zero]; simp
  | y + 1 => by
    rw [placesTo_succ, List.mem_append, to_mem y, row_mem 49]
    constructor
    · rintro (⟨x, n, h1, h2, h3, h4⟩ | ⟨x, h1, h3, h4⟩)
      · exact ⟨x, n, h1, by omega, h3, h4⟩
      · exact ⟨x, y, h1, by omega, h3, h4⟩
    · rintro ⟨x, n, h1, h2, h3, h4⟩
      rcases Nat.lt_or_ge n y with h | h
      · exact .inl ⟨x, n, h1, h, h3, h4⟩
      · obtain rfl : n = y := by omega
        exact .inr ⟨x, h1, h3, h4⟩
theorem row_pair (L : List Num) (y : Nat) : ∀ x, (placesRow L y x).Pairwise ltP
  | 0 => by rw [placesRow_zero]; exact .nil
  | x + 1 => by
    rw [placesRow_succ, List.pairwise_append]
    refine ⟨row_pair L y x, by split <;> simp, fun a ha b hb => ?_⟩
    obtain ⟨n, h1, _, rfl⟩ := (row_mem x).1 ha
    split at hb
    · obtain rfl := List.mem_singleton.1 hb
      exact .inr ⟨rfl, (by show (n : Int) < x; omega)⟩
    · cases hb
theorem to_pair (L : List Num) : ∀ y, (placesTo L y).Pairwise ltP
  | 0 => by rw [placesTo_zero]; exact .nil
  | y + 1 => by
    rw [placesTo_succ, List.pairwise_append]
    refine ⟨to_pair L y, row_pair L y 49, fun a ha b hb => ?_⟩
    obtain ⟨x, n, _, h2, _, rfl⟩ := (to_mem y).1 ha
    obtain ⟨x', _, _, rfl⟩ := (row_mem 49).1 hb
    exact .inl (by show (n : Int) < y; omega)
theorem valid_xy1 {x y : Nat} (hx : x ≤ 48) (hy : y ≤ 48) : valid ⟨x, y, 1⟩ = true := by
  have h : on ⟨x, y⟩ = true := by
    unfold on
    rw [Bool.and_eq_true, within_spec, within_spec]
    exact ⟨⟨(by show (0 : Int) ≤ (x : Int); omega), (by show (x : Int) ≤ 48; omega)⟩, (by show (0 : Int) ≤ (y : Int); omega), (by show (y : Int) ≤ 48; omega)⟩
  have := ofP_valid h
  unfold ofP at this
  rwa [if_pos h] at this
theorem allows_place {l : List Half} (h1 : checkL l = 0) (a : Place) : (allowsE l (ofP a)).2 = decide (a ∈ placesTo (allL l) 49) := by
  rw [Bool.eq_iff_iff, decide_eq_true_iff, to_mem]
  by_cases h : on a = true
  · have hb := h
    unfold on at hb
    rw [Bool.and_eq_true, within_spec, within_spec] at hb
    obtain ⟨⟨x1, x2⟩, y1, y2⟩ := hb
    obtain ⟨x, y⟩ := a
    obtain ⟨x, rfl⟩ := Int.eq_ofNat_of_zero_le x1
    obtain ⟨y, rfl⟩ := Int.eq_ofNat_of_zero_le y1
    have hx : x ≤ 48 := by have : (x : Int) ≤ 48 := x2; omega
    have hy : y ≤ 48 := by have : (y : Int) ≤ 48 := y2; omega
    have e : ofP ⟨x, y⟩ = ⟨x, y, 1⟩ := by unfold ofP; rw [if_pos h]
    rw [e]
    unfold allowsE
    rw [if_pos ⟨h1, valid_xy1 hx hy⟩]
    constructor
    · intro g; exact ⟨x, y, by omega, by omega, g, rfl⟩
    · rintro ⟨x', y', _, _, g, e2⟩
      have e3 : (x : Int) = x' := congrArg Place.X e2
      have e4 : (y : Int) = y' := congrArg Place.Y e2
      obtain rfl : x = x' := by omega
      obtain rfl : y = y' := by omega
      exact g
  · have e : ofP a = ⟨0, 0, 0⟩ := by unfold ofP; rw [if_neg h]
    rw [e]
    unfold allowsE
    rw [if_neg fun hh => by have := (okC_of hh.2).d; simp at this]
    constructor
    · intro g; cases g
    · rintro ⟨x', y', g1, g2, _, rfl⟩
      exact absurd (by
        unfold on
        rw [Bool.and_eq_true, within_spec, within_spec]
        exact ⟨⟨(by show (0 : Int) ≤ (x' : Int); omega), (by show (x' : Int) ≤ 48; omega)⟩, (by show (0 : Int) ≤ (y' : Int); omega), (by show (y' : Int) ≤ 48; omega)⟩) h
theorem places_ok {l : List Half} (h1 : checkL l = 0) (h0 : cornersL l ≠ []) : placesE l = (placesTo (allL l) 49, 0) := by unfold placesE; rw [if_pos h1, if_neg h0]
end Go.Pg
/-
  The law HalfCornersHold: walk.
-/
set_option linter.all false
set_option maxRecDepth 100000
namespace Go.Pg
open Go.Proofs Go.RowKit

theorem eqFr (p q : Frac) : (p.Num == q.Num && (p.Den == q.Den && (true))) = (p == q) := by
  rw [Bool.eq_iff_iff]
  simp only [Bool.and_eq_true, beq_iff_eq, and_true]
  cases p; cases q; simp
theorem app4S (f0 : Nat → Nat → D) (l : List Half) : D.eqv (.slc 3 (0 + l.length + 4) (appRow (0 + l.length) (appRow 0 f0 (rowH l)) (rowOf 3 [I (-1), I 0, I 0, I 1, I 0, I 48, I 0, I (-1), I 0, I 0, I 1, I 48]))) (.slc 3 (hsL l).length (rowH (hsL l))) := by
  refine app_row (a := l) (b := sidesL) (at_ := Half.at) (by omega) rfl (fun i hi j hj => ?_) (fun i hi j hj => ?_)
  · unfold appRow
    rw [if_neg (Nat.not_lt_zero _)]
    exact D.eqv_refl _
  · rw [sides_row i hi j hj]
    exact D.eqv_refl _
abbrev bxP (p : Place) : Ob := .box [.d (I p.X), .d (I p.Y)]
abbrev bxF (f : Form) : Ob := .box [.d (I f.X), .d (I f.Y)]
theorem obP {s : St} {ob : Nat → Option Ob} {p : Place} {o : Option Ob} (g : o = some (bxP p)) : Oble s ob o (bxP p) := obD [I p.X, I p.Y] g
theorem obF {s : St} {ob : Nat → Option Ob} {p : Form} {o : Option Ob} (g : o = some (bxF p)) : Oble s ob o (bxF p) := obD [I p.X, I p.Y] g
theorem avBb {s : St} {ob : Nat → Option Ob} {v : AV} {a b : Bool} (h : v = .d (.bool a)) (e : a = b) : AVle s ob v (.d (.bool b)) := by subst h; subst e; exact D.eqv_refl _
@[irreducible] def inTo (ps : List Place) (a : Place) (i : Nat) : Bool := (ps.take i).any fun q => q == a
theorem inTo_zero (ps : List Place) (a : Place) : inTo ps a 0 = false := by unfold inTo; rfl
theorem inTo_succ (ps : List Place) (a : Place) {i : Nat} (h : i < ps.length) : inTo ps a (i + 1) = (inTo ps a i || ps.getD i default == a) := by
  unfold inTo
  rw [take1 h default, List.any_append]; simp
theorem inTo_all (ps : List Place) (a : Place) : inTo ps a ps.length = decide (a ∈ ps) := by
  unfold inTo
  rw [List.take_length, Bool.eq_iff_iff, List.any_eq_true, decide_eq_true_iff]
  constructor
  · rintro ⟨q, hq, h⟩
    rw [beq_iff_eq] at h; subst h; exact hq
  · intro h; exact ⟨a, h, by simp⟩
@[irreducible] def attTo (f : Form) (v : Frac) (cs : List Corner) (i : Nat) : Bool := (cs.take i).any fun q => value f q == v
theorem attTo_zero (f : Form) (v : Frac) (cs : List Corner) : attTo f v cs 0 = false := by unfold attTo; rfl
theorem attTo_succ (f : Form) (v : Frac) (cs : List Corner) {i : Nat} (h : i < cs.length) : attTo f v cs (i + 1) = (attTo f v cs i || value f (cs.getD i default) == v) := by
  unfold attTo
  rw [take1 h default, List.any_append]; simp
theorem attTo_all (f : Form) {v : Frac} {cs : List Corner} {q : Corner} (hq : q ∈ cs) (e : v = value f q) : attTo f v cs cs.length = true := by
  unfold attTo
  rw [List.take_length, List.any_eq_true]
  exact ⟨q, hq, by rw [e]; simp⟩
set_option maxHeartbeats 4000000 in
theorem s_HalfCornersHold (l : List Half) (f : Form) (a : Place) : Spec PP 9 [slH l, f.v, a.v] [B true] := by
  refine spec_at Try.func9 rfl (by kernel_rfl) rfl ?_
  refine Split.by (fun h1 => ?_) (fun h1 => ?_)
  · refine Split.tt ?_
    refine Split.tt ?_
    refine CallSt.pure s_sanity rfl rfl ?_
    exact r1B rfl rfl
  have hn : l.length ≤ 12 := by have := dF h1; omega
  refine CallSt.pure (s_Check l) rfl rfl ?_
  refine Split.ff ?_
  refine Split.by (fun h1 => ?_) (fun h1 => ?_)
  · refine CallSt.pure s_sanity rfl rfl ?_
    exact r1B rfl rfl
  have h1 : checkL l = 0 := by simpa using h1
  obtain ⟨n1, n2, n3⟩ := checkL_ok h1
  have cP := s_Places l
  have cC := corners_spec h1
  by_cases h0 : cornersL l = []
  · rw [show placesE l = ([], 9) by unfold placesE; rw [if_pos h1, if_pos h0]] at cP
    rw [if_pos h0] at cC
    refine CallSt.ro cC rfl rfl ?_
    refine CallSt.ro cP rfl rfl ?_
    refine Split.ff ?_
    refine Split.tt ?_
    refine CallSt.pure s_sanity rfl rfl ?_
    refine Split.tt ?_
    refine Split.tt ?_
    exact r1B rfl rfl
  rw [places_ok h1 h0] at cP
  rw [if_neg h0] at cC
  have lc := cornersL_len (l := l) (by omega)
  have lp := placesTo_len (allL l) 49
  have okS := okS_of h1
  refine CallSt.ro cC rfl rfl ?_
  refine CallSt.ro cP rfl rfl ?_
  refine Split.ff ?_
  refine Split.ff ?_
  refine ⟨⟨.inr rfl, by unfold maxLen; show 0 + l.length ≤ _; omega, by show (0 + l.length) * 24 ≤ 140737488355328; omega⟩, ?_⟩
  refine ⟨⟨.inr rfl, by unfold maxLen; show 0 + l.length + 4 ≤ _; omega, by show (0 + l.length + 4) * 24 ≤ 140737488355328; omega⟩, ?_⟩
  refine LoopOb.of (σ := Nat) (fun i => ([(0, avOf (slH l)), (4, .box 4 0), (5, .box 5 0), (7, avOf (slC (cornersL l))), (9, avOf (slP (placesTo (allL l) 49))), (11, avOf (slH (hsL l))), (68, avOf (slC (cornersL l))), (69, .d (I (cornersL l).length)), (70, .d (I i))], [(4, bxF f), (5, bxP a)])) (fun i => i ≤ (cornersL l).length) (fun i => (cornersL l).length - i) 0
    ⟨rfl, ⟨obF rfl, obP rfl, trivial⟩, avR _ rfl, avQ rfl, avQ rfl, avR _ rfl, avR _ rfl, avOw rfl rfl rfl (app4S _ l), avR _ rfl, avR _ rfl, avR _ rfl, trivial⟩ (Nat.zero_le _) fun i hi => ?_
  refine Split.by (fun g1 => ?_) (fun g1 => ?_)
  · have g1 : i < (cornersL l).length := by have := dT g1; omega
    have V := (cor_mem n3 _).1 (gd1 g1 default)
    have cV := s_Valid ((cornersL l).getD i default)
    rw [V.va] at cV
    have hsl : (hsL l).length = l.length + 4 := by simp [hsL, sidesL]
    refine ⟨⟨rfl, by omega, by omega⟩, ?_⟩
    refine CallSt.pure cV rfl rfl ?_
    refine Split.ff ?_
    refine CallSt.pure (v_within l _ n3 (okC_of V.va) V.fe (by omega)) rfl rfl ?_
    refine Split.ff ?_
    refine Split.ff ?_
    refine CallSt.pure (v_crossed (hsL l) _ okS.ok (okC_of V.va) V (by omega)) rfl rfl ?_
    refine Split.ff ?_
    refine Split.ff ?_
    refine ⟨inI64 (by omega) (by omega), ?_⟩
    exact ⟨i + 1, ⟨rfl, ⟨obF rfl, obP rfl, trivial⟩, avR _ rfl, avQ rfl, avQ rfl, avR _ rfl, avR _ rfl, avR _ rfl, avR _ rfl, avR _ rfl, avI rfl rfl, trivial⟩, g1, (show (cornersL l).length - (i + 1) < (cornersL l).length - i by omega)⟩
  have pairs := to_pair (allL l) 49
  have allow := fun a => allows_place h1 a
  generalize placesTo (allL l) 49 = ps at *
  refine LoopOb.of (σ := Nat) (fun i => ([(0, avOf (slH l)), (4, .box 4 0), (5, .box 5 0), (7, avOf (slC (cornersL l))), (9, avOf (slP ps)), (90, avOf (slP ps)), (91, .d (I ps.length)), (92, .d (I i))], [(4, bxF f), (5, bxP a)])) (fun i => i ≤ ps.length) (fun i => ps.length - i) 0
    ⟨rfl, ⟨obF rfl, obP rfl, trivial⟩, avR _ rfl, avQ rfl, avQ rfl, avR _ rfl, avR _ rfl, avR _ rfl, avR _ rfl, avR _ rfl, trivial⟩ (Nat.zero_le _) fun i hi => ?_
  refine Split.by (fun g2 => ?_) (fun g2 => ?_)
  · have g2 : i < ps.length := by have := dT g2; omega
    have cA := s_Allows l (ofP (ps.getD i default))
    rw [allow, decide_eq_true (gd1 g2 default)] at cA
    refine ⟨⟨rfl, by omega, by omega⟩, ?_⟩
    refine CallSt.pure (s_Of (ps.getD i default)) rfl rfl ?_
    refine CallSt.pure cA rfl rfl ?_
    refine Exists.intro (List.range 39) (And.intro (by kernel_rfl) (FzOb.no ?_))
    refine Split.ff ?_
    have last : ∀ (K : Prop), K → K := fun _ h => h
    refine Split.by (fun g3 => ?_) (fun g3 => ?_)
    · have g3 : 0 < i := by have := dT g3; omega
      have hlt : ltP (ps.getD (i - 1) default) (ps.getD i default) := by
        have := List.pairwise_iff_getElem.1 pairs (i - 1) i (by omega) g2 (by omega)
        rwa [← gdI _ default, ← gdI _ default] at this
      have et : ((i : Int) - 1).toNat = i - 1 := by omega
      have hlt : ltP (ps.getD ((i : Int) - 1).toNat default) (ps.getD i default) := by rw [et]; exact hlt
      refine ⟨inI64 (by omega) (by omega), ?_⟩
      refine ⟨⟨rfl, by omega, by omega⟩, ?_⟩
      refine Split.no (decide_eq_false (show ¬ (ps.getD ((i : Int) - 1).toNat default).Y > (ps.getD i default).Y by unfold ltP at hlt; omega)) ?_
      refine ⟨inI64 (by omega) (by omega), ?_⟩
      refine ⟨⟨rfl, by omega, by omega⟩, ?_⟩
      refine Split.by (fun g4 => ?_) (fun g4 => ?_)
      · have g4 : (ps.getD ((i : Int) - 1).toNat default).Y = (ps.getD i default).Y := by
          have g4 : ((ps.getD ((i : Int) - 1).toNat default).Y == (ps.getD i default).Y) = true := g4
          simpa using g4
        refine ⟨inI64 (by omega) (by omega), ?_⟩
        refine ⟨⟨rfl, by omega, by omega⟩, ?_⟩
        refine Split.tt ?_
        refine Split.ff ?_
        refine Split.tt ?_
        refine Split.ff ?_
        refine Split.no (decide_eq_false (show ¬ (ps.getD ((i : Int) - 1).toNat default).X ≥ (ps.getD i default).X by unfold ltP at hlt; omega)) ?_
        refine ⟨inI64 (by omega) (by omega), ?_⟩
        exact ⟨i + 1, ⟨rfl, ⟨obF rfl, obP rfl, trivial⟩, avR _ rfl, avQ rfl, avQ rfl, avR _ rfl, avR _ rfl, avR _ rfl, avR _ rfl, avI rfl rfl, trivial⟩, g2, (show ps.length - (i + 1) < ps.length - i by omega)⟩
      · refine Split.ff ?_
        refine Split.ff ?_
        refine Split.tt ?_
        refine Split.ff ?_
        refine Split.ff ?_
        refine ⟨inI64 (by omega) (by omega), ?_⟩
        exact ⟨i + 1, ⟨rfl, ⟨obF rfl, obP rfl, trivial⟩, avR _ rfl, avQ rfl, avQ rfl, avR _ rfl, avR _ rfl, avR _ rfl, avR _ rfl, avI rfl rfl, trivial⟩, g2, (show ps.length - (i + 1) < ps.length - i by omega)⟩
    · refine Split.ff ?_
      refine Split.ff ?_
      refine Split.ff ?_
      refine ⟨inI64 (by omega) (by omega), ?_⟩
      exact ⟨i + 1, ⟨rfl, ⟨obF rfl, obP rfl, trivial⟩, avR _ rfl, avQ rfl, avQ rfl, avR _ rfl, avR _ rfl, avR _ rfl, avR _ rfl, avI rfl rfl, trivial⟩, g2, (show ps.length - (i + 1) < ps.length - i by omega)⟩
  refine LoopOb.of (σ := Nat) (fun i => ([(0, avOf (slH l)), (4, .box 4 0), (5, .box 5 0), (7, avOf (slC (cornersL l))), (18, .d (.bool (inTo ps a i))), (144, avOf (slP ps)), (145, .d (I ps.length)), (146, .d (I i))], [(4, bxF f), (5, bxP a)])) (fun i => i ≤ ps.length) (fun i => ps.length - i) 0
    ⟨rfl, ⟨obF rfl, obP rfl, trivial⟩, avR _ rfl, avQ rfl, avQ rfl, avR _ rfl, avBb rfl (inTo_zero ps a).symm, avR _ rfl, avR _ rfl, avR _ rfl, trivial⟩ (Nat.zero_le _) fun i hi => ?_
  refine Split.by (fun g3 => ?_) (fun g3 => ?_)
  · have g3 : i < ps.length := by have := dT g3; omega
    have es := inTo_succ ps a g3
    refine ⟨⟨rfl, by omega, by omega⟩, ?_⟩
    refine Split.by (fun g4 => ?_) (fun g4 => ?_)
    · rw [g4] at es
      refine Split.tt ?_
      refine ⟨inI64 (by omega) (by omega), ?_⟩
      exact ⟨i + 1, ⟨rfl, ⟨obF rfl, obP rfl, trivial⟩, avR _ rfl, avQ rfl, avQ rfl, avR _ rfl, avBb rfl (by rw [es]; rfl), avR _ rfl, avR _ rfl, avI rfl rfl, trivial⟩, g3, (show ps.length - (i + 1) < ps.length - i by omega)⟩
    · rw [g4] at es
      refine Split.ff ?_
      refine ⟨inI64 (by omega) (by omega), ?_⟩
      exact ⟨i + 1, ⟨rfl, ⟨obF rfl, obP rfl, trivial⟩, avR _ rfl, avQ rfl, avQ rfl, avR _ rfl, avBb rfl (by rw [es, Bool.false_or, ← eqPs]; rfl), avR _ rfl, avR _ rfl, avI rfl rfl, trivial⟩, g3, (show ps.length - (i + 1) < ps.length - i by omega)⟩
  have g3 : i = ps.length := by have := dF g3; omega
  subst g3
  rw [inTo_all]
  have cA := s_Allows l (ofP a)
  rw [allow] at cA
  refine CallSt.pure (s_Of a) rfl rfl ?_
  refine CallSt.pure cA rfl rfl ?_
  refine Split.no (by cases decide (a ∈ ps) <;> rfl) ?_
  have cB := s_Best l f
  by_cases hf : slope f.X f.Y = true
  case neg =>
    rw [best_none h1 (by simpa using hf)] at cB
    refine CallSt.ro cB rfl rfl ?_
    refine Split.tt ?_
    refine CallSt.pure s_sanity rfl rfl ?_
    refine Split.tt ?_
    refine Split.tt ?_
    exact r1B rfl rfl
  obtain ⟨b, eb, ev⟩ := best_val h1 h0 hf
  rw [eb] at cB
  have att := attTo_all f (bestAt_mem f h0) ev
  refine CallSt.ro cB rfl rfl ?_
  refine Split.ff ?_
  refine LoopOb.of (σ := Nat) (fun i => ([(4, .box 4 0), (23, .box 23 0), (25, .d (.bool (attTo f b.V (cornersL l) i))), (180, avOf (slC (cornersL l))), (181, .d (I (cornersL l).length)), (182, .d (I i))], [(4, bxF f), (23, .box [.d (I b.V.Num), .d (I b.V.Den), .d (I b.At.X), .d (I b.At.Y), .d (I b.At.Den), .d (I b.Scale), .d (.slc 2 b.Uses.length (rowU b.Uses))])])) (fun i => i ≤ (cornersL l).length) (fun i => (cornersL l).length - i) 0
    ⟨rfl, ⟨obF rfl, obD [I b.V.Num, I b.V.Den, I b.At.X, I b.At.Y, I b.At.Den, I b.Scale, .slc 2 b.Uses.length (rowU b.Uses)] rfl, trivial⟩, avQ rfl, avQ rfl, avBb rfl (attTo_zero f b.V _).symm, avR _ rfl, avR _ rfl, avR _ rfl, trivial⟩ (Nat.zero_le _) fun i hi => ?_
  refine Split.by (fun g5 => ?_) (fun g5 => ?_)
  · have g5 : i < (cornersL l).length := by have := dT g5; omega
    have es := attTo_succ f b.V (cornersL l) g5
    have V := (cor_mem n3 _).1 (gd1 g5 default)
    have cV := s_Value f ((cornersL l).getD i default)
    rw [show valueE f ((cornersL l).getD i default) = (value f ((cornersL l).getD i default), 0) by unfold valueE; rw [if_pos ⟨hf, V.va⟩]] at cV
    refine ⟨⟨rfl, by omega, by omega⟩, ?_⟩
    refine CallSt.pure cV rfl rfl ?_
    refine Split.by (fun g6 => ?_) (fun g6 => ?_)
    · rw [g6] at es
      refine Split.tt ?_
      refine ⟨inI64 (by omega) (by omega), ?_⟩
      exact ⟨i + 1, ⟨rfl, ⟨obF rfl, obX rfl, trivial⟩, avQ rfl, avQ rfl, avBb rfl (by rw [es]; rfl), avR _ rfl, avR _ rfl, avI rfl rfl, trivial⟩, g5, (show (cornersL l).length - (i + 1) < (cornersL l).length - i by omega)⟩
    · rw [g6] at es
      refine Split.tt ?_
      refine Split.tt ?_
      refine Split.ff ?_
      refine ⟨inI64 (by omega) (by omega), ?_⟩
      exact ⟨i + 1, ⟨rfl, ⟨obF rfl, obX rfl, trivial⟩, avQ rfl, avQ rfl, avBb rfl (by rw [es, Bool.false_or, ← eqFr]), avR _ rfl, avR _ rfl, avI rfl rfl, trivial⟩, g5, (show (cornersL l).length - (i + 1) < (cornersL l).length - i by omega)⟩
  have g5 : i = (cornersL l).length := by have := dF g5; omega
  subst g5
  rw [att]
  refine CallSt.pure s_sanity rfl rfl ?_
  refine Split.tt ?_
  refine Split.tt ?_
  exact r1B rfl rfl
end Go.Pg
