/-
  The law HalfMore: walk. Written by program (genmore.py).
-/
import Derived.Test.YtlmljmgappiehaaKD
import Derived.Test.YtlmljmgappiehaaKC
set_option linter.all false
set_option maxRecDepth 100000
namespace Go.Pg
open Go.Proofs Go.RowKit

abbrev bxC (p : Corner) : Ob := .box [.d (I p.X), .d (I p.Y), .d (I p.Den)]
theorem obC {s : St} {ob : Nat → Option Ob} {p : Corner} {o : Option Ob} (g : o = some (bxC p)) : Oble s ob o (bxC p) := obD [I p.X, I p.Y, I p.Den] g
theorem app1H (f0 : Nat → Nat → D) (l : List Half) (h : Half) : D.eqv (.slc 3 (0 + l.length + 1) (appRow (0 + l.length) (appRow 0 f0 (rowH l)) (rowOf 3 [I h.A, I h.B, I h.C]))) (.slc 3 (l ++ [h]).length (rowH (l ++ [h]))) := by
  refine app_row (a := l) (b := [h]) (at_ := Half.at) (by omega) rfl (fun i hi j hj => ?_) (fun i hi j hj => ?_)
  · unfold appRow
    rw [if_neg (Nat.not_lt_zero _)]
    exact D.eqv_refl _
  · obtain rfl : i = 0 := by omega
    exact eqAtH h j hj
theorem more_pt {l : List Half} {h : Half} {q : Corner} (g : Pt (l ++ [h]) q) : Pt l q := pt_mono (fun x hx => List.mem_append_left _ hx) g
theorem more_ck {l : List Half} {h : Half} (h1 : checkL l = 0) (hf : fit h = true) (hn : l.length ≤ 11) : checkL (l ++ [h]) = 0 := by
  obtain ⟨_, n2, _⟩ := checkL_ok h1
  unfold checkL
  rw [if_neg (by simp; omega), if_pos]
  rw [List.all_append, List.all_eq_true.2 n2]; simp [hf]
theorem more_no {l : List Half} {h : Half} (hf : fit h = false) : checkL (l ++ [h]) ≠ 0 := fun e => by
  have := (checkL_ok e).2.1 h (by simp)
  rw [hf] at this; cases this
theorem best_less {l : List Half} {h : Half} {f : Form} (h1 : checkL l = 0) (h2 : checkL (l ++ [h]) = 0) (e1 : (bestE l f).2 = 0) (e2 : (bestE (l ++ [h]) f).2 = 0) : ¬ less (bestE l f).1.V (bestE (l ++ [h]) f).1.V < 0 := by
  by_cases hf : slope f.X f.Y = true
  case neg => rw [best_none h1 (by simpa using hf)] at e1; cases e1
  have ne : ∀ l, checkL l = 0 → (bestE l f).2 = 0 → cornersL l ≠ [] := fun l h1 e h0 => by
    rw [show bestE l f = (noBound, 9) by unfold bestE; rw [if_pos h1, if_pos hf, if_pos h0]] at e; cases e
  have z1 := ne _ h1 e1
  have z2 := ne _ h2 e2
  obtain ⟨b, q1, v1⟩ := best_val h1 z1 hf
  obtain ⟨c, q2, v2⟩ := best_val h2 z2 hf
  rw [q1, q2, v1, v2]
  have m1 := ((cor_mem (checkL_ok h1).2.2 _).1 (bestAt_mem f z1))
  have m2 := ((cor_mem (checkL_ok h2).2.2 _).1 (bestAt_mem f z2))
  refine (less_vle hf m1.va m2.va).2 (best_all h1 hf (more_pt (h := h) ⟨?_, m2.fe⟩))
  have := (okC_of m2.va).d
  omega
theorem implied_pt {l : List Half} {h : Half} (h1 : checkL l = 0) (hh : okH h) (g : (impliedE l h).1 = true) (q : Corner) : Pt l q ↔ Pt (l ++ [h]) q := by
  refine ⟨fun hq => ⟨hq.1, fun x hx => ?_⟩, more_pt⟩
  obtain ⟨_, _, n3⟩ := checkL_ok h1
  rcases List.mem_append.1 hx with hx | hx
  · rcases List.mem_append.1 hx with hx | hx
    · exact hq.2 x (List.mem_append_left _ hx)
    · obtain rfl := List.mem_singleton.1 hx
      unfold impliedE at g
      rw [if_pos h1] at g
      split at g
      · simp only [Bool.not_eq_true', List.any_eq_false, Bool.not_eq_true, Bool.not_eq_false'] at g
        refine (holds_iff (okS_of h1) hh).1 (fun p hp => ?_) q hq.1 hq.2
        have := g p ((cor_mem n3 p).2 hp)
        exact (lies_ef x p).1 (by simpa using this)
      · cases g
  · exact hq.2 x (List.mem_append_right _ hx)
theorem ne_no {a b : Int} (e : a = b) : (a != b) = false := by subst e; simp
theorem fr_no {a b : Frac} (e : a = b) : (!(a.Num == b.Num && (a.Den == b.Den && true))) = false := by subst e; simp
theorem back_holds {l : List Half} {h : Half} {p : Corner} (hf : fit h = true) (w1 : (allowsE l p).2 = true) (w2 : (!(fit h && valid p && lies h p)) = true) : (!(fit ⟨-h.A, -h.B, -h.C⟩ && valid p && lies ⟨-h.A, -h.B, -h.C⟩ p)) = false := by
  have hv : valid p = true := by
    unfold allowsE at w1
    split at w1
    · rename_i hh; exact hh.2
    · cases w1
  rw [hf, hv] at w2
  have w2 : lies h p = false := by simpa using w2
  have hfit : fit ⟨-h.A, -h.B, -h.C⟩ = true := by
    unfold fit slope at *
    simp only [Bool.and_eq_true, Bool.or_eq_true, within_spec, bne_iff_ne, ne_eq] at *
    omega
  have hl : lies ⟨-h.A, -h.B, -h.C⟩ p = true := by
    rw [lies_ef]
    have : ¬ ef h p ≤ 0 := fun g => by rw [(lies_ef h p).2 g] at w2; cases w2
    have e : ef ⟨-h.A, -h.B, -h.C⟩ p = -ef h p := by unfold ef; grind
    omega
  rw [hfit, hv, hl]; rfl
set_option maxHeartbeats 8000000 in
theorem s_HalfMore (l : List Half) (h : Half) (f : Form) (p : Corner) : Spec PP 10 [slH l, h.v, f.v, p.v] [B true] := by
  refine specC_at [4, 9] Try.func10 rfl (by kernel_rfl) rfl ?_
  refine Split.by (fun h1 => ?_) (fun h1 => ?_)
  · refine Split.tt ?_
    refine Split.tt ?_
    refine CallSt.pure s_sanity rfl rfl ?_
    exact r1B rfl rfl
  have hn : l.length ≤ 11 := by have := dF h1; omega
  refine CallSt.pure (s_Check l) rfl rfl ?_
  refine Split.ff ?_
  refine Split.by (fun h1 => ?_) (fun h1 => ?_)
  · refine CallSt.pure s_sanity rfl rfl ?_
    exact r1B rfl rfl
  have h1 : checkL l = 0 := by simpa using h1
  obtain ⟨n1, n2, n3⟩ := checkL_ok h1
  refine Exists.intro [1, 1003, 1004, 0, 2, 5, 6] (And.intro (by kernel_rfl) (FzOb.no ?_))
  refine ⟨rfl, ⟨rfl, ⟨rfl, ⟨rfl, ?_⟩⟩⟩⟩
  refine ⟨⟨.inr rfl, by unfold maxLen; show 0 + l.length ≤ _; omega, by show (0 + l.length) * 24 ≤ 140737488355328; omega⟩, ?_⟩
  refine ⟨⟨.inr rfl, by unfold maxLen; show 0 + l.length + 1 ≤ _; omega, by show (0 + l.length + 1) * 24 ≤ 140737488355328; omega⟩, ?_⟩
  refine CutOb.at [(0, avOf (slH l)), (5, .box 5 0), (6, .box 6 0), (7, .box 7 0), (9, avOf (slH (l ++ [h])))] [(5, bxH h), (6, bxF f), (7, bxC p)] ⟨rfl, ⟨obH rfl rfl, obF rfl, obC rfl, trivial⟩, avR _ rfl, avQ rfl, avQ rfl, avQ rfl, avOw rfl rfl rfl (app1H _ l h), trivial⟩ ?_
  have cA := s_Best l f
  have cB := s_Best (l ++ [h]) f
  have cI := s_Implied l h
  have cK := s_Back h
  have cW := s_Allows l p
  have cH := s_Holds h p
  by_cases hf : fit h = true
  case neg =>
    have hf' : fit h = false := by simpa using hf
    have gne : (bestE (l ++ [h]) f).2 ≠ 0 := by
      unfold bestE
      rw [if_neg (more_no hf')]
      exact more_no hf'
    rw [show impliedE l h = (false, 1) by unfold impliedE; rw [if_pos h1, if_neg hf]] at cI
    rw [show back h = (⟨0, 0, 0⟩, 1) by unfold back; rw [if_neg hf]] at cK
    refine CallSt.ro cA rfl rfl ?_
    refine CallSt.ro cB rfl rfl ?_
    refine CallSt.pure cI rfl rfl ?_
    refine Split.by (fun c1 => ?_) (fun c1 => ?_)
    · have c1 : (bestE l f).2 = 0 := by simpa using c1
      refine Split.tt ?_
      refine Split.no (beq_false_of_ne gne) ?_
      refine Split.ff ?_
      refine Split.ff ?_
      refine Split.ff ?_
      refine Split.ff ?_
      refine Split.ff ?_
      refine Split.ff ?_
      refine Split.ff ?_
      refine Split.ff ?_
      refine CutOb.at [(0, avOf (slH l)), (5, .box 5 0), (7, .box 7 0), (15, .d (I 1))] [(5, bxH h), (7, bxC p)] ⟨rfl, ⟨obH rfl rfl, obC rfl, trivial⟩, avR _ rfl, avQ rfl, avQ rfl, avI rfl rfl, trivial⟩ ?_
      refine CallSt.pure cK rfl rfl ?_
      refine Split.ff ?_
      refine Split.ff ?_
      refine Split.ff ?_
      refine CallSt.pure cW rfl rfl ?_
      refine Split.by (fun w1 => ?_) (fun w1 => ?_)
      · refine Split.tt ?_
        refine Split.ff ?_
        refine Split.ff ?_
        refine Split.ff ?_
        refine Split.ff ?_
        refine Split.ff ?_
        refine CallSt.pure s_sanity rfl rfl ?_
        exact r1B rfl rfl
      · refine Split.ff ?_
        refine Split.ff ?_
        refine Split.ff ?_
        refine Split.ff ?_
        refine Split.ff ?_
        refine Split.ff ?_
        refine CallSt.pure s_sanity rfl rfl ?_
        exact r1B rfl rfl
    · refine Split.ff ?_
      refine Split.ff ?_
      refine Split.ff ?_
      refine Split.ff ?_
      refine Split.ff ?_
      refine Split.ff ?_
      refine Split.ff ?_
      refine Split.ff ?_
      refine Split.ff ?_
      refine Split.ff ?_
      refine CutOb.at [(0, avOf (slH l)), (5, .box 5 0), (7, .box 7 0), (15, .d (I 1))] [(5, bxH h), (7, bxC p)] ⟨rfl, ⟨obH rfl rfl, obC rfl, trivial⟩, avR _ rfl, avQ rfl, avQ rfl, avI rfl rfl, trivial⟩ ?_
      refine CallSt.pure cK rfl rfl ?_
      refine Split.ff ?_
      refine Split.ff ?_
      refine Split.ff ?_
      refine CallSt.pure cW rfl rfl ?_
      refine Split.by (fun w1 => ?_) (fun w1 => ?_)
      · refine Split.tt ?_
        refine Split.ff ?_
        refine Split.ff ?_
        refine Split.ff ?_
        refine Split.ff ?_
        refine Split.ff ?_
        refine CallSt.pure s_sanity rfl rfl ?_
        exact r1B rfl rfl
      · refine Split.ff ?_
        refine Split.ff ?_
        refine Split.ff ?_
        refine Split.ff ?_
        refine Split.ff ?_
        refine Split.ff ?_
        refine CallSt.pure s_sanity rfl rfl ?_
        exact r1B rfl rfl
  have ck := more_ck h1 hf hn
  rw [show back h = (⟨-h.A, -h.B, -h.C⟩, 0) by unfold back; rw [if_pos hf]] at cK
  rw [show impliedE l h = ((impliedE l h).1, 0) by unfold impliedE; rw [if_pos h1, if_pos hf]] at cI
  by_cases hi : (impliedE l h).1 = true
  · have pt := implied_pt h1 (okH_of hf) hi
    obtain ⟨vE, eE⟩ := bestE_pt f h1 ck pt
    rw [hi] at cI
    refine CallSt.ro cA rfl rfl ?_
    refine CallSt.ro cB rfl rfl ?_
    refine CallSt.pure cI rfl rfl ?_
    refine Split.by (fun c1 => ?_) (fun c1 => ?_)
    · have c1 : (bestE l f).2 = 0 := by simpa using c1
      refine Split.tt ?_
      refine Split.by (fun c2 => ?_) (fun c2 => ?_)
      · have c2 : (bestE (l ++ [h]) f).2 = 0 := by simpa using c2
        refine CallSt.pure (s_Less (bestE l f).1.V (bestE (l ++ [h]) f).1.V) rfl rfl ?_
        refine Split.no (decide_eq_false (best_less h1 ck c1 c2)) ?_
        refine Split.tt ?_
        refine Split.tt ?_
        refine Split.ff ?_
        refine Split.tt ?_
        refine Split.no (fr_no vE) ?_
        refine Split.tt ?_
        refine Split.tt ?_
        refine Split.tt ?_
        refine Split.tt ?_
        refine Split.ff ?_
        refine Split.no (ne_no eE) ?_
        refine CutOb.at [(0, avOf (slH l)), (5, .box 5 0), (7, .box 7 0), (15, .d (I 0))] [(5, bxH h), (7, bxC p)] ⟨rfl, ⟨obH rfl rfl, obC rfl, trivial⟩, avR _ rfl, avQ rfl, avQ rfl, avI rfl rfl, trivial⟩ ?_
        refine CallSt.pure cK rfl rfl ?_
        refine Split.ff ?_
        refine Split.ff ?_
        refine Split.ff ?_
        refine CallSt.pure cW rfl rfl ?_
        refine Split.by (fun w1 => ?_) (fun w1 => ?_)
        · refine Split.tt ?_
          refine Split.tt ?_
          refine CallSt.pure cH rfl rfl ?_
          refine Split.tt ?_
          refine Split.by (fun w2 => ?_) (fun w2 => ?_)
          · refine CallSt.pure (s_Holds ⟨-h.A, -h.B, -h.C⟩ p) rfl rfl ?_
            refine Split.tt ?_
            refine Split.no (back_holds hf w1 w2) ?_
            refine CallSt.pure s_sanity rfl rfl ?_
            exact r1B rfl rfl
          · refine Split.ff ?_
            refine Split.ff ?_
            refine CallSt.pure s_sanity rfl rfl ?_
            exact r1B rfl rfl
        · refine Split.ff ?_
          refine Split.ff ?_
          refine Split.ff ?_
          refine Split.ff ?_
          refine Split.ff ?_
          refine Split.ff ?_
          refine CallSt.pure s_sanity rfl rfl ?_
          exact r1B rfl rfl
      · refine Split.ff ?_
        refine Split.ff ?_
        refine Split.tt ?_
        refine Split.tt ?_
        refine Split.tt ?_
        refine Split.tt ?_
        refine Split.ff ?_
        refine Split.no (ne_no eE) ?_
        refine CutOb.at [(0, avOf (slH l)), (5, .box 5 0), (7, .box 7 0), (15, .d (I 0))] [(5, bxH h), (7, bxC p)] ⟨rfl, ⟨obH rfl rfl, obC rfl, trivial⟩, avR _ rfl, avQ rfl, avQ rfl, avI rfl rfl, trivial⟩ ?_
        refine CallSt.pure cK rfl rfl ?_
        refine Split.ff ?_
        refine Split.ff ?_
        refine Split.ff ?_
        refine CallSt.pure cW rfl rfl ?_
        refine Split.by (fun w1 => ?_) (fun w1 => ?_)
        · refine Split.tt ?_
          refine Split.tt ?_
          refine CallSt.pure cH rfl rfl ?_
          refine Split.tt ?_
          refine Split.by (fun w2 => ?_) (fun w2 => ?_)
          · refine CallSt.pure (s_Holds ⟨-h.A, -h.B, -h.C⟩ p) rfl rfl ?_
            refine Split.tt ?_
            refine Split.no (back_holds hf w1 w2) ?_
            refine CallSt.pure s_sanity rfl rfl ?_
            exact r1B rfl rfl
          · refine Split.ff ?_
            refine Split.ff ?_
            refine CallSt.pure s_sanity rfl rfl ?_
            exact r1B rfl rfl
        · refine Split.ff ?_
          refine Split.ff ?_
          refine Split.ff ?_
          refine Split.ff ?_
          refine Split.ff ?_
          refine Split.ff ?_
          refine CallSt.pure s_sanity rfl rfl ?_
          exact r1B rfl rfl
    · refine Split.ff ?_
      refine Split.ff ?_
      refine Split.ff ?_
      refine Split.ff ?_
      refine Split.tt ?_
      refine Split.tt ?_
      refine Split.tt ?_
      refine Split.tt ?_
      refine Split.ff ?_
      refine Split.no (ne_no eE) ?_
      refine CutOb.at [(0, avOf (slH l)), (5, .box 5 0), (7, .box 7 0), (15, .d (I 0))] [(5, bxH h), (7, bxC p)] ⟨rfl, ⟨obH rfl rfl, obC rfl, trivial⟩, avR _ rfl, avQ rfl, avQ rfl, avI rfl rfl, trivial⟩ ?_
      refine CallSt.pure cK rfl rfl ?_
      refine Split.ff ?_
      refine Split.ff ?_
      refine Split.ff ?_
      refine CallSt.pure cW rfl rfl ?_
      refine Split.by (fun w1 => ?_) (fun w1 => ?_)
      · refine Split.tt ?_
        refine Split.tt ?_
        refine CallSt.pure cH rfl rfl ?_
        refine Split.tt ?_
        refine Split.by (fun w2 => ?_) (fun w2 => ?_)
        · refine CallSt.pure (s_Holds ⟨-h.A, -h.B, -h.C⟩ p) rfl rfl ?_
          refine Split.tt ?_
          refine Split.no (back_holds hf w1 w2) ?_
          refine CallSt.pure s_sanity rfl rfl ?_
          exact r1B rfl rfl
        · refine Split.ff ?_
          refine Split.ff ?_
          refine CallSt.pure s_sanity rfl rfl ?_
          exact r1B rfl rfl
      · refine Split.ff ?_
        refine Split.ff ?_
        refine Split.ff ?_
        refine Split.ff ?_
        refine Split.ff ?_
        refine Split.ff ?_
        refine CallSt.pure s_sanity rfl rfl ?_
        exact r1B rfl rfl
  · have hi : (impliedE l h).1 = false := by simpa using hi
    rw [hi] at cI
    refine CallSt.ro cA rfl rfl ?_
    refine CallSt.ro cB rfl rfl ?_
    refine CallSt.pure cI rfl rfl ?_
    refine Split.by (fun c1 => ?_) (fun c1 => ?_)
    · have c1 : (bestE l f).2 = 0 := by simpa using c1
      refine Split.tt ?_
      refine Split.by (fun c2 => ?_) (fun c2 => ?_)
      · have c2 : (bestE (l ++ [h]) f).2 = 0 := by simpa using c2
        refine CallSt.pure (s_Less (bestE l f).1.V (bestE (l ++ [h]) f).1.V) rfl rfl ?_
        refine Split.no (decide_eq_false (best_less h1 ck c1 c2)) ?_
        refine Split.ff ?_
        refine Split.ff ?_
        refine Split.ff ?_
        refine Split.tt ?_
        refine Split.ff ?_
        refine Split.ff ?_
        refine Split.ff ?_
        refine Split.ff ?_
        refine Split.ff ?_
        refine Split.ff ?_
        refine Split.ff ?_
        refine CutOb.at [(0, avOf (slH l)), (5, .box 5 0), (7, .box 7 0), (15, .d (I 0))] [(5, bxH h), (7, bxC p)] ⟨rfl, ⟨obH rfl rfl, obC rfl, trivial⟩, avR _ rfl, avQ rfl, avQ rfl, avI rfl rfl, trivial⟩ ?_
        refine CallSt.pure cK rfl rfl ?_
        refine Split.ff ?_
        refine Split.ff ?_
        refine Split.ff ?_
        refine CallSt.pure cW rfl rfl ?_
        refine Split.by (fun w1 => ?_) (fun w1 => ?_)
        · refine Split.tt ?_
          refine Split.tt ?_
          refine CallSt.pure cH rfl rfl ?_
          refine Split.tt ?_
          refine Split.by (fun w2 => ?_) (fun w2 => ?_)
          · refine CallSt.pure (s_Holds ⟨-h.A, -h.B, -h.C⟩ p) rfl rfl ?_
            refine Split.tt ?_
            refine Split.no (back_holds hf w1 w2) ?_
            refine CallSt.pure s_sanity rfl rfl ?_
            exact r1B rfl rfl
          · refine Split.ff ?_
            refine Split.ff ?_
            refine CallSt.pure s_sanity rfl rfl ?_
            exact r1B rfl rfl
        · refine Split.ff ?_
          refine Split.ff ?_
          refine Split.ff ?_
          refine Split.ff ?_
          refine Split.ff ?_
          refine Split.ff ?_
          refine CallSt.pure s_sanity rfl rfl ?_
          exact r1B rfl rfl
      · refine Split.ff ?_
        refine Split.ff ?_
        refine Split.ff ?_
        refine Split.ff ?_
        refine Split.ff ?_
        refine Split.ff ?_
        refine Split.ff ?_
        refine Split.ff ?_
        refine CutOb.at [(0, avOf (slH l)), (5, .box 5 0), (7, .box 7 0), (15, .d (I 0))] [(5, bxH h), (7, bxC p)] ⟨rfl, ⟨obH rfl rfl, obC rfl, trivial⟩, avR _ rfl, avQ rfl, avQ rfl, avI rfl rfl, trivial⟩ ?_
        refine CallSt.pure cK rfl rfl ?_
        refine Split.ff ?_
        refine Split.ff ?_
        refine Split.ff ?_
        refine CallSt.pure cW rfl rfl ?_
        refine Split.by (fun w1 => ?_) (fun w1 => ?_)
        · refine Split.tt ?_
          refine Split.tt ?_
          refine CallSt.pure cH rfl rfl ?_
          refine Split.tt ?_
          refine Split.by (fun w2 => ?_) (fun w2 => ?_)
          · refine CallSt.pure (s_Holds ⟨-h.A, -h.B, -h.C⟩ p) rfl rfl ?_
            refine Split.tt ?_
            refine Split.no (back_holds hf w1 w2) ?_
            refine CallSt.pure s_sanity rfl rfl ?_
            exact r1B rfl rfl
          · refine Split.ff ?_
            refine Split.ff ?_
            refine CallSt.pure s_sanity rfl rfl ?_
            exact r1B rfl rfl
        · refine Split.ff ?_
          refine Split.ff ?_
          refine Split.ff ?_
          refine Split.ff ?_
          refine Split.ff ?_
          refine Split.ff ?_
          refine CallSt.pure s_sanity rfl rfl ?_
          exact r1B rfl rfl
    · refine Split.ff ?_
      refine Split.ff ?_
      refine Split.ff ?_
      refine Split.ff ?_
      refine Split.ff ?_
      refine Split.ff ?_
      refine Split.ff ?_
      refine Split.ff ?_
      refine Split.ff ?_
      refine Split.ff ?_
      refine CutOb.at [(0, avOf (slH l)), (5, .box 5 0), (7, .box 7 0), (15, .d (I 0))] [(5, bxH h), (7, bxC p)] ⟨rfl, ⟨obH rfl rfl, obC rfl, trivial⟩, avR _ rfl, avQ rfl, avQ rfl, avI rfl rfl, trivial⟩ ?_
      refine CallSt.pure cK rfl rfl ?_
      refine Split.ff ?_
      refine Split.ff ?_
      refine Split.ff ?_
      refine CallSt.pure cW rfl rfl ?_
      refine Split.by (fun w1 => ?_) (fun w1 => ?_)
      · refine Split.tt ?_
        refine Split.tt ?_
        refine CallSt.pure cH rfl rfl ?_
        refine Split.tt ?_
        refine Split.by (fun w2 => ?_) (fun w2 => ?_)
        · refine CallSt.pure (s_Holds ⟨-h.A, -h.B, -h.C⟩ p) rfl rfl ?_
          refine Split.tt ?_
          refine Split.no (back_holds hf w1 w2) ?_
          refine CallSt.pure s_sanity rfl rfl ?_
          exact r1B rfl rfl
        · refine Split.ff ?_
          refine Split.ff ?_
          refine CallSt.pure s_sanity rfl rfl ?_
          exact r1B rfl rfl
      · refine Split.ff ?_
        refine Split.ff ?_
        refine Split.ff ?_
        refine Split.ff ?_
        refine Split.ff ?_
        refine Split.ff ?_
        refine CallSt.pure s_sanity rfl rfl ?_
        exact r1B rfl rfl
end Go.Pg
