/- Texts joined and shortened by program. -/
import Derived.Test.YtcgifildhmkdfaaGreatJD
import Derived.Test.YtcgifildhmkdfaaGreatJE
import Derived.Test.YtcgifildhmkdfaaGreatJC
import Derived.Test.YtcgifildhmkdfaaGreatJA
set_option linter.all false
set_option maxRecDepth 100000
namespace Go.Pg
open Go.Proofs Go.RowKit Go.Sort Go.Shelf
set_option maxHeartbeats 1000000 in
theorem l_Best (s : Svc) (b : Brn) (l : List Rpt) (xs : List Lk) : Spec PP 25 [s.v, b.v, .d (lR l), .d (lL xs)] [N (bstR s b l xs).1, .d (.int .i64 (bstR s b l xs).2)] := by
 refine spec_at Tryz.func25 rfl (by kernel_rfl) rfl ?_
 refine CallSt.ro (l_all s b l) rfl rfl ?_
 by_cases h0 : givE s b l = 0
 ·have e : allR s b l = (l.map (alwP s b), 0) := by unfold allR; rw [if_neg (fun hh => hh h0)]
  have e1 : bstR s b l xs = if 40 < xs.length then (0, 2) else if xs.length = 0 then (0, 5) else if lksE s xs ≠ 0 then (0, lksE s xs) else (((bstU (fun i => lkN s b (metP (l.map (alwP s b))) (xs.getD i default)) xs.length).1 : Int), 0) := by unfold bstR; rw [if_neg (fun hh => hh h0)]
  have ok := giv_ok h0
  have hn := ok.n
  have hL : (l.map (alwP s b)).length = l.length := List.length_map _
  rw [e, e1]
  generalize l.map (alwP s b) = L at hL
  refine Split.ff ?_
  refine Split.by (fun h1 => ?_) (fun h1 => ?_)
  ·have h1 : 40 < xs.length := by have : (40 : Int) < xs.length := dT h1; omega
   rw [if_pos h1]
   exact r2II rfl rfl rfl rfl
  have h1 : ¬ 40 < xs.length := by have : ¬ (40 : Int) < xs.length := dF h1; omega
  rw [if_neg h1]
  refine Split.by (fun h2 => ?_) (fun h2 => ?_)
  ·have h2 : xs.length = 0 := by
    have : (xs.length : Int) = 0 := by simpa using h2
    omega
   rw [if_pos h2]
   exact r2II rfl rfl rfl rfl
  have h2 : xs.length ≠ 0 := fun h => by rw [h] at h2; simp at h2
  rw [if_neg h2]
  refine CallSt.pure (l_meet L (by omega)) rfl rfl ?_
  generalize metP L = P
  refine LoopOb.of (σ := Nat) (fun i => ([(4, .box 4 0), (5, .box 5 0), (12, .box 12 0), (13, .d (I ((bstU (fun i => lkN s b P (xs.getD i default)) i).1 : Int))), (14, .d (I (bstU (fun i => lkN s b P (xs.getD i default)) i).2)), (41, .d (lL xs)), (42, .d (I xs.length)), (43, .d (I i))], [(4, .box (s.ds.map AV.d)), (5, .box (b.ds.map AV.d)), (12, .box ((bD P).map AV.d))])) (fun i => i ≤ xs.length ∧ ∀ j, j < i → lkE s (xs.getD j default) = 0) (fun i => xs.length - i) 0
   ⟨rfl, ⟨obX rfl, obX rfl, obX rfl, trivial⟩, avQ rfl, avQ rfl, avQ rfl, avI rfl rfl, avI rfl rfl, avR _ rfl, avR _ rfl, avR _ rfl, trivial⟩ ⟨Nat.zero_le _, fun j hj => absurd hj (Nat.not_lt_zero _)⟩ fun i hi => ?_
  obtain ⟨hi, ha⟩ := hi
  refine Split.by (fun h3 => ?_) (fun h3 => ?_)
  ·have h3 : i < xs.length := by have := dT h3; omega
   refine ⟨⟨rfl, by omega, by omega⟩, ?_⟩
   refine CallSt.pure (l_behind s b P (xs.getD i default) ok.s) rfl rfl ?_
   rw [fnd_e]
   refine Split.by (fun h4 => ?_) (fun h4 => ?_)
   ·have h4 : lkE s (xs.getD i default) ≠ 0 := by simpa using h4
    have ee : lksE s xs = lkE s (xs.getD i default) := err1_stop (f := fun i => lkE s (xs.getD i default)) ha h4 h3
    rw [ee, if_pos h4]
    exact r2II rfl rfl rfl rfl
   have h4 : lkE s (xs.getD i default) = 0 := by simpa using h4
   have ha' : ∀ j, j < i + 1 → lkE s (xs.getD j default) = 0 := fun j hj => by
    by_cases q : j = i
    ·subst q; exact h4
    ·exact ha j (by omega)
   have go : ∀ {x : Nat × Int}, bstU (fun i => lkN s b P (xs.getD i default)) (i + 1) = x → (xs.length - (i + 1) < xs.length - i) ∧ ((bstU (fun i => lkN s b P (xs.getD i default)) (i + 1)).1 = x.1 ∧ (bstU (fun i => lkN s b P (xs.getD i default)) (i + 1)).2 = x.2) := fun h => ⟨by omega, by rw [h], by rw [h]⟩
   refine Split.by (fun h5 => ?_) (fun h5 => ?_)
   ·have h5 : i = 0 := by
     have : (i : Int) = 0 := by simpa using h5
     omega
    obtain ⟨mu, g1, g2⟩ := go (bstU_yes (f := fun i => lkN s b P (xs.getD i default)) (.inl h5))
    repeat first | refine Split.tt ?_ | refine Split.ff ?_
    refine ⟨i6 (by omega), ?_⟩
    exact ⟨i + 1, ⟨rfl, ⟨obX rfl, obX rfl, obX rfl, trivial⟩, avQ rfl, avQ rfl, avQ rfl, avI rfl (by rw [g1]), avI rfl (by rw [g2]; rfl), avR _ rfl, avR _ rfl, avI rfl rfl, trivial⟩, ⟨h3, ha'⟩, mu⟩
   have h5 : i ≠ 0 := fun h => by rw [h] at h5; simp at h5
   repeat first | refine Split.tt ?_ | refine Split.ff ?_
   refine Split.by (fun h6 => ?_) (fun h6 => ?_)
   ·have h6 : lkN s b P (xs.getD i default) < (bstU (fun i => lkN s b P (xs.getD i default)) i).2 := dT h6
    obtain ⟨mu, g1, g2⟩ := go (bstU_yes (f := fun i => lkN s b P (xs.getD i default)) (.inr h6))
    refine ⟨i6 (by omega), ?_⟩
    exact ⟨i + 1, ⟨rfl, ⟨obX rfl, obX rfl, obX rfl, trivial⟩, avQ rfl, avQ rfl, avQ rfl, avI rfl (by rw [g1]), avI rfl (by rw [g2]; rfl), avR _ rfl, avR _ rfl, avI rfl rfl, trivial⟩, ⟨h3, ha'⟩, mu⟩
   ·have h6 : ¬ lkN s b P (xs.getD i default) < (bstU (fun i => lkN s b P (xs.getD i default)) i).2 := dF h6
    obtain ⟨mu, g1, g2⟩ := go (bstU_no (f := fun i => lkN s b P (xs.getD i default)) (fun h => h.elim h5 h6))
    refine ⟨i6 (by omega), ?_⟩
    exact ⟨i + 1, ⟨rfl, ⟨obX rfl, obX rfl, obX rfl, trivial⟩, avQ rfl, avQ rfl, avQ rfl, avI rfl (by rw [g1]), avI rfl (by rw [g2]), avR _ rfl, avR _ rfl, avI rfl rfl, trivial⟩, ⟨h3, ha'⟩, mu⟩
  ·have h3 : i = xs.length := by have := dF h3; omega
   subst h3
   have ee : lksE s xs = 0 := err1_ok ha
   rw [ee, if_neg (fun h => h rfl)]
   exact r2II rfl rfl rfl rfl
 ·have e : allR s b l = ([], givE s b l) := by unfold allR; rw [if_pos h0]
  have e1 : bstR s b l xs = (0, givE s b l) := by unfold bstR; rw [if_pos h0]
  rw [e, e1]
  refine Split.yes (by simpa using h0) ?_
  exact r2II rfl rfl rfl rfl
def cs2 (s : Svc) (l : List Rpt) (L : List (Nat → Bool)) (ps : List Place) (rs : List Rsn) (n : Nat) (q : Nat × Nat) : Option (Nat × Nat) :=
 if inB s ps q.1 n = true then (if 0 ≤ fstI L n then none else some (q.1 + 1, q.2))
 else if outB s rs q.2 n = false then none
 else if rptI l (rs.getD q.2 default).R < 0 ∨ L.getD (rptI l (rs.getD q.2 default).R).toNat default n = true then none else some (q.1, q.2 + 1)
section
variable {s : Svc} {l : List Rpt} {L : List (Nat → Bool)} {ps : List Place} {rs : List Rsn}
end
theorem r6_blank (x : Lk) : Spec PP 117 [x.v] [(blkO x).v] := by
 refine spec_at Tryz.func117 rfl (by kernel_rfl) rfl ?_
 exact r1C rfl rfl rfl rfl rfl rfl (eqvs_refl _)
theorem r6_look (s : Svc) (x : Lk) (h0 : svcE s = 0) : Spec PP 64 [s.v, x.v] [.d (.int .i64 (lkE s x))] := by
 have ok := svc_ok h0
 have hT := ok.c.t
 have hC := ok.k.n
 refine spec_at Tryz.func64 rfl (by kernel_rfl) rfl ?_
 refine CallSt.pure (r6_blank x) rfl rfl ?_
 refine CallSt.pure (r6_report s (blkO x) (by omega) (by omega)) rfl rfl ?_
 refine Split.by (fun h1 => ?_) (fun h1 => ?_)
 ·have h1 : rptE s (blkO x) ≠ 0 := by simpa using h1
  refine r1I rfl ?_
  unfold lkE; rw [if_pos h1]
 have h1 : rptE s (blkO x) = 0 := by simpa using h1
 have hf := rpt_frm h1
 have hb := frm_b hf (show (2 : Int) ≠ 1 by decide)
 have b1 : 0 ≤ x.From ∧ x.From ≤ 3599 := hb.f
 have b2 : 0 ≤ x.To ∧ x.To ≤ 3599 := hb.t
 have b3 : 1 ≤ x.Slack ∧ x.Slack ≤ 100 := hb.s
 have zb : (-300 ≤ (zLk s x).Lo ∧ (zLk s x).Lo ≤ 100000300) ∧ (-100000300 ≤ (zLk s x).Hi ∧ (zLk s x).Hi ≤ 300) := zerR_bd' s.k x.C x.Tick
 refine CallSt.pure (r5_Zero s.k x.C x.Tick) rfl rfl ?_
 refine Exists.intro (List.range 17) (And.intro (by kernel_rfl) (FzOb.no ?_))
 refine ⟨i6 (by omega), ?_⟩
 refine CallOb.pure (r6_turns (x.To - x.From) (by omega)) rfl rfl ?_
 have g1 : inR .i64 ((x.To - x.From) % 3600 + 2 * x.Slack) := i6 (by omega)
 have g2 : inR .i64 ((x.To - x.From) % 3600 + 2 * x.Slack + (zLk s x).Hi) := i6 (by omega)
 have g3 : inR .i64 ((x.To - x.From) % 3600 + 2 * x.Slack + (zLk s x).Hi - (zLk s x).Lo) := i6 (by omega)
 refine ⟨i6 (by omega), ⟨g1, ⟨g2, ⟨g3, ?_⟩⟩⟩⟩
 refine Split.by (fun h2 => ?_) (fun h2 => ?_)
 ·have h2 : 900 < (x.To - x.From) % 3600 + 2 * x.Slack + (zLk s x).Hi - (zLk s x).Lo := dT h2
  refine r1I rfl ?_
  unfold lkE; rw [if_neg (fun hh => hh h1), if_pos h2]
 ·have h2 : ¬ 900 < (x.To - x.From) % 3600 + 2 * x.Slack + (zLk s x).Hi - (zLk s x).Lo := dF h2
  refine r1I rfl ?_
  unfold lkE; rw [if_neg (fun hh => hh h1), if_neg h2]
theorem cnt_take {α : Type} (p : α → Bool) {l : List α} {i : Nat} (h : i < l.length) (d : α) : (l.take (i + 1)).countP p = (l.take i).countP p + (if p (l.getD i d) = true then 1 else 0) := by
 rw [take1 h d, List.countP_append, List.countP_singleton]
theorem cnt_le {α : Type} (p : α → Bool) (l : List α) (i : Nat) : (l.take i).countP p ≤ i := by
 have h1 := List.countP_le_length (p := p) (l := l.take i)
 rw [List.length_take] at h1
 omega
set_option maxHeartbeats 2000000 in
theorem r6_behind (s : Svc) (b : Brn) (Q : List Place) (x : Lk) (ok : SvcOk s) (hr : rptE s (blkO x) = 0) (hn : Q.length ≤ 1000000) : Spec PP 65 [s.v, b.v, .d (lP Q), x.v] [.agg [I (Q.countP (sawP s b x) : Nat), I (Q.countP (allB s b (blkO x)) : Nat)]] := by
 have hT := ok.c.t
 have hf := rpt_frm hr
 have hb := frm_b hf (show (2 : Int) ≠ 1 by decide)
 have b1 : 0 ≤ x.From ∧ x.From ≤ 3599 := hb.f
 have b2 : 0 ≤ x.To ∧ x.To ≤ 3599 := hb.t
 have b3 : 1 ≤ x.Slack ∧ x.Slack ≤ 100 := hb.s
 have zb : (-300 ≤ (zLk s x).Lo ∧ (zLk s x).Lo ≤ 100000300) ∧ (-100000300 ≤ (zLk s x).Hi ∧ (zLk s x).Hi ≤ 300) := zerR_bd' s.k x.C x.Tick
 refine specC_at [11] Tryz.func65 rfl (by kernel_rfl) rfl ?_
 refine Exists.intro (List.range 6) (And.intro (by kernel_rfl) (FzOb.no ?_))
 refine CallOb.pure (r6_blank x) rfl rfl ?_
 refine CallOb.pure (r6_made s (blkO x) (by omega) (rpt_ok hr)) rfl rfl ?_
 refine CallSt.pure (r5_Zero s.k x.C x.Tick) rfl rfl ?_
 have g4 : inR .i64 (x.From - x.Slack) := i6 (by omega)
 have g5 : inR .i64 (x.From - x.Slack - (zLk s x).Hi) := i6 (by omega)
 have g6 : inR .i64 (x.To + x.Slack) := i6 (by omega)
 have g7 : inR .i64 (x.To + x.Slack - (zLk s x).Lo) := i6 (by omega)
 refine Exists.intro (List.range 21) (And.intro (by kernel_rfl) (FzOb.no ?_))
 refine ⟨g4, ⟨g5, ?_⟩⟩
 refine CallOb.pure (r6_turns (x.From - x.Slack - (zLk s x).Hi) (by omega)) rfl rfl ?_
 refine ⟨g6, ⟨g7, ?_⟩⟩
 refine CallOb.pure (r6_turns (x.To + x.Slack - (zLk s x).Lo) (by omega)) rfl rfl ?_
 refine LoopOb.of (σ := Nat) (fun i => ([(2, .d (lP Q)), (4, .box 4 0), (5, .box 5 0), (8, .box 8 0), (9, .box 9 0), (11, .box 11 0), (12, .box 12 0), (13, .d (I i))], [(4, .box (s.ds.map AV.d)), (5, .box (b.ds.map AV.d)), (8, .box ([I 0, I 0].map AV.d)), (9, .box ((madD s (blkO x)).map AV.d)), (11, .box ([I (wideL s x).F, I (wideL s x).T].map AV.d)), (12, .box ([I ((Q.take i).countP (sawP s b x) : Nat), I ((Q.take i).countP (allB s b (blkO x)) : Nat)].map AV.d))])) (fun i => i ≤ Q.length) (fun i => Q.length - i) 0
  ⟨rfl, ⟨obX rfl, obX rfl, obX rfl, obX rfl, obX rfl, obX rfl, trivial⟩, avR _ rfl, avQ rfl, avQ rfl, avQ rfl, avQ rfl, avQ rfl, avQ rfl, avR _ rfl, trivial⟩ (Nat.zero_le _) fun i hi => ?_
 have hi : i ≤ Q.length := hi
 have c1 := cnt_le (sawP s b x) Q i
 have c2 := cnt_le (allB s b (blkO x)) Q i
 refine Split.by (fun h1 => ?_) (fun h1 => ?_)
 ·have h1 : i < Q.length := by have := dT h1; omega
  have e1 := cnt_take (sawP s b x) h1 default
  have e2 := cnt_take (allB s b (blkO x)) h1 default
  refine Exists.intro (List.range 9) (And.intro (by kernel_rfl) (FzOb.no ?_))
  refine ⟨⟨rfl, by omega, by omega⟩, ?_⟩
  refine CallOb.pure (r5_Lies (wideL s x) (towG s.c.T x.Tower).1.At (Q.getD i default)) rfl rfl ?_
  refine Exists.intro (List.range 12) (And.intro (by kernel_rfl) (FzOb.no ?_))
  apply two_
  ·intro key
   refine Split.by (fun h2 => ?_) (fun h2 => ?_)
   ·have h2 : liesW (wideL s x) (towG s.c.T x.Tower).1.At (Q.getD i default) = true := h2
    refine ⟨⟨rfl, by omega, by omega⟩, ?_⟩
    refine CallOb.pure (r6_sees s b (blkO x) (Q.getD i default)) rfl rfl ?_
    repeat first | refine Split.tt ?_ | refine Split.ff ?_
    refine Split.by (fun h3 => ?_) (fun h3 => ?_)
    ·have h3 : lookB s b (blkO x) (Q.getD i default) = true := h3
     rw [if_pos (show sawP s b x (Q.getD i default) = true by unfold sawP; rw [h2, h3]; rfl)] at e1
     refine ⟨i6 (by omega), ?_⟩
     refine CutOb.at [(2, .d (lP Q)), (4, .box 4 0), (5, .box 5 0), (8, .box 8 0), (9, .box 9 0), (11, .box 11 0), (12, .box 12 0), (13, .d (I i))] [(4, .box (s.ds.map AV.d)), (5, .box (b.ds.map AV.d)), (8, .box ([I 0, I 0].map AV.d)), (9, .box ((madD s (blkO x)).map AV.d)), (11, .box ([I (wideL s x).F, I (wideL s x).T].map AV.d)), (12, .box ([I ((Q.take (i + 1)).countP (sawP s b x) : Nat), I ((Q.take i).countP (allB s b (blkO x)) : Nat)].map AV.d))] ?_ ?_
     ·exact ⟨rfl, ⟨obX rfl, obX rfl, obX rfl, obX rfl, obX rfl, obX (by rw [e1]; rfl), trivial⟩, avR _ rfl, avQ rfl, avQ rfl, avQ rfl, avQ rfl, avQ rfl, avQ rfl, avR _ rfl, trivial⟩
     ·exact key.out
    ·have h3 : lookB s b (blkO x) (Q.getD i default) = false := h3
     rw [if_neg (show ¬ sawP s b x (Q.getD i default) = true by unfold sawP; rw [h2, h3]; decide)] at e1
     refine CutOb.at [(2, .d (lP Q)), (4, .box 4 0), (5, .box 5 0), (8, .box 8 0), (9, .box 9 0), (11, .box 11 0), (12, .box 12 0), (13, .d (I i))] [(4, .box (s.ds.map AV.d)), (5, .box (b.ds.map AV.d)), (8, .box ([I 0, I 0].map AV.d)), (9, .box ((madD s (blkO x)).map AV.d)), (11, .box ([I (wideL s x).F, I (wideL s x).T].map AV.d)), (12, .box ([I ((Q.take (i + 1)).countP (sawP s b x) : Nat), I ((Q.take i).countP (allB s b (blkO x)) : Nat)].map AV.d))] ?_ ?_
     ·exact ⟨rfl, ⟨obX rfl, obX rfl, obX rfl, obX rfl, obX rfl, obX (by rw [e1]; rfl), trivial⟩, avR _ rfl, avQ rfl, avQ rfl, avQ rfl, avQ rfl, avQ rfl, avQ rfl, avR _ rfl, trivial⟩
     ·exact key.out
   ·have h2 : liesW (wideL s x) (towG s.c.T x.Tower).1.At (Q.getD i default) = false := h2
    rw [if_neg (show ¬ sawP s b x (Q.getD i default) = true by unfold sawP; rw [h2]; simp)] at e1
    repeat first | refine Split.tt ?_ | refine Split.ff ?_
    refine CutOb.at [(2, .d (lP Q)), (4, .box 4 0), (5, .box 5 0), (8, .box 8 0), (9, .box 9 0), (11, .box 11 0), (12, .box 12 0), (13, .d (I i))] [(4, .box (s.ds.map AV.d)), (5, .box (b.ds.map AV.d)), (8, .box ([I 0, I 0].map AV.d)), (9, .box ((madD s (blkO x)).map AV.d)), (11, .box ([I (wideL s x).F, I (wideL s x).T].map AV.d)), (12, .box ([I ((Q.take (i + 1)).countP (sawP s b x) : Nat), I ((Q.take i).countP (allB s b (blkO x)) : Nat)].map AV.d))] ?_ ?_
    ·exact ⟨rfl, ⟨obX rfl, obX rfl, obX rfl, obX rfl, obX rfl, obX (by rw [e1]; rfl), trivial⟩, avR _ rfl, avQ rfl, avQ rfl, avQ rfl, avQ rfl, avQ rfl, avQ rfl, avR _ rfl, trivial⟩
    ·exact key.out
  ·refine Exists.intro (List.range 9) (And.intro (by kernel_rfl) (FzOb.no ?_))
   refine ⟨⟨rfl, by omega, by omega⟩, ?_⟩
   refine CallOb.pure (r6_allows s b (blkO x) (Q.getD i default)) rfl rfl ?_
   refine Split.by (fun h2 => ?_) (fun h2 => ?_)
   ·have h2 : allB s b (blkO x) (Q.getD i default) = true := h2
    rw [if_pos h2] at e2
    refine ⟨i6 (by omega), ?_⟩
    refine ⟨i6 (by omega), ?_⟩
    exact ⟨i + 1, ⟨rfl, ⟨obX rfl, obX rfl, obX rfl, obX rfl, obX rfl, obX (by rw [e2]; rfl), trivial⟩, avR _ rfl, avQ rfl, avQ rfl, avQ rfl, avQ rfl, avQ rfl, avQ rfl, avI rfl rfl, trivial⟩, h1, (show Q.length - (i + 1) < Q.length - i by omega)⟩
   ·have h2 : allB s b (blkO x) (Q.getD i default) = false := h2
    rw [if_neg (by rw [h2]; decide)] at e2
    refine ⟨i6 (by omega), ?_⟩
    exact ⟨i + 1, ⟨rfl, ⟨obX rfl, obX rfl, obX rfl, obX rfl, obX rfl, obX (by rw [e2]; rfl), trivial⟩, avR _ rfl, avQ rfl, avQ rfl, avQ rfl, avQ rfl, avQ rfl, avQ rfl, avI rfl rfl, trivial⟩, h1, (show Q.length - (i + 1) < Q.length - i by omega)⟩
 ·have h1 : i = Q.length := by have := dF h1; omega
  subst h1
  rw [List.take_length]
  exact r1C rfl rfl rfl rfl rfl rfl (eqvs_refl _)
theorem tell_ok {s : Svc} {b : Brn} {l : List Rpt} (h0 : givE s b l = 0) : Spec PP 66 [s.v, b.v, .d (lR l)] [.agg [lP (plsL s.c.M (metP (l.map (alwP s b)))), lRs (rsnK s l (l.map (alwP s b)) s.n), I 0]] := by
 have ok := giv_ok h0
 have ht := r6_tell s b l ok.s.c.m (by have := ok.s.c.t; omega) ok.n (fun i hi => rpt_ok (ok.r i hi).2)
 rw [tell_pls, tell_rsn] at ht
 exact ht
theorem pls_bd {s : Svc} {P : Nat → Bool} (hv : validM s.c.M = true) : (plsL s.c.M P).length ≤ 2401 := by
 have := spots_lt hv
 have := plsK_len s.c.M P (s.c.M.w * s.c.M.h)
 show (plsK s.c.M P (s.c.M.w * s.c.M.h)).length ≤ 2401
 omega
theorem beh_ok {s : Svc} {b : Brn} {P : Nat → Bool} {x : Lk} (ok : SvcOk s) (h : lkE s x = 0) : Spec PP 65 [s.v, b.v, .d (lP (plsL s.c.M P)), x.v] [.agg [I (fndR s b P x).1, I (fndR s b P x).2.1]] := by
 have hx := lk_ok h
 have hB := r6_behind s b (plsL s.c.M P) x ok hx.r (by have := pls_bd (s := s) (P := P) ok.c.m; omega)
 rw [saw_cnt, all_cnt] at hB
 have e : fndR s b P x = ((seeK s b P x s.n : Int), ((plsL s.c.M (metP [P, alwP s b (blkO x)])).length : Int), 0) := by unfold fndR; rw [h, if_neg (fun hh => hh rfl)]
 rw [e]; exact hB
theorem r6_Behind (s : Svc) (b : Brn) (l : List Rpt) (x : Lk) : Spec PP 24 [s.v, b.v, .d (lR l), x.v] [.agg [I (behR s b l x).1, I (behR s b l x).2.1], .d (.int .i64 (behR s b l x).2.2)] := by
 refine spec_at Tryz.func24 rfl (by kernel_rfl) rfl ?_
 refine CallSt.pure (r6_Checked s b l) rfl rfl ?_
 by_cases h0 : givE s b l = 0
 ·have e1 : behR s b l x = fndR s b (metP (l.map (alwP s b))) x := by unfold behR; rw [if_neg (fun hh => hh h0)]
  have ok := giv_ok h0
  obtain ⟨hs, -, -, -, -⟩ := giv_iff.1 h0
  rw [e1, fnd_e, h0]
  refine Split.ff ?_
  refine CallSt.pure (r6_look s x hs) rfl rfl ?_
  by_cases h1 : lkE s x = 0
  ·rw [h1]
   refine Split.ff ?_
   refine Exists.intro (List.range 11) (And.intro (by kernel_rfl) (FzOb.no ?_))
   refine CallOb.ro (tell_ok h0) rfl rfl ?_
   refine CallOb.pure (beh_ok ok.s h1) rfl rfl ?_
   exact r2CI rfl rfl rfl rfl rfl rfl rfl (eqvs_refl _) rfl
  ·have e2 : fndR s b (metP (l.map (alwP s b))) x = (0, 0, lkE s x) := by unfold fndR; rw [if_pos h1]
   rw [e2]
   refine Split.yes (by simpa using h1) ?_
   exact r2CI rfl rfl rfl rfl rfl rfl rfl (eqvs_refl _) rfl
 ·have e1 : behR s b l x = (0, 0, givE s b l) := by unfold behR; rw [if_pos h0]
  rw [e1]
  refine Split.yes (by simpa using h0) ?_
  exact r2CI rfl rfl rfl rfl rfl rfl rfl (eqvs_refl _) rfl
set_option maxHeartbeats 2000000 in
theorem r6_Best (s : Svc) (b : Brn) (l : List Rpt) (xs : List Lk) : Spec PP 26 [s.v, b.v, .d (lR l), .d (lL xs)] [N (bstR s b l xs).1, .d (.int .i64 (bstR s b l xs).2)] := by
 refine spec_at Tryz.func26 rfl (by kernel_rfl) rfl ?_
 refine CallSt.pure (r6_Checked s b l) rfl rfl ?_
 by_cases h0 : givE s b l = 0
 ·have e1 : bstR s b l xs = if 40 < xs.length then (0, 2) else if xs.length = 0 then (0, 5) else if lksE s xs ≠ 0 then (0, lksE s xs) else (((bstU (fun i => lkN s b (metP (l.map (alwP s b))) (xs.getD i default)) xs.length).1 : Int), 0) := by unfold bstR; rw [if_neg (fun hh => hh h0)]
  have ok := giv_ok h0
  obtain ⟨hs, -, -, -, -⟩ := giv_iff.1 h0
  rw [e1, h0]
  refine Split.ff ?_
  refine Split.by (fun h1 => ?_) (fun h1 => ?_)
  ·have h1 : 40 < xs.length := by have : (40 : Int) < xs.length := dT h1; omega
   rw [if_pos h1]
   exact r2II rfl rfl rfl rfl
  have h1 : ¬ 40 < xs.length := by have : ¬ (40 : Int) < xs.length := dF h1; omega
  rw [if_neg h1]
  refine Split.by (fun h2 => ?_) (fun h2 => ?_)
  ·have h2 : xs.length = 0 := by
    have : (xs.length : Int) = 0 := by simpa using h2
    omega
   rw [if_pos h2]
   exact r2II rfl rfl rfl rfl
  have h2 : xs.length ≠ 0 := fun h => by rw [h] at h2; simp at h2
  rw [if_neg h2]
  refine LoopOb.of (σ := Nat) (fun i => ([(2, .d (lR l)), (3, .d (lL xs)), (4, .box 4 0), (5, .box 5 0), (11, .d (I i))], [(4, .box (s.ds.map AV.d)), (5, .box (b.ds.map AV.d))])) (fun i => i ≤ xs.length ∧ ∀ j, j < i → lkE s (xs.getD j default) = 0) (fun i => xs.length - i) 0
   ⟨rfl, ⟨obX rfl, obX rfl, trivial⟩, avR _ rfl, avR _ rfl, avQ rfl, avQ rfl, avR _ rfl, trivial⟩ ⟨Nat.zero_le _, fun j hj => absurd hj (Nat.not_lt_zero _)⟩ fun i hi => ?_
  obtain ⟨hi, ha⟩ := hi
  refine Split.by (fun h3 => ?_) (fun h3 => ?_)
  ·have h3 : i < xs.length := by have := dT h3; omega
   refine Exists.intro (List.range 7) (And.intro (by kernel_rfl) (FzOb.no ?_))
   refine ⟨⟨rfl, by omega, by omega⟩, ?_⟩
   refine CallOb.pure (r6_look s (xs.getD i default) hs) rfl rfl ?_
   refine Split.by (fun h4 => ?_) (fun h4 => ?_)
   ·have h4 : lkE s (xs.getD i default) ≠ 0 := by simpa using h4
    have ee : lksE s xs = lkE s (xs.getD i default) := err1_stop (f := fun i => lkE s (xs.getD i default)) ha h4 h3
    rw [ee, if_pos h4]
    exact r2II rfl rfl rfl rfl
   have h4 : lkE s (xs.getD i default) = 0 := by simpa using h4
   refine ⟨i6 (by omega), ?_⟩
   refine ⟨i + 1, ⟨rfl, ⟨obX rfl, obX rfl, trivial⟩, avR _ rfl, avR _ rfl, avQ rfl, avQ rfl, avI rfl rfl, trivial⟩, ⟨h3, fun j hj => ?_⟩, (show xs.length - (i + 1) < xs.length - i by omega)⟩
   by_cases q : j = i
   ·subst q; exact h4
   ·exact ha j (by omega)
  have h3 : i = xs.length := by have := dF h3; omega
  subst h3
  have ee : lksE s xs = 0 := err1_ok ha
  rw [ee, if_neg (fun h => h rfl)]
  refine CallSt.ro (tell_ok h0) rfl rfl ?_
  have hB : ∀ i, i < xs.length → _ := fun i hi => beh_ok (b := b) (P := metP (l.map (alwP s b))) ok.s (ha i hi)
  generalize metP (l.map (alwP s b)) = P at *
  refine LoopOb.of (σ := Nat) (fun i => ([(3, .d (lL xs)), (4, .box 4 0), (5, .box 5 0), (12, .d (lP (plsL s.c.M P))), (13, .d (I ((bstU (fun i => lkN s b P (xs.getD i default)) i).1 : Int))), (14, .d (I (bstU (fun i => lkN s b P (xs.getD i default)) i).2)), (15, .d (I i))], [(4, .box (s.ds.map AV.d)), (5, .box (b.ds.map AV.d))])) (fun i => i ≤ xs.length) (fun i => xs.length - i) 0
   ⟨rfl, ⟨obX rfl, obX rfl, trivial⟩, avR _ rfl, avQ rfl, avQ rfl, avR _ rfl, avI rfl rfl, avI rfl rfl, avR _ rfl, trivial⟩ (Nat.zero_le _) fun i hi => ?_
  have hi : i ≤ xs.length := hi
  refine Split.by (fun h3 => ?_) (fun h3 => ?_)
  ·have h3 : i < xs.length := by have := dT h3; omega
   refine Exists.intro (List.range 10) (And.intro (by kernel_rfl) (FzOb.no ?_))
   refine ⟨⟨rfl, by omega, by omega⟩, ?_⟩
   refine CallOb.pure (hB i h3) rfl rfl ?_
   have go : ∀ {x : Nat × Int}, bstU (fun i => lkN s b P (xs.getD i default)) (i + 1) = x → (xs.length - (i + 1) < xs.length - i) ∧ ((bstU (fun i => lkN s b P (xs.getD i default)) (i + 1)).1 = x.1 ∧ (bstU (fun i => lkN s b P (xs.getD i default)) (i + 1)).2 = x.2) := fun h => ⟨by omega, by rw [h], by rw [h]⟩
   refine Split.by (fun h5 => ?_) (fun h5 => ?_)
   ·have h5 : i = 0 := by
     have : (i : Int) = 0 := by simpa using h5
     omega
    obtain ⟨mu, g1, g2⟩ := go (bstU_yes (f := fun i => lkN s b P (xs.getD i default)) (.inl h5))
    repeat first | refine Split.tt ?_ | refine Split.ff ?_
    refine ⟨i6 (by omega), ?_⟩
    exact ⟨i + 1, ⟨rfl, ⟨obX rfl, obX rfl, trivial⟩, avR _ rfl, avQ rfl, avQ rfl, avR _ rfl, avI rfl (by rw [g1]), avI rfl (by rw [g2]; rfl), avI rfl rfl, trivial⟩, h3, mu⟩
   have h5 : i ≠ 0 := fun h => by rw [h] at h5; simp at h5
   repeat first | refine Split.tt ?_ | refine Split.ff ?_
   refine Split.by (fun h6 => ?_) (fun h6 => ?_)
   ·have h6 : lkN s b P (xs.getD i default) < (bstU (fun i => lkN s b P (xs.getD i default)) i).2 := dT h6
    obtain ⟨mu, g1, g2⟩ := go (bstU_yes (f := fun i => lkN s b P (xs.getD i default)) (.inr h6))
    refine ⟨i6 (by omega), ?_⟩
    exact ⟨i + 1, ⟨rfl, ⟨obX rfl, obX rfl, trivial⟩, avR _ rfl, avQ rfl, avQ rfl, avR _ rfl, avI rfl (by rw [g1]), avI rfl (by rw [g2]; rfl), avI rfl rfl, trivial⟩, h3, mu⟩
   ·have h6 : ¬ lkN s b P (xs.getD i default) < (bstU (fun i => lkN s b P (xs.getD i default)) i).2 := dF h6
    obtain ⟨mu, g1, g2⟩ := go (bstU_no (f := fun i => lkN s b P (xs.getD i default)) (fun h => h.elim h5 h6))
    refine ⟨i6 (by omega), ?_⟩
    exact ⟨i + 1, ⟨rfl, ⟨obX rfl, obX rfl, trivial⟩, avR _ rfl, avQ rfl, avQ rfl, avR _ rfl, avI rfl (by rw [g1]), avI rfl (by rw [g2]), avI rfl rfl, trivial⟩, h3, mu⟩
  ·have h3 : i = xs.length := by have := dF h3; omega
   subst h3
   exact r2II rfl rfl rfl rfl
 ·have e1 : bstR s b l xs = (0, givE s b l) := by unfold bstR; rw [if_pos h0]
  rw [e1]
  refine Split.yes (by simpa using h0) ?_
  exact r2II rfl rfl rfl rfl
set_option maxHeartbeats 2000000 in
theorem s_CellLooks (s : Svc) (b : Brn) (l : List Rpt) (x : Lk) (xs : List Lk) : Spec PP 6 [s.v, b.v, .d (lR l), x.v, .d (lL xs)] [B true] := by
 refine specC_at [3] Tryz.func6 rfl (by kernel_rfl) rfl ?_
 refine CallSt.pure (w_small s) rfl rfl ?_
 refine Split.by (fun h1 => ?_) (fun h1 => ?_)
 ·repeat first | refine Split.tt ?_ | refine Split.ff ?_
  refine CallSt.pure w_sanity rfl rfl ?_
  exact r1B rfl rfl
 refine CallSt.pure (w_few l 6) rfl rfl ?_
 repeat first | refine Split.tt ?_ | refine Split.ff ?_
 refine Split.by (fun h2 => ?_) (fun h2 => ?_)
 ·repeat first | refine Split.tt ?_ | refine Split.ff ?_
  refine CallSt.pure w_sanity rfl rfl ?_
  exact r1B rfl rfl
 repeat first | refine Split.tt ?_ | refine Split.ff ?_
 apply two_
 ·intro key
  refine Split.by (fun h3 => ?_) (fun h3 => ?_)
  ·repeat first | refine Split.tt ?_ | refine Split.ff ?_
   refine Split.by (fun h4 => ?_) (fun h4 => ?_)
   ·repeat first | refine Split.tt ?_ | refine Split.ff ?_
    refine CallSt.pure w_sanity rfl rfl ?_
    exact r1B rfl rfl
   ·repeat first | refine Split.tt ?_ | refine Split.ff ?_
    refine Split.by (fun h5 => ?_) (fun h5 => ?_)
    ·refine CallSt.pure w_sanity rfl rfl ?_
     exact r1B rfl rfl
    ·refine CutOb.at [(2, .d (lR l)), (4, .d (lL xs)), (5, .box 5 0), (6, .box 6 0), (8, .box 8 0)] [(5, .box (s.ds.map AV.d)), (6, .box (b.ds.map AV.d)), (8, .box (x.ds.map AV.d))] ?_ ?_
     ·exact ⟨rfl, ⟨obX rfl, obX rfl, obX rfl, trivial⟩, avR _ rfl, avR _ rfl, avQ rfl, avQ rfl, avQ rfl, trivial⟩
     ·exact key.out
  ·repeat first | refine Split.tt ?_ | refine Split.ff ?_
   refine Split.by (fun h5 => ?_) (fun h5 => ?_)
   ·refine CallSt.pure w_sanity rfl rfl ?_
    exact r1B rfl rfl
   ·refine CutOb.at [(2, .d (lR l)), (4, .d (lL xs)), (5, .box 5 0), (6, .box 6 0), (8, .box 8 0)] [(5, .box (s.ds.map AV.d)), (6, .box (b.ds.map AV.d)), (8, .box (x.ds.map AV.d))] ?_ ?_
    ·exact ⟨rfl, ⟨obX rfl, obX rfl, obX rfl, trivial⟩, avR _ rfl, avR _ rfl, avQ rfl, avQ rfl, avQ rfl, trivial⟩
    ·exact key.out
 ·refine CallSt.pure (l_Behind s b l x) rfl rfl ?_
  refine CallSt.pure (r6_Behind s b l x) rfl rfl ?_
  refine CallSt.pure (l_Best s b l xs) rfl rfl ?_
  refine CallSt.pure (r6_Best s b l xs) rfl rfl ?_
  refine CallSt.pure w_sanity rfl rfl ?_
  repeat first | refine Split.tt ?_ | refine Split.ff ?_ | refine Split.yes (by simp) ?_
  exact r1B rfl (by simp)
structure Bnd where
  What : Int
  At : Int
  P : Place
  R : Int
abbrev Bnd.ds (x : Bnd) : List D := [I x.What, I x.At, I x.P.X, I x.P.Y, I x.R]
abbrev Bnd.v (x : Bnd) : V1 := .agg x.ds
theorem rep_Bnd {w : World} {ok : Nat → Prop} {xs : List D} {v : Value} (hr : Rep1 w ok (.agg xs) v) (h : All2 Fits [.int .i64, .int .i64, .int .i64, .int .i64, .int .i64] xs) : ∃ x : Bnd, Rep1 w ok x.v v := by
 cases h with
 | cons h0 h =>
 cases h with
 | cons h1 h =>
 cases h with
 | cons h2 h =>
 cases h with
 | cons h3 h =>
 cases h with
 | cons h4 h =>
 cases h
 obtain ⟨a, -, rfl⟩ := h0
 obtain ⟨b, -, rfl⟩ := h1
 obtain ⟨c, -, rfl⟩ := h2
 obtain ⟨d, -, rfl⟩ := h3
 obtain ⟨e, -, rfl⟩ := h4
 exact ⟨⟨a, b, ⟨c, d⟩, e⟩, hr⟩
end Go.Pg
