/-
  Contracts of the specification of layer 6 (firetowerref06): towerAt, circleAt, turns, Check.
-/
import Derived.Test.YtifanmdehepddaaGreatK10
import Derived.Test.YtifanmdehepddaaGreatK11
import Derived.Test.YtifanmdehepddaaGreatK8
set_option linter.all false
set_option maxRecDepth 100000
namespace Go.Pg
open Go.Proofs Go.RowKit
theorem avBl {s : St} {ob : Nat → Option Ob} {v : AV} {a b : Bool} (h : v = .d (.bool a)) (e : a = b) : AVle s ob v (.d (.bool b)) := by subst h; subst e; exact D.eqv_refl _
theorem r6_towerAt (s : Svc) (id : Int) (hn : s.c.T.length ≤ 1000000) : Spec PP 90 [s.v, N id] [N (towI s.c.T id)] := by
  refine spec_at Tryz.func90 rfl (by kernel_rfl) rfl ?_
  refine LoopOb.of (σ := Nat) (fun i => ([(1, .d (I id)), (2, .box 2 0), (5, .d (I i))], [(2, .box (s.ds.map AV.d))])) (fun i => i ≤ s.c.T.length ∧ ∀ j, j < i → ((s.c.T.getD j default).ID == id) = false) (fun i => s.c.T.length - i) 0
    ⟨rfl, ⟨obD s.ds rfl, trivial⟩, avR _ rfl, avQ rfl, avR _ rfl, trivial⟩ ⟨Nat.zero_le _, fun j hj => absurd hj (Nat.not_lt_zero _)⟩ fun i hi => ?_
  obtain ⟨hi, ha⟩ := hi
  refine Split.by (fun h1 => ?_) (fun h1 => ?_)
  · have h1 : i < s.c.T.length := by have := dT h1; omega
    refine ⟨⟨rfl, by omega, by omega⟩, ?_⟩
    refine Split.by (fun h2 => ?_) (fun h2 => ?_)
    · refine r1I rfl ?_
      exact (idxL_stop (p := fun t : Twr => t.ID == id) default h1 h2 ha).symm
    · refine ⟨i6 (by omega), ?_⟩
      refine ⟨i + 1, ⟨rfl, ⟨obD s.ds rfl, trivial⟩, avR _ rfl, avQ rfl, avI rfl rfl, trivial⟩, ⟨h1, fun j hj => ?_⟩, (show s.c.T.length - (i + 1) < s.c.T.length - i by omega)⟩
      by_cases e : j = i
      · subst e; exact h2
      · exact ha j (by omega)
  have h1 : i = s.c.T.length := by have := dF h1; omega
  subst h1
  refine r1I rfl ?_
  exact (idxL_none (p := fun t : Twr => t.ID == id) default ha).symm
theorem r6_circleAt (s : Svc) (id : Int) (hn : s.k.C.length ≤ 1000000) : Spec PP 91 [s.v, N id] [N (cirI s.k id)] := by
  refine spec_at Tryz.func91 rfl (by kernel_rfl) rfl ?_
  refine LoopOb.of (σ := Nat) (fun i => ([(1, .d (I id)), (2, .box 2 0), (5, .d (I i))], [(2, .box (s.ds.map AV.d))])) (fun i => i ≤ s.k.C.length ∧ ∀ j, j < i → ((s.k.C.getD j default).ID == id) = false) (fun i => s.k.C.length - i) 0
    ⟨rfl, ⟨obD s.ds rfl, trivial⟩, avR _ rfl, avQ rfl, avR _ rfl, trivial⟩ ⟨Nat.zero_le _, fun j hj => absurd hj (Nat.not_lt_zero _)⟩ fun i hi => ?_
  obtain ⟨hi, ha⟩ := hi
  refine Split.by (fun h1 => ?_) (fun h1 => ?_)
  · have h1 : i < s.k.C.length := by have := dT h1; omega
    refine ⟨⟨rfl, by omega, by omega⟩, ?_⟩
    refine Split.by (fun h2 => ?_) (fun h2 => ?_)
    · refine r1I rfl ?_
      exact (idxL_stop (p := fun t : Cir => t.ID == id) default h1 h2 ha).symm
    · refine ⟨i6 (by omega), ?_⟩
      refine ⟨i + 1, ⟨rfl, ⟨obD s.ds rfl, trivial⟩, avR _ rfl, avQ rfl, avI rfl rfl, trivial⟩, ⟨h1, fun j hj => ?_⟩, (show s.k.C.length - (i + 1) < s.k.C.length - i by omega)⟩
      by_cases e : j = i
      · subst e; exact h2
      · exact ha j (by omega)
  have h1 : i = s.k.C.length := by have := dF h1; omega
  subst h1
  refine r1I rfl ?_
  exact (idxL_none (p := fun t : Cir => t.ID == id) default ha).symm
theorem tm36 (n : Int) : (n.tmod 3600 + 3600).tmod 3600 = n % 3600 := by
  have h1 := Int.tmod_lt_of_pos n (show (0 : Int) < 3600 by decide)
  have h2 := Int.tmod_lt_of_pos (-n) (show (0 : Int) < 3600 by decide)
  rw [Int.neg_tmod] at h2
  rw [Int.tmod_eq_emod_of_nonneg (by omega)]
  rw [Int.tmod_eq_emod]
  split
  · show (n % 3600 - 0 + 3600) % 3600 = n % 3600
    omega
  · show (n % 3600 - 3600 + 3600) % 3600 = n % 3600
    omega
theorem r6_turns (n : Int) (hn : -1000000000000 ≤ n ∧ n ≤ 1000000000000) : Spec PP 77 [N n] [N (n % 3600)] := by
  have h1 := Int.tmod_lt_of_pos n (show (0 : Int) < 3600 by decide)
  have h2 := Int.tmod_lt_of_pos (-n) (show (0 : Int) < 3600 by decide)
  rw [Int.neg_tmod] at h2
  refine spec_at Tryz.func77 rfl (by kernel_rfl) rfl ?_
  refine ⟨by decide, ⟨i6 (by omega), ⟨by decide, ?_⟩⟩⟩
  exact r1I rfl (tm36 n)
theorem any_take {α : Type} {p : α → Bool} {l : List α} {j : Nat} (h : j < l.length) (d : α) : (l.take (j + 1)).any p = ((l.take j).any p || p (l.getD j d)) := by
  rw [take1 h d, List.any_append, List.any_cons, List.any_nil, Bool.or_false]
set_option maxHeartbeats 1000000 in
theorem r6_Check (s : Svc) : Spec PP 21 [s.v] [.d (.int .i64 (svcE s))] := by
  refine spec_at Tryz.func21 rfl (by kernel_rfl) rfl ?_
  refine CallSt.pure (r4_Check s.c) rfl rfl ?_
  refine Split.by (fun h0 => ?_) (fun h0 => ?_)
  · have h0 : ctryE s.c ≠ 0 := by simpa using h0
    refine r1I rfl ?_
    unfold svcE; rw [if_pos h0]
  have h0 : ctryE s.c = 0 := by simpa using h0
  have ok0 := ctry_ok h0
  refine CallSt.pure (r5_Check s.k) rfl rfl ?_
  refine Split.by (fun h1 => ?_) (fun h1 => ?_)
  · have h1 : cirsE s.k ≠ 0 := by simpa using h1
    refine r1I rfl ?_
    unfold svcE; rw [if_neg (fun hh => hh h0), if_pos h1]
  have h1 : cirsE s.k = 0 := by simpa using h1
  have ok1 := cirs_ok h1
  have e0 : svcE s = err1 (svc1E s) s.k.C.length := by unfold svcE; rw [if_neg (fun hh => hh h0), if_neg (fun hh => hh h1)]
  have hn := ok1.n
  have ht := ok0.t
  refine LoopOb.of (σ := Nat) (fun i => ([(1, .box 1 0), (4, .d (I i))], [(1, .box (s.ds.map AV.d))])) (fun i => i ≤ s.k.C.length ∧ ∀ j, j < i → svc1E s j = 0) (fun i => s.k.C.length - i) 0
    ⟨rfl, ⟨obD s.ds rfl, trivial⟩, avQ rfl, avR _ rfl, trivial⟩ ⟨Nat.zero_le _, fun j hj => absurd hj (Nat.not_lt_zero _)⟩ fun i hi => ?_
  obtain ⟨hi, ha⟩ := hi
  refine Split.by (fun h3 => ?_) (fun h3 => ?_)
  · have h3 : i < s.k.C.length := by have := dT h3; omega
    refine LoopOb.of (σ := Nat) (fun j => ([(1, .box 1 0), (4, .d (I i)), (5, .d (.bool ((s.c.T.take j).any fun w => decide (w.At = (s.k.C.getD i default).At)))), (6, .d (I j))], [(1, .box (s.ds.map AV.d))])) (fun j => j ≤ s.c.T.length) (fun j => s.c.T.length - j) 0
      ⟨rfl, ⟨obD s.ds rfl, trivial⟩, avQ rfl, avR _ rfl, avR _ rfl, avR _ rfl, trivial⟩ (Nat.zero_le _) fun j hj => ?_
    have hj : j ≤ s.c.T.length := hj
    refine Split.by (fun h4 => ?_) (fun h4 => ?_)
    · have h4 : j < s.c.T.length := by have := dT h4; omega
      have eA := any_take (p := fun w : Twr => decide (w.At = (s.k.C.getD i default).At)) h4 default
      refine Exists.intro (List.range 19) (And.intro (by kernel_rfl) (FzOb.no ?_))
      refine Split.by (fun h5 => ?_) (fun h5 => ?_)
      · have h5 : ((s.c.T.take j).any fun w => decide (w.At = (s.k.C.getD i default).At)) = true := h5
        repeat first | refine Split.tt ?_ | refine Split.ff ?_
        refine ⟨i6 (by omega), ?_⟩
        exact ⟨j + 1, ⟨rfl, ⟨obD s.ds rfl, trivial⟩, avQ rfl, avR _ rfl, avBl rfl (by rw [eA, h5]; rfl), avI rfl rfl, trivial⟩, h4, (show s.c.T.length - (j + 1) < s.c.T.length - j by omega)⟩
      · have h5 : ((s.c.T.take j).any fun w => decide (w.At = (s.k.C.getD i default).At)) = false := h5
        refine ⟨⟨rfl, by omega, by omega⟩, ⟨⟨rfl, by omega, by omega⟩, ?_⟩⟩
        repeat first | refine Split.tt ?_ | refine Split.ff ?_
        refine ⟨i6 (by omega), ?_⟩
        exact ⟨j + 1, ⟨rfl, ⟨obD s.ds rfl, trivial⟩, avQ rfl, avR _ rfl, avBl rfl (by rw [eA, h5, Bool.false_or]; exact eqPW _ _), avI rfl rfl, trivial⟩, h4, (show s.c.T.length - (j + 1) < s.c.T.length - j by omega)⟩
    · have h4 : j = s.c.T.length := by have := dF h4; omega
      subst h4
      rw [List.take_length]
      refine Split.by (fun h5 => ?_) (fun h5 => ?_)
      · have h5 : (s.c.T.any fun w => decide (w.At = (s.k.C.getD i default).At)) = false := by simpa using h5
        have e : svc1E s i = 5 := by unfold svc1E; rw [if_neg (by rw [h5]; decide)]
        refine r1I rfl ?_
        rw [e0, err1_stop ha (by rw [e]; decide) h3, e]
      · have h5 : (s.c.T.any fun w => decide (w.At = (s.k.C.getD i default).At)) = true := by simpa using h5
        have e : svc1E s i = 0 := by unfold svc1E; rw [if_pos h5]
        refine ⟨i6 (by omega), ?_⟩
        refine ⟨i + 1, ⟨rfl, ⟨obD s.ds rfl, trivial⟩, avQ rfl, avI rfl rfl, trivial⟩, ⟨h3, fun j hj => ?_⟩, (show s.k.C.length - (i + 1) < s.k.C.length - i by omega)⟩
        by_cases q : j = i
        · subst q; exact e
        · exact ha j (by omega)
  · have h3 : i = s.k.C.length := by have := dF h3; omega
    subst h3
    refine r1I rfl ?_
    rw [e0, err1_ok ha]
theorem frm_no {r : Rpt} (h : frmC r = true) : frmB r = false := by unfold frmB; rw [h]; rfl
theorem frm_k {r : Rpt} (h : within r.Kind 1 2 = false) : frmB r = false := by
  have h1 : r.Kind ≠ 1 := fun e => by
    have : within r.Kind 1 2 = true := within_spec.2 (by omega)
    rw [this] at h; cases h
  have h2 : r.Kind ≠ 2 := fun e => by
    have : within r.Kind 1 2 = true := within_spec.2 (by omega)
    rw [this] at h; cases h
  unfold frmB; rw [if_neg h1, if_neg h2, Bool.and_false]
set_option maxHeartbeats 1000000 in
theorem r6_shaped (r : Rpt) : Spec PP 89 [r.v] [B (frmB r)] := by
  refine spec_at Tryz.func89 rfl (by kernel_rfl) rfl ?_
  refine CallSt.pure (r6_in r.ID 1 1099511627776) rfl rfl ?_
  refine Split.by (fun k0 => ?_) (fun k0 => ?_)
  · have k0 : (!within r.ID 1 1099511627776) = true := k0
    repeat first | refine Split.tt ?_ | refine Split.ff ?_
    exact r1B rfl (frm_no (by unfold frmC; rw [k0]; rfl)).symm
  have k0 : (!within r.ID 1 1099511627776) = false := k0
  refine CallSt.pure (r6_in r.Kind 1 2) rfl rfl ?_
  repeat first | refine Split.tt ?_ | refine Split.ff ?_
  refine Split.by (fun k1 => ?_) (fun k1 => ?_)
  · have k1 : (!within r.Kind 1 2) = true := k1
    repeat first | refine Split.tt ?_ | refine Split.ff ?_
    exact r1B rfl (frm_k (by simpa using k1)).symm
  have k1 : (!within r.Kind 1 2) = false := k1
  refine CallSt.pure (r6_in r.Tick 0 1048576) rfl rfl ?_
  repeat first | refine Split.tt ?_ | refine Split.ff ?_
  refine Split.by (fun k2 => ?_) (fun k2 => ?_)
  · have k2 : (!within r.Tick 0 1048576) = true := k2
    repeat first | refine Split.tt ?_ | refine Split.ff ?_
    exact r1B rfl (frm_no (by unfold frmC; rw [k0, k2]; rfl)).symm
  have k2 : (!within r.Tick 0 1048576) = false := k2
  refine CallSt.pure (r6_in r.From 0 3599) rfl rfl ?_
  repeat first | refine Split.tt ?_ | refine Split.ff ?_
  refine Split.by (fun k3 => ?_) (fun k3 => ?_)
  · have k3 : (!within r.From 0 3599) = true := k3
    repeat first | refine Split.tt ?_ | refine Split.ff ?_
    exact r1B rfl (frm_no (by unfold frmC; rw [k0, k2, k3]; rfl)).symm
  have k3 : (!within r.From 0 3599) = false := k3
  refine CallSt.pure (r6_in r.Slack 1 100) rfl rfl ?_
  repeat first | refine Split.tt ?_ | refine Split.ff ?_
  refine Split.by (fun k4 => ?_) (fun k4 => ?_)
  · have k4 : (!within r.Slack 1 100) = true := k4
    repeat first | refine Split.tt ?_ | refine Split.ff ?_
    exact r1B rfl (frm_no (by unfold frmC; rw [k0, k2, k3, k4]; rfl)).symm
  have k4 : (!within r.Slack 1 100) = false := k4
  have e0 : frmB r = if r.Kind = 1 then decide (r.To = 0) else if r.Kind = 2 then within r.To 0 3599 && decide ((r.To - r.From) % 3600 ≤ 900) else false := by
    unfold frmB frmC; rw [k0, k2, k3, k4]; rfl
  have hk := within_spec.1 (show within r.Kind 1 2 = true by simpa using k1)
  have hf := within_spec.1 (show within r.From 0 3599 = true by simpa using k3)
  refine Split.by (fun h1 => ?_) (fun h1 => ?_)
  · have h1 : r.Kind = 1 := by simpa using h1
    refine r1B rfl ?_
    rw [e0, if_pos h1, Bool.eq_iff_iff]; simp
  have h1 : r.Kind ≠ 1 := by simpa using h1
  rw [if_neg h1, if_pos (show r.Kind = 2 by omega)] at e0
  refine CallSt.pure (r6_in r.To 0 3599) rfl rfl ?_
  refine Split.by (fun h3 => ?_) (fun h3 => ?_)
  · have h4 := within_spec.1 h3
    refine ⟨i6 (by omega), ?_⟩
    refine CallSt.pure (r6_turns (r.To - r.From) (by omega)) rfl rfl ?_
    repeat first | refine Split.tt ?_ | refine Split.ff ?_
    refine r1B rfl ?_
    rw [e0, h3]; rfl
  · repeat first | refine Split.tt ?_ | refine Split.ff ?_
    refine r1B rfl ?_
    rw [e0, h3]; rfl
theorem r6_burning (b : Brn) : Spec PP 47 [b.v] [B (brnB b)] := by
  refine spec_at Tryz.func47 rfl (by kernel_rfl) rfl ?_
  refine CallSt.pure (r6_in b.From 0 1048576) rfl rfl ?_
  refine Split.by (fun h1 => ?_) (fun h1 => ?_)
  · have h1' := within_spec.1 h1
    refine CallSt.pure (r6_in b.To b.From 1048576) rfl rfl ?_
    repeat first | refine Split.tt ?_ | refine Split.ff ?_
    refine Split.by (fun h2 => ?_) (fun h2 => ?_)
    · have h2' := within_spec.1 h2
      refine CallSt.pure (r6_in b.Rise 0 200) rfl rfl ?_
      repeat first | refine Split.tt ?_ | refine Split.ff ?_
      refine r1B rfl ?_
      unfold brnB; rw [decide_eq_true (by omega), decide_eq_true (by omega), decide_eq_true (by omega)]; rfl
    · have h2' : ¬ (b.From ≤ b.To ∧ b.To ≤ 1048576) := fun hh => by rw [within_spec.2 hh] at h2; cases h2
      repeat first | refine Split.tt ?_ | refine Split.ff ?_
      refine r1B rfl ?_
      unfold brnB
      by_cases h3 : b.From ≤ b.To
      · rw [decide_eq_false (p := b.To ≤ 1048576) (fun h4 => h2' ⟨h3, h4⟩), Bool.and_false]; rfl
      · rw [decide_eq_false h3, Bool.and_false]; rfl
  · have h1' : ¬ (0 ≤ b.From ∧ b.From ≤ 1048576) := fun hh => by rw [within_spec.2 hh] at h1; cases h1
    repeat first | refine Split.tt ?_ | refine Split.ff ?_
    refine r1B rfl ?_
    unfold brnB
    by_cases h3 : 0 ≤ b.From
    · by_cases h4 : b.From ≤ b.To
      · rw [decide_eq_false (p := b.To ≤ 1048576) (by omega), Bool.and_false]; rfl
      · rw [decide_eq_false h4, Bool.and_false]; rfl
    · rw [decide_eq_false h3]; rfl
theorem towG_yes {T : List Twr} {id : Int} (h : ¬ towI T id < 0) : towG T id = (T.getD (towI T id).toNat default, true) := by unfold towG; rw [if_neg h]
theorem r6_at (s : Svc) (r : Rpt) (hn : s.c.T.length ≤ 1000000) (h : ¬ towI s.c.T r.Tower < 0) : Spec PP 94 [s.v, r.v] [(towG s.c.T r.Tower).1.At.v] := by
  have h1 := towI_lt h
  refine spec_at Tryz.func94 rfl (by kernel_rfl) rfl ?_
  refine Exists.intro (List.range 12) (And.intro (by kernel_rfl) (FzOb.no ?_))
  refine CallOb.pure (r6_towerAt s r.Tower hn) rfl rfl ?_
  refine ⟨⟨rfl, by show 0 ≤ max 0 (towI s.c.T r.Tower); omega, by show max 0 (towI s.c.T r.Tower) < s.c.T.length; omega⟩, ?_⟩
  have e : s.c.T.getD (max 0 (towI s.c.T r.Tower)).toNat default = (towG s.c.T r.Tower).1 := by rw [towG_yes h, show max 0 (towI s.c.T r.Tower) = towI s.c.T r.Tower by omega]
  exact r1C rfl rfl rfl rfl rfl rfl (eqvs2 (congrArg (fun t : Twr => t.At.X) e) (congrArg (fun t : Twr => t.At.Y) e))
theorem r6_sees (s : Svc) (b : Brn) (r : Rpt) (p : Place) : Spec PP 93 [s.v, b.v, r.v, p.v] [B (lookB s b r p)] := by
  refine spec_at Tryz.func93 rfl (by kernel_rfl) rfl ?_
  refine CallSt.pure (r6_in r.Tick b.From b.To) rfl rfl ?_
  refine Split.by (fun h1 => ?_) (fun h1 => ?_)
  · have h1 : within r.Tick b.From b.To = false := by simpa using h1
    refine r1B rfl ?_
    unfold lookB; rw [h1, Bool.and_false]
  have h1 : within r.Tick b.From b.To = true := by simpa using h1
  refine CallSt.pure (r4_Sees s.c r.Tower p b.Rise r.Tick) rfl rfl ?_
  refine Split.by (fun h2 => ?_) (fun h2 => ?_)
  · have h2 : (seesE s.c r.Tower p b.Rise r.Tick).2 = 0 := by simpa using h2
    repeat first | refine Split.tt ?_ | refine Split.ff ?_
    refine r1B rfl ?_
    unfold lookB; rw [h1, decide_eq_true h2, Bool.and_true]; rfl
  · have h2 : (seesE s.c r.Tower p b.Rise r.Tick).2 ≠ 0 := by simpa using h2
    repeat first | refine Split.tt ?_ | refine Split.ff ?_
    refine r1B rfl ?_
    unfold lookB; rw [decide_eq_false h2]; rfl
set_option maxHeartbeats 1000000 in
theorem r6_report (s : Svc) (r : Rpt) (hT : s.c.T.length ≤ 1000000) (hC : s.k.C.length ≤ 1000000) : Spec PP 48 [s.v, r.v] [.d (.int .i64 (rptE s r))] := by
  refine spec_at Tryz.func48 rfl (by kernel_rfl) rfl ?_
  refine CallSt.pure (r6_shaped r) rfl rfl ?_
  refine Split.by (fun h1 => ?_) (fun h1 => ?_)
  · refine r1I rfl ?_
    unfold rptE; rw [if_pos (by simpa using h1)]
  have h1 : frmB r = true := by simpa using h1
  refine CallSt.pure (r6_towerAt s r.Tower hT) rfl rfl ?_
  refine CallSt.pure (r6_circleAt s r.C hC) rfl rfl ?_
  refine Split.by (fun h2 => ?_) (fun h2 => ?_)
  · have h2 : towI s.c.T r.Tower < 0 := dT h2
    repeat first | refine Split.tt ?_ | refine Split.ff ?_
    refine r1I rfl ?_
    have h3 : (towG s.c.T r.Tower).2 = false := by unfold towG; rw [if_pos h2]
    unfold rptE; rw [if_neg (by rw [h1]; decide), if_pos (.inl h3)]
  have h2 : ¬ towI s.c.T r.Tower < 0 := dF h2
  repeat first | refine Split.tt ?_ | refine Split.ff ?_
  refine Split.by (fun h3 => ?_) (fun h3 => ?_)
  · have h3 : cirI s.k r.C < 0 := dT h3
    refine r1I rfl ?_
    unfold rptE; rw [if_neg (by rw [h1]; decide), if_pos (.inr h3)]
  have h3 : ¬ cirI s.k r.C < 0 := dF h3
  obtain ⟨h4, h5⟩ := cirI_lt h3
  obtain ⟨g4, g5⟩ := towI_lt h2
  have eT := towG_yes h2
  have e0 : rptE s r = if (s.k.C.getD (cirI s.k r.C).toNat default).At ≠ (s.c.T.getD (towI s.c.T r.Tower).toNat default).At then 1 else if (zerR s.k r.C r.Tick).2 ≠ 0 then (zerR s.k r.C r.Tick).2 else if r.Kind = 1 then (wdgR s.k (rdgO r)).2 else 0 := by
    unfold rptE; rw [if_neg (by rw [h1]; decide), if_neg (by rw [eT]; simp; omega), eT]
  refine Exists.intro (List.range 15) (And.intro (by kernel_rfl) (FzOb.no ?_))
  refine ⟨⟨rfl, by show 0 ≤ towI s.c.T r.Tower; omega, by show towI s.c.T r.Tower < s.c.T.length; omega⟩, ⟨⟨rfl, by show 0 ≤ cirI s.k r.C; omega, by show cirI s.k r.C < s.k.C.length; omega⟩, ?_⟩⟩
  refine Split.by (fun h6 => ?_) (fun h6 => ?_)
  · have h6 : (s.k.C.getD (cirI s.k r.C).toNat default).At ≠ (s.c.T.getD (towI s.c.T r.Tower).toNat default).At := by
      have := (congrArg (!·) (eqPW (s.c.T.getD (towI s.c.T r.Tower).toNat default).At (s.k.C.getD (cirI s.k r.C).toNat default).At)).symm.trans h6
      have h7 : ¬ (s.c.T.getD (towI s.c.T r.Tower).toNat default).At = (s.k.C.getD (cirI s.k r.C).toNat default).At := by simpa using this
      exact fun e => h7 e.symm
    refine r1I rfl ?_
    rw [e0, if_pos h6]
  have h6 : (s.k.C.getD (cirI s.k r.C).toNat default).At = (s.c.T.getD (towI s.c.T r.Tower).toNat default).At := by
    have := (congrArg (!·) (eqPW (s.c.T.getD (towI s.c.T r.Tower).toNat default).At (s.k.C.getD (cirI s.k r.C).toNat default).At)).symm.trans h6
    have h7 : (s.c.T.getD (towI s.c.T r.Tower).toNat default).At = (s.k.C.getD (cirI s.k r.C).toNat default).At := by simpa using this
    exact h7.symm
  refine CallSt.pure (r5_Zero s.k r.C r.Tick) rfl rfl ?_
  refine Split.by (fun h7 => ?_) (fun h7 => ?_)
  · have h7 : (zerR s.k r.C r.Tick).2 ≠ 0 := by simpa using h7
    repeat first | refine Split.tt ?_ | refine Split.ff ?_
    refine r1I rfl ?_
    rw [e0, if_neg (fun hh => hh h6), if_pos h7]
  have h7 : (zerR s.k r.C r.Tick).2 = 0 := by simpa using h7
  repeat first | refine Split.tt ?_ | refine Split.ff ?_
  refine Split.by (fun h8 => ?_) (fun h8 => ?_)
  · have h8 : r.Kind = 2 := by simpa using h8
    refine r1I rfl ?_
    rw [e0, if_neg (fun hh => hh h6), if_neg (fun hh => hh h7), if_neg (by omega)]; exact h7
  · have h8 : r.Kind ≠ 2 := by simpa using h8
    have h9 : r.Kind = 1 := by
      refine Classical.byContradiction fun h10 => ?_
      have := frm_k (r := r) (by
        cases hw : within r.Kind 1 2 with
        | false => rfl
        | true => have := within_spec.1 hw; omega)
      rw [h1] at this; cases this
    refine CallSt.pure (r5_Wedge s.k (rdgO r)) rfl rfl ?_
    refine r1I rfl ?_
    rw [e0, if_neg (fun hh => hh h6), if_neg (fun hh => hh h7), if_pos h9]
structure RptOk (s : Svc) (r : Rpt) : Prop where
  f : frmB r = true
  t : ¬ towI s.c.T r.Tower < 0
  w : r.Kind = 1 → (wdgR s.k (rdgO r)).2 = 0
theorem rpt_ok {s : Svc} {r : Rpt} (h : rptE s r = 0) : RptOk s r := by
  unfold rptE at h
  split at h
  · cases h
  rename_i h1
  split at h
  · cases h
  rename_i h2
  split at h
  · cases h
  split at h
  · rename_i h4; exact absurd h h4
  refine ⟨by simpa using h1, fun h3 => h2 (.inl (by unfold towG; rw [if_pos h3])), fun hk => ?_⟩
  rw [if_pos hk] at h; exact h
theorem r6_sector (s : Svc) (r : Rpt) (h : RptOk s r) : Spec PP 42 [s.v, r.v] [(secR s r).1.v, B (secR s r).2] := by
  refine spec_at Tryz.func42 rfl (by kernel_rfl) rfl ?_
  refine Split.by (fun h1 => ?_) (fun h1 => ?_)
  · have h1 : r.Kind = 1 := by simpa using h1
    have e : secR s r = ((wdgR s.k (rdgO r)).1, true) := by unfold secR; rw [if_pos h1, decide_eq_true (h.w h1)]
    refine CallSt.pure (r5_Wedge s.k (rdgO r)) rfl rfl ?_
    rw [e]
    exact ⟨rtC (a := 4) rfl rfl rfl rfl rfl rfl (eqvs_refl _), rtB rfl rfl, trivial⟩
  have h1 : r.Kind ≠ 1 := by simpa using h1
  have e0 : secR s r = blkR s r := by unfold secR; rw [if_neg h1]
  rw [e0]
  obtain ⟨b1, b2, b3⟩ := frm_b h.f h1
  have zb := zerR_bd' s.k r.C r.Tick
  refine CallSt.pure (r5_Zero s.k r.C r.Tick) rfl rfl ?_
  refine Exists.intro (List.range 16) (And.intro (by kernel_rfl) (FzOb.no ?_))
  refine ⟨i6 (by omega), ?_⟩
  refine CallOb.pure (r6_turns (r.To - r.From) (by omega)) rfl rfl ?_
  refine ⟨i6 (by omega), ⟨i6 (by omega), ⟨i6 (by omega), ?_⟩⟩⟩
  refine Split.by (fun h2 => ?_) (fun h2 => ?_)
  · have e : blkR s r = (⟨0, 0⟩, false) := by unfold blkR; rw [if_pos (dT h2)]
    rw [e]
    exact ⟨rtC (a := 4) rfl rfl rfl rfl rfl rfl (eqvs_refl _), rtB rfl rfl, trivial⟩
  have e : blkR s r = (⟨(r.From + r.Slack - (zerR s.k r.C r.Tick).1.Lo) % 3600, (r.To - r.Slack - (zerR s.k r.C r.Tick).1.Hi) % 3600⟩, true) := by unfold blkR; rw [if_neg (dF h2)]
  rw [e]
  refine Exists.intro (List.range 21) (And.intro (by kernel_rfl) (FzOb.no ?_))
  refine ⟨i6 (by omega), ⟨i6 (by omega), ?_⟩⟩
  refine CallOb.pure (r6_turns (r.From + r.Slack - (zerR s.k r.C r.Tick).1.Lo) (by omega)) rfl rfl ?_
  refine ⟨i6 (by omega), ⟨i6 (by omega), ?_⟩⟩
  refine CallOb.pure (r6_turns (r.To - r.Slack - (zerR s.k r.C r.Tick).1.Hi) (by omega)) rfl rfl ?_
  exact ⟨rtC (a := 4) rfl rfl rfl rfl rfl rfl (eqvs_refl _), rtB rfl rfl, trivial⟩
abbrev madD (s : Svc) (r : Rpt) : List D := [I r.ID, I r.Kind, I r.Tower, I r.C, I r.Tick, I r.From, I r.To, I r.Slack, I (secR s r).1.F, I (secR s r).1.T, .bool (secR s r).2, I (towG s.c.T r.Tower).1.At.X, I (towG s.c.T r.Tower).1.At.Y]
theorem r6_made (s : Svc) (r : Rpt) (hn : s.c.T.length ≤ 1000000) (h : RptOk s r) : Spec PP 51 [s.v, r.v] [.agg (madD s r)] := by
  refine spec_at Tryz.func51 rfl (by kernel_rfl) rfl ?_
  refine CallSt.pure (r6_sector s r h) rfl rfl ?_
  refine Exists.intro (List.range 8) (And.intro (by kernel_rfl) (FzOb.no ?_))
  refine CallOb.pure (r6_at s r hn h.t) rfl rfl ?_
  exact r1C rfl rfl rfl rfl rfl rfl (eqvs_refl _)
theorem r6_allows (s : Svc) (b : Brn) (r : Rpt) (p : Place) : Spec PP 50 [s.v, b.v, .agg (madD s r), p.v] [B (allB s b r p)] := by
  have e4 : seenB s b r p = ((secR s r).2 && liesW (secR s r).1 (towG s.c.T r.Tower).1.At p && lookB s b r p) := rfl
  refine spec_at Tryz.func50 rfl (by kernel_rfl) rfl ?_
  have tail : ∀ (v : Bool), v = ((secR s r).2 && liesW (secR s r).1 (towG s.c.T r.Tower).1.At p) → seenB s b r p = (v && lookB s b r p) := fun v hv => by rw [hv, e4]
  refine Split.by (fun h1 => ?_) (fun h1 => ?_)
  · have h1 : (secR s r).2 = true := h1
    refine CallSt.pure (r5_Lies (secR s r).1 (towG s.c.T r.Tower).1.At p) rfl rfl ?_
    repeat first | refine Split.tt ?_ | refine Split.ff ?_
    refine Split.by (fun hk => ?_) (fun hk => ?_)
    · have hk : r.Kind = 1 := by simpa using hk
      have e : allB s b r p = seenB s b r p := by unfold allB; rw [if_pos hk]
      refine Split.by (fun h2 => ?_) (fun h2 => ?_)
      · have h2 : liesW (secR s r).1 (towG s.c.T r.Tower).1.At p = true := h2
        refine CallSt.pure (r6_sees s b r p) rfl rfl ?_
        repeat first | refine Split.tt ?_ | refine Split.ff ?_
        refine r1B rfl ?_
        rw [e, tail true (by rw [h1, h2]; rfl)]; rfl
      · have h2 : liesW (secR s r).1 (towG s.c.T r.Tower).1.At p = false := h2
        repeat first | refine Split.tt ?_ | refine Split.ff ?_
        refine r1B rfl ?_
        rw [e, tail false (by rw [h1, h2]; rfl)]; rfl
    · have hk : r.Kind ≠ 1 := by simpa using hk
      have e : allB s b r p = !seenB s b r p := by unfold allB; rw [if_neg hk]
      refine Split.by (fun h2 => ?_) (fun h2 => ?_)
      · have h2 : liesW (secR s r).1 (towG s.c.T r.Tower).1.At p = false := by simpa using h2
        repeat first | refine Split.tt ?_ | refine Split.ff ?_
        refine r1B rfl ?_
        rw [e, tail false (by rw [h1, h2]; rfl)]; rfl
      · have h2 : liesW (secR s r).1 (towG s.c.T r.Tower).1.At p = true := by simpa using h2
        refine CallSt.pure (r6_sees s b r p) rfl rfl ?_
        repeat first | refine Split.tt ?_ | refine Split.ff ?_
        refine r1B rfl ?_
        rw [e, tail true (by rw [h1, h2]; rfl)]; rfl
  · have h1 : (secR s r).2 = false := h1
    repeat first | refine Split.tt ?_ | refine Split.ff ?_
    refine Split.by (fun hk => ?_) (fun hk => ?_)
    · have hk : r.Kind = 1 := by simpa using hk
      have e : allB s b r p = seenB s b r p := by unfold allB; rw [if_pos hk]
      repeat first | refine Split.tt ?_ | refine Split.ff ?_
      refine r1B rfl ?_
      rw [e, tail false (by rw [h1]; rfl)]; rfl
    · have hk : r.Kind ≠ 1 := by simpa using hk
      have e : allB s b r p = !seenB s b r p := by unfold allB; rw [if_neg hk]
      repeat first | refine Split.tt ?_ | refine Split.ff ?_
      refine r1B rfl ?_
      rw [e, tail false (by rw [h1]; rfl)]; rfl
def smlB (s : Svc) : Bool := decide ((s.c.M.G.length : Int) ≤ 200) && decide (s.c.M.W ≤ 12) && decide (s.c.M.H ≤ 12) && (decide ((s.c.T.length : Int) ≤ 4) || (decide ((12 : Int) < s.c.T.length) && decide ((s.c.T.length : Int) ≤ 20))) && decide ((s.c.Z.length : Int) ≤ 4) && decide ((s.k.C.length : Int) ≤ 4) && decide ((s.k.K.length : Int) ≤ 6)
set_option maxHeartbeats 1000000 in
theorem w_small (s : Svc) : Spec PP 9 [s.v] [B (smlB s)] := by
  refine spec_at Tryz.func9 rfl (by kernel_rfl) rfl ?_
  refine Split.by (fun h1 => ?_) (fun h1 => ?_)
  rotate_left
  · have h1 : decide ((s.c.M.G.length : Int) ≤ 200) = false := h1
    repeat first | refine Split.tt ?_ | refine Split.ff ?_
    exact r1B rfl (by unfold smlB; rw [h1]; simp)
  have h1 : decide ((s.c.M.G.length : Int) ≤ 200) = true := h1
  repeat first | refine Split.tt ?_ | refine Split.ff ?_
  refine Split.by (fun h2 => ?_) (fun h2 => ?_)
  rotate_left
  · have h2 : decide (s.c.M.W ≤ 12) = false := h2
    repeat first | refine Split.tt ?_ | refine Split.ff ?_
    exact r1B rfl (by unfold smlB; rw [h2]; simp)
  have h2 : decide (s.c.M.W ≤ 12) = true := h2
  repeat first | refine Split.tt ?_ | refine Split.ff ?_
  refine Split.by (fun h3 => ?_) (fun h3 => ?_)
  rotate_left
  · have h3 : decide (s.c.M.H ≤ 12) = false := h3
    repeat first | refine Split.tt ?_ | refine Split.ff ?_
    exact r1B rfl (by unfold smlB; rw [h3]; simp)
  have h3 : decide (s.c.M.H ≤ 12) = true := h3
  repeat first | refine Split.tt ?_ | refine Split.ff ?_
  have last : ∀ (t : Bool), t = (decide ((s.c.T.length : Int) ≤ 4) || (decide ((12 : Int) < s.c.T.length) && decide ((s.c.T.length : Int) ≤ 20))) → smlB s = (t && decide ((s.c.Z.length : Int) ≤ 4) && decide ((s.k.C.length : Int) ≤ 4) && decide ((s.k.K.length : Int) ≤ 6)) := fun t ht => by
    unfold smlB; rw [h1, h2, h3, ← ht]; rfl
  refine Split.by (fun h4 => ?_) (fun h4 => ?_)
  · have h4 : decide ((s.c.T.length : Int) ≤ 4) = true := h4
    have last := last true (by rw [h4]; rfl)
    repeat first | refine Split.tt ?_ | refine Split.ff ?_
    refine Split.by (fun h5 => ?_) (fun h5 => ?_)
    rotate_left
    · have h5 : decide ((s.c.Z.length : Int) ≤ 4) = false := h5
      repeat first | refine Split.tt ?_ | refine Split.ff ?_
      exact r1B rfl (by rw [last, h5]; rfl)
    have h5 : decide ((s.c.Z.length : Int) ≤ 4) = true := h5
    repeat first | refine Split.tt ?_ | refine Split.ff ?_
    refine Split.by (fun h6 => ?_) (fun h6 => ?_)
    rotate_left
    · have h6 : decide ((s.k.C.length : Int) ≤ 4) = false := h6
      repeat first | refine Split.tt ?_ | refine Split.ff ?_
      exact r1B rfl (by rw [last, h5, h6]; rfl)
    have h6 : decide ((s.k.C.length : Int) ≤ 4) = true := h6
    repeat first | refine Split.tt ?_ | refine Split.ff ?_
    exact r1B rfl (by rw [last, h5, h6]; rfl)
  · have h4 : decide ((s.c.T.length : Int) ≤ 4) = false := h4
    repeat first | refine Split.tt ?_ | refine Split.ff ?_
    refine Split.by (fun h7 => ?_) (fun h7 => ?_)
    · have h7 : decide ((12 : Int) < s.c.T.length) = true := h7
      repeat first | refine Split.tt ?_ | refine Split.ff ?_
      refine Split.by (fun h8 => ?_) (fun h8 => ?_)
      rotate_left
      · have h8 : decide ((s.c.T.length : Int) ≤ 20) = false := h8
        have last := last false (by rw [h4, h7, h8]; rfl)
        repeat first | refine Split.tt ?_ | refine Split.ff ?_
        exact r1B rfl (by rw [last]; rfl)
      have h8 : decide ((s.c.T.length : Int) ≤ 20) = true := h8
      have last := last true (by rw [h4, h7, h8]; rfl)
      repeat first | refine Split.tt ?_ | refine Split.ff ?_
      refine Split.by (fun h5 => ?_) (fun h5 => ?_)
      rotate_left
      · have h5 : decide ((s.c.Z.length : Int) ≤ 4) = false := h5
        repeat first | refine Split.tt ?_ | refine Split.ff ?_
        exact r1B rfl (by rw [last, h5]; rfl)
      have h5 : decide ((s.c.Z.length : Int) ≤ 4) = true := h5
      repeat first | refine Split.tt ?_ | refine Split.ff ?_
      refine Split.by (fun h6 => ?_) (fun h6 => ?_)
      rotate_left
      · have h6 : decide ((s.k.C.length : Int) ≤ 4) = false := h6
        repeat first | refine Split.tt ?_ | refine Split.ff ?_
        exact r1B rfl (by rw [last, h5, h6]; rfl)
      have h6 : decide ((s.k.C.length : Int) ≤ 4) = true := h6
      repeat first | refine Split.tt ?_ | refine Split.ff ?_
      exact r1B rfl (by rw [last, h5, h6]; rfl)
    · have h7 : decide ((12 : Int) < s.c.T.length) = false := h7
      have last := last false (by rw [h4, h7]; rfl)
      repeat first | refine Split.tt ?_ | refine Split.ff ?_
      exact r1B rfl (by rw [last]; rfl)
def fewB (l : List Rpt) (n : Int) : Bool := decide ((l.length : Int) ≤ n) || (decide ((24 : Int) < l.length) && decide ((l.length : Int) ≤ 30))
theorem w_few (l : List Rpt) (n : Int) : Spec PP 10 [.d (lR l), N n] [B (fewB l n)] := by
  refine spec_at Tryz.func10 rfl (by kernel_rfl) rfl ?_
  refine Split.by (fun h1 => ?_) (fun h1 => ?_)
  · have h1 : decide ((l.length : Int) ≤ n) = true := h1
    repeat first | refine Split.tt ?_ | refine Split.ff ?_
    exact r1B rfl (by unfold fewB; rw [h1]; rfl)
  have h1 : decide ((l.length : Int) ≤ n) = false := h1
  repeat first | refine Split.tt ?_ | refine Split.ff ?_
  refine Split.by (fun h2 => ?_) (fun h2 => ?_)
  · have h2 : decide ((24 : Int) < l.length) = true := h2
    repeat first | refine Split.tt ?_ | refine Split.ff ?_
    exact r1B rfl (by unfold fewB; rw [h1, h2]; rfl)
  · have h2 : decide ((24 : Int) < l.length) = false := h2
    repeat first | refine Split.tt ?_ | refine Split.ff ?_
    exact r1B rfl (by unfold fewB; rw [h1, h2]; rfl)
theorem rep_aggE {w : World} {ok : Nat → Prop} : ∀ {xs ys : List D} {vs : List Value}, All2 (Rep w ok) xs vs → eqvs xs ys → All2 (Rep w ok) ys vs
  | [], [], _, h, _ => h
  | _ :: _, _ :: _, _, .cons h r, ⟨e, es⟩ => .cons (Rep.eqv h e) (rep_aggE r es)
abbrev shI (k : Nat) : Sh := .sl k fun j => shSl.getD' (List.replicate k (.int .i64)) j
theorem shI_at {k j : Nat} (h : j < k) : shSl.getD' (List.replicate k (.int .i64)) j = .int .i64 := by
  induction k generalizing j with
  | zero => omega
  | succ k ih =>
    cases j with
    | zero => rfl
    | succ j => exact ih (j := j) (by omega)
theorem fitI {α : Type} [Inhabited α] {k : Nat} {at_ : α → Nat → D} {x : D} (mkα : (Nat → Int) → α) (hk : ∀ g : Nat → Int, ∀ j, j < k → at_ (mkα g) j = I (g j)) (h : Fits (shI k) x) : ∃ l : List α, D.eqv x (.slc k l.length fun i => at_ (l.getD i default)) := by
  obtain ⟨l, _, _, e⟩ := fitsL (at_ := at_) mkα (fun j hj => shI_at hj) hk h
  exact ⟨l, e⟩
abbrev shSvc : List Sh := [.int .i64, .int .i64, shI 1, shI 4, shI 3, shI 8, shI 7]
theorem rep_Svc {w : World} {ok : Nat → Prop} {xs : List D} {v : Value} (hr : Rep1 w ok (.agg xs) v) (h : All2 Fits shSvc xs) : ∃ s : Svc, Rep1 w ok s.v v := by
  obtain ⟨vs, e, hv⟩ := hr
  cases h with | cons h0 h =>
  cases h with | cons h1 h =>
  cases h with | cons h2 h =>
  cases h with | cons h3 h =>
  cases h with | cons h4 h =>
  cases h with | cons h5 h =>
  cases h with | cons h6 h =>
  cases h
  obtain ⟨n0, -, rfl⟩ := h0
  obtain ⟨n1, -, rfl⟩ := h1
  obtain ⟨l2, e2⟩ := fitI (α := Int) (at_ := fun a _ => I a) (fun g => g 0) (fun g j hj => by
    match j, hj with
    | 0, _ => rfl) h2
  obtain ⟨l3, e3⟩ := fitI (α := Twr) (at_ := Twr.at) (fun g => ⟨g 0, ⟨g 1, g 2⟩, g 3⟩) (fun g j hj => by
    match j, hj with
    | 0, _ => rfl
    | 1, _ => rfl
    | 2, _ => rfl
    | 3, _ => rfl) h3
  obtain ⟨l4, e4⟩ := fitI (α := Hz) (at_ := Hz.at) (fun g => ⟨g 0, g 1, g 2⟩) (fun g j hj => by
    match j, hj with
    | 0, _ => rfl
    | 1, _ => rfl
    | 2, _ => rfl) h4
  obtain ⟨l5, e5⟩ := fitI (α := Cir) (at_ := Cir.at) (fun g => ⟨g 0, ⟨g 1, g 2⟩, g 3, g 4, g 5, g 6, g 7⟩) (fun g j hj => by
    match j, hj with
    | 0, _ => rfl
    | 1, _ => rfl
    | 2, _ => rfl
    | 3, _ => rfl
    | 4, _ => rfl
    | 5, _ => rfl
    | 6, _ => rfl
    | 7, _ => rfl) h5
  obtain ⟨l6, e6⟩ := fitI (α := Chk) (at_ := Chk.at) (fun g => ⟨g 0, g 1, g 2, ⟨g 3, g 4⟩, g 5, g 6⟩) (fun g j hj => by
    match j, hj with
    | 0, _ => rfl
    | 1, _ => rfl
    | 2, _ => rfl
    | 3, _ => rfl
    | 4, _ => rfl
    | 5, _ => rfl
    | 6, _ => rfl) h6
  exact ⟨⟨⟨⟨n0, n1, l2⟩, l3, l4⟩, ⟨l5, l6⟩⟩, vs, e, rep_aggE hv ⟨⟨rfl, rfl⟩, ⟨rfl, rfl⟩, e2, e3, e4, e5, e6, trivial⟩⟩
end Go.Pg
