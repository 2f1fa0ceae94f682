/-
  The law HalfPoints holds: for every input the call returns true, and each argument reads afterwards as it read before.
-/
import Derived.Test.YtlmljmgappiehaaGreatRows
import Derived.Test.YtlmljmgappiehaaGreatKP
set_option linter.all false
namespace Go.Proofs.YtlmljmgappiehaaGreat.halfPointsP
open Go.ChangeShapes Go.WideShapes Go.ChangeAt Go.RowKit Go.Pg

theorem own : ownKnob Tryz.prog.godebug = none := by kernel_rfl
theorem laidOut : laidOutB Tryz.prog = true := by kernel_rfl
set_option maxRecDepth 100000 in
theorem lifted (os : Os) (started : os.Started) (H : Type) (enc : TypeId × Value → H) :
    ReturnsInHanded {} Tryz.checked os 5 .any (Rows.halfPointsSpec.pre6 enc Tryz.prog Tryz.f5 Rows.halfPointsRow.domain false) (Rows.halfPointsSpec.post enc Tryz.prog Tryz.f5 false true false false) := by
  refine returnsInHanded_of_change (C := Tryz.checked) own started (by kernel_rfl) Tryz.func5
    (ChangeSpec.witness6 (enc := enc) (C := Tryz.checked) false ⟨#[], #[.agg #[.int .i64 0, .int .i64 0, .int .i64 0], .agg #[.int .i64 0, .int .i64 0, .int .i64 0], .agg #[.int .i64 0, .int .i64 0, .int .i64 0], .agg #[.int .i64 0, .int .i64 0, .int .i64 0], .agg #[.int .i64 0, .int .i64 0], .agg #[.int .i64 0, .int .i64 0], .agg #[.int .i64 0, .int .i64 0]], []⟩ 8 (by kernel_rfl) (by kernel_rfl) (by kernel_rfl) (by kernel_rfl)) ?_
  intro W base args ds gs before hval0 hW hcnd _
  have hval : ∀ (j : Nat) t v, Tryz.f5.params[j]? = some t → args[j]? = some v → Value.okWide Tryz.prog W .any base t v := hval0
  have hW' := hW
  obtain ⟨p, q, hA0, hV, rfl, hfz, hnd⟩ := hW
  have hA : DataW.TrodAll enc Tryz.prog W 0 (fun _ => true) true Tryz.f5.params.toList args.toList ds p := hA0
  rw [Tryz.params5] at hA hval
  obtain ⟨v0, vs0, d0, ds0, p0, q0, hargs, rfl, rfl, h0, rr0⟩ := trodAll_cons hA
  obtain ⟨v1, vs1, d1, ds1, p1, q1, rfl, rfl, rfl, h1, rr1⟩ := trodAll_cons rr0
  obtain ⟨v2, vs2, d2, ds2, p2, q2, rfl, rfl, rfl, h2, rr2⟩ := trodAll_cons rr1
  obtain ⟨v3, vs3, d3, ds3, p3, q3, rfl, rfl, rfl, h3, rr3⟩ := trodAll_cons rr2
  obtain ⟨v4, vs4, d4, ds4, p4, q4, rfl, rfl, rfl, h4, rr4⟩ := trodAll_cons rr3
  obtain ⟨v5, vs5, d5, ds5, p5, q5, rfl, rfl, rfl, h5, rr5⟩ := trodAll_cons rr4
  obtain ⟨v6, vs6, d6, ds6, p6, q6, rfl, rfl, rfl, h6, rr6⟩ := trodAll_cons rr5
  obtain ⟨rfl, rfl, rfl⟩ := trodAll_nil rr6
  obtain rfl : args = #[v0, v1, v2, v3, v4, v5, v6] := by cases args; simp_all
  obtain ⟨rfl, rfl⟩ := trodVars_none hV
  have k0 := h0
  have lt0 : ∀ x ∈ p0, x.block < W.heap.size := by obtain ⟨m, hm⟩ := k0; exact DataW.trod_lt m _ _ _ hm
  obtain ⟨ns0, len0, wf0, e0⟩ := open_aggI Tryz.underlying48 (by kernel_rfl) (by kernel_rfl) (intFs_of (by kernel_rfl)) (hval 0 48 v0 rfl rfl) h0
  obtain ⟨x0_0, x0_1, x0_2, rfl⟩ : ∃ x0_0 x0_1 x0_2, ns0 = [x0_0, x0_1, x0_2] := by
    match ns0, len0 with
    | [x0_0, x0_1, x0_2], _ => exact ⟨x0_0, x0_1, x0_2, rfl⟩
  subst e0
  have k1 := h1
  have lt1 : ∀ x ∈ p1, x.block < W.heap.size := by obtain ⟨m, hm⟩ := k1; exact DataW.trod_lt m _ _ _ hm
  obtain ⟨ns1, len1, wf1, e1⟩ := open_aggI Tryz.underlying48 (by kernel_rfl) (by kernel_rfl) (intFs_of (by kernel_rfl)) (hval 1 48 v1 rfl rfl) h1
  obtain ⟨x1_0, x1_1, x1_2, rfl⟩ : ∃ x1_0 x1_1 x1_2, ns1 = [x1_0, x1_1, x1_2] := by
    match ns1, len1 with
    | [x1_0, x1_1, x1_2], _ => exact ⟨x1_0, x1_1, x1_2, rfl⟩
  subst e1
  have k2 := h2
  have lt2 : ∀ x ∈ p2, x.block < W.heap.size := by obtain ⟨m, hm⟩ := k2; exact DataW.trod_lt m _ _ _ hm
  obtain ⟨ns2, len2, wf2, e2⟩ := open_aggI Tryz.underlying50 (by kernel_rfl) (by kernel_rfl) (intFs_of (by kernel_rfl)) (hval 2 50 v2 rfl rfl) h2
  obtain ⟨x2_0, x2_1, x2_2, rfl⟩ : ∃ x2_0 x2_1 x2_2, ns2 = [x2_0, x2_1, x2_2] := by
    match ns2, len2 with
    | [x2_0, x2_1, x2_2], _ => exact ⟨x2_0, x2_1, x2_2, rfl⟩
  subst e2
  have k3 := h3
  have lt3 : ∀ x ∈ p3, x.block < W.heap.size := by obtain ⟨m, hm⟩ := k3; exact DataW.trod_lt m _ _ _ hm
  obtain ⟨ns3, len3, wf3, e3⟩ := open_aggI Tryz.underlying50 (by kernel_rfl) (by kernel_rfl) (intFs_of (by kernel_rfl)) (hval 3 50 v3 rfl rfl) h3
  obtain ⟨x3_0, x3_1, x3_2, rfl⟩ : ∃ x3_0 x3_1 x3_2, ns3 = [x3_0, x3_1, x3_2] := by
    match ns3, len3 with
    | [x3_0, x3_1, x3_2], _ => exact ⟨x3_0, x3_1, x3_2, rfl⟩
  subst e3
  have k4 := h4
  have lt4 : ∀ x ∈ p4, x.block < W.heap.size := by obtain ⟨m, hm⟩ := k4; exact DataW.trod_lt m _ _ _ hm
  obtain ⟨ns4, len4, wf4, e4⟩ := open_aggI Tryz.underlying52 (by kernel_rfl) (by kernel_rfl) (intFs_of (by kernel_rfl)) (hval 4 52 v4 rfl rfl) h4
  obtain ⟨x4_0, x4_1, rfl⟩ : ∃ x4_0 x4_1, ns4 = [x4_0, x4_1] := by
    match ns4, len4 with
    | [x4_0, x4_1], _ => exact ⟨x4_0, x4_1, rfl⟩
  subst e4
  have k5 := h5
  have lt5 : ∀ x ∈ p5, x.block < W.heap.size := by obtain ⟨m, hm⟩ := k5; exact DataW.trod_lt m _ _ _ hm
  obtain ⟨ns5, len5, wf5, e5⟩ := open_aggI Tryz.underlying52 (by kernel_rfl) (by kernel_rfl) (intFs_of (by kernel_rfl)) (hval 5 52 v5 rfl rfl) h5
  obtain ⟨x5_0, x5_1, rfl⟩ : ∃ x5_0 x5_1, ns5 = [x5_0, x5_1] := by
    match ns5, len5 with
    | [x5_0, x5_1], _ => exact ⟨x5_0, x5_1, rfl⟩
  subst e5
  have k6 := h6
  have lt6 : ∀ x ∈ p6, x.block < W.heap.size := by obtain ⟨m, hm⟩ := k6; exact DataW.trod_lt m _ _ _ hm
  obtain ⟨ns6, len6, wf6, e6⟩ := open_aggI Tryz.underlying54 (by kernel_rfl) (by kernel_rfl) (intFs_of (by kernel_rfl)) (hval 6 54 v6 rfl rfl) h6
  obtain ⟨x6_0, x6_1, rfl⟩ : ∃ x6_0 x6_1, ns6 = [x6_0, x6_1] := by
    match ns6, len6 with
    | [x6_0, x6_1], _ => exact ⟨x6_0, x6_1, rfl⟩
  subst e6
  clear hA0 hval0
  refine ((s_HalfPoints ⟨x0_0, x0_1, x0_2⟩ ⟨x1_0, x1_1, x1_2⟩ ⟨x2_0, x2_1, x2_2⟩ ⟨x3_0, x3_1, x3_2⟩ ⟨x4_0, x4_1⟩ ⟨x5_0, x5_1⟩ ⟨x6_0, x6_1⟩).2 W (fun b => b < W.heap.size) _ (fun _ h => h) (.cons (rep_aggI [x0_0, x0_1, x0_2]) (.cons (rep_aggI [x1_0, x1_1, x1_2]) (.cons (rep_aggI [x2_0, x2_1, x2_2]) (.cons (rep_aggI [x3_0, x3_1, x3_2]) (.cons (rep_aggI [x4_0, x4_1]) (.cons (rep_aggI [x5_0, x5_1]) (.cons (rep_aggI [x6_0, x6_1]) (.nil))))))))).mono fun e W' ⟨v, he, ⟨bel, _⟩, hres⟩ => ?_
  have hv : v = .bool true := hres
  subst hv
  subst he
  exact ⟨_, rfl, _, _, _, [], _, [], hW', trodAll_mk1 (shut_bool Tryz.underlying4 _), (trodAll_cons_mk (Below.trod laidOut (by kernel_rfl) (of_decide_eq_true (by kernel_rfl)) k0 bel lt0) (trodAll_cons_mk (Below.trod laidOut (by kernel_rfl) (of_decide_eq_true (by kernel_rfl)) k1 bel lt1) (trodAll_cons_mk (Below.trod laidOut (by kernel_rfl) (of_decide_eq_true (by kernel_rfl)) k2 bel lt2) (trodAll_cons_mk (Below.trod laidOut (by kernel_rfl) (of_decide_eq_true (by kernel_rfl)) k3 bel lt3) (trodAll_cons_mk (Below.trod laidOut (by kernel_rfl) (of_decide_eq_true (by kernel_rfl)) k4 bel lt4) (trodAll_cons_mk (Below.trod laidOut (by kernel_rfl) (of_decide_eq_true (by kernel_rfl)) k5 bel lt5) (trodAll_cons_mk (Below.trod laidOut (by kernel_rfl) (of_decide_eq_true (by kernel_rfl)) k6 bel lt6) trodAll_mk0))))))), rfl, bel.frame _, fun h => by cases h⟩
theorem over : Rows.halfPointsRow.holds Tryz.pinned (OpenSpec.ofChange Rows.halfPointsSpec) :=
  OpenClaim.holds_of_wide 5 Tryz.f5 rfl rfl rfl rfl rfl rfl rfl ⟨rfl, rfl, rfl, rfl, rfl⟩ rfl rfl rfl rfl rfl (by kernel_rfl) Tryz.func5 (by kernel_rfl)
    (of_decide_eq_true (by kernel_rfl)) (by unfold Func.isWrapper; first | (rw [if_pos (by decide +kernel)]; kernel_rfl) | (rw [if_neg (by decide +kernel)]; exact ⟨rfl, rfl⟩))
    (fun os started H enc _ => lifted os started H enc)
/-- The statement. -/
theorem proved : Rows.HalfPointsSaid := over
end Go.Proofs.YtlmljmgappiehaaGreat.halfPointsP
