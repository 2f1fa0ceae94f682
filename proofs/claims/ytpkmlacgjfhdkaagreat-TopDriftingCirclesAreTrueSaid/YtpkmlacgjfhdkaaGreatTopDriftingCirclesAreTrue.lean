/-
  The law TopDriftingCirclesAreTrue holds: for every input the call returns true, and each argument reads afterwards as it read before.
-/
import Derived.Test.YtpkmlacgjfhdkaaGreatRows
import Derived.Test.YtpkmlacgjfhdkaaGreatAF
import Derived.Test.YtpkmlacgjfhdkaaGreatTopDriftingCirclesAreTrueF
set_option linter.all false
namespace Go.Proofs.YtpkmlacgjfhdkaaGreat.topDriftingCirclesAreTrueP
open Go.ChangeShapes Go.WideShapes Go.ChangeAt Go.RowKit Go.Pg

theorem intFs_own {P : Program} {fs : Array Field} (h : (fs.toList.all fun f => match P.underlying f.type with | some (.int .i64) => true | _ => false) = true) : IntFs P fs := fun j f hj => by
  have := List.all_eq_true.1 h f (by simpa using Array.mem_of_getElem? hj)
  cases hu : P.underlying f.type with
  | none => simp [hu] at this
  | some d =>
    cases d with
    | int k => cases k <;> simp [hu] at this ⊢
    | _ => simp [hu] at this
theorem rep_lRo {w : World} {ok : Nat → Prop} {x : D} {v : Value} (hr : Rep1 w ok (.d x) v) (h : All2 Fits [shI 8] [x]) : ∃ l : List Go.Pg.Rpt, Rep1 w ok (.d (lR l)) v := by
  cases h with
  | cons h _ =>
  obtain ⟨l, _, _, hl⟩ := fitsL (at_ := Go.Pg.Rpt.at) (fun g => ⟨g 0, g 1, g 2, g 3, g 4, g 5, g 6, g 7⟩) (k := 8) (fun j hj => by
    match j, hj with
    | 0, _ => rfl | 1, _ => rfl | 2, _ => rfl | 3, _ => rfl | 4, _ => rfl | 5, _ => rfl | 6, _ => rfl | 7, _ => rfl) (fun g j hj => by
    match j, hj with
    | 0, _ => rfl | 1, _ => rfl | 2, _ => rfl | 3, _ => rfl | 4, _ => rfl | 5, _ => rfl | 6, _ => rfl | 7, _ => rfl) h
  exact ⟨l, Rep.eqv hr hl⟩

theorem own : ownKnob Tryz.prog.godebug = none := by kernel_rfl
theorem laidOut : laidOutB Tryz.prog = true := by kernel_rfl
set_option maxRecDepth 100000 in
theorem lifted (os : Os) (started : os.Started) (H : Type) (enc : TypeId × Value → H) :
    ReturnsInHanded {} Tryz.checked os 3 .any (Rows.topDriftingCirclesAreTrueSpec.pre6 enc Tryz.prog Tryz.f3 Rows.topDriftingCirclesAreTrueRow.domain false) (Rows.topDriftingCirclesAreTrueSpec.post enc Tryz.prog Tryz.f3 false true false false) := by
  refine returnsInHanded_of_change (C := Tryz.checked) own started (by kernel_rfl) Tryz.func3
    (ChangeSpec.witness6 (enc := enc) (C := Tryz.checked) false ⟨#[], #[.agg #[.int .i64 0, .int .i64 0, .slice none 0 0, .slice none 0 0, .slice none 0 0, .slice none 0 0, .slice none 0 0], .slice none 0 0, .agg #[.int .i64 0, .int .i64 0, .int .i64 0], .agg #[.int .i64 0, .int .i64 0], .slice none 0 0, .agg #[.int .i64 0, .int .i64 0], .int .u16 0], []⟩ 8 (by kernel_rfl) (by kernel_rfl) (by kernel_rfl) (by kernel_rfl)) ?_
  intro W base args ds gs before hval0 hW hcnd _
  have hval : ∀ (j : Nat) t v, Tryz.f3.params[j]? = some t → args[j]? = some v → Value.okWide Tryz.prog W .any base t v := hval0
  have hW' := hW
  obtain ⟨p, q, hA0, hV, rfl, hfz, hnd⟩ := hW
  have hA : DataW.TrodAll enc Tryz.prog W 0 (fun _ => true) true Tryz.f3.params.toList args.toList ds p := hA0
  rw [Tryz.params3] at hA hval
  obtain ⟨v0, vs0, d0, ds0, p0, q0, hargs, rfl, rfl, h0, rr0⟩ := trodAll_cons hA
  obtain ⟨v1, vs1, d1, ds1, p1, q1, rfl, rfl, rfl, h1, rr1⟩ := trodAll_cons rr0
  obtain ⟨v2, vs2, d2, ds2, p2, q2, rfl, rfl, rfl, h2, rr2⟩ := trodAll_cons rr1
  obtain ⟨v3, vs3, d3, ds3, p3, q3, rfl, rfl, rfl, h3, rr3⟩ := trodAll_cons rr2
  obtain ⟨v4, vs4, d4, ds4, p4, q4, rfl, rfl, rfl, h4, rr4⟩ := trodAll_cons rr3
  obtain ⟨v5, vs5, d5, ds5, p5, q5, rfl, rfl, rfl, h5, rr5⟩ := trodAll_cons rr4
  obtain ⟨v6, vs6, d6, ds6, p6, q6, rfl, rfl, rfl, h6, rr6⟩ := trodAll_cons rr5
  obtain ⟨rfl, rfl, rfl⟩ := trodAll_nil rr6
  obtain rfl : args = #[v0, v1, v2, v3, v4, v5, v6] := by cases args; simp_all
  obtain ⟨rfl, rfl⟩ := trodVars_none hV
  have k0 := h0
  have lt0 : ∀ x ∈ p0, x.block < W.heap.size := by obtain ⟨m, hm⟩ := k0; exact DataW.trod_lt m _ _ _ hm
  obtain ⟨x0, s0, g0⟩ := openS (ks := shSvc) 8 Tryz.underlying34 (by kernel_rfl) (hval 0 34 v0 rfl rfl) h0
  obtain ⟨l0, r0⟩ := rep_Svc s0 g0
  have k1 := h1
  have lt1 : ∀ x ∈ p1, x.block < W.heap.size := by obtain ⟨m, hm⟩ := k1; exact DataW.trod_lt m _ _ _ hm
  obtain ⟨x1, s1, g1⟩ := openL (ks := [shZs]) 8 Tryz.underlying35 (by kernel_rfl) (hval 1 35 v1 rfl rfl) h1
  obtain ⟨l1, r1⟩ := rep_lZs s1 g1
  have k2 := h2
  have lt2 : ∀ x ∈ p2, x.block < W.heap.size := by obtain ⟨m, hm⟩ := k2; exact DataW.trod_lt m _ _ _ hm
  obtain ⟨ns2, len2, wf2, e2⟩ := open_aggI Tryz.underlying37 (by kernel_rfl) (by kernel_rfl) (intFs_own (by kernel_rfl)) (hval 2 37 v2 rfl rfl) h2
  obtain ⟨x2_0, x2_1, x2_2, rfl⟩ : ∃ x2_0 x2_1 x2_2, ns2 = [x2_0, x2_1, x2_2] := by
    match ns2, len2 with
    | [x2_0, x2_1, x2_2], _ => exact ⟨x2_0, x2_1, x2_2, rfl⟩
  subst e2
  have k3 := h3
  have lt3 : ∀ x ∈ p3, x.block < W.heap.size := by obtain ⟨m, hm⟩ := k3; exact DataW.trod_lt m _ _ _ hm
  obtain ⟨ns3, len3, wf3, e3⟩ := open_aggI Tryz.underlying39 (by kernel_rfl) (by kernel_rfl) (intFs_own (by kernel_rfl)) (hval 3 39 v3 rfl rfl) h3
  obtain ⟨x3_0, x3_1, rfl⟩ : ∃ x3_0 x3_1, ns3 = [x3_0, x3_1] := by
    match ns3, len3 with
    | [x3_0, x3_1], _ => exact ⟨x3_0, x3_1, rfl⟩
  subst e3
  have k4 := h4
  have lt4 : ∀ x ∈ p4, x.block < W.heap.size := by obtain ⟨m, hm⟩ := k4; exact DataW.trod_lt m _ _ _ hm
  obtain ⟨x4, s4, g4⟩ := openL (ks := [shI 8]) 6 Tryz.underlying40 (by kernel_rfl) (hval 4 40 v4 rfl rfl) h4
  obtain ⟨l4, r4⟩ := rep_lRo s4 g4
  have k5 := h5
  have lt5 : ∀ x ∈ p5, x.block < W.heap.size := by obtain ⟨m, hm⟩ := k5; exact DataW.trod_lt m _ _ _ hm
  obtain ⟨ns5, len5, wf5, e5⟩ := open_aggI Tryz.underlying41 (by kernel_rfl) (by kernel_rfl) (intFs_own (by kernel_rfl)) (hval 5 41 v5 rfl rfl) h5
  obtain ⟨x5_0, x5_1, rfl⟩ : ∃ x5_0 x5_1, ns5 = [x5_0, x5_1] := by
    match ns5, len5 with
    | [x5_0, x5_1], _ => exact ⟨x5_0, x5_1, rfl⟩
  subst e5
  have k6 := h6
  have lt6 : ∀ x ∈ p6, x.block < W.heap.size := by obtain ⟨m, hm⟩ := k6; exact DataW.trod_lt m _ _ _ hm
  obtain ⟨a6, rfl, _, w6⟩ := open_int Tryz.underlying42 (hval 6 42 v6 rfl rfl) h6
  clear hA0 hval0
  refine ((s_TopDriftingCirclesAreTrue l0 l1 ⟨x2_0, x2_1, x2_2⟩ ⟨x3_0, x3_1⟩ l4 ⟨x5_0, x5_1⟩ a6 (show (0 : Int) ≤ a6 ∧ a6 ≤ 65535 from wf_kind w6.2)).2 W (fun b => b < W.heap.size) _ (fun _ h => h) (.cons r0 (.cons r1 (.cons (rep_aggI [x2_0, x2_1, x2_2]) (.cons (rep_aggI [x3_0, x3_1]) (.cons r4 (.cons (rep_aggI [x5_0, x5_1]) (.cons rfl (.nil))))))))).mono fun e W' ⟨v, he, ⟨bel, _⟩, hres⟩ => ?_
  have hv : v = .bool true := hres
  subst hv
  subst he
  exact ⟨_, rfl, _, _, _, [], _, [], hW', trodAll_mk1 (shut_bool Tryz.underlying4 _), (trodAll_cons_mk (Below.trod laidOut (by kernel_rfl) (of_decide_eq_true (by kernel_rfl)) k0 bel lt0) (trodAll_cons_mk (Below.trod laidOut (by kernel_rfl) (of_decide_eq_true (by kernel_rfl)) k1 bel lt1) (trodAll_cons_mk (Below.trod laidOut (by kernel_rfl) (of_decide_eq_true (by kernel_rfl)) k2 bel lt2) (trodAll_cons_mk (Below.trod laidOut (by kernel_rfl) (of_decide_eq_true (by kernel_rfl)) k3 bel lt3) (trodAll_cons_mk (Below.trod laidOut (by kernel_rfl) (of_decide_eq_true (by kernel_rfl)) k4 bel lt4) (trodAll_cons_mk (Below.trod laidOut (by kernel_rfl) (of_decide_eq_true (by kernel_rfl)) k5 bel lt5) (trodAll_cons_mk (Below.trod laidOut (by kernel_rfl) (of_decide_eq_true (by kernel_rfl)) k6 bel lt6) trodAll_mk0))))))), rfl, bel.frame _, fun h => by cases h⟩
theorem over : Rows.topDriftingCirclesAreTrueRow.holds Tryz.pinned (OpenSpec.ofChange Rows.topDriftingCirclesAreTrueSpec) :=
  OpenClaim.holds_of_wide 3 Tryz.f3 rfl rfl rfl rfl rfl rfl rfl ⟨rfl, rfl, rfl, rfl, rfl⟩ rfl rfl rfl rfl rfl (by kernel_rfl) Tryz.func3 topDriftingCirclesAreTrueF.closed
    (of_decide_eq_true (by kernel_rfl)) (by unfold Func.isWrapper; first | (rw [if_pos (by decide +kernel)]; kernel_rfl) | (rw [if_neg (by decide +kernel)]; exact ⟨rfl, rfl⟩))
    (fun os started H enc _ => lifted os started H enc)
/-- The statement. -/
theorem proved : Rows.TopDriftingCirclesAreTrueSaid := over
end Go.Proofs.YtpkmlacgjfhdkaaGreat.topDriftingCirclesAreTrueP
