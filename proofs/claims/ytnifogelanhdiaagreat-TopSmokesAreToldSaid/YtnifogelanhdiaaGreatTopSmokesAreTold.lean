/-
  The law TopSmokesAreTold holds: for every input the call returns true, and each argument reads afterwards as it read before.
-/
import Derived.Test.YtnifogelanhdiaaGreatRows
import Derived.Test.YtnifogelanhdiaaGreatMH
import Derived.Test.YtnifogelanhdiaaGreatTopSmokesAreToldF
set_option linter.all false
namespace Go.Proofs.YtnifogelanhdiaaGreat.topSmokesAreToldP
open Go.ChangeShapes Go.WideShapes Go.ChangeAt Go.RowKit Go.Pg

theorem intFs_own {P : Program} {fs : Array Field} (h : (fs.toList.all fun f => match P.underlying f.type with | some (.int .i64) => true | _ => false) = true) : IntFs P fs := fun j f hj => by
  have := List.all_eq_true.1 h f (by simpa using Array.mem_of_getElem? hj)
  cases hu : P.underlying f.type with
  | none => simp [hu] at this
  | some d =>
    cases d with
    | int k => cases k <;> simp [hu] at this ⊢
    | _ => simp [hu] at this
theorem rep_lRo {w : World} {ok : Nat → Prop} {x : D} {v : Value} (hr : Rep1 w ok (.d x) v) (h : All2 Fits [shI 8] [x]) : ∃ l : List Go.Pg.Rpt, Rep1 w ok (.d (lR l)) v := by
  cases h with
  | cons h _ =>
  obtain ⟨l, _, _, hl⟩ := fitsL (at_ := Go.Pg.Rpt.at) (fun g => ⟨g 0, g 1, g 2, g 3, g 4, g 5, g 6, g 7⟩) (k := 8) (fun j hj => by
    match j, hj with
    | 0, _ => rfl | 1, _ => rfl | 2, _ => rfl | 3, _ => rfl | 4, _ => rfl | 5, _ => rfl | 6, _ => rfl | 7, _ => rfl) (fun g j hj => by
    match j, hj with
    | 0, _ => rfl | 1, _ => rfl | 2, _ => rfl | 3, _ => rfl | 4, _ => rfl | 5, _ => rfl | 6, _ => rfl | 7, _ => rfl) h
  exact ⟨l, Rep.eqv hr hl⟩

theorem own : ownKnob Tryz.prog.godebug = none := by kernel_rfl
theorem laidOut : laidOutB Tryz.prog = true := by kernel_rfl
set_option maxRecDepth 100000 in
theorem lifted (os : Os) (started : os.Started) (H : Type) (enc : TypeId × Value → H) :
    ReturnsInHanded {} Tryz.checked os 3 .any (Rows.topSmokesAreToldSpec.pre6 enc Tryz.prog Tryz.f3 Rows.topSmokesAreToldRow.domain false) (Rows.topSmokesAreToldSpec.post enc Tryz.prog Tryz.f3 false true false false) := by
  refine returnsInHanded_of_change (C := Tryz.checked) own started (by kernel_rfl) Tryz.func3
    (ChangeSpec.witness6 (enc := enc) (C := Tryz.checked) false ⟨#[], #[.agg #[.int .i64 0, .int .i64 0, .slice none 0 0, .slice none 0 0, .slice none 0 0, .slice none 0 0, .slice none 0 0], .slice none 0 0, .int .i64 0, .int .i64 0, .slice none 0 0, .slice none 0 0, .slice none 0 0, .int .u8 0, .int .u8 0], []⟩ 8 (by kernel_rfl) (by kernel_rfl) (by kernel_rfl) (by kernel_rfl)) ?_
  intro W base args ds gs before hval0 hW hcnd _
  have hval : ∀ (j : Nat) t v, Tryz.f3.params[j]? = some t → args[j]? = some v → Value.okWide Tryz.prog W .any base t v := hval0
  have hW' := hW
  obtain ⟨p, q, hA0, hV, rfl, hfz, hnd⟩ := hW
  have hA : DataW.TrodAll enc Tryz.prog W 0 (fun _ => true) true Tryz.f3.params.toList args.toList ds p := hA0
  rw [Tryz.params3] at hA hval
  obtain ⟨v0, vs0, d0, ds0, p0, q0, hargs, rfl, rfl, h0, rr0⟩ := trodAll_cons hA
  obtain ⟨v1, vs1, d1, ds1, p1, q1, rfl, rfl, rfl, h1, rr1⟩ := trodAll_cons rr0
  obtain ⟨v2, vs2, d2, ds2, p2, q2, rfl, rfl, rfl, h2, rr2⟩ := trodAll_cons rr1
  obtain ⟨v3, vs3, d3, ds3, p3, q3, rfl, rfl, rfl, h3, rr3⟩ := trodAll_cons rr2
  obtain ⟨v4, vs4, d4, ds4, p4, q4, rfl, rfl, rfl, h4, rr4⟩ := trodAll_cons rr3
  obtain ⟨v5, vs5, d5, ds5, p5, q5, rfl, rfl, rfl, h5, rr5⟩ := trodAll_cons rr4
  obtain ⟨v6, vs6, d6, ds6, p6, q6, rfl, rfl, rfl, h6, rr6⟩ := trodAll_cons rr5
  obtain ⟨v7, vs7, d7, ds7, p7, q7, rfl, rfl, rfl, h7, rr7⟩ := trodAll_cons rr6
  obtain ⟨v8, vs8, d8, ds8, p8, q8, rfl, rfl, rfl, h8, rr8⟩ := trodAll_cons rr7
  obtain ⟨rfl, rfl, rfl⟩ := trodAll_nil rr8
  obtain rfl : args = #[v0, v1, v2, v3, v4, v5, v6, v7, v8] := by cases args; simp_all
  obtain ⟨rfl, rfl⟩ := trodVars_none hV
  have k0 := h0
  have lt0 : ∀ x ∈ p0, x.block < W.heap.size := by obtain ⟨m, hm⟩ := k0; exact DataW.trod_lt m _ _ _ hm
  obtain ⟨x0, s0, g0⟩ := openS (ks := shSvc) 8 Tryz.underlying34 (by kernel_rfl) (hval 0 34 v0 rfl rfl) h0
  obtain ⟨l0, r0⟩ := rep_Svc s0 g0
  have k1 := h1
  have lt1 : ∀ x ∈ p1, x.block < W.heap.size := by obtain ⟨m, hm⟩ := k1; exact DataW.trod_lt m _ _ _ hm
  obtain ⟨x1, s1, g1⟩ := openL (ks := [shZs]) 8 Tryz.underlying35 (by kernel_rfl) (hval 1 35 v1 rfl rfl) h1
  obtain ⟨l1, r1⟩ := rep_lZs s1 g1
  have k2 := h2
  have lt2 : ∀ x ∈ p2, x.block < W.heap.size := by obtain ⟨m, hm⟩ := k2; exact DataW.trod_lt m _ _ _ hm
  obtain ⟨a2, rfl, _, w2⟩ := open_int Tryz.underlying3 (hval 2 3 v2 rfl rfl) h2
  have k3 := h3
  have lt3 : ∀ x ∈ p3, x.block < W.heap.size := by obtain ⟨m, hm⟩ := k3; exact DataW.trod_lt m _ _ _ hm
  obtain ⟨a3, rfl, _, w3⟩ := open_int Tryz.underlying3 (hval 3 3 v3 rfl rfl) h3
  have k4 := h4
  have lt4 : ∀ x ∈ p4, x.block < W.heap.size := by obtain ⟨m, hm⟩ := k4; exact DataW.trod_lt m _ _ _ hm
  obtain ⟨x4, s4, g4⟩ := openL (ks := [shI 4]) 6 Tryz.underlying36 (by kernel_rfl) (hval 4 36 v4 rfl rfl) h4
  obtain ⟨l4, b4, r4⟩ := rep_lFi s4 g4
  have k5 := h5
  have lt5 : ∀ x ∈ p5, x.block < W.heap.size := by obtain ⟨m, hm⟩ := k5; exact DataW.trod_lt m _ _ _ hm
  obtain ⟨x5, s5, g5⟩ := openL (ks := [shI 8]) 6 Tryz.underlying37 (by kernel_rfl) (hval 5 37 v5 rfl rfl) h5
  obtain ⟨l5, r5⟩ := rep_lRo s5 g5
  have k6 := h6
  have lt6 : ∀ x ∈ p6, x.block < W.heap.size := by obtain ⟨m, hm⟩ := k6; exact DataW.trod_lt m _ _ _ hm
  obtain ⟨x6, s6, g6⟩ := openL (ks := [shU8]) 6 Tryz.underlying38 (by kernel_rfl) (hval 6 38 v6 rfl rfl) h6
  obtain ⟨l6, b6, r6⟩ := rep_lU8 s6 g6
  have k7 := h7
  have lt7 : ∀ x ∈ p7, x.block < W.heap.size := by obtain ⟨m, hm⟩ := k7; exact DataW.trod_lt m _ _ _ hm
  obtain ⟨a7, rfl, _, w7⟩ := open_int Tryz.underlying5 (hval 7 5 v7 rfl rfl) h7
  have k8 := h8
  have lt8 : ∀ x ∈ p8, x.block < W.heap.size := by obtain ⟨m, hm⟩ := k8; exact DataW.trod_lt m _ _ _ hm
  obtain ⟨a8, rfl, _, w8⟩ := open_int Tryz.underlying5 (hval 8 5 v8 rfl rfl) h8
  clear hA0 hval0
  refine ((s_TopSmokesAreTold l0 l1 a2  a3  l4 l5 l6 a7 (show (0 : Int) ≤ a7 ∧ a7 ≤ 255 from wf_kind w7.2) a8 (show (0 : Int) ≤ a8 ∧ a8 ≤ 255 from wf_kind w8.2) b4 b6).2 W (fun b => b < W.heap.size) _ (fun _ h => h) (.cons r0 (.cons r1 (.cons rfl (.cons rfl (.cons r4 (.cons r5 (.cons r6 (.cons rfl (.cons rfl (.nil))))))))))).mono fun e W' ⟨v, he, ⟨bel, _⟩, hres⟩ => ?_
  have hv : v = .bool true := hres
  subst hv
  subst he
  exact ⟨_, rfl, _, _, _, [], _, [], hW', trodAll_mk1 (shut_bool Tryz.underlying4 _), (trodAll_cons_mk (Below.trod laidOut (by kernel_rfl) (of_decide_eq_true (by kernel_rfl)) k0 bel lt0) (trodAll_cons_mk (Below.trod laidOut (by kernel_rfl) (of_decide_eq_true (by kernel_rfl)) k1 bel lt1) (trodAll_cons_mk (Below.trod laidOut (by kernel_rfl) (of_decide_eq_true (by kernel_rfl)) k2 bel lt2) (trodAll_cons_mk (Below.trod laidOut (by kernel_rfl) (of_decide_eq_true (by kernel_rfl)) k3 bel lt3) (trodAll_cons_mk (Below.trod laidOut (by kernel_rfl) (of_decide_eq_true (by kernel_rfl)) k4 bel lt4) (trodAll_cons_mk (Below.trod laidOut (by kernel_rfl) (of_decide_eq_true (by kernel_rfl)) k5 bel lt5) (trodAll_cons_mk (Below.trod laidOut (by kernel_rfl) (of_decide_eq_true (by kernel_rfl)) k6 bel lt6) (trodAll_cons_mk (Below.trod laidOut (by kernel_rfl) (of_decide_eq_true (by kernel_rfl)) k7 bel lt7) (trodAll_cons_mk (Below.trod laidOut (by kernel_rfl) (of_decide_eq_true (by kernel_rfl)) k8 bel lt8) trodAll_mk0))))))))), rfl, bel.frame _, fun h => by cases h⟩
theorem over : Rows.topSmokesAreToldRow.holds Tryz.pinned (OpenSpec.ofChange Rows.topSmokesAreToldSpec) :=
  OpenClaim.holds_of_wide 3 Tryz.f3 rfl rfl rfl rfl rfl rfl rfl ⟨rfl, rfl, rfl, rfl, rfl⟩ rfl rfl rfl rfl rfl (by kernel_rfl) Tryz.func3 topSmokesAreToldF.closed
    (of_decide_eq_true (by kernel_rfl)) (by unfold Func.isWrapper; first | (rw [if_pos (by decide +kernel)]; kernel_rfl) | (rw [if_neg (by decide +kernel)]; exact ⟨rfl, rfl⟩))
    (fun os started H enc _ => lifted os started H enc)
/-- The statement. -/
theorem proved : Rows.TopSmokesAreToldSaid := over
end Go.Proofs.YtnifogelanhdiaaGreat.topSmokesAreToldP
