/-
  The law CellTrue holds: for every input the call returns true, and each argument reads afterwards as it read before.
-/
import Derived.Test.YtooepbnecjepnaaGreatRows
import Derived.Test.YtooepbnecjepnaaGreatTH
import Derived.Test.YtooepbnecjepnaaGreatCellTrueF
set_option linter.all false
namespace Go.Proofs.YtooepbnecjepnaaGreat.cellTrueP
open Go.ChangeShapes Go.WideShapes Go.ChangeAt Go.RowKit Go.Pg

theorem intFs_own {P : Program} {fs : Array Field} (h : (fs.toList.all fun f => match P.underlying f.type with | some (.int .i64) => true | _ => false) = true) : IntFs P fs := fun j f hj => by
  have := List.all_eq_true.1 h f (by simpa using Array.mem_of_getElem? hj)
  cases hu : P.underlying f.type with
  | none => simp [hu] at this
  | some d =>
    cases d with
    | int k => cases k <;> simp [hu] at this ⊢
    | _ => simp [hu] at this
theorem rep_lRo {w : World} {ok : Nat → Prop} {x : D} {v : Value} (hr : Rep1 w ok (.d x) v) (h : All2 Fits [shI 8] [x]) : ∃ l : List Go.Pg.Rpt, Rep1 w ok (.d (lR l)) v := by
  cases h with
  | cons h _ =>
  obtain ⟨l, _, _, hl⟩ := fitsL (at_ := Go.Pg.Rpt.at) (fun g => ⟨g 0, g 1, g 2, g 3, g 4, g 5, g 6, g 7⟩) (k := 8) (fun j hj => by
    match j, hj with
    | 0, _ => rfl | 1, _ => rfl | 2, _ => rfl | 3, _ => rfl | 4, _ => rfl | 5, _ => rfl | 6, _ => rfl | 7, _ => rfl) (fun g j hj => by
    match j, hj with
    | 0, _ => rfl | 1, _ => rfl | 2, _ => rfl | 3, _ => rfl | 4, _ => rfl | 5, _ => rfl | 6, _ => rfl | 7, _ => rfl) h
  exact ⟨l, Rep.eqv hr hl⟩

theorem own : ownKnob Tryz.prog.godebug = none := by kernel_rfl
theorem laidOut : laidOutB Tryz.prog = true := by kernel_rfl
set_option maxRecDepth 100000 in
theorem lifted (os : Os) (started : os.Started) (H : Type) (enc : TypeId × Value → H) :
    ReturnsInHanded {} Tryz.checked os 5 .any (Rows.cellTrueSpec.pre6 enc Tryz.prog Tryz.f5 Rows.cellTrueRow.domain false) (Rows.cellTrueSpec.post enc Tryz.prog Tryz.f5 false true false false) := by
  refine returnsInHanded_of_change (C := Tryz.checked) own started (by kernel_rfl) Tryz.func5
    (ChangeSpec.witness6 (enc := enc) (C := Tryz.checked) false ⟨#[], #[.agg #[.int .i64 0, .int .i64 0, .slice none 0 0, .slice none 0 0, .slice none 0 0, .slice none 0 0, .slice none 0 0], .agg #[.int .i64 0, .int .i64 0, .int .i64 0], .agg #[.int .i64 0, .int .i64 0, .slice none 0 0], .slice none 0 0, .agg #[.int .i64 0, .int .i64 0]], []⟩ 8 (by kernel_rfl) (by kernel_rfl) (by kernel_rfl) (by kernel_rfl)) ?_
  intro W base args ds gs before hval0 hW hcnd _
  have hval : ∀ (j : Nat) t v, Tryz.f5.params[j]? = some t → args[j]? = some v → Value.okWide Tryz.prog W .any base t v := hval0
  have hW' := hW
  obtain ⟨p, q, hA0, hV, rfl, hfz, hnd⟩ := hW
  have hA : DataW.TrodAll enc Tryz.prog W 0 (fun _ => true) true Tryz.f5.params.toList args.toList ds p := hA0
  rw [Tryz.params5] at hA hval
  obtain ⟨v0, vs0, d0, ds0, p0, q0, hargs, rfl, rfl, h0, rr0⟩ := trodAll_cons hA
  obtain ⟨v1, vs1, d1, ds1, p1, q1, rfl, rfl, rfl, h1, rr1⟩ := trodAll_cons rr0
  obtain ⟨v2, vs2, d2, ds2, p2, q2, rfl, rfl, rfl, h2, rr2⟩ := trodAll_cons rr1
  obtain ⟨v3, vs3, d3, ds3, p3, q3, rfl, rfl, rfl, h3, rr3⟩ := trodAll_cons rr2
  obtain ⟨v4, vs4, d4, ds4, p4, q4, rfl, rfl, rfl, h4, rr4⟩ := trodAll_cons rr3
  obtain ⟨rfl, rfl, rfl⟩ := trodAll_nil rr4
  obtain rfl : args = #[v0, v1, v2, v3, v4] := by cases args; simp_all
  obtain ⟨rfl, rfl⟩ := trodVars_none hV
  have k0 := h0
  have lt0 : ∀ x ∈ p0, x.block < W.heap.size := by obtain ⟨m, hm⟩ := k0; exact DataW.trod_lt m _ _ _ hm
  obtain ⟨x0, s0, g0⟩ := openS (ks := shSvc) 8 Tryz.underlying34 (by kernel_rfl) (hval 0 34 v0 rfl rfl) h0
  obtain ⟨l0, r0⟩ := rep_Svc s0 g0
  have k1 := h1
  have lt1 : ∀ x ∈ p1, x.block < W.heap.size := by obtain ⟨m, hm⟩ := k1; exact DataW.trod_lt m _ _ _ hm
  obtain ⟨ns1, len1, wf1, e1⟩ := open_aggI Tryz.underlying36 (by kernel_rfl) (by kernel_rfl) (intFs_own (by kernel_rfl)) (hval 1 36 v1 rfl rfl) h1
  obtain ⟨x1_0, x1_1, x1_2, rfl⟩ : ∃ x1_0 x1_1 x1_2, ns1 = [x1_0, x1_1, x1_2] := by
    match ns1, len1 with
    | [x1_0, x1_1, x1_2], _ => exact ⟨x1_0, x1_1, x1_2, rfl⟩
  subst e1
  have k2 := h2
  have lt2 : ∀ x ∈ p2, x.block < W.heap.size := by obtain ⟨m, hm⟩ := k2; exact DataW.trod_lt m _ _ _ hm
  obtain ⟨x2, s2, g2⟩ := openS (ks := shRl) 8 Tryz.underlying78 (by kernel_rfl) (hval 2 78 v2 rfl rfl) h2
  obtain ⟨l2, r2⟩ := rep_Rl s2 g2
  have k3 := h3
  have lt3 : ∀ x ∈ p3, x.block < W.heap.size := by obtain ⟨m, hm⟩ := k3; exact DataW.trod_lt m _ _ _ hm
  obtain ⟨x3, s3, g3⟩ := openL (ks := [shI 8]) 6 Tryz.underlying37 (by kernel_rfl) (hval 3 37 v3 rfl rfl) h3
  obtain ⟨l3, r3⟩ := rep_lRo s3 g3
  have k4 := h4
  have lt4 : ∀ x ∈ p4, x.block < W.heap.size := by obtain ⟨m, hm⟩ := k4; exact DataW.trod_lt m _ _ _ hm
  obtain ⟨ns4, len4, wf4, e4⟩ := open_aggI Tryz.underlying39 (by kernel_rfl) (by kernel_rfl) (intFs_own (by kernel_rfl)) (hval 4 39 v4 rfl rfl) h4
  obtain ⟨x4_0, x4_1, rfl⟩ : ∃ x4_0 x4_1, ns4 = [x4_0, x4_1] := by
    match ns4, len4 with
    | [x4_0, x4_1], _ => exact ⟨x4_0, x4_1, rfl⟩
  subst e4
  clear hA0 hval0
  refine ((s_CellTrue l0 ⟨x1_0, x1_1, x1_2⟩ l2 l3 ⟨x4_0, x4_1⟩).2 W (fun b => b < W.heap.size) _ (fun _ h => h) (.cons r0 (.cons (rep_aggI [x1_0, x1_1, x1_2]) (.cons r2 (.cons r3 (.cons (rep_aggI [x4_0, x4_1]) (.nil))))))).mono fun e W' ⟨v, he, ⟨bel, _⟩, hres⟩ => ?_
  have hv : v = .bool true := hres
  subst hv
  subst he
  exact ⟨_, rfl, _, _, _, [], _, [], hW', trodAll_mk1 (shut_bool Tryz.underlying4 _), (trodAll_cons_mk (Below.trod laidOut (by kernel_rfl) (of_decide_eq_true (by kernel_rfl)) k0 bel lt0) (trodAll_cons_mk (Below.trod laidOut (by kernel_rfl) (of_decide_eq_true (by kernel_rfl)) k1 bel lt1) (trodAll_cons_mk (Below.trod laidOut (by kernel_rfl) (of_decide_eq_true (by kernel_rfl)) k2 bel lt2) (trodAll_cons_mk (Below.trod laidOut (by kernel_rfl) (of_decide_eq_true (by kernel_rfl)) k3 bel lt3) (trodAll_cons_mk (Below.trod laidOut (by kernel_rfl) (of_decide_eq_true (by kernel_rfl)) k4 bel lt4) trodAll_mk0))))), rfl, bel.frame _, fun h => by cases h⟩
theorem over : Rows.cellTrueRow.holds Tryz.pinned (OpenSpec.ofChange Rows.cellTrueSpec) :=
  OpenClaim.holds_of_wide 5 Tryz.f5 rfl rfl rfl rfl rfl rfl rfl ⟨rfl, rfl, rfl, rfl, rfl⟩ rfl rfl rfl rfl rfl (by kernel_rfl) Tryz.func5 cellTrueF.closed
    (of_decide_eq_true (by kernel_rfl)) (by unfold Func.isWrapper; first | (rw [if_pos (by decide +kernel)]; kernel_rfl) | (rw [if_neg (by decide +kernel)]; exact ⟨rfl, rfl⟩))
    (fun os started H enc _ => lifted os started H enc)
/-- The statement. -/
theorem proved : Rows.CellTrueSaid := over
end Go.Proofs.YtooepbnecjepnaaGreat.cellTrueP
