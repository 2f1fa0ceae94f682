/-
  The law JoinTablesDecide holds: for every input of bulk at most 1048576 the call returns true, and each argument reads afterwards as it read before.
-/
import Derived.Test.YtcgbaefojdoicaaGreatRows
import Derived.Test.YtcgbaefojdoicaaGreatUG
import Derived.Test.YtcgbaefojdoicaaGreatJoinTablesDecideF
import Derived.Test.YtcgbaefojdoicaaGreatJoinTablesDecideB
import Derived.JoinedCond
set_option linter.all false
namespace Go.Proofs.YtcgbaefojdoicaaGreat.joinTablesDecideP
open Go.ChangeShapes Go.WideShapes Go.ChangeAt Go.RowKit Go.Pg Go.Proofs.YtcgbaefojdoicaaGreat.bulks

theorem intFs_own {P:Program} {fs:Array Field} (h:(fs.toList.all fun f=>match P.underlying f.type with | some (.int .i64)=>true | _=>false)=true):IntFs P fs:=fun j f hj=>by
  have:=List.all_eq_true.1 h f (by simpa using Array.mem_of_getElem? hj)
  cases hu:P.underlying f.type with
  | none=>simp[hu] at this
  | some d=>
    cases d with
    | int k=>cases k <;> simp[hu] at this ⊢
    | _=>simp[hu] at this

theorem own:ownKnob Tryz.prog.godebug=none:=by kernel_rfl
theorem laidOut:laidOutB Tryz.prog=true:=by kernel_rfl
set_option maxRecDepth 100000 in
theorem lifted (os : Os) (started : os.Started) (H : Type) (enc : TypeId × Value → H) (F : Stop.Interp) :
    ReturnsInHanded {} Tryz.checked os 8 .any ((Rows.OpenSpec.upto Rows.joinTablesDecideSpec).pre6 enc Tryz.prog Tryz.f8 Rows.joinTablesDecideUptoRow.domain false) (((Rows.OpenSpec.upto Rows.joinTablesDecideSpec).at F).post enc Tryz.prog Tryz.f8 false true false false) := by
  refine returnsInHanded_of_cond (C := Tryz.checked) (s := Rows.OpenSpec.upto Rows.joinTablesDecideSpec) (k := Rows.uptoSmall) rfl own started (by kernel_rfl) Tryz.func8
    (OpenSpec.witness (enc := enc) (C := Tryz.checked) (s := Rows.OpenSpec.upto Rows.joinTablesDecideSpec) (k := Rows.uptoSmall) rfl false ⟨#[], #[.agg #[.int .i64 0, .int .i64 0, .slice none 0 0, .slice none 0 0, .slice none 0 0, .slice none 0 0, .slice none 0 0, .int .i64 0, .int .i64 0, .slice none 0 0], .int .u8 0, .int .u8 0, .int .i64 0, .agg #[.int .i64 0, .int .i64 0], .int .u8 0, .int .u8 0, .agg #[.int .i64 0, .slice none 0 0, .slice none 0 0]], []⟩ 10 (by kernel_rfl) (by kernel_rfl) (by kernel_rfl)
      (x := ([.agg [.agg [.agg [.agg [.lit (.int .i64 0), .lit (.int .i64 0), .nil], .nil, .nil], .agg [.nil, .nil]], .lit (.int .i64 0), .lit (.int .i64 0), .nil], .lit (.int .u8 0), .lit (.int .u8 0), .lit (.int .i64 0), .agg [.lit (.int .i64 0), .lit (.int .i64 0)], .lit (.int .u8 0), .lit (.int .u8 0), .agg [.lit (.int .i64 0), .nil, .nil]], [], [])) (by kernel_rfl) rfl (by kernel_rfl)) ?_
  intro W base args ds gs before hval0 hW _ hk _
  have hval : ∀ (j : Nat) t v, Tryz.f8.params[j]? = some t → args[j]? = some v → Value.okWide Tryz.prog W .any base t v := hval0
  have hW' := hW
  obtain ⟨p, q, hA0, hV, rfl, hfz, hnd⟩ := hW
  have hA : DataW.TrodAll enc Tryz.prog W 0 (fun _ => true) true Tryz.f8.params.toList args.toList ds p := hA0
  rw [Tryz.params8] at hA hval
  obtain ⟨v0, vs0, d0, ds0, p0, q0, hargs, rfl, rfl, h0, rr0⟩ := trodAll_cons hA
  obtain ⟨v1, vs1, d1, ds1, p1, q1, rfl, rfl, rfl, h1, rr1⟩ := trodAll_cons rr0
  obtain ⟨v2, vs2, d2, ds2, p2, q2, rfl, rfl, rfl, h2, rr2⟩ := trodAll_cons rr1
  obtain ⟨v3, vs3, d3, ds3, p3, q3, rfl, rfl, rfl, h3, rr3⟩ := trodAll_cons rr2
  obtain ⟨v4, vs4, d4, ds4, p4, q4, rfl, rfl, rfl, h4, rr4⟩ := trodAll_cons rr3
  obtain ⟨v5, vs5, d5, ds5, p5, q5, rfl, rfl, rfl, h5, rr5⟩ := trodAll_cons rr4
  obtain ⟨v6, vs6, d6, ds6, p6, q6, rfl, rfl, rfl, h6, rr6⟩ := trodAll_cons rr5
  obtain ⟨v7, vs7, d7, ds7, p7, q7, rfl, rfl, rfl, h7, rr7⟩ := trodAll_cons rr6
  obtain ⟨rfl, rfl, rfl⟩ := trodAll_nil rr7
  obtain rfl : args = #[v0, v1, v2, v3, v4, v5, v6, v7] := by cases args; simp_all
  obtain ⟨rfl, rfl⟩ := trodVars_none hV
  have k0 := h0
  have lt0 : ∀ x ∈ p0, x.block < W.heap.size := by obtain ⟨m, hm⟩ := k0; exact DataW.trod_lt m _ _ _ hm
  obtain ⟨x0, s0, g0⟩ := openS (ks := shDay) 8 Tryz.underlying37 (by kernel_rfl) (hval 0 37 v0 rfl rfl) h0
  obtain ⟨l0, r0⟩ := rep_Day s0 g0
  have k1 := h1
  have lt1 : ∀ x ∈ p1, x.block < W.heap.size := by obtain ⟨m, hm⟩ := k1; exact DataW.trod_lt m _ _ _ hm
  obtain ⟨a1, rfl, _, w1⟩ := open_int Tryz.underlying5 (hval 1 5 v1 rfl rfl) h1
  have k2 := h2
  have lt2 : ∀ x ∈ p2, x.block < W.heap.size := by obtain ⟨m, hm⟩ := k2; exact DataW.trod_lt m _ _ _ hm
  obtain ⟨a2, rfl, _, w2⟩ := open_int Tryz.underlying5 (hval 2 5 v2 rfl rfl) h2
  have k3 := h3
  have lt3 : ∀ x ∈ p3, x.block < W.heap.size := by obtain ⟨m, hm⟩ := k3; exact DataW.trod_lt m _ _ _ hm
  obtain ⟨a3, rfl, _, w3⟩ := open_int Tryz.underlying3 (hval 3 3 v3 rfl rfl) h3
  have k4 := h4
  have lt4 : ∀ x ∈ p4, x.block < W.heap.size := by obtain ⟨m, hm⟩ := k4; exact DataW.trod_lt m _ _ _ hm
  obtain ⟨ns4, len4, wf4, e4⟩ := open_aggI Tryz.underlying75 (by kernel_rfl) (by kernel_rfl) (intFs_own (by kernel_rfl)) (hval 4 75 v4 rfl rfl) h4
  obtain ⟨x4_0, x4_1, rfl⟩ : ∃ x4_0 x4_1, ns4 = [x4_0, x4_1] := by
    match ns4, len4 with
    | [x4_0, x4_1], _ => exact ⟨x4_0, x4_1, rfl⟩
  subst e4
  have k5 := h5
  have lt5 : ∀ x ∈ p5, x.block < W.heap.size := by obtain ⟨m, hm⟩ := k5; exact DataW.trod_lt m _ _ _ hm
  obtain ⟨a5, rfl, _, w5⟩ := open_int Tryz.underlying5 (hval 5 5 v5 rfl rfl) h5
  have k6 := h6
  have lt6 : ∀ x ∈ p6, x.block < W.heap.size := by obtain ⟨m, hm⟩ := k6; exact DataW.trod_lt m _ _ _ hm
  obtain ⟨a6, rfl, _, w6⟩ := open_int Tryz.underlying5 (hval 6 5 v6 rfl rfl) h6
  have k7 := h7
  have lt7 : ∀ x ∈ p7, x.block < W.heap.size := by obtain ⟨m, hm⟩ := k7; exact DataW.trod_lt m _ _ _ hm
  obtain ⟨x7, s7, g7⟩ := openS' (ks := shVdt) 10 Tryz.underlying61 (by kernel_rfl) (hval 7 61 v7 rfl rfl) h7
  obtain ⟨l7, b7, r7⟩ := rep_Vdt' s7 g7
  clear hA0 hval0
  refine ((s_JoinTablesDecide l0 a1 (show (0 : Int) ≤ a1 ∧ a1 ≤ 255 from wf_kind w1.2) a2 (show (0 : Int) ≤ a2 ∧ a2 ≤ 255 from wf_kind w2.2) a3  ⟨x4_0, x4_1⟩ a5 (show (0 : Int) ≤ a5 ∧ a5 ≤ 255 from wf_kind w5.2) a6 (show (0 : Int) ≤ a6 ∧ a6 ≤ 255 from wf_kind w6.2) l7 ⟨Nat.le_trans b7.1 (bulkP hk (by simp)), Nat.le_trans b7.2 (bulkP hk (by simp))⟩).2 W (fun b => b < W.heap.size) _ (fun _ h => h) (.cons r0 (.cons rfl (.cons rfl (.cons rfl (.cons (rep_aggI [x4_0, x4_1]) (.cons rfl (.cons rfl (.cons r7 (.nil)))))))))).mono fun e W' ⟨v, he, ⟨bel, _⟩, hres⟩ => ?_
  have hv : v = .bool true := hres
  subst hv
  subst he
  exact ⟨_, rfl, _, _, _, [], _, [], hW', trodAll_mk1 (shut_bool Tryz.underlying4 _), (trodAll_cons_mk (Below.trod laidOut (by kernel_rfl) (of_decide_eq_true (by kernel_rfl)) k0 bel lt0) (trodAll_cons_mk (Below.trod laidOut (by kernel_rfl) (of_decide_eq_true (by kernel_rfl)) k1 bel lt1) (trodAll_cons_mk (Below.trod laidOut (by kernel_rfl) (of_decide_eq_true (by kernel_rfl)) k2 bel lt2) (trodAll_cons_mk (Below.trod laidOut (by kernel_rfl) (of_decide_eq_true (by kernel_rfl)) k3 bel lt3) (trodAll_cons_mk (Below.trod laidOut (by kernel_rfl) (of_decide_eq_true (by kernel_rfl)) k4 bel lt4) (trodAll_cons_mk (Below.trod laidOut (by kernel_rfl) (of_decide_eq_true (by kernel_rfl)) k5 bel lt5) (trodAll_cons_mk (Below.trod laidOut (by kernel_rfl) (of_decide_eq_true (by kernel_rfl)) k6 bel lt6) (trodAll_cons_mk (Below.trod laidOut (by kernel_rfl) (of_decide_eq_true (by kernel_rfl)) k7 bel lt7) trodAll_mk0)))))))), rfl, bel.frame _, fun h => by cases h⟩
theorem over:Rows.joinTablesDecideUptoRow.holds Tryz.pinned (Rows.OpenSpec.upto Rows.joinTablesDecideSpec):=
  OpenClaim.holds_of_cond 8 Tryz.f8 rfl rfl rfl rfl rfl rfl rfl ⟨rfl,rfl,rfl,rfl,rfl⟩ rfl rfl rfl rfl rfl (by kernel_rfl) Tryz.func8 joinTablesDecideF.closed
    (of_decide_eq_true (by kernel_rfl)) (by unfold Func.isWrapper; first | (rw[if_pos (by decide +kernel)]; kernel_rfl) | (rw[if_neg (by decide +kernel)]; exact⟨rfl,rfl⟩))
    (fun os started H enc _ F=>lifted os started H enc F)
/-- The statement. -/
theorem proved:Rows.JoinTablesDecideUptoSaid:=over
end Go.Proofs.YtcgbaefojdoicaaGreat.joinTablesDecideP
