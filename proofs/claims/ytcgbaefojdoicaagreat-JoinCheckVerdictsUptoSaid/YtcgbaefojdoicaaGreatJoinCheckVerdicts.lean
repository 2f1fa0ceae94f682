/-
  The law JoinCheckVerdicts holds: for every input of bulk at most 1048576 the call returns true, and each argument reads afterwards as it read before.
-/
import Derived.Test.YtcgbaefojdoicaaGreatRows
import Derived.Test.YtcgbaefojdoicaaGreatWF
import Derived.Test.YtcgbaefojdoicaaGreatJoinCheckVerdictsF
import Derived.Test.YtcgbaefojdoicaaGreatJoinCheckVerdictsB
import Derived.JoinedCond
set_option linter.all false
namespace Go.Proofs.YtcgbaefojdoicaaGreat.joinCheckVerdictsP
open Go.ChangeShapes Go.WideShapes Go.ChangeAt Go.RowKit Go.Pg Go.Proofs.YtcgbaefojdoicaaGreat.bulks

theorem own:ownKnob Tryz.prog.godebug=none:=by kernel_rfl
theorem laidOut:laidOutB Tryz.prog=true:=by kernel_rfl
set_option maxRecDepth 100000 in
theorem lifted (os : Os) (started : os.Started) (H : Type) (enc : TypeId × Value → H) (F : Stop.Interp) :
    ReturnsInHanded {} Tryz.checked os 5 .any ((Rows.OpenSpec.upto Rows.joinCheckVerdictsSpec).pre6 enc Tryz.prog Tryz.f5 Rows.joinCheckVerdictsUptoRow.domain false) (((Rows.OpenSpec.upto Rows.joinCheckVerdictsSpec).at F).post enc Tryz.prog Tryz.f5 false true false false) := by
  refine returnsInHanded_of_cond (C := Tryz.checked) (s := Rows.OpenSpec.upto Rows.joinCheckVerdictsSpec) (k := Rows.uptoSmall) rfl own started (by kernel_rfl) Tryz.func5
    (OpenSpec.witness (enc := enc) (C := Tryz.checked) (s := Rows.OpenSpec.upto Rows.joinCheckVerdictsSpec) (k := Rows.uptoSmall) rfl false ⟨#[], #[.agg #[.int .i64 0, .int .i64 0, .slice none 0 0, .slice none 0 0, .slice none 0 0, .slice none 0 0, .slice none 0 0, .int .i64 0, .int .i64 0, .slice none 0 0], .agg #[.slice none 0 0, .slice none 0 0], .int .i64 0, .int .i64 0, .agg #[.int .i64 0, .slice none 0 0, .slice none 0 0]], []⟩ 10 (by kernel_rfl) (by kernel_rfl) (by kernel_rfl)
      (x := ([.agg [.agg [.agg [.agg [.lit (.int .i64 0), .lit (.int .i64 0), .nil], .nil, .nil], .agg [.nil, .nil]], .lit (.int .i64 0), .lit (.int .i64 0), .nil], .agg [.nil, .nil], .lit (.int .i64 0), .lit (.int .i64 0), .agg [.lit (.int .i64 0), .nil, .nil]], [], [])) (by kernel_rfl) rfl (by kernel_rfl)) ?_
  intro W base args ds gs before hval0 hW _ hk _
  have hval : ∀ (j : Nat) t v, Tryz.f5.params[j]? = some t → args[j]? = some v → Value.okWide Tryz.prog W .any base t v := hval0
  have hW' := hW
  obtain ⟨p, q, hA0, hV, rfl, hfz, hnd⟩ := hW
  have hA : DataW.TrodAll enc Tryz.prog W 0 (fun _ => true) true Tryz.f5.params.toList args.toList ds p := hA0
  rw [Tryz.params5] at hA hval
  obtain ⟨v0, vs0, d0, ds0, p0, q0, hargs, rfl, rfl, h0, rr0⟩ := trodAll_cons hA
  obtain ⟨v1, vs1, d1, ds1, p1, q1, rfl, rfl, rfl, h1, rr1⟩ := trodAll_cons rr0
  obtain ⟨v2, vs2, d2, ds2, p2, q2, rfl, rfl, rfl, h2, rr2⟩ := trodAll_cons rr1
  obtain ⟨v3, vs3, d3, ds3, p3, q3, rfl, rfl, rfl, h3, rr3⟩ := trodAll_cons rr2
  obtain ⟨v4, vs4, d4, ds4, p4, q4, rfl, rfl, rfl, h4, rr4⟩ := trodAll_cons rr3
  obtain ⟨rfl, rfl, rfl⟩ := trodAll_nil rr4
  obtain rfl : args = #[v0, v1, v2, v3, v4] := by cases args; simp_all
  obtain ⟨rfl, rfl⟩ := trodVars_none hV
  have k0 := h0
  have lt0 : ∀ x ∈ p0, x.block < W.heap.size := by obtain ⟨m, hm⟩ := k0; exact DataW.trod_lt m _ _ _ hm
  obtain ⟨x0, s0, g0⟩ := openS (ks := shDay) 8 Tryz.underlying37 (by kernel_rfl) (hval 0 37 v0 rfl rfl) h0
  obtain ⟨l0, r0⟩ := rep_Day s0 g0
  have k1 := h1
  have lt1 : ∀ x ∈ p1, x.block < W.heap.size := by obtain ⟨m, hm⟩ := k1; exact DataW.trod_lt m _ _ _ hm
  obtain ⟨x1, s1, g1⟩ := openS (ks := shJns) 10 Tryz.underlying52 (by kernel_rfl) (hval 1 52 v1 rfl rfl) h1
  obtain ⟨l1, b1, r1⟩ := rep_Jns s1 g1
  have k2 := h2
  have lt2 : ∀ x ∈ p2, x.block < W.heap.size := by obtain ⟨m, hm⟩ := k2; exact DataW.trod_lt m _ _ _ hm
  obtain ⟨a2, rfl, _, w2⟩ := open_int Tryz.underlying3 (hval 2 3 v2 rfl rfl) h2
  have k3 := h3
  have lt3 : ∀ x ∈ p3, x.block < W.heap.size := by obtain ⟨m, hm⟩ := k3; exact DataW.trod_lt m _ _ _ hm
  obtain ⟨a3, rfl, _, w3⟩ := open_int Tryz.underlying3 (hval 3 3 v3 rfl rfl) h3
  have k4 := h4
  have lt4 : ∀ x ∈ p4, x.block < W.heap.size := by obtain ⟨m, hm⟩ := k4; exact DataW.trod_lt m _ _ _ hm
  obtain ⟨x4, s4, g4⟩ := openS' (ks := shVdt) 10 Tryz.underlying61 (by kernel_rfl) (hval 4 61 v4 rfl rfl) h4
  obtain ⟨l4, b4, r4⟩ := rep_Vdt' s4 g4
  clear hA0 hval0
  refine ((s_JoinCheckVerdicts l0 l1 a2  a3  l4 b1 ⟨Nat.le_trans b4.1 (bulkP hk (by simp)), Nat.le_trans b4.2 (bulkP hk (by simp))⟩).2 W (fun b => b < W.heap.size) _ (fun _ h => h) (.cons r0 (.cons r1 (.cons rfl (.cons rfl (.cons r4 (.nil))))))).mono fun e W' ⟨v, he, ⟨bel, _⟩, hres⟩ => ?_
  have hv : v = .bool true := hres
  subst hv
  subst he
  exact ⟨_, rfl, _, _, _, [], _, [], hW', trodAll_mk1 (shut_bool Tryz.underlying4 _), (trodAll_cons_mk (Below.trod laidOut (by kernel_rfl) (of_decide_eq_true (by kernel_rfl)) k0 bel lt0) (trodAll_cons_mk (Below.trod laidOut (by kernel_rfl) (of_decide_eq_true (by kernel_rfl)) k1 bel lt1) (trodAll_cons_mk (Below.trod laidOut (by kernel_rfl) (of_decide_eq_true (by kernel_rfl)) k2 bel lt2) (trodAll_cons_mk (Below.trod laidOut (by kernel_rfl) (of_decide_eq_true (by kernel_rfl)) k3 bel lt3) (trodAll_cons_mk (Below.trod laidOut (by kernel_rfl) (of_decide_eq_true (by kernel_rfl)) k4 bel lt4) trodAll_mk0))))), rfl, bel.frame _, fun h => by cases h⟩
theorem over:Rows.joinCheckVerdictsUptoRow.holds Tryz.pinned (Rows.OpenSpec.upto Rows.joinCheckVerdictsSpec):=
  OpenClaim.holds_of_cond 5 Tryz.f5 rfl rfl rfl rfl rfl rfl rfl ⟨rfl,rfl,rfl,rfl,rfl⟩ rfl rfl rfl rfl rfl (by kernel_rfl) Tryz.func5 joinCheckVerdictsF.closed
    (of_decide_eq_true (by kernel_rfl)) (by unfold Func.isWrapper; first | (rw[if_pos (by decide +kernel)]; kernel_rfl) | (rw[if_neg (by decide +kernel)]; exact⟨rfl,rfl⟩))
    (fun os started H enc _ F=>lifted os started H enc F)
/-- The statement. -/
theorem proved:Rows.JoinCheckVerdictsUptoSaid:=over
end Go.Proofs.YtcgbaefojdoicaaGreat.joinCheckVerdictsP
