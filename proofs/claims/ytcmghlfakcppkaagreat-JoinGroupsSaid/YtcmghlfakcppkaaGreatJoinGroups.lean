/-
  The law JoinGroups holds: for every input the call returns true, and each argument reads afterwards as it read before.
-/
import Derived.Test.YtcmghlfakcppkaaGreatRows
import Derived.Test.YtcmghlfakcppkaaGreatJJ
import Derived.Test.YtcmghlfakcppkaaGreatJoinGroupsF
set_option linter.all false
namespace Go.Proofs.YtcmghlfakcppkaaGreat.joinGroupsP
open Go.ChangeShapes Go.WideShapes Go.ChangeAt Go.RowKit Go.Pg

theorem intFs_own {P : Program} {fs : Array Field} (h : (fs.toList.all fun f => match P.underlying f.type with | some (.int .i64) => true | _ => false) = true) : IntFs P fs := fun j f hj => by
  have := List.all_eq_true.1 h f (by simpa using Array.mem_of_getElem? hj)
  cases hu : P.underlying f.type with
  | none => simp [hu] at this
  | some d =>
    cases d with
    | int k => cases k <;> simp [hu] at this ⊢
    | _ => simp [hu] at this

theorem own : ownKnob Tryz.prog.godebug = none := by kernel_rfl
theorem laidOut : laidOutB Tryz.prog = true := by kernel_rfl
set_option maxRecDepth 100000 in
theorem lifted (os : Os) (started : os.Started) (H : Type) (enc : TypeId × Value → H) :
    ReturnsInHanded {} Tryz.checked os 5 .any (Rows.joinGroupsSpec.pre6 enc Tryz.prog Tryz.f5 Rows.joinGroupsRow.domain false) (Rows.joinGroupsSpec.post enc Tryz.prog Tryz.f5 false true false false) := by
  refine returnsInHanded_of_change (C := Tryz.checked) own started (by kernel_rfl) Tryz.func5
    (ChangeSpec.witness6 (enc := enc) (C := Tryz.checked) false ⟨#[], #[.agg #[.int .i64 0, .int .i64 0, .slice none 0 0, .slice none 0 0, .slice none 0 0, .slice none 0 0, .slice none 0 0, .int .i64 0, .int .i64 0, .slice none 0 0], .int .i64 0], []⟩ 8 (by kernel_rfl) (by kernel_rfl) (by kernel_rfl) (by kernel_rfl)) ?_
  intro W base args ds gs before hval0 hW hcnd _
  have hval : ∀ (j : Nat) t v, Tryz.f5.params[j]? = some t → args[j]? = some v → Value.okWide Tryz.prog W .any base t v := hval0
  have hW' := hW
  obtain ⟨p, q, hA0, hV, rfl, hfz, hnd⟩ := hW
  have hA : DataW.TrodAll enc Tryz.prog W 0 (fun _ => true) true Tryz.f5.params.toList args.toList ds p := hA0
  rw [Tryz.params5] at hA hval
  obtain ⟨v0, vs0, d0, ds0, p0, q0, hargs, rfl, rfl, h0, rr0⟩ := trodAll_cons hA
  obtain ⟨v1, vs1, d1, ds1, p1, q1, rfl, rfl, rfl, h1, rr1⟩ := trodAll_cons rr0
  obtain ⟨rfl, rfl, rfl⟩ := trodAll_nil rr1
  obtain rfl : args = #[v0, v1] := by cases args; simp_all
  obtain ⟨rfl, rfl⟩ := trodVars_none hV
  have k0 := h0
  have lt0 : ∀ x ∈ p0, x.block < W.heap.size := by obtain ⟨m, hm⟩ := k0; exact DataW.trod_lt m _ _ _ hm
  obtain ⟨x0, s0, g0⟩ := openS (ks := shDay) 8 Tryz.underlying37 (by kernel_rfl) (hval 0 37 v0 rfl rfl) h0
  obtain ⟨l0, r0⟩ := rep_Day s0 g0
  have k1 := h1
  have lt1 : ∀ x ∈ p1, x.block < W.heap.size := by obtain ⟨m, hm⟩ := k1; exact DataW.trod_lt m _ _ _ hm
  obtain ⟨a1, rfl, _, w1⟩ := open_int Tryz.underlying3 (hval 1 3 v1 rfl rfl) h1
  clear hA0 hval0
  refine ((s_JoinGroups l0 a1 ).2 W (fun b => b < W.heap.size) _ (fun _ h => h) (.cons r0 (.cons rfl (.nil)))).mono fun e W' ⟨v, he, ⟨bel, _⟩, hres⟩ => ?_
  have hv : v = .bool true := hres
  subst hv
  subst he
  exact ⟨_, rfl, _, _, _, [], _, [], hW', trodAll_mk1 (shut_bool Tryz.underlying4 _), (trodAll_cons_mk (Below.trod laidOut (by kernel_rfl) (of_decide_eq_true (by kernel_rfl)) k0 bel lt0) (trodAll_cons_mk (Below.trod laidOut (by kernel_rfl) (of_decide_eq_true (by kernel_rfl)) k1 bel lt1) trodAll_mk0)), rfl, bel.frame _, fun h => by cases h⟩
theorem over : Rows.joinGroupsRow.holds Tryz.pinned (OpenSpec.ofChange Rows.joinGroupsSpec) :=
  OpenClaim.holds_of_wide 5 Tryz.f5 rfl rfl rfl rfl rfl rfl rfl ⟨rfl, rfl, rfl, rfl, rfl⟩ rfl rfl rfl rfl rfl (by kernel_rfl) Tryz.func5 joinGroupsF.closed
    (of_decide_eq_true (by kernel_rfl)) (by unfold Func.isWrapper; first | (rw [if_pos (by decide +kernel)]; kernel_rfl) | (rw [if_neg (by decide +kernel)]; exact ⟨rfl, rfl⟩))
    (fun os started H enc _ => lifted os started H enc)
/-- The statement. -/
theorem proved : Rows.JoinGroupsSaid := over
end Go.Proofs.YtcmghlfakcppkaaGreat.joinGroupsP
