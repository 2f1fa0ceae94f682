/-
  The law JoinTruth holds: for every input the call returns true, and each argument reads afterwards as it read before.
-/
import Derived.Test.YtcmghlfakcppkaaGreatRows
import Derived.Test.YtcmghlfakcppkaaGreatTI
import Derived.Test.YtcmghlfakcppkaaGreatJoinTruthF
set_option linter.all false
namespace Go.Proofs.YtcmghlfakcppkaaGreat.joinTruthP
open Go.ChangeShapes Go.WideShapes Go.ChangeAt Go.RowKit Go.Pg

theorem intFs_own {P : Program} {fs : Array Field} (h : (fs.toList.all fun f => match P.underlying f.type with | some (.int .i64) => true | _ => false) = true) : IntFs P fs := fun j f hj => by
  have := List.all_eq_true.1 h f (by simpa using Array.mem_of_getElem? hj)
  cases hu : P.underlying f.type with
  | none => simp [hu] at this
  | some d =>
    cases d with
    | int k => cases k <;> simp [hu] at this ⊢
    | _ => simp [hu] at this
theorem rep_lP {w : World} {ok : Nat → Prop} {x : D} {v : Value} (hr : Rep1 w ok (.d x) v) (h : All2 Fits [shI 2] [x]) : ∃ l : List Go.Pg.Place, Rep1 w ok (slP l) v := by
  cases h with
  | cons h _ =>
  obtain ⟨l, _, _, hl⟩ := fitsL (at_ := Go.Pg.Place.at) (fun g => ⟨g 0, g 1⟩) (k := 2) (fun j hj => by
    match j, hj with
    | 0, _ => rfl | 1, _ => rfl) (fun g j hj => by
    match j, hj with
    | 0, _ => rfl | 1, _ => rfl) h
  exact ⟨l, Rep.eqv hr hl⟩

theorem own : ownKnob Tryz.prog.godebug = none := by kernel_rfl
theorem laidOut : laidOutB Tryz.prog = true := by kernel_rfl
set_option maxRecDepth 100000 in
theorem lifted (os : Os) (started : os.Started) (H : Type) (enc : TypeId × Value → H) :
    ReturnsInHanded {} Tryz.checked os 4 .any (Rows.joinTruthSpec.pre6 enc Tryz.prog Tryz.f4 Rows.joinTruthRow.domain false) (Rows.joinTruthSpec.post enc Tryz.prog Tryz.f4 false true false false) := by
  refine returnsInHanded_of_change (C := Tryz.checked) own started (by kernel_rfl) Tryz.func4
    (ChangeSpec.witness6 (enc := enc) (C := Tryz.checked) false ⟨#[], #[.agg #[.int .i64 0, .int .i64 0, .slice none 0 0, .slice none 0 0, .slice none 0 0, .slice none 0 0, .slice none 0 0, .int .i64 0, .int .i64 0, .slice none 0 0], .slice none 0 0, .slice none 0 0, .int .u8 0, .int .u8 0], []⟩ 8 (by kernel_rfl) (by kernel_rfl) (by kernel_rfl) (by kernel_rfl)) ?_
  intro W base args ds gs before hval0 hW hcnd _
  have hval : ∀ (j : Nat) t v, Tryz.f4.params[j]? = some t → args[j]? = some v → Value.okWide Tryz.prog W .any base t v := hval0
  have hW' := hW
  obtain ⟨p, q, hA0, hV, rfl, hfz, hnd⟩ := hW
  have hA : DataW.TrodAll enc Tryz.prog W 0 (fun _ => true) true Tryz.f4.params.toList args.toList ds p := hA0
  rw [Tryz.params4] at hA hval
  obtain ⟨v0, vs0, d0, ds0, p0, q0, hargs, rfl, rfl, h0, rr0⟩ := trodAll_cons hA
  obtain ⟨v1, vs1, d1, ds1, p1, q1, rfl, rfl, rfl, h1, rr1⟩ := trodAll_cons rr0
  obtain ⟨v2, vs2, d2, ds2, p2, q2, rfl, rfl, rfl, h2, rr2⟩ := trodAll_cons rr1
  obtain ⟨v3, vs3, d3, ds3, p3, q3, rfl, rfl, rfl, h3, rr3⟩ := trodAll_cons rr2
  obtain ⟨v4, vs4, d4, ds4, p4, q4, rfl, rfl, rfl, h4, rr4⟩ := trodAll_cons rr3
  obtain ⟨rfl, rfl, rfl⟩ := trodAll_nil rr4
  obtain rfl : args = #[v0, v1, v2, v3, v4] := by cases args; simp_all
  obtain ⟨rfl, rfl⟩ := trodVars_none hV
  have k0 := h0
  have lt0 : ∀ x ∈ p0, x.block < W.heap.size := by obtain ⟨m, hm⟩ := k0; exact DataW.trod_lt m _ _ _ hm
  obtain ⟨x0, s0, g0⟩ := openS (ks := shDay) 8 Tryz.underlying37 (by kernel_rfl) (hval 0 37 v0 rfl rfl) h0
  obtain ⟨l0, r0⟩ := rep_Day s0 g0
  have k1 := h1
  have lt1 : ∀ x ∈ p1, x.block < W.heap.size := by obtain ⟨m, hm⟩ := k1; exact DataW.trod_lt m _ _ _ hm
  obtain ⟨x1, s1, g1⟩ := openL (ks := [shI 2]) 6 Tryz.underlying55 (by kernel_rfl) (hval 1 55 v1 rfl rfl) h1
  obtain ⟨l1, r1⟩ := rep_lP s1 g1
  have k2 := h2
  have lt2 : ∀ x ∈ p2, x.block < W.heap.size := by obtain ⟨m, hm⟩ := k2; exact DataW.trod_lt m _ _ _ hm
  obtain ⟨x2, s2, g2⟩ := openL (ks := [shU8]) 6 Tryz.underlying56 (by kernel_rfl) (hval 2 56 v2 rfl rfl) h2
  obtain ⟨l2, b2, r2⟩ := rep_lU8 s2 g2
  have k3 := h3
  have lt3 : ∀ x ∈ p3, x.block < W.heap.size := by obtain ⟨m, hm⟩ := k3; exact DataW.trod_lt m _ _ _ hm
  obtain ⟨a3, rfl, _, w3⟩ := open_int Tryz.underlying5 (hval 3 5 v3 rfl rfl) h3
  have k4 := h4
  have lt4 : ∀ x ∈ p4, x.block < W.heap.size := by obtain ⟨m, hm⟩ := k4; exact DataW.trod_lt m _ _ _ hm
  obtain ⟨a4, rfl, _, w4⟩ := open_int Tryz.underlying5 (hval 4 5 v4 rfl rfl) h4
  clear hA0 hval0
  refine ((s_JoinTruth l0 l1 l2 a3 (show (0 : Int) ≤ a3 ∧ a3 ≤ 255 from wf_kind w3.2) a4 (show (0 : Int) ≤ a4 ∧ a4 ≤ 255 from wf_kind w4.2) b2).2 W (fun b => b < W.heap.size) _ (fun _ h => h) (.cons r0 (.cons r1 (.cons r2 (.cons rfl (.cons rfl (.nil))))))).mono fun e W' ⟨v, he, ⟨bel, _⟩, hres⟩ => ?_
  have hv : v = .bool true := hres
  subst hv
  subst he
  exact ⟨_, rfl, _, _, _, [], _, [], hW', trodAll_mk1 (shut_bool Tryz.underlying4 _), (trodAll_cons_mk (Below.trod laidOut (by kernel_rfl) (of_decide_eq_true (by kernel_rfl)) k0 bel lt0) (trodAll_cons_mk (Below.trod laidOut (by kernel_rfl) (of_decide_eq_true (by kernel_rfl)) k1 bel lt1) (trodAll_cons_mk (Below.trod laidOut (by kernel_rfl) (of_decide_eq_true (by kernel_rfl)) k2 bel lt2) (trodAll_cons_mk (Below.trod laidOut (by kernel_rfl) (of_decide_eq_true (by kernel_rfl)) k3 bel lt3) (trodAll_cons_mk (Below.trod laidOut (by kernel_rfl) (of_decide_eq_true (by kernel_rfl)) k4 bel lt4) trodAll_mk0))))), rfl, bel.frame _, fun h => by cases h⟩
theorem over : Rows.joinTruthRow.holds Tryz.pinned (OpenSpec.ofChange Rows.joinTruthSpec) :=
  OpenClaim.holds_of_wide 4 Tryz.f4 rfl rfl rfl rfl rfl rfl rfl ⟨rfl, rfl, rfl, rfl, rfl⟩ rfl rfl rfl rfl rfl (by kernel_rfl) Tryz.func4 joinTruthF.closed
    (of_decide_eq_true (by kernel_rfl)) (by unfold Func.isWrapper; first | (rw [if_pos (by decide +kernel)]; kernel_rfl) | (rw [if_neg (by decide +kernel)]; exact ⟨rfl, rfl⟩))
    (fun os started H enc _ => lifted os started H enc)
/-- The statement. -/
theorem proved : Rows.JoinTruthSaid := over
end Go.Proofs.YtcmghlfakcppkaaGreat.joinTruthP
