/-
  The evaluator is sound: codes and functions. For every program.
-/
import Derived.Test.YtlmljmgappiehaaPgP
import Derived.Sort.LoopGhostIn
set_option linter.all false
namespace Go.Pg
open Go.RowKit
theorem stepR_scope {P : Program} {b : Frame} {a : Act} {k : List Item} {cs : List Frame} {w : World} {c : Code} : step P (lone (b.atR a (.code (.scope c) :: k)) cs w) = .next (lone (b.atR a (.code c :: .inScope c :: k)) cs w) :=
  step_lone_go (by simp [stepG, stepG.exec, Frame.atR])
theorem stepR_inScope {P : Program} {b : Frame} {a : Act} {k : List Item} {cs : List Frame} {w : World} {c : Code} : step P (lone (b.atR a (.inScope c :: k)) cs w) = .next (lone (b.atR a k) cs w) :=
  step_lone_go (by simp [stepG, stepG.exec, Frame.atR])
/-- A scope through which no jump goes. -/
theorem wpIn_scope {F : Fence} {n : Nat} {P : Program} {c : Code} {Q : Exit → Act → World → Prop} {a : Act} {w : World} (h : c.wpIn F n P (fun e a w => match e with | .goto _ => False | e => Q e a w) a w) : (Code.scope c).wpIn F n P Q a w := by
  intro b k cs hro hb hr
  have h0 : (lone (b.atR a (.code (.scope c) :: k)) cs w).fenced P F := fenced_calm hb hr rfl
  obtain ⟨e, a₁, w₁, hq, harr⟩ := h b (.inScope c :: k) cs hro hb hr
  cases e with
  | normal => exact ⟨.normal, a₁, w₁, hq, .head h0 stepR_scope (StepsIn.trans harr (.one (fenced_calm hb hr rfl) stepR_inScope))⟩
  | exit id =>
    have hx : exitTo id (.inScope c :: k) = exitTo id k := by simp [exitTo]
    exact ⟨_, a₁, w₁, hq, fun k' hk => .head h0 stepR_scope (harr.1 k' (by rw [hx]; exact hk)),
      fun hr' hk => let ⟨k₁, h1, h2⟩ := harr.2 hr' (by rw [hx]; exact hk); ⟨k₁, h1, .head h0 stepR_scope h2⟩⟩
  | goto l => exact hq.elim
  | ret => exact ⟨_, a₁, w₁, hq, .of_steps (.one h0 stepR_scope) harr⟩
  | panic ch => exact ⟨_, a₁, w₁, hq, .of_steps (.one h0 stepR_scope) harr⟩
  | outgrown => exact ⟨_, a₁, w₁, hq, .of_steps (.one h0 stepR_scope) harr⟩
section
variable {P : Program} {T : TT} {E : Env} {cx : Cx} {F : Fence} {n : Nat}
variable (hT : ∀ t i, T t = some i → TI.of P t = some i) (hE : ∀ t, E.eq t = true → EqFact P t)
include hT hE
variable {Fm : Cx → Prop} {N : Nat} (hNf : ∀ cx, Fm cx → cx.N = N) (hD : ∀ cx, Fm cx → cx.dr = true → E.dr = true) (hY : YLaw Fm P E) (hFw : FW F) (hIt : ∀ cx, Fm cx → cx.nod = true → E.it = true)
include hNf hD hY hFw hIt

theorem awp_ok (hF : ∀ cx, Fm cx → FWc cx F) (hm : P.follows .mixedOrders = true) : ∀ (c : Code), codeN N c = true → ∀ {K : KK} {Q : Exit → Act → World → Prop} {s : St} {a : Act} {w : World},
    (∀ e s a w, RF Fm s a w → K e s → Q e a w) → RF Fm s a w → awp P T E c s K → c.wpIn F n P Q a w
  | .skip, _, _, _, _, _, _, hQ, h, hl => wpIn_skip (hQ _ _ _ _ h hl)
  | .region id ops draw, hN, K, Q, s, a, w, hQ, h, hl => by
    cases draw with
    | false => exact region_ok hT hE hNf hD hY hFw hN (hQ .normal) h hl
    | true => obtain ⟨ord, h1, ⟨ids, h2⟩⟩ := hl; obtain ⟨cx, hcx, h⟩ := h; exact draw_ok hT hE (hD cx hcx) (hF cx hcx).fw hm (by rw [hNf cx hcx]; exact hN) (fun s a w h hk => hQ .normal s a w ⟨cx, hcx, h⟩ hk) (R.freezes ids h) h1 h2
  | .seq x y, hN, K, Q, s, a, w, hQ, h, hl => by
    simp only [codeN, Bool.and_eq_true] at hN
    refine wpIn_seq (awp_ok hF hm x hN.1 (K := fun e s' => match e with | .normal => awp P T E y s' K | e => K e s') (fun e s a w hR hk => ?_) h hl)
    cases e with
    | normal => exact awp_ok hF hm y hN.2 hQ hR hk
    | _ => exact hQ _ _ _ _ hR hk
  | .cond c x y, hN, K, Q, s, a, w, hQ, h, hl => by
    simp only [codeN, Bool.and_eq_true] at hN
    simp only [awp_cond] at hl
    cases hv : ev s c with
    | d q =>
      cases q with
      | bool b =>
        simp only [hv] at hl
        have hs := Split.out hl
        obtain ⟨cx, hcx, γ, hg⟩ := h
        have hm' := (ev_m hg c).1
        rw [hv] at hm'
        have he : a.eval c = .bool b := hm'
        refine wpIn_cond he ?_
        cases b with
        | true => exact awp_ok hF hm x hN.1 hQ ⟨cx, hcx, γ, hg⟩ hs
        | false => exact awp_ok hF hm y hN.2 hQ ⟨cx, hcx, γ, hg⟩ hs
      | _ => simp [hv] at hl
    | _ => simp [hv] at hl
  | .block id c, hN, K, Q, s, a, w, hQ, h, hl => by
    refine wpIn_block (awp_ok hF hm c hN (K := fun e s' => match e with
      | .exit j => match Nat.beq j id with
        | true => K .normal s'
        | false => K (.exit j) s'
      | e => K e s') (fun e s a w hR hk => ?_) h hl)
    cases e with
    | exit j =>
      simp only at hk
      cases hb : Nat.beq j id with
      | true =>
        have := Nat.eq_of_beq_eq_true hb
        subst this
        simp only [hb] at hk
        simp only [Exit.inBlock, if_true]
        exact hQ _ _ _ _ hR hk
      | false =>
        have : j ≠ id := Nat.ne_of_beq_eq_false hb
        simp only [hb] at hk
        simp only [Exit.inBlock, this, if_false]
        exact hQ _ _ _ _ hR hk
    | _ => exact hQ _ _ _ _ hR hk
  | .loop c, hN, K, Q, s, a, w, hQ, h, hl => by
    have hl' : LoopOb (fun s K => awp P T E c s K) s K := hl
    simp only [LoopOb_iff] at hl'
    obtain ⟨σ, S, Inv, μ, x0, hw, hi, hr⟩ := hl'
    refine wpIn_loop_ghost (fun m a w => ∃ x, Inv x ∧ μ x = m ∧ RF Fm (St.of (S x).1 (S x).2) a w) (μ x0) ⟨x0, hi, rfl, by obtain ⟨cx, hcx, h⟩ := h; exact ⟨cx, hcx, h.weak hw⟩⟩ fun m a w ⟨x, hx, hm', hR⟩ => ?_
    refine awp_ok hF hm c hN (K := fun e s' => match e with
      | .normal => ∃ x', Weak s' (S x').1 (S x').2 ∧ Inv x' ∧ μ x' < μ x
      | e => K e s') (fun e s a w hR hk => ?_) hR (hr x hx)
    cases e with
    | normal =>
      obtain ⟨x', h1, h2, h3⟩ := hk
      exact ⟨μ x', hm' ▸ h3, x', h2, rfl, by obtain ⟨cx, hcx, hR⟩ := hR; exact ⟨cx, hcx, hR.weak h1⟩⟩
    | _ => exact hQ _ _ _ _ hR hk
  | .exit id, _, _, _, _, _, _, hQ, h, hl => wpIn_exit (hQ _ _ _ _ h hl)
  | .ret, _, _, _, _, _, _, hQ, h, hl => wpIn_ret (hQ _ _ _ _ h hl)
  | .label l, _, _, _, _, _, _, hQ, h, hl => wpIn_label (hQ _ _ _ _ h hl)
  | .rangeFunc f ps as body, hN, K, Q, s, a, w, hQ, h, hl => by
    have hl' : CodeOb E.dr E.it P (.rangeFunc f ps as body) s K := hl
    simp only [CodeOb_iff] at hl'
    obtain ⟨cx, hcx, h⟩ := h
    exact wpIn_mono (hl' cx F n a w (hD cx hcx) (hIt cx hcx) (hF cx hcx) (by rw [hNf cx hcx]; exact hN) h) fun e a w ⟨s', h1, h2⟩ => hQ _ _ _ _ ⟨cx, hcx, h1⟩ h2
  | .scope c, hN, K, Q, s, a, w, hQ, h, hl => by
    refine wpIn_scope (awp_ok hF hm c hN (K := fun e s' => match e with
      | .goto _ => False
      | e => K e s') (fun e s a w hR hk => ?_) h hl)
    cases e with
    | goto l => exact hk.elim
    | _ => exact hQ _ _ _ _ hR hk
  | .goto l, hN, K, Q, s, a, w, hQ, h, hl => by
    have hl' : CodeOb E.dr E.it P (.goto l) s K := hl
    simp only [CodeOb_iff] at hl'
    obtain ⟨cx, hcx, h⟩ := h
    exact wpIn_mono (hl' cx F n a w (hD cx hcx) (hIt cx hcx) (hF cx hcx) (by rw [hNf cx hcx]; exact hN) h) fun e a w ⟨s', h1, h2⟩ => hQ _ _ _ _ ⟨cx, hcx, h1⟩ h2
  | .refuse _, _, _, _, _, _, _, _, _, hl => hl.elim
end

/-! ### Functions -/
def okEnd (cx : Cx) (w : World) (b : Nat) : Prop := cx.okA b ∨ (cx.O b ∧ b < w.heap.size)
/-- The frame of a function of its own, to which nothing was lent. -/
def cx0 (d : Bool) (w : World) (ok : Nat → Prop) (N : Nat) : Cx := ⟨w, ok, N, fun _ => False, fun _ _ => False, 0, d, none, false⟩
theorem bel0 {d : Bool} {w w' : World} {ok : Nat → Prop} {N : Nat} (h : Bel (cx0 d w ok N) w') : Below w.heap.size w w' := ⟨h.os, h.tape, h.output, h.size, fun k hk => h.block k hk id⟩
theorem okEnd0 {d : Bool} {w w' : World} {ok : Nat → Prop} {N b : Nat} (h : okEnd (cx0 d w ok N) w' b) : ok b ∨ (w.heap.size ≤ b ∧ b < w'.heap.size) := h.imp id fun ⟨h1, h2⟩ => ⟨h1.elim id False.elim, h2⟩
theorem RG.defs {cx : Cx} {γ : Nat → Value} {s : St} {a : Act} {w : World} (h : RG cx γ s a w) {ds : List Deferred} (hd : Marks cx w ds) : RG cx γ s { a with defers := ds } w :=
  ⟨hd, h.size, h.okA, h.lent, h.below, h.hold, h.least, h.objs, h.refs, h.sep, h.slots, h.srefs, h.gho, h.ng⟩
theorem marks_inj : ∀ {l m : List Nat}, l.map mark = m.map mark → l = m
  | [], [], _ => rfl
  | x :: l, y :: m, h => by
    simp only [List.map_cons, List.cons.injEq] at h
    have : x = y := by have := h.1; simp only [mark, Deferred.mk.injEq, Target.collected.injEq, and_true] at this; exact this
    rw [this, marks_inj h.2]
  | [], _ :: _, h => by simp at h
  | _ :: _, [], h => by simp at h
theorem R.take {cx : Cx} {s : St} {a : Act} {w : World} (hh : ∀ k o, ¬ cx.hold k o) {D : Nat} {ms : List Nat} (h : R cx s { a with defers := mark D :: ms.map mark } w) :
    w.heap[D]? = some (.deferred (some [])) ∧ R cx s { a with defers := ms.map mark } (w.putObj D (.deferred none)) := by
  obtain ⟨γ, h⟩ := h
  obtain ⟨h0, ms', h1, h2, h3⟩ := h.defers
  have h1' : (D :: ms).map mark = ms'.map mark := h1
  obtain rfl := marks_inj h1'
  have hD := h3 D (by simp)
  refine ⟨hD.2, γ, ?_⟩
  have h4 : RG cx γ s { a with defers := ms.map mark } w := RG.defs (a := { a with defers := mark D :: ms.map mark }) h ⟨(fun e => by cases h0 e), ms, rfl, (List.nodup_cons.1 h2).2, fun E hE => h3 E (by simp [hE])⟩
  refine h4.other (grownBy_putObj' w D _) (fun _ => Nat.le_refl _) hD.2 rfl (fun hm => ?_) (fun p => hh D p) hD.1
  obtain ⟨E, hE, he⟩ := List.mem_map.1 hm
  have : E = D := by simp only [mark, Deferred.mk.injEq, Target.collected.injEq, and_true] at he; exact he
  subst this
  exact (List.nodup_cons.1 h2).1 hE
theorem leaves_ok {cx : Cx} {s : St} {a : Act} {P : Program} {fn : Func} {F : Fence} {n : Nat} {Rp : Ending → World → Prop} (hh : ∀ k o, ¬ cx.hold k o)
    (hQ : ∀ w', R cx s { a with defers := [] } w' → ∃ v, (results fn a.tmps).run P w' = .ok v w' ∧ Rp (.returned v) w') : ∀ (ms : List Nat) (w : World), R cx s { a with defers := ms.map mark } w → LeavesInM F n P fn a.tmps Rp (ms.map mark) .returning w
  | [], w, h => hQ w h
  | D :: ms, w, h => by
    obtain ⟨h1, h2⟩ := R.take hh h
    exact ⟨by simp, .inl ⟨D, _, rfl, run_takeDeferred h1, leaves_ok hh hQ ms _ h2⟩⟩
theorem leaves_R {cx : Cx} {s : St} {a : Act} {w : World} {P : Program} {fn : Func} {F : Fence} {n : Nat} {Rp : Ending → World → Prop} (hh : ∀ k o, ¬ cx.hold k o) (h : R cx s a w)
    (hQ : ∀ w', R cx s { a with defers := [] } w' → ∃ v, (results fn a.tmps).run P w' = .ok v w' ∧ Rp (.returned v) w') : LeavesInM F n P fn a.tmps Rp a.defers .returning w := by
  obtain ⟨γ, h'⟩ := id h
  obtain ⟨_, ms, h1, _⟩ := h'.defers
  rw [h1]
  refine leaves_ok hh hQ ms w ?_
  rw [← h1]; exact h
theorem okOf_end {cx : Cx} {s : St} {γ : Nat → Value} {w : World} {b : Nat} (h : okOf cx s γ w b) : okEnd cx w b := h.imp id fun h => ⟨h.1, h.2.1⟩
theorem avOf_refs (x : V1) : (avOf x).refs = [] := by
  cases x with
  | d y => cases y <;> rfl
  | agg xs => rfl
theorem m_avOf {w : World} {ok : Nat → Prop} {γ : Nat → Value} {x : V1} {v : Value} : M w ok γ (avOf x) v ↔ Rep1 w ok x v := by
  cases x with
  | d y => cases y <;> exact Iff.rfl
  | agg xs => exact Iff.rfl
theorem rep1_mono {w : World} {ok ok' : Nat → Prop} {x : V1} {v : Value} (hk : ∀ b, ok b → ok' b) (h : Rep1 w ok x v) : Rep1 w ok' x v := by
  cases x with
  | d x => exact Rep.keep (fun b hb => ⟨hk b hb, rfl⟩) h
  | agg xs => obtain ⟨vs, h1, h2⟩ := h; exact ⟨vs, h1, h2.imp fun _ _ _ => Rep.keep fun b hb => ⟨hk b hb, rfl⟩⟩
def avRes : V1 → AV
  | .d x => .d x
  | .agg xs => .agg xs
theorem avRes_refs (x : V1) : (avRes x).refs = [] := by cases x <;> rfl
theorem m_avRes {w : World} {ok : Nat → Prop} {γ : Nat → Value} {x : V1} {v : Value} : M w ok γ (avRes x) v ↔ Rep1 w ok x v := by cases x <;> exact Iff.rfl
theorem avle_of_ret {s : St} {v : AV} {x : V1} (h : RetAV s v x) : AVle s (fun _ => none) v (avRes x) := by
  cases x with
  | agg ys => cases v <;> first | exact h | exact h.elim
  | d y => cases v <;> cases y <;> first | exact h | exact h.elim | exact ⟨rfl, h⟩
theorem ret_one {cx : Cx} {s : St} {a : Act} {w : World} (h : R cx s a w) {t : Nat} {x : V1} (hr : RetAV s (s.sl t) x) : Rep1 w (okEnd cx w) x (a.tmps.getD t undef) := by
  obtain ⟨γ, h⟩ := h
  obtain ⟨γ', h'⟩ := h.weak (s' := ⟨upd (fun _ => .any) t (avRes x), fun _ => none⟩) (fun u => by
      show AVle s _ (s.sl u) (upd (fun _ => AV.any) t (avRes x) u)
      rw [upd_eq]
      by_cases hu : u = t
      · subst hu; rw [if_pos rfl]; exact avle_of_ret hr
      · rw [if_neg hu]; cases s.sl u <;> exact trivial) (fun i o h => by cases h) (fun u j hj => by
      rw [show (St.sl ⟨upd (fun _ => AV.any) t (avRes x), fun _ => none⟩ u) = upd (fun _ => AV.any) t (avRes x) u from rfl, upd_eq] at hj
      by_cases hu : u = t
      · rw [if_pos hu, avRes_refs] at hj; cases hj
      · rw [if_neg hu] at hj; cases hj) (fun i cs h => by cases h)
  have := h'.slots t
  rw [show (St.sl ⟨upd (fun _ => AV.any) t (avRes x), fun _ => none⟩ t) = upd (fun _ => AV.any) t (avRes x) t from rfl, upd_eq, if_pos rfl] at this
  exact rep1_mono (fun _ => okOf_end) (m_avRes.1 this)

theorem ret_cell {cx : Cx} {s : St} {a : Act} {w : World} {P : Program} {T : TT} (hT : ∀ t i, T t = some i → TI.of P t = some i) (h : R cx s a w) {t u : Nat} {x : V1} (hr : RetCell T s t (s.sl u) x) :
    ∃ v, (do loadVar t (← asAddr (a.tmps.getD u undef))).run P w = .ok v w ∧ Rep1 w (okEnd cx w) x v := by
  obtain ⟨γ, h⟩ := h
  unfold RetCell at hr
  cases hv : s.sl u with
  | box i off =>
    cases off with
    | succ n => simp [hv] at hr
    | zero =>
    cases ht : T t with
    | none => simp [hv, ht] at hr
    | some ti =>
      cases ho : s.ob i with
      | none => simp [hv, ht, ho] at hr
      | some o =>
        cases o with
        | row e k n f => simp [hv, ht, ho] at hr
        | box cs =>
          simp only [hv, ht, ho] at hr
          obtain ⟨h1, h2, h3⟩ := hr
          have h1 := Nat.eq_of_beq_eq_true h1
          have hm := h.slots u
          rw [hv] at hm
          have hld : ∀ K, loadE s ti (.box i 0) K → Yd P cx γ s w (Instr.loadAt t (a.tmps.getD u undef)) K := fun K hk => loadE_sound h (hT t ti ht) hm hk
          have key : ∀ (y : AV), loadE s ti (.box i 0) (fun z => z = y) → (∀ v, M w (okOf cx s γ w) γ y v → Rep1 w (okEnd cx w) x v) → ∃ v, (do loadVar t (← asAddr (a.tmps.getD u undef))).run P w = .ok v w ∧ Rep1 w (okEnd cx w) x v := fun y hk hrep => by
            obtain ⟨z, v, g1, g2, _, rfl⟩ := hld _ hk
            obtain ⟨b, hb, hx⟩ := id hm
            refine ⟨v, ?_, hrep v g2⟩
            rw [hx] at g1 ⊢
            have g3 : (loadVar t ⟨b, 0, none⟩).run P w = .ok v w := by simpa [Instr.loadAt, Instr.sureAddr] using g1
            simpa [asAddr] using g3
          cases ha : ti.agg with
          | true =>
            cases x with
            | d y => simp [ha] at h2
            | agg ys =>
              have h3' : match allD cs with | some xs => eqvs xs ys | none => False := by
                rcases cs with _ | ⟨c, _ | ⟨c', r⟩⟩ <;> first | exact h3 | (cases c <;> exact h3)
              cases hal : allD cs with
              | none => simp [hal] at h3'
              | some xs =>
                simp only [hal] at h3'
                have hlen : xs.length = ti.size := by rw [allD_len hal, h1]
                refine key (.agg xs) ?_ fun v ⟨vs, e1, e2⟩ => ⟨vs, e1, eqvs_all2 h3' (e2.imp fun _ _ _ => Rep.keep fun b hb => ⟨okOf_end hb, rfl⟩)⟩
                simp only [loadE, AV.asPtr, loadP, ho, ha, List.drop_zero]
                rw [← h1, List.take_length]
                simp only [hal]
                rw [hlen, ← h1]; simp
          | false =>
            cases x with
            | agg ys => simp [ha] at h2
            | d y =>
              match cs, h3 with
              | [.d q], h3 =>
                refine key (.d q) ?_ fun v hr => (Rep.keep (fun b hb => ⟨okOf_end hb, rfl⟩) hr).eqv h3
                simp [loadE, AV.asPtr, loadP, ho, ha, nth]
  | _ => simp [hv] at hr
theorem ret_all {cx : Cx} {s : St} {a : Act} {w : World} {P : Program} {T : TT} (hT : ∀ t i, T t = some i → TI.of P t = some i) (h : R cx s a w) : ∀ {rs : List ResultVar} {res : List V1}, RetAll T s rs res →
    ∃ vs : List Value, (rs.mapM (m := Sem) fun | .tmp t => pure (a.tmps.getD t undef) | .cell x t => do loadVar t (← asAddr (a.tmps.getD x undef))).run P w = .ok vs w ∧ All2 (Rep1 w (okEnd cx w)) res vs
  | [], [], _ => ⟨[], by simp, .nil⟩
  | .tmp t :: r, x :: xs, hr => by
    obtain ⟨vs, h1, h2⟩ := ret_all (P := P) hT h hr.2
    refine ⟨a.tmps.getD t undef :: vs, ?_, .cons (ret_one h hr.1) h2⟩
    rw [List.mapM_cons]
    simp only [pure_bind, Sem.run_bind, h1, Result.andThen_ok, Sem.run_pure]
  | .cell u t :: r, x :: xs, hr => by
    obtain ⟨vs, h1, h2⟩ := ret_all (P := P) hT h hr.2
    obtain ⟨v, h3, h4⟩ := ret_cell (P := P) hT h hr.1
    refine ⟨v :: vs, ?_, .cons h4 h2⟩
    rw [List.mapM_cons]
    simp only [Sem.run_bind] at h3 ⊢
    rw [h3]
    simp only [h1, Result.andThen_ok, Sem.run_pure]
  | .tmp _ :: _, [], hr => by simp [RetAll] at hr
  | .cell .. :: _, [], hr => by simp [RetAll] at hr
  | [], _ :: _, hr => by simp [RetAll] at hr
def packR : List Value → Value
  | [x] => x
  | l => .tuple l.toArray
theorem run_results {P : Program} {fn : Func} {a : Act} {w : World} {vs : List Value}
    (h : (fn.results.toList.mapM (m := Sem) fun | .tmp t => pure (a.tmps.getD t undef) | .cell x t => do loadVar t (← asAddr (a.tmps.getD x undef))).run P w = .ok vs w) :
    (results fn a.tmps).run P w = .ok (packR vs) w := by
  unfold results
  rw [Array.mapM_eq_mapM_toList]
  simp only [Sem.run_bind, map_eq_pure_bind, Sem.run_pure]
  refine (congrArg (fun r => (Result.andThen r _).andThen _) h).trans ?_
  rcases vs with _ | ⟨x, _ | ⟨y, r⟩⟩ <;> simp [packR]
theorem results_ok {cx : Cx} {s : St} {a : Act} {w : World} {P : Program} {T : TT} (hT : ∀ t i, T t = some i → TI.of P t = some i) {fn : Func} {res : List V1} (h : R cx s a w) (hr : RetAll T s fn.results.toList res) :
    ∃ v, (results fn a.tmps).run P w = .ok v w ∧ ResRep w (okEnd cx w) res v := by
  obtain ⟨vs, h1, h2⟩ := ret_all (P := P) hT h hr
  refine ⟨_, run_results h1, ?_⟩
  match res, vs, h2 with
  | [], [], _ => exact ⟨[], rfl, .nil⟩
  | [x], [v], .cons h _ => exact h
  | x :: y :: r, v :: u :: q, h2 => exact ⟨_, rfl, h2⟩

theorem argSlots_m {w : World} {ok : Nat → Prop} : ∀ (args : List V1) (vs : List Value) (i t : Nat), All2 (Rep1 w ok) args vs → ∀ x, look (argSlots i args) t = some x → ∃ j u y, t = i + j ∧ vs[j]? = some u ∧ x = avOf y ∧ Rep1 w ok y u := by
  intro args
  induction args with
  | nil => intro vs i t _ x hx; cases hx
  | cons y r ih =>
    intro vs i t h2 x hx
    cases h2 with
    | cons h1 h2 =>
      simp only [argSlots, look] at hx
      cases hb : Nat.beq t i with
      | true => rw [hb] at hx; cases hx; exact ⟨0, _, _, by simpa using Nat.eq_of_beq_eq_true hb, rfl, rfl, h1⟩
      | false =>
        rw [hb] at hx
        obtain ⟨j, u, z, g1, g2, g3, g4⟩ := ih _ (i + 1) t h2 x hx
        exact ⟨j + 1, u, z, by omega, by simpa using g2, g3, g4⟩
theorem frame_get {vs : List Value} {N j : Nat} {u : Value} (h : vs[j]? = some u) : (vs.toArray ++ Array.replicate (N - vs.toArray.size) undef).getD j undef = u := by
  have : j < vs.length := (List.getElem?_eq_some_iff.1 h).1
  rw [Array.getD_eq_getD_getElem?, Array.getElem?_append_left (by simp; omega)]
  simp [h]
theorem r_start {d : Bool} {args : List V1} {vs : List Value} {w : World} {ok : Nat → Prop} {N : Nat} (hok : ∀ b, ok b → b < w.heap.size) (h : All2 (Rep1 w ok) args vs) (hsz : args.length ≤ N) (hng : N ≤ G) :
    R (cx0 d w ok N) (St.of (argSlots 0 args) []) { tmps := vs.toArray ++ Array.replicate (N - vs.toArray.size) undef, defers := [] } w := by
  refine ⟨fun _ => undef, ?_⟩
  have hl := h.length
  exact { defers := ⟨fun _ => rfl, [], rfl, List.nodup_nil, fun D hD => by cases hD⟩
          size := by simp [cx0]; omega
          okA := fun b hb => ⟨hok b hb, id⟩
          lent := fun b hb => hb.elim
          below := ⟨rfl, rfl, rfl, fun _ => Nat.le_refl _, Nat.le_refl _, fun _ _ _ => rfl⟩
          hold := fun k o hk => hk.elim
          least := Nat.zero_le _
          objs := fun i o hi => by cases hi
          refs := fun i cs hi => by cases hi
          sep := fun i j o o' hi => by cases hi
          slots := fun t => by
            show M w _ _ ((look (argSlots 0 args) t).getD .any) _
            cases hx : look (argSlots 0 args) t with
            | none => exact trivial
            | some x =>
              obtain ⟨j, u, y, g1, g2, g3, g4⟩ := argSlots_m args vs 0 t h x hx
              obtain rfl : t = j := by omega
              rw [frame_get g2]
              subst g3
              exact m_avOf.2 (rep1_mono (fun b hb => .inl hb) g4)
          ng := hng
          gho := fun m hm => by
            have hm' : (look (argSlots 0 args) G).getD .any = .gho m := hm
            cases hx : look (argSlots 0 args) G with
            | none => rw [hx] at hm'; cases hm'
            | some x =>
              obtain ⟨_, u, y, g1, g2, g3, g4⟩ := argSlots_m args vs 0 G h x hx
              rw [hx] at hm'
              subst g3
              cases y with
              | d z => cases z <;> cases hm'
              | agg z => cases hm'
          srefs := fun t j hj => by
            have hj' : j ∈ ((look (argSlots 0 args) t).getD .any).refs := hj
            cases hx : look (argSlots 0 args) t with
            | none => rw [hx] at hj'; cases hj'
            | some x =>
              obtain ⟨_, u, y, g1, g2, g3, g4⟩ := argSlots_m args vs 0 t h x hx
              rw [hx] at hj'
              subst g3
              rw [show (Option.some (avOf y)).getD .any = avOf y from rfl, avOf_refs] at hj'
              cases hj' }

theorem resRep_mono {w : World} {ok ok' : Nat → Prop} {res : List V1} {v : Value} (hk : ∀ b, ok b → ok' b) (h : ResRep w ok res v) : ResRep w ok' res v := by
  have : ∀ {l : List V1} {vs : List Value}, All2 (Rep1 w ok) l vs → All2 (Rep1 w ok') l vs := fun h => h.imp fun _ _ _ => rep1_mono hk
  match res, h with
  | [], ⟨vs, h1, h2⟩ => exact ⟨vs, h1, this h2⟩
  | [x], h => exact rep1_mono hk h
  | x :: y :: r, ⟨vs, h1, h2⟩ => exact ⟨vs, h1, this h2⟩
section
variable {P : Program} {T : TT} {E : Env}
/-- A function's contract out of its body: what is so behind the body, once its marks are taken. -/
theorem fn_of (hT : ∀ t i, T t = some i → TI.of P t = some i) (hE : ∀ t, E.eq t = true → EqFact P t) (hm : P.follows .mixedOrders = true)
    {f : FuncId} {fn : Func} {c : Code} (hf : P.funcs[f]? = some fn) (hb : fn.body = some c) (hN : codeN fn.ntmps c = true)
    {vs : List Value} {w : World} {cx : Cx} (hD : cx.dr = true → E.dr = true) (hcx : cx.N = fn.ntmps) (hgn : cx.gn = none) (hnod : cx.nod = false) (hh : ∀ k o, ¬ cx.hold k o) {s0 : St} (h0 : R cx s0 { tmps := vs.toArray ++ Array.replicate (fn.ntmps - vs.toArray.size) undef, defers := [] } w) {K : KK} (h : awp P T E c s0 K)
    {Rp : Ending → World → Prop} (hK : ∀ x, x ≠ .normal → x ≠ .ret → ∀ s, ¬ K x s)
    (hQ : ∀ x s a w', (x = .normal ∨ x = .ret) → K x s → R cx s a w' → a.defers = [] → ∃ v, (results fn a.tmps).run P w' = .ok v w' ∧ Rp (.returned v) w') : Calls P f vs.toArray w Rp := by
  refine callsIn_wide.1 (callsIn_of_wp_marks (F := Fence.wide) (n := 0) hf hb trivial ?_)
  refine awp_ok (Fm := (· = cx)) (N := cx.N) hT hE (fun c hc => by rw [hc]) (fun c hc => by rw [hc]; exact hD) (YLaw.none hgn) (.inl rfl) (fun c hc h => by rw [hc, hnod] at h; cases h) (fun c hc => .inl rfl) hm c (by rw [hcx]; exact hN) (fun x s a w' hR hk => ?_) ⟨cx, rfl, h0⟩ h
  obtain ⟨_, rfl, hR⟩ := hR
  cases x with
  | normal => exact leaves_R hh hR fun w' h' => hQ .normal s { a with defers := [] } w' (.inl rfl) hk h' rfl
  | ret => exact leaves_R hh hR fun w' h' => hQ .ret s { a with defers := [] } w' (.inr rfl) hk h' rfl
  | exit id => exact absurd hk (hK _ (by simp) (by simp) s)
  | goto l => exact absurd hk (hK _ (by simp) (by simp) s)
  | panic ch => exact absurd hk (hK _ (by simp) (by simp) s)
  | outgrown => exact absurd hk (hK _ (by simp) (by simp) s)
theorem retK_only {rs : List ResultVar} {res : List V1} : ∀ x, x ≠ .normal → x ≠ .ret → ∀ s, ¬ retK T rs res x s := fun x h1 h2 s h => by
  cases x <;> first | exact h1 rfl | exact h2 rfl | exact h
theorem retK_all {rs : List ResultVar} {res : List V1} {x : Exit} {s : St} (hx : x = .normal ∨ x = .ret) (h : retK T rs res x s) : RetAll T s rs res := by
  rcases hx with rfl | rfl <;> exact h
/-- What the evaluator finds of a function's body is the function's contract. -/
theorem spec_of (hT : ∀ t i, T t = some i → TI.of P t = some i) (hE : ∀ t, E.eq t = true → EqFact P t) (hm : P.follows .mixedOrders = true)
    {f : FuncId} {fn : Func} {c : Code} (hf : P.funcs[f]? = some fn) (hb : fn.body = some c) (hn : (fn.name == "runtime.NumGoroutine") = false) (hN : codeN fn.ntmps c = true)
    {args res : List V1} (hsz : args.length ≤ fn.ntmps) (hng : fn.ntmps ≤ G) (h : awp P T E c (St.of (argSlots 0 args) []) (retK T fn.results.toList res)) : SpecG E.dr P f args res :=
  ⟨⟨fn, hf, hn, by rw [hb]; rfl⟩, fun w ok vs hok hr => fn_of hT hE hm hf hb hN (cx := cx0 E.dr w ok fn.ntmps) id rfl rfl rfl (fun _ _ => id) (r_start hok hr hsz hng) h retK_only fun x s a w' hx hk hR _ => by
    obtain ⟨v, h1, h2⟩ := results_ok (P := P) hT (fn := fn) hR (retK_all hx hk)
    obtain ⟨γ, hg⟩ := hR
    exact ⟨v, h1, v, rfl, ⟨bel0 hg.below, hg.below.drawn⟩, resRep_mono (fun b => okEnd0) h2⟩⟩
theorem retKO_only {rs : List ResultVar} {e k n : Nat} {g : Nat → Nat → D} : ∀ x, x ≠ .normal → x ≠ .ret → ∀ s, ¬ retKO rs e k n g x s := fun x h1 h2 s h => by
  cases x <;> first | exact h1 rfl | exact h2 rfl | exact h
/-- The row that is returned. -/
theorem retO_row {rs : List ResultVar} {e k n : Nat} {g : Nat → Nat → D} {x : Exit} {s : St} (hx : x = .normal ∨ x = .ret) (h : retKO rs e k n g x s) :
    ∃ t i f, rs = [.tmp t] ∧ s.sl t = .own i ∧ s.ob i = some (.row e k n f) ∧ ∀ i, i < n → ∀ j, j < k → D.eqv (f i j) (g i j) := by
  have hk : retKO rs e k n g .ret s := by rcases hx with rfl | rfl <;> exact h
  unfold retKO at hk
  match hrs : rs, hk with
  | [.tmp t], hk =>
    simp only at hk
    cases hv : s.sl t with
    | own i =>
      simp only [hv] at hk
      cases ho : s.ob i with
      | none => simp [ho] at hk
      | some o =>
        cases o with
        | box cs => simp [ho] at hk
        | row e' k' n' f' =>
          simp only [ho] at hk
          obtain ⟨rfl, rfl, rfl, hq⟩ := hk
          exact ⟨t, i, f', rfl, hv, ho, hq⟩
    | _ => simp [hv] at hk
  | [], hk => simp at hk
  | .cell .. :: _, hk => simp at hk
  | _ :: _ :: _, hk => simp at hk
theorem specO_of (hT : ∀ t i, T t = some i → TI.of P t = some i) (hE : ∀ t, E.eq t = true → EqFact P t) (hm : P.follows .mixedOrders = true)
    {f : FuncId} {fn : Func} {c : Code} (hf : P.funcs[f]? = some fn) (hb : fn.body = some c) (hn : (fn.name == "runtime.NumGoroutine") = false) (hN : codeN fn.ntmps c = true)
    {args : List V1} {e k n : Nat} {g : Nat → Nat → D} (hsz : args.length ≤ fn.ntmps) (hng : fn.ntmps ≤ G) (h : awp P T E c (St.of (argSlots 0 args) []) (retKO fn.results.toList e k n g)) : SpecOG E.dr P f args e k n g :=
  ⟨⟨fn, hf, hn, by rw [hb]; rfl⟩, fun w ok vs hok hr => fn_of hT hE hm hf hb hN (cx := cx0 E.dr w ok fn.ntmps) id rfl rfl rfl (fun _ _ => id) (r_start hok hr hsz hng) h retKO_only fun x s a w' hx hk hR _ => by
    obtain ⟨γ, hg⟩ := hR
    obtain ⟨t, i, f', hrs, hv, ho, hq⟩ := retO_row hx hk
    obtain ⟨xs, h1, h0, h2, h3⟩ := hg.objs i _ ho
    have hsl := hg.slots t
    rw [hv] at hsl
    have hval : a.tmps.getD t undef = γ i := hsl
    have hrun := run_results (P := P) (fn := fn) (a := a) (w := w') (vs := [γ i]) (by rw [hrs]; simp [← hval])
    have h1' : w'.ownsRow w.heap.size e k (γ i) n xs := ⟨h1.1, by
      rcases h1.2 with h4 | ⟨g', cap, cur, h4, h5, h6⟩
      · exact .inl h4
      · exact .inr ⟨g', cap, cur, h4, (h0 g' (by rw [h4]; rfl)).elim id False.elim, h6⟩⟩
    refine ⟨γ i, hrun, γ i, rfl, ⟨bel0 hg.below, hg.below.drawn⟩, xs, h1', h2, fun m hm j hj => ?_⟩
    obtain ⟨u, hu, hr⟩ := h3 m hm j hj
    exact ⟨u, hu, (Rep.keep (fun b hb => ⟨hb.imp id fun hb => ⟨hb.1.elim id False.elim, hb.2.1, hb.2.2 i _ ho⟩, rfl⟩) hr).eqv (hq m hm j hj)⟩⟩
end
end Go.Pg
