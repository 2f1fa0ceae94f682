/-
  All operations that make and change nothing, calls by contract among them. For every program.
-/
import Derived.Test.YtlmljmgappiehaaPgH
set_option linter.all false
namespace Go.Pg
open Go.RowKit
section
variable {P : Program} {T : TT} {E : Env} {cx : Cx} {γ : Nat → Value} {s : St} {a : Act} {w : World}

theorem run_callFunc' {f : FuncId} (h : Ent P f) (args : Array Value) (w : World) : (callFunc f args).run P w = .ok (.enter f args) w := by
  obtain ⟨fn, h1, h2, h3⟩ := h
  have h2' : fn.name ≠ "runtime.NumGoroutine" := by simpa using h2
  have h3' : ¬ fn.body = none := fun e => by simp [e] at h3
  simp [callFunc, h1, h2', h3']

theorem unE_sound {op : UnOp} {v : AV} {x : Value} (hm : M w (okOf cx s γ w) γ v x) {K : AV → Prop} (hl : unE op v K) : Yd P cx γ s w (Op.unary op x) K := by
  cases v with
  | d p =>
    cases p with
    | int k n =>
      have hx : x = .int k n := hm
      subst hx
      cases op <;> simp only [unE] at hl
      case neg => exact .of (v := .d (.int k (-n))) (x := .int k (-n)) (by simp [Op.unary, Op.intArith]; exact wrap_inR hl.1) rfl (fun j hj => by simp [AV.refs] at hj) hl.2
      case xor => exact .of (v := .d (.int k (k.wrap (BitVec.ofInt k.bits (if k.signed then -1 else k.max) ^^^ BitVec.ofInt k.bits n).toNat))) (x := .int k (k.wrap (BitVec.ofInt k.bits (if k.signed then -1 else k.max) ^^^ BitVec.ofInt k.bits n).toNat)) (by unfold Op.unary Op.intBits; rfl) rfl (fun j hj => by simp [AV.refs] at hj) hl
    | bool b =>
      have hx : x = .bool b := hm
      subst hx
      cases op <;> simp only [unE] at hl
      case not => exact .of (v := .d (.bool (!b))) (x := .bool (!b)) (by simp [Op.unary]) rfl (fun j hj => by simp [AV.refs] at hj) hl
    | _ => cases op <;> simp [unE] at hl
  | _ => cases op <;> simp [unE] at hl

theorem extractE_sound {i : Nat} {v : AV} {x : Value} (hm : M w (okOf cx s γ w) γ v x) {K : AV → Prop} (hl : extractE v i K) : Yd P cx γ s w (Instr.extract x i) K := by
  cases v with
  | tup l =>
    obtain ⟨vs, rfl, h⟩ := hm
    simp only [extractE, nth_eq] at hl
    cases hi : l[i]? with
    | none => simp [hi] at hl
    | some y =>
      obtain ⟨u, hu, hr⟩ := h.get i y hi
      simp only [hi] at hl
      cases y with
      | d y => exact .of (v := .d y) (x := u) (by simp [Instr.extract, hu]) hr (fun j hj => by simp [AV.refs] at hj) hl
      | agg ys => exact .of (v := .agg ys) (x := u) (by simp [Instr.extract, hu]) hr (fun j hj => by simp [AV.refs] at hj) hl
  | _ => simp [extractE] at hl

theorem maxE_sound (mx : Bool) : ∀ {r : List AV} {v : AV} {x : Value} {ys : List Value}, M w (okOf cx s γ w) γ v x → (∀ j ∈ v.refs, (s.ob j).isSome = true) → All2 (M w (okOf cx s γ w) γ) r ys → ∀ {K : AV → Prop}, maxE mx v r K →
    Yd P cx γ s w (ys.foldlM (match mx with | true => Builtin.max2 | false => Builtin.min2) x) K
  | [], v, x, _, hm, hr, .nil, K, hl => ⟨v, x, by simp, hm, hr, by simpa [maxE] using hl⟩
  | u :: r, v, x, y :: ys, hm, hr, .cons h1 h2, K, hl => by
    cases v with
    | d p =>
      cases p with
      | int k n =>
        cases u with
        | d q =>
          cases q with
          | int k' m =>
            have hx : x = .int k n := hm
            have hy : y = .int k' m := h1
            subst hx; subst hy
            simp only [maxE] at hl
            cases mx with
            | true =>
              simp only at hl ⊢
              obtain ⟨v, x, h3, h4⟩ := maxE_sound true (v := .d (.int k (max n m))) (x := .int k (max n m)) rfl (fun j hj => by simp [AV.refs] at hj) h2 hl
              refine ⟨v, x, ?_, h4⟩
              have : (if m > n then m else n) = max n m := by split <;> omega
              simpa [Builtin.max2, this] using h3
            | false =>
              simp only at hl ⊢
              obtain ⟨v, x, h3, h4⟩ := maxE_sound false (v := .d (.int k (min n m))) (x := .int k (min n m)) rfl (fun j hj => by simp [AV.refs] at hj) h2 hl
              refine ⟨v, x, ?_, h4⟩
              have : (if m < n then m else n) = min n m := by split <;> omega
              simpa [Builtin.min2, this] using h3
          | _ => simp [maxE] at hl
        | _ => simp [maxE] at hl
      | _ => cases u <;> simp [maxE] at hl
    | _ => simp [maxE] at hl

theorem evs_m (h : RG cx γ s a w) : ∀ xs : List Operand, All2 (M w (okOf cx s γ w) γ) (xs.map (ev s)) (xs.map a.eval)
  | [] => .nil
  | x :: xs => .cons (ev_m h x).1 (evs_m h xs)

theorem capsOf_m (h : RG cx γ s a w) : ∀ {vs : List AV} {caps : List Cap} {xs : List Value}, capsOf vs = some caps → All2 (M w (okOf cx s γ w) γ) vs xs → (∀ v ∈ vs, ∀ j ∈ v.refs, (s.ob j).isSome = true) → All2 (CapM w (okOf cx s γ w) γ) caps xs ∧ ∀ j ∈ capRefs caps, (s.ob j).isSome = true
  | [], caps, [], hb, .nil, _ => by simp [capsOf] at hb; subst hb; exact ⟨.nil, by simp [capRefs]⟩
  | v :: vs, caps, x :: xs, hb, .cons h1 h2, hr => by
    simp only [capsOf] at hb
    cases hc : capOf v with
    | none => simp [hc] at hb
    | some c =>
      cases hr' : capsOf vs with
      | none => simp [hc, hr'] at hb
      | some l =>
        simp only [hc, hr', Option.some.injEq] at hb
        subst hb
        obtain ⟨h3, h4⟩ := capsOf_m h hr' h2 fun v hv => hr v (by simp [hv])
        have one : CapM w (okOf cx s γ w) γ c x ∧ ∀ j ∈ capRefs [c], j ∈ v.refs := by
          cases v with
          | box i o =>
            cases o with
            | zero =>
              simp only [capOf, Option.some.injEq] at hc; subst hc
              obtain ⟨b, h5, h6⟩ := h1
              exact ⟨h6.trans h5.symm, fun j hj => by simpa [capRefs, AV.refs] using hj⟩
            | succ o => simp [capOf] at hc
          | roe m g => simp only [capOf, Option.some.injEq] at hc; subst hc; exact ⟨h1, fun j hj => by simp [capRefs] at hj⟩
          | d y => simp only [capOf, Option.some.injEq] at hc; subst hc; exact ⟨h1, fun j hj => by simp [capRefs] at hj⟩
          | _ => simp [capOf] at hc
        refine ⟨.cons one.1 h3, fun j hj => ?_⟩
        cases c with
        | own i =>
          simp only [capRefs, List.mem_cons] at hj
          rcases hj with rfl | hj
          · exact hr v (by simp) j (one.2 j (by simp [capRefs]))
          · exact h4 j hj
        | dat y => exact h4 j (by simpa [capRefs] using hj)

/-! ### Calls -/
theorem toV1_m (h : RG cx γ s a w) {v : AV} {y : V1} {x : Value} (hv : toV1 s v = some y) (hm : M w (okOf cx s γ w) γ v x) : Rep1 w (fun b => b < w.heap.size) y x ∧ (v.isOwn = false → Rep1 w (okOf cx s γ w) y x) := by
  have hlt : ∀ b, okOf cx s γ w b → (fun b => b < w.heap.size) b ∧ w.heap[b]? = w.heap[b]? := fun b hb => ⟨okOf_lt h hb, rfl⟩
  have plain : v.isOwn = false → (∀ xs, v ≠ .agg xs) → Rep1 w (fun b => b < w.heap.size) y x ∧ Rep1 w (okOf cx s γ w) y x := fun h1 h2 => by
    have : ∃ z, avD v = some z ∧ y = .d z := by
      cases v <;> simp only [toV1] at hv <;> first
        | (simp [AV.isOwn] at h1; done)
        | exact absurd rfl (h2 _)
        | (split at hv
           · rename_i z hz; exact ⟨z, hz, by simpa using hv.symm⟩
           · cases hv)
    obtain ⟨z, hz, rfl⟩ := this
    have hr := (avD_rep hz hm).1
    exact ⟨Rep.keep hlt hr, hr⟩
  cases v with
  | agg xs => simp only [toV1, Option.some.injEq] at hv; subst hv; exact ⟨Rep1.keep (x := .agg xs) hlt hm, fun _ => hm⟩
  | own i =>
    simp only [toV1] at hv
    cases ho : s.ob i with
    | none => simp [ho] at hv
    | some o =>
      cases o with
      | box cs => simp [ho] at hv
      | row e k n f =>
        simp only [ho, Option.some.injEq] at hv; subst hv
        obtain ⟨xs, h1, _, _, h3⟩ := h.objs i _ ho
        have hx : x = γ i := hm
        rw [hx]
        refine ⟨rep_of_row h1 (fun m hm j hj => ?_) fun b hb => (blk_lt h ho hb).2, fun h => by simp [AV.isOwn] at h⟩
        obtain ⟨u, hu, hr⟩ := h3 m hm j hj
        exact ⟨u, hu, Rep.keep hlt hr⟩
  | _ => exact ⟨(plain rfl (fun _ e => by cases e)).1, fun _ => (plain rfl (fun _ e => by cases e)).2⟩
theorem toV1s_m (h : RG cx γ s a w) : ∀ {vs : List AV} {ys : List V1} {xs : List Value}, toV1s s vs = some ys → All2 (M w (okOf cx s γ w) γ) vs xs →
    All2 (Rep1 w (fun b => b < w.heap.size)) ys xs ∧ (vs.all (fun v => !v.isOwn) = true → All2 (Rep1 w (okOf cx s γ w)) ys xs)
  | [], ys, [], hv, .nil => by simp [toV1s] at hv; subst hv; exact ⟨.nil, fun _ => .nil⟩
  | v :: vs, ys, x :: xs, hv, .cons h1 h2 => by
    simp only [toV1s] at hv
    cases ha : toV1 s v with
    | none => simp [ha] at hv
    | some y =>
      cases hb : toV1s s vs with
      | none => simp [ha, hb] at hv
      | some ys' =>
        simp only [ha, hb, Option.some.injEq] at hv; subst hv
        obtain ⟨h3, h4⟩ := toV1_m h ha h1
        obtain ⟨h5, h6⟩ := toV1s_m h hb h2
        refine ⟨.cons h3 h5, fun hall => ?_⟩
        simp only [List.all_cons, Bool.and_eq_true] at hall
        exact .cons (h4 (by simpa using hall.1)) (h6 hall.2)

theorem Rep.flat {ok ok' : Nat → Prop} {w' : World} {x : D} {v : Value} (hf : x.flat = true) (h : Rep w ok x v) : Rep w' ok' x v := by
  cases x with
  | slc k n f => simp [D.flat] at hf
  | ptr m g => simp [D.flat] at hf
  | clo f m g => simp [D.flat] at hf
  | _ => exact h
theorem Rep1.flat {ok ok' : Nat → Prop} {w' : World} {x : V1} {v : Value} (hf : x.flat = true) (h : Rep1 w ok x v) : Rep1 w' ok' x v := by
  cases x with
  | d x => exact Rep.flat hf h
  | agg xs =>
    obtain ⟨vs, h1, h2⟩ := h
    exact ⟨vs, h1, h2.imp fun x _ hx => Rep.flat (List.all_eq_true.1 hf x hx)⟩
theorem resRep_m {ok ok' : Nat → Prop} {γ : Nat → Value} {w : World} {res : List V1} {v : Value} (hk : (∀ b, ok b → ok' b) ∨ res.all V1.flat = true) (h : ResRep w ok res v) : M w ok' γ (resAV res) v := by
  have conv : ∀ x u, x ∈ res → Rep1 w ok x u → Rep1 w ok' x u := fun x u hx hr => by
    rcases hk with hk | hk
    · exact Rep1.keep (fun b hb => ⟨hk b hb, rfl⟩) hr
    · exact Rep1.flat (List.all_eq_true.1 hk x hx) hr
  match res, h with
  | [], h => obtain ⟨vs, h1, h2⟩ := h; exact ⟨vs, h1, h2.imp conv⟩
  | [.d x], h => exact conv (.d x) v (by simp) h
  | [.agg x], h => exact conv (.agg x) v (by simp) h
  | x :: y :: l, h =>
    obtain ⟨vs, h1, h2⟩ := h
    have : M w ok' γ (.tup (x :: y :: l)) v := ⟨vs, h1, h2.imp conv⟩
    cases x <;> exact this
theorem resAV_refs (res : List V1) : (resAV res).refs = [] := by
  match res with
  | [] => rfl
  | [.d x] => rfl
  | [.agg x] => rfl
  | .d _ :: _ :: _ => rfl
  | .agg _ :: _ :: _ => rfl

/-- What is so behind a call that changed nothing that lay. -/
theorem okOf_new (h : RG cx γ s a w) {w' : World} (hb : Below w.heap.size w w') (b : Nat) (hok : okOf cx s γ w b ∨ (w.heap.size ≤ b ∧ b < w'.heap.size)) : okOf cx s γ w' b := by
  rcases hok with h1 | ⟨h1, h2⟩
  · rcases h1 with h1 | ⟨h1, h2, h3⟩
    · exact .inl h1
    · exact .inr ⟨h1, Nat.lt_of_lt_of_le h2 hb.size, h3⟩
  · refine .inr ⟨.inl (Nat.le_trans h.below.size h1), h2, fun i o ho e => ?_⟩
    have := (blk_lt h ho e).2
    omega

theorem All2.append {α β : Type} {r : α → β → Prop} {xs xs' : List α} {ys ys' : List β} (h : All2 r xs ys) (h' : All2 r xs' ys') : All2 r (xs ++ xs') (ys ++ ys') := by
  induction h with
  | nil => exact h'
  | cons h1 _ ih => exact .cons h1 ih
theorem All2.map_left {α β δ : Type} {r : δ → β → Prop} {g : α → δ} {xs : List α} {ys : List β} (h : All2 (fun x y => r (g x) y) xs ys) : All2 r (xs.map g) ys := by
  induction h with
  | nil => exact .nil
  | cons h1 _ ih => exact .cons h1 ih
theorem callee_m {ok : Nat → Prop} {v : AV} {f : FuncId} {ex : List AV} {x : Value} (h : callee v = some (f, ex)) (hm : M w ok γ v x) : ∃ caps : List Value, x = .func (.func f) #[] caps.toArray ∧ All2 (M w ok γ) ex caps := by
  unfold callee at h
  split at h
  · cases h; exact ⟨[], hm, .nil⟩
  · cases h
    rename_i f' m g
    obtain ⟨vs, h1, h2, h3⟩ := hm
    refine ⟨vs, h1, .map_left (All2.of_get (by simp [h2]) fun j q y hx hy => ?_)⟩
    have hj : j < m := by have := (List.getElem?_eq_some_iff.1 hx).1; simpa using this
    rw [List.getElem?_range hj] at hx
    cases hx
    obtain ⟨u, hu, hr⟩ := h3 j hj
    rw [hy] at hu; cases hu; exact hr
  · rename_i f' caps
    split at h
    · rename_i xs hx
      cases h
      obtain ⟨vs, h1, h2⟩ := hm
      exact ⟨vs, h1, .map_left (capsDat_m hx h2).1⟩
    · cases h
  · cases h
theorem enter_run {o : Oper} {fo : Operand} {f : FuncId} {args : Array Operand} {at' : Array TypeId} (hop : o.op = .call { callee := .value fo, args, argTypes := at' }) {caps : List Value} (hfo : a.eval fo = .func (.func f) #[] caps.toArray) (hent : Ent P f) :
    (execOp a.eval o).run P w = .ok (.enter f (args.toList.map a.eval ++ caps).toArray) w := by
  have : (args.toList.map a.eval ++ caps).toArray = args.map a.eval ++ caps.toArray := by simp
  rw [this]
  simp [execOp, hop, resolve, hfo, Deferred.ofValue, invoke, run_callFunc' hent]
theorem call_ok (h : RG cx γ s a w) {o : Oper} {f : FuncId} {avs : List AV} {vs : List Value} {dr : Bool} (hD : cx.dr = true → dr = true) (hm : All2 (M w (okOf cx s γ w) γ) avs vs) {K : AV → Prop} (hd : ∀ d, o.dst = some d → d < cx.N) (hc : CallOb dr P s f avs K) :
    (Ent P f) ∧ Calls P f vs.toArray w fun e w'' => ∃ v, e = .returned v ∧ ∃ u, RG cx γ (s.putO o.dst u) (a.put o.dst v) w'' ∧ K u := by
  simp only [CallOb_iff] at hc
  obtain ⟨xs, res, h1, ⟨hent, h2⟩, h3, hK⟩ := hc
  obtain ⟨h4, h5⟩ := toV1s_m h h1 hm
  refine ⟨hent, ?_⟩
  rcases h3 with h3 | h3
  · refine (h2 w _ _ (fun b hb => hb) h4).mono fun e w' ⟨v, he, hb, hr⟩ => ⟨v, he, resAV res, ?_, hK⟩
    exact (h.grow hb.1 fun e => hb.2 (hD e)).putO hd (resRep_m (.inr h3) hr) (fun j hj => by rw [resAV_refs] at hj; cases hj)
  · refine (h2 w _ _ (fun b hb => okOf_lt h hb) (h5 h3)).mono fun e w' ⟨v, he, hb, hr⟩ => ⟨v, he, resAV res, ?_, hK⟩
    exact (h.grow hb.1 fun e => hb.2 (hD e)).putO hd (resRep_m (.inl fun b hok => okOf_new h hb.1 b hok) hr) (fun j hj => by rw [resAV_refs] at hj; cases hj)

theorem OpOK.value {o : Oper} {Post : Act → World → Prop} {x : Value} {w' : World} (h : (execOp a.eval o).run P w = .ok (.value x) w') (hp : Post (a.put o.dst x) w') : OpOK P o a w Post := by
  unfold OpOK; rw [h]; exact hp
theorem OpOK.skip {o : Oper} {Post : Act → World → Prop} {w' : World} (h : (execOp a.eval o).run P w = .ok .skip w') (hp : Post (a.put o.dst Go.undef) w') : OpOK P o a w Post := by
  unfold OpOK; rw [h]; exact hp
theorem OpOK.enter {o : Oper} {Post : Act → World → Prop} {f : FuncId} {args : Array Value} (h : (execOp a.eval o).run P w = .ok (.enter f args) w)
    (hp : Calls P f args w fun e w'' => ∃ v, e = .returned v ∧ Post (a.put o.dst v) w'') : OpOK P o a w Post := by
  unfold OpOK; rw [h]; exact hp
theorem OpOK.round {o : Oper} {Post : Act → World → Prop} {l : Nat} {fn : FuncId} {tmps : Array Value} {asg body : Code} (h : (execOp a.eval o).run P w = .ok (.round l fn tmps asg body) w)
    (hp : RoundIn Fence.wide 0 P l fn tmps asg body w fun e w'' => ∃ v, e = .returned v ∧ Post (a.put o.dst v) w'') : OpOK P o a w Post := by
  unfold OpOK; rw [h]; exact hp
theorem roundIn_mono {F : Fence} {n l : Nat} {fn : FuncId} {tmps : Array Value} {asg body : Code} {R R' : Ending → World → Prop} (h : RoundIn F n P l fn tmps asg body w R) (hr : ∀ e w, R e w → R' e w) : RoundIn F n P l fn tmps asg body w R' :=
  ⟨h.1, fun c cs hc => let ⟨e, w', h1, h2⟩ := h.2 c cs hc; ⟨e, w', hr _ _ h1, h2⟩⟩
theorem OpOK.mono {o : Oper} {Post Post' : Act → World → Prop} (h : OpOK P o a w Post) (hp : ∀ a w, Post a w → Post' a w) : OpOK P o a w Post' := by
  unfold OpOK at *
  generalize (execOp a.eval o).run P w = r at *
  cases r with
  | halt x w' => exact h
  | ok x w' =>
    cases x <;> first
      | exact hp _ _ h
      | exact h.mono fun e w' ⟨v, h1, h2⟩ => ⟨v, h1, hp _ _ h2⟩
      | exact h

theorem Yd.ok (h : RG cx γ s a w) {o : Oper} {e : Sem Value} {K : AV → Prop} (hd : ∀ d, o.dst = some d → d < cx.N) (hy : Yd P cx γ s w e K) (he : ∀ x w', e.run P w = .ok x w' → (execOp a.eval o).run P w = .ok (.value x) w') :
    OpOK P o a w fun a' w' => ∃ v, RG cx γ (s.putO o.dst v) a' w' ∧ K v := by
  obtain ⟨v, x, h1, h2, h3, h4⟩ := hy
  exact .value (he x w h1) ⟨v, h.putO hd h2 h3, h4⟩

variable (hT : ∀ t i, T t = some i → TI.of P t = some i) (hE : ∀ t, E.eq t = true → EqFact P t)
include hT

theorem und_sl {t : TypeId} (ht : isSl T t = true) : ∃ e, P.underlying t = some (.slice e) := by
  unfold isSl at ht
  cases hi : T t with
  | none => simp [hi] at ht
  | some ti =>
    obtain ⟨size, ag, bytes, zero, kind⟩ := ti
    cases kind with
    | slice e =>
      obtain ⟨info, d, z, _, hd, _, _, _, _, _, hk⟩ := ti_facts (hT t _ hi)
      have hds := TK.of_slice hk
      subst hds
      exact ⟨e, hd⟩
    | _ => simp [hi] at ht
theorem und_str {t : TypeId} (ht : isStrT T t = true) : P.underlying t = some .string := by
  unfold isStrT at ht
  cases hi : T t with
  | none => simp [hi] at ht
  | some ti =>
    obtain ⟨size, ag, bytes, zero, kind⟩ := ti
    cases kind with
    | str =>
      obtain ⟨info, d, z, _, hd, _, _, _, _, _, hk⟩ := ti_facts (hT t _ hi)
      have : d = .string := by cases d <;> simp [TK.of] at hk; rfl
      subst this
      exact hd
    | _ => simp [hi] at ht
theorem lenE_sound (h : RG cx γ s a w) {t ty : TypeId} {v : AV} {x : Value} (hm : M w (okOf cx s γ w) γ v x) {K : AV → Prop} (hl : lenE T t s v K) : Yd P cx γ s w (Builtin.len_ #[t] ty #[x]) K := by
  have fin : ∀ (a : Option Addr) (n c : Nat), isSl T t = true → x = .slice a n c → K (.d (.int .i64 n)) → Yd P cx γ s w (Builtin.len_ #[t] ty #[x]) K := fun ad n c ht hx hK => by
    obtain ⟨e, hd⟩ := und_sl hT ht
    subst hx
    exact .of (v := .d (.int .i64 n)) (x := .int .i64 n) (by simp [Builtin.len_, underlying, hd, goInt]) rfl (fun j hj => by simp [AV.refs] at hj) hK
  cases v with
  | d p =>
    cases p with
    | slc k n f =>
      simp only [lenE] at hl
      cases hb : isSl T t with
      | false => simp [hb] at hl
      | true =>
        simp only [hb, cond_true] at hl
        rcases hm with ⟨hx, h0⟩ | ⟨ad, cap, hx, _⟩
        · subst h0; exact fin none 0 0 hb hx hl
        · exact fin (some ad) n cap hb hx hl
    | str z =>
      simp only [lenE] at hl
      cases hb : isStrT T t with
      | false => simp [hb] at hl
      | true =>
        simp only [hb, cond_true] at hl
        have hx : x = .string z := hm
        subst hx
        exact .of (v := .d (.int .i64 z.size)) (x := .int .i64 z.size) (by simp [Builtin.len_, underlying, und_str hT hb, goInt]) rfl (fun j hj => by simp [AV.refs] at hj) hl
    | _ => simp [lenE] at hl
  | nilsl =>
    simp only [lenE] at hl
    cases hb : isSl T t with
    | false => simp [hb] at hl
    | true => simp only [hb, cond_true] at hl; exact fin none 0 0 hb hm hl
  | sub i k lo n =>
    simp only [lenE] at hl
    cases hb : isSl T t with
    | false => simp [hb] at hl
    | true =>
      simp only [hb, cond_true] at hl
      rcases hm with ⟨rfl, ad, c, rfl⟩ | ⟨_, _, _, _, _, rfl⟩
      · exact fin _ _ _ hb rfl hl
      · exact fin _ _ _ hb rfl hl
  | own i =>
    simp only [lenE] at hl
    cases ho : s.ob i with
    | none => simp [ho] at hl
    | some o =>
      cases o with
      | box cs => simp [ho] at hl
      | row e k n f =>
        simp only [ho] at hl
        cases hb : isSl T t with
        | false => simp [hb] at hl
        | true =>
          simp only [hb, cond_true] at hl
          obtain ⟨xs, h1, _⟩ := h.objs i _ ho
          have hx : x = γ i := hm
          rcases h1.2 with ⟨h2, h0⟩ | ⟨g, cap, cur, h2, _⟩
          · subst h0; exact fin none 0 0 hb (hx.trans h2) hl
          · exact fin _ n cap hb (hx.trans h2) hl
  | _ => simp [lenE] at hl

theorem placesS_run (w : World) : ∀ {fs : List Field} {ps : List (Nat × Nat)}, placesS T (fs.map fun f => (f.offset, f.type)) = some ps → (fs.mapM fun f => do pure (f.offset, ← sizeOf f.type) : Sem (List (Nat × Nat))).run P w = .ok ps w
  | [], ps, h => by simp [placesS] at h; subst h; simp
  | f :: fs, ps, h => by
    simp only [List.map_cons, placesS] at h
    cases hf : T f.type with
    | none => simp [hf] at h
    | some fi =>
      cases hr : placesS T (fs.map fun f => (f.offset, f.type)) with
      | none => simp [hf, hr] at h
      | some l =>
        simp only [hf, hr, Option.some.injEq] at h; subst h
        have ih := placesS_run w hr
        simp only [bind_pure_comp] at ih
        simp [List.mapM_cons, run_sizeOf' (hT _ _ hf), ih]

theorem buildE_sound (h : RG cx γ s a w) {t : Nat} {parts : Array (Nat × Operand)} {K : AV → Prop} (hl : buildE T s t parts.toList K) : Yd P cx γ s w (Instr.build t (parts.map fun (i, x) => (i, a.eval x))) K := by
  unfold buildE at hl
  cases hst : T t with
  | none => simp [hst] at hl
  | some ti =>
    obtain ⟨size, ag, bytes, zero, kind⟩ := ti
    obtain ⟨info, d, z, hi, hd, hz, _, _, _, hzc, hk⟩ := ti_facts (hT t _ hst)
    have hzero : (zeroValue t).run P w = .ok z w := by simp [zeroValue, typeInfo, hi, hz]
    have hzv : z.cells = zero.toArray := by have h0 : z.cells.toList = zero := hzc; rw [← h0]
    have hparts : (parts.map fun (i, x) => (i, a.eval x)).toList = parts.toList.map fun p => (p.1, a.eval p.2) := by simp
    cases kind with
    | struct fs =>
      simp only [hst] at hl
      obtain ⟨F, rfl, hF⟩ := TK.of_struct hk
      cases hc : cds zero with
      | none => simp [hc] at hl
      | some zs =>
        cases hp : placesS T fs with
        | none => simp [hc, hp] at hl
        | some ps =>
          simp only [hc, hp] at hl
          cases hf : fillE (nth ps) s parts.toList zs with
          | none => simp [hf] at hl
          | some l =>
            simp only [hf] at hl
            obtain ⟨m, h1, h2⟩ := fillE_sound h hf (cds_rep hc)
            have hps := placesS_run hT w (by rw [← hF]; exact hp)
            refine .of (v := .agg l) (x := .agg m.toArray) ?_ ⟨m, rfl, h2⟩ (fun j hj => by simp [AV.refs] at hj) hl
            have hnth : (fun x => ps.toArray[x]?) = nth ps := by funext x; rw [nth_eq]; simp
            unfold Instr.build
            simp only [Sem.run_bind, hzero, Result.andThen_ok, Sem.run_map, underlying, Sem.run_pure, run_program, hd, Array.mapM_eq_mapM_toList, hps, hparts, hzv, hnth, h1]
    | array n e =>
      simp only [hst] at hl
      have hds := TK.of_array hk
      subst hds
      cases he : T e with
      | none => simp [he] at hl
      | some ei =>
        cases hc : cds zero with
        | none => simp [he, hc] at hl
        | some zs =>
          simp only [he, hc] at hl
          cases hf : fillE (placesA ei) s parts.toList zs with
          | none => simp [hf] at hl
          | some l =>
            simp only [hf] at hl
            obtain ⟨m, h1, h2⟩ := fillE_sound h hf (cds_rep hc)
            refine .of (v := .agg l) (x := .agg m.toArray) ?_ ⟨m, rfl, h2⟩ (fun j hj => by simp [AV.refs] at hj) hl
            unfold Instr.build
            simp only [Sem.run_bind, hzero, Result.andThen_ok, underlying, Sem.run_pure, run_program, hd, run_sizeOf' (hT _ _ he), hparts, hzv]
            rw [show (fun i => some (i * ei.size, ei.size)) = placesA ei from rfl, h1]
            rfl
    | _ => simp [hst] at hl

include hE
variable (hD : cx.dr = true → E.dr = true)
include hD
/-- The operations that make and change nothing. -/
theorem opE_ok (h : RG cx γ s a w) {o : Oper} {K : AV → Prop} (hd : ∀ d, o.dst = some d → d < cx.N) (he : opE P T E s o.op K) :
    OpOK P o a w fun a' w' => ∃ v, RG cx γ (s.putO o.dst v) a' w' ∧ K v := by
  obtain ⟨dst, op, type, pos, after, guard⟩ := o
  have val : ∀ {e : Sem Value}, Yd P cx γ s w e K → (∀ x w', e.run P w = .ok x w' → (execOp a.eval ⟨dst, op, type, pos, after, guard⟩).run P w = .ok (.value x) w') → OpOK P ⟨dst, op, type, pos, after, guard⟩ a w fun a' w' => ∃ v, RG cx γ (s.putO dst v) a' w' ∧ K v :=
    fun hy hx => hy.ok h hd hx
  cases op with
  | move x =>
    obtain ⟨h1, h2⟩ := ev_m h x
    exact val (e := pure (a.eval x)) (.of rfl h1 h2 he) fun y w' hy => by simp at hy; obtain ⟨rfl, rfl⟩ := hy; simp [execOp]
  | assign x =>
    obtain ⟨h1, h2⟩ := ev_m h x
    exact val (e := pure (a.eval x)) (.of rfl h1 h2 he) fun y w' hy => by simp at hy; obtain ⟨rfl, rfl⟩ := hy; simp [execOp]
  | pick c x y =>
    have hc := (ev_m h c).1
    have hx := ev_m h x
    have hy := ev_m h y
    simp only [opE] at he
    cases hev : ev s c with
    | d p =>
      cases p with
      | bool b =>
        simp only [hev] at he hc
        have hb : a.eval c = .bool b := hc
        have hk := he.out
        cases b with
        | true => exact val (e := pure (a.eval x)) (.of rfl hx.1 hx.2 hk) fun z w' hz => by simp at hz; obtain ⟨rfl, rfl⟩ := hz; simp [execOp, hb, asBool]
        | false => exact val (e := pure (a.eval y)) (.of rfl hy.1 hy.2 hk) fun z w' hz => by simp at hz; obtain ⟨rfl, rfl⟩ := hz; simp [execOp, hb, asBool]
      | _ => simp [hev] at he
    | _ => simp [hev] at he
  | load t x =>
    simp only [opE] at he
    cases ht : T t with
    | none => simp [ht] at he
    | some ti =>
      simp only [ht] at he
      exact val (loadE_sound h (hT t _ ht) (ev_m h x).1 he) fun z w' hz => by simp [execOp, hz]
  | fieldAddr st x f => exact val (fieldAddrE_sound hT h (ev_m h x).1 (ev_m h x).2 he) fun z w' hz => by simp [execOp, hz]
  | indexAddr t x i => exact val (indexAddrE_sound hT h (ev_m h x).1 (ev_m h x).2 (ev_m h i).1 he) fun z w' hz => by simp [execOp, hz]
  | field st x f => exact val (fieldE_sound hT (ev_m h x).1 he) fun z w' hz => by simp [execOp, hz]
  | index t x i => exact val (indexE_sound hT (ev_m h x).1 (ev_m h i).1 he) fun z w' hz => by simp [execOp, hz]
  | binOp op t x y yt => exact val (binE_sound hT hE (ox := x) (oy := y) (ev_m h x).1 (ev_m h y).1 he) fun z w' hz => by simp only [execOp, Sem.run_bind] at *; simp only [hz, Result.andThen_ok, Sem.run_pure]
  | unOp op t x => exact val (unE_sound (ev_m h x).1 he) fun z w' hz => by simp [execOp, hz]
  | convert src dst' x =>
    simp only [opE] at he
    cases hts : T src with
    | none => simp [hts] at he
    | some tis =>
    cases ht : T dst' with
    | none => simp [ht, hts] at he
    | some ti =>
      obtain ⟨size, ag, bytes, zero, kind⟩ := ti
      cases kind with
      | int k =>
        cases hev : ev s x with
        | d p =>
          cases p with
          | int k' n =>
            simp only [hts, ht, hev] at he
            have hx := (ev_m h x).1
            rw [hev] at hx
            have hx' : a.eval x = .int k' n := hx
            obtain ⟨info, d, z, _, hd', _, _, _, _, _, hk⟩ := ti_facts (hT dst' _ ht)
            have hds := TK.of_int hk
            subst hds
            obtain ⟨_, ds, _, _, hds, _⟩ := ti_facts (hT src _ hts)
            refine val (e := pure (.int k (k.wrap n))) (.of (v := .d (.int k (k.wrap n))) rfl rfl (fun j hj => by simp [AV.refs] at hj) he) fun z w' hz => ?_
            simp at hz; obtain ⟨rfl, rfl⟩ := hz
            simp [execOp, hx', convert, underlying, hd', hds, Conv.intToInt]
          | _ => simp [hts, ht, hev] at he
        | _ => simp [hts, ht, hev] at he
      | _ => simp [hts, ht] at he
  | build t parts => exact val (buildE_sound hT h he) fun z w' hz => by simp [execOp, hz]
  | slice t x lo hi mx =>
    cases mx with
    | some m => simp [opE] at he
    | none =>
      refine val (sliceE_sound hT h (ev_m h x).1 (xlo := lo.map a.eval) (xhi := hi.map a.eval) ?_ ?_ ?_ ?_ he) fun z w' hz => by simp [execOp, hz]
      · intro u hu; cases lo with
        | none => cases hu
        | some l => cases hu; exact ⟨_, rfl, (ev_m h l).1⟩
      · intro hu; cases lo with
        | none => rfl
        | some l => cases hu
      · intro u hu; cases hi with
        | none => cases hu
        | some l => cases hu; exact ⟨_, rfl, (ev_m h l).1⟩
      · intro hu; cases hi with
        | none => rfl
        | some l => cases hu
  | extract x i => exact val (extractE_sound (ev_m h x).1 he) fun z w' hz => by simp [execOp, hz]
  | makeFunc fn first caps =>
    cases fn with
    | func f =>
      simp only [opE] at he
      cases hf : first.toList with
      | cons p l => simp [hf] at he
      | nil =>
        have hf' : first = #[] := by simpa using hf
        subst hf'
        cases hb : capsOf (caps.toList.map (ev s)) with
        | none => simp [hb] at he
        | some ids =>
          have hbm := capsOf_m h hb (evs_m h caps.toList) fun v hv => by
            obtain ⟨x, _, rfl⟩ := List.mem_map.1 hv
            exact (ev_m h x).2
          have hcaps : caps.map a.eval = (caps.toList.map a.eval).toArray := by rw [← Array.toList_map]
          cases ids with
          | nil =>
            have hnil : caps.toList.map a.eval = [] := by have := hbm.1.length; simpa using this.symm
            rw [hnil] at hcaps
            simp only [hb] at he
            refine val (e := pure (.func (.func f) #[] #[])) (.of (v := .d (.fn f)) rfl rfl (fun j hj => by simp [AV.refs] at hj) he) fun z w' hz => ?_
            simp at hz; obtain ⟨rfl, rfl⟩ := hz
            simp [execOp, Instr.makeFunc, hcaps]
          | cons i l =>
            simp only [hb] at he
            refine val (e := pure (.func (.func f) #[] (caps.toList.map a.eval).toArray)) (.of (v := .clo f (i :: l)) rfl ⟨_, rfl, hbm.1⟩ (fun j hj => hbm.2 j hj) he) fun z w' hz => ?_
            simp at hz; obtain ⟨rfl, rfl⟩ := hz
            simp [execOp, Instr.makeFunc, hcaps]
    | _ => exact False.elim he
  | call c =>
    obtain ⟨callee, args, argTypes⟩ := c
    cases callee with
    | value f =>
      simp only [opE] at he
      cases hev : callee (ev s f) with
      | none => simp [hev] at he
      | some p =>
        obtain ⟨g, ex⟩ := p
        simp only [hev] at he
        obtain ⟨cvs, hx, hcm⟩ := callee_m hev (ev_m h f).1
        obtain ⟨hent, hc⟩ := call_ok h hD (o := ⟨dst, .call ⟨.value f, args, argTypes⟩, type, pos, after, guard⟩) ((evs_m h args.toList).append hcm) hd he
        exact .enter (enter_run rfl hx hent) hc
    | invoke r m => simp [opE] at he
    | builtin b =>
      have hargs : args = args.toList.toArray := by simp
      cases b <;> try (simp [opE] at he; done)
      case len =>
        simp only [opE] at he
        cases ha : args.toList with
        | nil => simp [ha] at he
        | cons x r =>
          cases r with
          | cons y r => simp [ha] at he
          | nil =>
            cases hat : argTypes.toList with
            | nil => simp [ha, hat] at he
            | cons t r' =>
              cases r' with
              | cons y r => simp [ha, hat] at he
              | nil =>
                simp only [ha, hat] at he
                have hat' : argTypes = #[t] := by rw [← Array.toArray_toList (xs := argTypes), hat]
                rw [ha] at hargs
                exact val (lenE_sound hT h (ty := type) (ev_m h x).1 he) fun z w' hz => by simp [execOp, resolve, invoke, builtin, hargs, hat', hz]
      case max =>
        simp only [opE] at he
        cases ha : args.toList with
        | nil => simp [ha] at he
        | cons x r =>
          simp only [ha] at he
          rw [ha] at hargs
          exact val (maxE_sound true (ev_m h x).1 (ev_m h x).2 (evs_m h r) he) fun z w' hz => by
            simp only at hz
            simp [execOp, resolve, invoke, builtin, hargs, Builtin.max_, hz]
      case min =>
        simp only [opE] at he
        cases ha : args.toList with
        | nil => simp [ha] at he
        | cons x r =>
          simp only [ha] at he
          rw [ha] at hargs
          exact val (maxE_sound false (ev_m h x).1 (ev_m h x).2 (evs_m h r) he) fun z w' hz => by
            simp only at hz
            simp [execOp, resolve, invoke, builtin, hargs, Builtin.min_, hz]
  | _ => exact False.elim he
end
end Go.Pg
