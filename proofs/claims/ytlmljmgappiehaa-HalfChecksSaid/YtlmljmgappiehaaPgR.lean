/-
  Functions that change a row of the caller's own: contracts, out of the evaluator and at a call. For every program.
-/
import Derived.Test.YtlmljmgappiehaaPgQ
set_option linter.all false
namespace Go.Pg
open Go.RowKit

/-- A row that is the caller's own: its value, its cells; data read none of it. -/
structure RowAt (w : World) (ok : Nat → Prop) (e k n : Nat) (g : Nat → Nat → D) (v : Value) (xs : List Value) : Prop where
  own : w.ownsRow 0 e k v n xs
  one : ∀ u ∈ xs, u.oneCell' = true
  rep : ∀ m, m < n → ∀ j, j < k → ∃ u, xs[m * k + j]? = some u ∧ Rep w ok (g m j) u
  sep : ∀ b, blk v = some b → ¬ ok b
/-- Function f changes the row behind `pre` in place; numbers come back. -/
def SpecR (P : Program) (f : FuncId) (pre post : List V1) (e k n : Nat) (g g' : Nat → Nat → D) (res : List V1) : Prop :=
  Ent P f ∧ ∀ (w : World) (ok : Nat → Prop) (vs us : List Value) (v : Value) (xs : List Value), (∀ b, ok b → b < w.heap.size) → All2 (Rep1 w ok) pre vs → All2 (Rep1 w ok) post us → RowAt w ok e k n g v xs →
    Calls P f (vs ++ v :: us).toArray w fun en w' => ∃ r, en = .returned r ∧ w.grownBy w' (blk v) ∧ ResRep w' (fun _ => False) res r ∧
      ∃ xs', w'.ownsRow 0 e k v n xs' ∧ (∀ u ∈ xs', u.oneCell' = true) ∧ ∀ m, m < n → ∀ j, j < k → ∃ u, xs'[m * k + j]? = some u ∧ Rep w' (fun _ => False) (g' m j) u
/-- Function f takes the row behind `pre`, and returns it, changed. -/
def SpecT (P : Program) (f : FuncId) (pre post : List V1) (e k n : Nat) (g : Nat → Nat → D) (n' : Nat) (g' : Nat → Nat → D) : Prop :=
  Ent P f ∧ ∀ (w : World) (ok : Nat → Prop) (vs us : List Value) (v : Value) (xs : List Value), (∀ b, ok b → b < w.heap.size) → All2 (Rep1 w ok) pre vs → All2 (Rep1 w ok) post us → RowAt w ok e k n g v xs →
    Calls P f (vs ++ v :: us).toArray w fun en w' => ∃ v', en = .returned v' ∧ w.grownBy w' (blk v) ∧ (∀ b, blk v' = some b → blk v = some b ∨ w.heap.size ≤ b) ∧
      ∃ xs', w'.ownsRow 0 e k v' n' xs' ∧ (∀ u ∈ xs', u.oneCell' = true) ∧ ∀ m, m < n' → ∀ j, j < k → ∃ u, xs'[m * k + j]? = some u ∧ Rep w' (fun _ => False) (g' m j) u

/-! ### Out of the evaluator -/
def cxR (w : World) (ok : Nat → Prop) (N : Nat) (v : Value) : Cx := ⟨w, ok, N, fun b => blk v = some b, fun _ _ => False, 0, false, none, false⟩
theorem look_app {α : Type} : ∀ (l m : List (Nat × α)) (t : Nat), look (l ++ m) t = match look l t with | some x => some x | none => look m t
  | [], m, t => rfl
  | (i, x) :: l, m, t => by
    simp only [List.cons_append, look]
    cases Nat.beq t i with
    | true => rfl
    | false => exact look_app l m t
theorem argSlots_lt : ∀ {args : List V1} {i t : Nat} {x : AV}, look (argSlots i args) t = some x → i ≤ t ∧ t < i + args.length
  | [], _, _, _, h => by cases h
  | y :: r, i, t, x, h => by
    simp only [argSlots, look] at h
    cases hb : Nat.beq t i with
    | true => have := Nat.eq_of_beq_eq_true hb; subst this; simp
    | false =>
      rw [hb] at h
      have := argSlots_lt (args := r) h
      simp only [List.length_cons]; omega
def rowSlots (pre post : List V1) (v : Value) : List (Nat × AV) := argSlots 0 pre ++ (pre.length, .pin pre.length v) :: argSlots (pre.length + 1) post
theorem r_startR {pre post : List V1} {vs us : List Value} {w : World} {ok : Nat → Prop} {N e k n : Nat} {g : Nat → Nat → D} {v : Value} {xs : List Value} (hok : ∀ b, ok b → b < w.heap.size) (h1 : All2 (Rep1 w ok) pre vs) (h2 : All2 (Rep1 w ok) post us) (hr : RowAt w ok e k n g v xs)
    (hsz : pre.length + 1 + post.length ≤ N) (hng : N ≤ G) :
    R (cxR w ok N v) (St.of (rowSlots pre post v) [(pre.length, .row e k n g)]) { tmps := (vs ++ v :: us).toArray ++ Array.replicate (N - (vs ++ v :: us).toArray.size) undef, defers := [] } w := by
  have l1 := h1.length
  have l2 := h2.length
  have hblk : ∀ b, blk v = some b → b < w.heap.size := fun b hb => by
    rcases hr.own.2 with ⟨h3, _⟩ | ⟨q, cap, cur, h3, _, h4, _⟩
    · rw [h3] at hb; cases hb
    · rw [h3] at hb; simp [blk] at hb; subst hb; exact (Array.getElem?_eq_some_iff.1 h4).1
  have slot : ∀ t x, look (rowSlots pre post v) t = some x → M w ok (fun _ => v) x ((((vs ++ v :: us).toArray ++ Array.replicate (N - (vs ++ v :: us).toArray.size) undef)).getD t undef) ∧ (x.refs = [] ∨ x.refs = [pre.length]) := fun t x hx => by
    unfold rowSlots at hx
    rw [look_app] at hx
    cases ha : look (argSlots 0 pre) t with
    | some y =>
      rw [ha] at hx; cases hx
      obtain ⟨j, u, z, g1, g2, g3, g4⟩ := argSlots_m pre vs 0 t h1 _ ha
      obtain rfl : t = j := by omega
      have hj : t < vs.length := (List.getElem?_eq_some_iff.1 g2).1
      rw [frame_get (u := u) (by rw [List.getElem?_append_left hj]; exact g2), g3]
      exact ⟨m_avOf.2 g4, .inl (avOf_refs z)⟩
    | none =>
      rw [ha] at hx
      simp only [look] at hx
      cases hb : Nat.beq t pre.length with
      | true =>
        rw [hb] at hx; cases hx
        have := Nat.eq_of_beq_eq_true hb
        subst this
        rw [frame_get (u := v) (by rw [l1, List.getElem?_append_right (Nat.le_refl _)]; simp)]
        exact ⟨⟨rfl, rfl⟩, .inr rfl⟩
      | false =>
        rw [hb] at hx
        obtain ⟨j, u, z, g1, g2, g3, g4⟩ := argSlots_m post us (pre.length + 1) t h2 x hx
        rw [frame_get (u := u) (by
          rw [List.getElem?_append_right (by omega), show t - vs.length = j + 1 by omega, List.getElem?_cons_succ]; exact g2), g3]
        exact ⟨m_avOf.2 g4, .inl (avOf_refs z)⟩
  refine ⟨fun _ => v, ?_⟩
  have hob : ∀ i o, look [(pre.length, Ob.row e k n g)] i = some o → i = pre.length ∧ o = .row e k n g := fun i o ho => by
    simp only [look] at ho
    cases hb : Nat.beq i pre.length with
    | true => rw [hb] at ho; cases ho; exact ⟨Nat.eq_of_beq_eq_true hb, rfl⟩
    | false => rw [hb] at ho; cases ho
  have hself : look [(pre.length, Ob.row e k n g)] pre.length = some (.row e k n g) := by simp [look, beq_self]
  exact { defers := ⟨fun _ => rfl, [], rfl, List.nodup_nil, fun D hD => by cases hD⟩
          size := by simp [cxR]; omega
          okA := fun b hb => ⟨hok b hb, fun e => hr.sep b e hb⟩
          lent := fun b hb => hblk b hb
          below := ⟨rfl, rfl, rfl, fun _ => Nat.le_refl _, Nat.le_refl _, fun _ _ _ => rfl⟩
          hold := fun k o hk => hk.elim
          least := Nat.zero_le _
          objs := fun i o hi => by
            obtain ⟨rfl, rfl⟩ := hob i o hi
            exact ⟨xs, hr.own, fun b hb => .inr hb, hr.one, fun m hm j hj => by obtain ⟨u, hu, h3⟩ := hr.rep m hm j hj; exact ⟨u, hu, Rep.keep (fun b hb => ⟨.inl hb, rfl⟩) h3⟩⟩
          refs := fun i cs hi => by obtain ⟨_, h3⟩ := hob i _ hi; cases h3
          sep := fun i j o o' hi hj hne => absurd ((hob i o hi).1.trans (hob j o' hj).1.symm) hne
          slots := fun t => by
            show M w _ _ ((look (rowSlots pre post v) t).getD .any) _
            cases hx : look (rowSlots pre post v) t with
            | none => exact trivial
            | some x => exact (slot t x hx).1.keep (fun b hb => ⟨.inl hb, rfl⟩) fun _ _ => rfl
          ng := hng
          gho := fun m hm => by
            have hm' : (look (rowSlots pre post v) G).getD .any = .gho m := hm
            cases hx : look (rowSlots pre post v) G with
            | none => rw [hx] at hm'; cases hm'
            | some x =>
              rw [hx] at hm'
              have hs := (slot G x hx).2
              have hno : ∀ y : V1, avOf y ≠ .gho m := fun y => by
                cases y with
                | d z => cases z <;> simp [avOf]
                | agg z => simp [avOf]
              unfold rowSlots at hx
              rw [look_app] at hx
              cases ha : look (argSlots 0 pre) G with
              | some y =>
                rw [ha] at hx; cases hx
                obtain ⟨j, u, z, g1, g2, g3, g4⟩ := argSlots_m pre vs 0 G h1 _ ha
                exact absurd (g3.symm.trans hm') (hno z)
              | none =>
                rw [ha] at hx
                simp only [look] at hx
                cases hb : Nat.beq G pre.length with
                | true => rw [hb] at hx; cases hx; cases hm'
                | false =>
                  rw [hb] at hx
                  obtain ⟨j, u, z, g1, g2, g3, g4⟩ := argSlots_m post us (pre.length + 1) G h2 x hx
                  exact absurd (g3.symm.trans hm') (hno z)
          srefs := fun t j hj => by
            have hj' : j ∈ ((look (rowSlots pre post v) t).getD .any).refs := hj
            cases hx : look (rowSlots pre post v) t with
            | none => rw [hx] at hj'; cases hj'
            | some x =>
              rw [hx] at hj'
              rcases (slot t x hx).2 with h3 | h3
              · rw [show (Option.some x).getD .any = x from rfl, h3] at hj'; cases hj'
              · rw [show (Option.some x).getD .any = x from rfl, h3] at hj'
                simp only [List.mem_singleton] at hj'
                subst hj'
                show (look [(pre.length, Ob.row e k n g)] pre.length).isSome = true
                rw [hself]; rfl }

/-- The row is changed in place; numbers come back. -/
def retR (T : TT) (rs : List ResultVar) (p : Nat) (v : Value) (e k n : Nat) (g' : Nat → Nat → D) (res : List V1) : KK := fun x s =>
  let fin : Prop := RetAll T s rs res ∧ s.sl p = .pin p v ∧ ∃ f, s.ob p = some (.row e k n f) ∧ ∀ i, i < n → ∀ j, j < k → D.eqv (f i j) (g' i j)
  match x with
  | .normal => fin
  | .ret => fin
  | _ => False
theorem grown_of_bel {w w' : World} {ok : Nat → Prop} {N : Nat} {v : Value} (h : Bel (cxR w ok N v) w') : w.grownBy w' (blk v) :=
  ⟨h.os, h.tape, h.output, h.size, fun k hk hne => h.block k hk fun e => hne e.symm⟩
theorem resRep_flat {w : World} {ok : Nat → Prop} {res : List V1} {v : Value} (hf : res.all V1.flat = true) (h : ResRep w ok res v) : ResRep w (fun _ => False) res v := by
  have : ∀ {l : List V1} {vs : List Value}, (∀ x ∈ l, x.flat = true) → All2 (Rep1 w ok) l vs → All2 (Rep1 w fun _ => False) l vs := fun hl h => h.imp fun x _ hx hr => Rep1.flat (hl x hx) hr
  have hall := List.all_eq_true.1 hf
  match res, h with
  | [], ⟨vs, h1, h2⟩ => exact ⟨vs, h1, this hall h2⟩
  | [x], h => exact Rep1.flat (hall x (by simp)) h
  | x :: y :: r, ⟨vs, h1, h2⟩ => exact ⟨vs, h1, this hall h2⟩
section
variable {P : Program} {T : TT} {E : Env}
theorem specR_of (hT : ∀ t i, T t = some i → TI.of P t = some i) (hE : ∀ t, E.eq t = true → EqFact P t) (hm : P.follows .mixedOrders = true)
    {f : FuncId} {fn : Func} {c : Code} (hf : P.funcs[f]? = some fn) (hb : fn.body = some c) (hn : (fn.name == "runtime.NumGoroutine") = false) (hN : codeN fn.ntmps c = true)
    {pre post res : List V1} {e k n : Nat} {g g' : Nat → Nat → D} (hfl : ∀ i, i < n → ∀ j, j < k → (g' i j).flat = true) (hrf : res.all V1.flat = true) (hsz : pre.length + 1 + post.length ≤ fn.ntmps) (hng : fn.ntmps ≤ G)
    (h : ∀ v, awp P T E c (St.of (rowSlots pre post v) [(pre.length, .row e k n g)]) (retR T fn.results.toList pre.length v e k n g' res)) : SpecR P f pre post e k n g g' res :=
  ⟨⟨fn, hf, hn, by rw [hb]; rfl⟩, fun w ok vs us v xs hok h1 h2 hr => fn_of hT hE hm hf hb hN (cx := cxR w ok fn.ntmps v) (fun e => by cases e) rfl rfl rfl (fun _ _ => id) (r_startR hok h1 h2 hr hsz hng) (h v)
    (fun x h1 h2 s h => by cases x <;> first | exact h1 rfl | exact h2 rfl | exact h) fun x s a w' hx hk hR _ => by
    have hk' : RetAll T s fn.results.toList res ∧ s.sl pre.length = .pin pre.length v ∧ ∃ f, s.ob pre.length = some (.row e k n f) ∧ ∀ i, i < n → ∀ j, j < k → D.eqv (f i j) (g' i j) := by rcases hx with rfl | rfl <;> exact hk
    obtain ⟨k1, k2, q, k3, k4⟩ := hk'
    obtain ⟨r, r1, r2⟩ := results_ok (P := P) hT (fn := fn) hR k1
    obtain ⟨γ, hg⟩ := hR
    obtain ⟨ys, o1, o0, o2, o3⟩ := hg.objs _ _ k3
    have hsl := hg.slots pre.length
    rw [k2] at hsl
    have hγ : γ pre.length = v := hsl.1.symm.trans hsl.2
    rw [hγ] at o1
    refine ⟨r, r1, r, rfl, grown_of_bel hg.below, resRep_flat hrf r2, ys, o1, o2, fun m hm j hj => ?_⟩
    obtain ⟨u, hu, hrr⟩ := o3 m hm j hj
    exact ⟨u, hu, Rep.flat (hfl m hm j hj) (hrr.eqv (k4 m hm j hj))⟩⟩
theorem specT_of (hT : ∀ t i, T t = some i → TI.of P t = some i) (hE : ∀ t, E.eq t = true → EqFact P t) (hm : P.follows .mixedOrders = true)
    {f : FuncId} {fn : Func} {c : Code} (hf : P.funcs[f]? = some fn) (hb : fn.body = some c) (hn : (fn.name == "runtime.NumGoroutine") = false) (hN : codeN fn.ntmps c = true)
    {pre post : List V1} {e k n n' : Nat} {g g' : Nat → Nat → D} (hfl : ∀ i, i < n' → ∀ j, j < k → (g' i j).flat = true) (hsz : pre.length + 1 + post.length ≤ fn.ntmps) (hng : fn.ntmps ≤ G)
    (h : ∀ v, awp P T E c (St.of (rowSlots pre post v) [(pre.length, .row e k n g)]) (retKO fn.results.toList e k n' g')) : SpecT P f pre post e k n g n' g' :=
  ⟨⟨fn, hf, hn, by rw [hb]; rfl⟩, fun w ok vs us v xs hok h1 h2 hr => fn_of hT hE hm hf hb hN (cx := cxR w ok fn.ntmps v) (fun e => by cases e) rfl rfl rfl (fun _ _ => id) (r_startR hok h1 h2 hr hsz hng) (h v) retKO_only fun x s a w' hx hk hR _ => by
    obtain ⟨γ, hg⟩ := hR
    obtain ⟨t, i, f', hrs, hv, ho, hq⟩ := retO_row hx hk
    obtain ⟨ys, o1, o0, o2, o3⟩ := hg.objs i _ ho
    have hsl := hg.slots t
    rw [hv] at hsl
    have hval : a.tmps.getD t undef = γ i := hsl
    have hrun := run_results (P := P) (fn := fn) (a := a) (w := w') (vs := [γ i]) (by rw [hrs]; simp [← hval])
    refine ⟨γ i, hrun, γ i, rfl, grown_of_bel hg.below, fun b hb => ?_, ys, o1, o2, fun m hm j hj => ?_⟩
    · rcases o0 b hb with h3 | h3
      · exact .inr h3
      · exact .inl h3
    · obtain ⟨u, hu, hrr⟩ := o3 m hm j hj
      exact ⟨u, hu, Rep.flat (hfl m hm j hj) (hrr.eqv (hq m hm j hj))⟩⟩
end

/-! ### At a call -/
section
variable {P : Program} {s : St} {o : Oper} {fo : Operand} {f : FuncId} {K : St → Prop} {E : Env} (hdr : E.dr = false)
theorem All2.split {α β : Type} {r : α → β → Prop} : ∀ {xs ys : List α} {vs : List β}, All2 r (xs ++ ys) vs → ∃ v1 v2, vs = v1 ++ v2 ∧ All2 r xs v1 ∧ All2 r ys v2
  | [], ys, vs, h => ⟨[], vs, rfl, .nil, h⟩
  | x :: xs, ys, _, .cons h1 h2 => by
    obtain ⟨v1, v2, rfl, h3, h4⟩ := All2.split h2
    exact ⟨_ :: v1, v2, rfl, .cons h1 h3, h4⟩
/-- The arguments of a call: those ahead of the row, the row, those behind it. -/
structure RowArgs (s : St) (fo : Operand) (args : List Operand) (f : FuncId) (pre : List V1) (i : Nat) (post : List V1) : Prop where
  out : ∃ a1 a0 a2 ex, args = a1 ++ a0 :: a2 ∧ callee (ev s fo) = some (f, ex) ∧ ev s a0 = .own i ∧ toV1s s (a1.map (ev s)) = some pre ∧ toV1s s (a2.map (ev s) ++ ex) = some post ∧ (a1.map (ev s)).all (fun v => !v.isOwn) = true ∧ (a2.map (ev s) ++ ex).all (fun v => !v.isOwn) = true
theorem rowArgs_m {cx : Cx} {γ : Nat → Value} {a : Act} {w : World} (h : RG cx γ s a w) {args : List Operand} {pre post : List V1} {i e k n : Nat} {g : Nat → Nat → D} (ha : RowArgs s fo args f pre i post) (hi : s.ob i = some (.row e k n g)) :
    ∃ (caps vs us xs : List Value), a.eval fo = .func (.func f) #[] caps.toArray ∧ args.map a.eval ++ caps = vs ++ γ i :: us ∧ All2 (Rep1 w (okOf cx s γ w)) pre vs ∧ All2 (Rep1 w (okOf cx s γ w)) post us ∧ RowAt w (okOf cx s γ w) e k n g (γ i) xs := by
  obtain ⟨a1, a0, a2, ex, rfl, h1, h2, h3, h4, h5, h6⟩ := ha.out
  obtain ⟨caps, hf, hc⟩ := callee_m h1 (ev_m h fo).1
  have h0 := (ev_m h a0).1
  rw [h2] at h0
  have hv0 : a.eval a0 = γ i := h0
  have m1 := (toV1s_m h h3 (evs_m h a1)).2 h5
  have m2 := (toV1s_m h h4 ((evs_m h a2).append hc)).2 h6
  obtain ⟨xs, o1, o0, o2, o3⟩ := h.objs i _ hi
  exact ⟨caps, a1.map a.eval, a2.map a.eval ++ caps, xs, hf, by simp [hv0], m1, m2, ⟨o1, o2, o3, fun b hb hok => ok_ne h hok hi hb⟩⟩
include hdr in
theorem CallSt.row {args : Array Operand} {at' : Array TypeId} (hop : o.op = .call { callee := .value fo, args, argTypes := at' }) {pre post res : List V1} {i e k n : Nat} {g g' : Nat → Nat → D} (h : SpecR P f pre post e k n g g' res)
    (ha : RowArgs s fo args.toList f pre i post) (hi : s.ob i = some (.row e k n g)) (hk : K ((s.setOb i (some (.row e k n g'))).putO o.dst (resAV res))) : CallSt E P s o fo args.toList K := by
  rw [CallSt_iff]
  refine .inr (.inr (.inl ⟨_, ⟨fun cx a w hD hd hR => ?_⟩, hk⟩))
  obtain ⟨γ, hg⟩ := hR
  obtain ⟨caps, vs, us, xs, h1, h2, h3, h4, h5⟩ := rowArgs_m hg ha hi
  refine .enter (enter_run hop h1 h.1) ?_
  rw [h2]
  refine (h.2 w _ vs us _ xs (fun b hb => okOf_lt hg hb) h3 h4 h5).mono fun en w' ⟨r, he, hgr, hres, ys, y1, y2, y3⟩ => ⟨r, he, γ, ?_⟩
  refine (hg.change (i := i) (o' := .row e k n g') hi hgr (fun e => by have := hD e; rw [hdr] at this; cases this) (fun ok hok => ⟨ys, y1, fun b hb => (blk_lt hg hi hb).1, y2, fun m hm j hj => ?_⟩) (fun cs e => by cases e)).putO hd (resRep_m (.inl fun b hb => hb.elim) hres) (fun j hj => by rw [resAV_refs] at hj; cases hj)
  obtain ⟨u, hu, hr⟩ := y3 m hm j hj
  exact ⟨u, hu, Rep.keep0 (w := w') (fun b hb => hb.elim) hr⟩
include hdr in
theorem CallSt.take {args : Array Operand} {at' : Array TypeId} (hop : o.op = .call { callee := .value fo, args, argTypes := at' }) {pre post : List V1} {i e k n n' : Nat} {g g' : Nat → Nat → D} (h : SpecT P f pre post e k n g n' g')
    (ha : RowArgs s fo args.toList f pre i post) (hi : s.ob i = some (.row e k n g)) (hk : K (remk s i (.row e k n' g') o.dst)) : CallSt E P s o fo args.toList K := by
  rw [CallSt_iff]
  refine .inr (.inr (.inl ⟨_, ⟨fun cx a w hD hd hR => ?_⟩, hk⟩))
  obtain ⟨γ, hg⟩ := hR
  obtain ⟨caps, vs, us, xs, h1, h2, h3, h4, h5⟩ := rowArgs_m hg ha hi
  refine .enter (enter_run hop h1 h.1) ?_
  rw [h2]
  refine (h.2 w _ vs us _ xs (fun b hb => okOf_lt hg hb) h3 h4 h5).mono fun en w' ⟨r, he, hgr, hbl, ys, y1, y2, y3⟩ => ⟨r, he, ?_⟩
  refine remk_ok (o' := .row e k n' g') hg hi hd hgr (fun e => by have := hD e; rw [hdr] at this; cases this) (fun b hb => hbl b hb) (fun ok hok => ⟨ys, by rw [upd_same]; exact y1, (fun b hb => ?_), y2, fun m hm j hj => ?_⟩) (fun cs e => by cases e)
  · rw [upd_same] at hb
    rcases hbl b hb with h6 | h6
    · exact (blk_lt hg hi h6).1
    · exact .inl (Nat.le_trans hg.below.size h6)
  · obtain ⟨u, hu, hr⟩ := y3 m hm j hj
    exact ⟨u, hu, Rep.keep0 (w := w') (fun b hb => hb.elim) hr⟩
end
end Go.Pg
