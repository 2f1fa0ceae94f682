/-
  One operation, as the evaluator takes it in a plain region, is carried out so. For every program.
-/
import Derived.Test.YtlmljmgappiehaaPgK
set_option linter.all false
namespace Go.Pg
open Go.RowKit
section
variable {P : Program} {T : TT} {E : Env} {cx : Cx} {γ : Nat → Value} {s : St} {a : Act} {w : World}

theorem AVle_refl (s : St) (ob' : Nat → Option Ob) (v : AV) : AVle s ob' v v := by
  cases v with
  | d x => exact D.eqv_refl x
  | agg xs => exact eqvs_refl xs
  | box i o => exact ⟨rfl, rfl⟩
  | own i => exact rfl
  | elt i k n c => exact ⟨rfl, rfl, rfl, rfl⟩
  | sub i k lo n => exact ⟨rfl, rfl, rfl, rfl⟩
  | clo f l =>
    refine ⟨rfl, ?_⟩
    induction l with
    | nil => exact trivial
    | cons c l ih => exact ⟨by cases c with | own i => exact rfl | dat x => exact D.eqv_refl x, ih⟩
  | pin i v => exact ⟨rfl, rfl⟩
  | pbox i v => exact ⟨rfl, rfl⟩
  | gho m => exact rfl
  | yl l => exact rfl
  | any => exact trivial
  | nilsl => exact trivial
  | tup l => exact rfl
  | roe m h => exact ⟨rfl, fun j _ => D.eqv_refl _⟩
  | undef => exact rfl
theorem AVle_purge (s : St) (ob' : Nat → Option Ob) (i : Nat) (v : AV) : AVle s ob' v (v.purge i) := by
  unfold AV.purge
  cases v.hasRef i with
  | true => cases v <;> exact trivial
  | false => exact AVle_refl s ob' v

/-- What object i is, as plain data. -/
def FzOK (s : St) (i : Nat) : Fz → Prop
  | .row x => ∃ e k n f, s.ob i = some (.row e k n f) ∧ x = .slc k n f
  | .box xs => ∃ cs, s.ob i = some (.box cs) ∧ allD cs = some xs
theorem caple_refl (s : St) (ob' : Nat → Option Ob) (c : Cap) : caple s ob' c c := by
  cases c with
  | own i => exact rfl
  | dat x => exact D.eqv_refl x
theorem fzCaps_le {i : Nat} {xs : List D} {ob' : Nat → Option Ob} (hz : FzOK s i (.box xs)) (h0 : ob' i = none) : ∀ l : List Cap, capsle s ob' l (l.map (fzCap i xs))
  | [] => trivial
  | c :: l => by
    refine ⟨?_, fzCaps_le hz h0 l⟩
    cases c with
    | dat x => exact D.eqv_refl x
    | own j =>
      simp only [fzCap]
      cases hb : Nat.beq j i with
      | false => exact rfl
      | true =>
        have := Nat.eq_of_beq_eq_true hb
        subst this
        obtain ⟨cs, h1, h2⟩ := hz
        exact ⟨h0, cs, xs, h1, h2, D.eqv_refl _⟩
theorem fz_le {i : Nat} {z : Fz} {ob' : Nat → Option Ob} (hz : FzOK s i z) (h0 : ob' i = none) (v : AV) : AVle s ob' v (fz i z v) := by
  cases z with
  | row x =>
    obtain ⟨e, k, n, f, hi, rfl⟩ := hz
    unfold fz
    cases v with
    | own j =>
      simp only
      cases hb : Nat.beq j i with
      | true =>
        have := Nat.eq_of_beq_eq_true hb
        subst this
        exact ⟨h0, e, k, n, f, hi, D.eqv_refl _⟩
      | false => exact rfl
    | _ => exact AVle_purge s ob' i _
  | box xs =>
    unfold fz
    cases v with
    | box j o =>
      simp only
      cases hb : Nat.beq j i with
      | true =>
        have := Nat.eq_of_beq_eq_true hb
        subst this
        obtain ⟨cs, h1, h2⟩ := hz
        exact ⟨h0, cs, xs, h1, h2, D.eqv_refl _⟩
      | false => exact ⟨rfl, rfl⟩
    | clo f l => exact ⟨rfl, fzCaps_le hz h0 l⟩
    | _ => exact AVle_purge s ob' i _
theorem fzCaps_refs {i : Nat} {xs : List D} {j : Nat} : ∀ {l : List Cap}, j ∈ capRefs (l.map (fzCap i xs)) → j ∈ capRefs l ∧ j ≠ i
  | [], h => by simp [capRefs] at h
  | c :: l, h => by
    cases c with
    | dat x => simpa [capRefs] using fzCaps_refs (l := l) (by simpa [fzCap, capRefs] using h)
    | own m =>
      simp only [List.map_cons, fzCap] at h
      cases hb : Nat.beq m i with
      | true =>
        rw [hb] at h
        have := fzCaps_refs (l := l) (by simpa [capRefs] using h)
        exact ⟨by simp [capRefs, this.1], this.2⟩
      | false =>
        rw [hb] at h
        simp only [cond_false, capRefs, List.mem_cons] at h ⊢
        rcases h with rfl | h
        · exact ⟨.inl rfl, fun e => by subst e; rw [beq_self] at hb; cases hb⟩
        · exact ⟨.inr (fzCaps_refs h).1, (fzCaps_refs h).2⟩
theorem fz_refs {i : Nat} {z : Fz} {v : AV} {j : Nat} (hj : j ∈ (fz i z v).refs) : j ∈ v.refs ∧ j ≠ i := by
  cases z with
  | row x =>
    unfold fz at hj
    cases v with
    | own m =>
      simp only at hj
      cases hb : Nat.beq m i with
      | true => rw [hb] at hj; simp [AV.refs] at hj
      | false =>
        rw [hb] at hj
        simp only [cond_false, AV.refs, List.mem_singleton] at hj
        subst hj
        exact ⟨by simp [AV.refs], fun e => by subst e; rw [beq_self] at hb; cases hb⟩
    | _ => exact refs_purge hj
  | box xs =>
    unfold fz at hj
    cases v with
    | box m o =>
      simp only at hj
      cases hb : Nat.beq m i with
      | true => rw [hb] at hj; simp [AV.refs] at hj
      | false =>
        rw [hb] at hj
        simp only [cond_false, AV.refs, List.mem_singleton] at hj
        subst hj
        exact ⟨by simp [AV.refs], fun e => by subst e; rw [beq_self] at hb; cases hb⟩
    | clo f l => exact fzCaps_refs hj
    | _ => exact refs_purge hj

theorem RG.fzAll (h : RG cx γ s a w) {i : Nat} {z : Fz} (hz : FzOK s i z) : R cx (fzAll s i z) a w := by
  have hob : ∀ j, upd (fun j => (s.ob j).map (fzO i z)) i none j = if j = i then none else (s.ob j).map (fzO i z) := fun j => upd_eq _ _ _ _
  have h0 : upd (fun j => (s.ob j).map (fzO i z)) i none i = none := by rw [hob, if_pos rfl]
  have hsome : ∀ j, j ≠ i → (s.ob j).isSome = true → (upd (fun j => (s.ob j).map (fzO i z)) i none j).isSome = true := fun j hj hs => by rw [hob, if_neg hj]; simpa using hs
  refine h.weak (s' := Go.Pg.fzAll s i z) (fun t => fz_le hz h0 _) (fun j o' hj => ?_) (fun t j hj => ?_) (fun j cs hj c hc m hm => ?_)
  · have hj' : upd (fun j => (s.ob j).map (fzO i z)) i none j = some o' := hj
    rw [hob] at hj'
    split at hj'
    · cases hj'
    · cases hs' : s.ob j with
      | none => rw [hs'] at hj'; cases hj'
      | some q =>
        rw [hs'] at hj'; cases hj'
        cases q with
        | row e' k' n' f' => exact ⟨rfl, D.eqv_refl _, rfl⟩
        | box cs =>
          show avles s _ cs (cs.map (fz i z))
          clear hs' hj
          induction cs with
          | nil => exact trivial
          | cons c cs ih => exact ⟨fz_le hz h0 c, ih⟩
  · have hj' := fz_refs (show j ∈ (fz i z (s.sl t)).refs from hj)
    exact hsome j hj'.2 (h.srefs t j hj'.1)
  · have hj' : upd (fun j => (s.ob j).map (fzO i z)) i none j = some (.box cs) := hj
    rw [hob] at hj'
    split at hj'
    · cases hj'
    · cases hs' : s.ob j with
      | none => rw [hs'] at hj'; cases hj'
      | some q =>
        rw [hs'] at hj'
        cases q with
        | row e' k' n' f' => cases hj'
        | box cs' =>
          simp only [Option.map_some, fzO, Option.some.injEq, Ob.box.injEq] at hj'
          subst hj'
          obtain ⟨c', hc', rfl⟩ := List.mem_map.1 hc
          have hm' := fz_refs hm
          exact hsome m hm'.2 (h.refs j cs' hs' c' hc' m hm'.1)
theorem RG.freeze (h : RG cx γ s a w) (i : Nat) : R cx (s.freeze i) a w := by
  unfold St.freeze
  cases hi : s.ob i with
  | none => exact ⟨γ, h⟩
  | some o =>
    cases o with
    | row e k n f => exact h.fzAll (z := .row _) ⟨e, k, n, f, hi, rfl⟩
    | box cs =>
      simp only
      cases hx : allD cs with
      | none => exact ⟨γ, h⟩
      | some xs => exact h.fzAll (z := .box xs) ⟨cs, hi, hx⟩
theorem R.freezes : ∀ (ids : List Nat) {s : St}, R cx s a w → R cx (s.freezes ids) a w
  | [], _, h => h
  | i :: r, _, ⟨_, h⟩ => R.freezes r (h.freeze i)

theorem blk_own {base e k n : Nat} {v : Value} {xs : List Value} (h : w.ownsRow base e k v n xs) : ∀ b, blk v = some b → base ≤ b := by
  rcases h.2 with ⟨rfl, _⟩ | ⟨g, cap, cur, rfl, h1, _⟩
  · intro b hb; simp [blk] at hb
  · intro b hb; simp [blk] at hb; omega
theorem ownsRow_base {base base' e k n : Nat} {v : Value} {xs : List Value} (h : w.ownsRow base e k v n xs) (hb : base' ≤ base) : w.ownsRow base' e k v n xs := by
  refine ⟨h.1, ?_⟩
  rcases h.2 with h1 | ⟨g, cap, cur, h2, h3, h4⟩
  · exact .inl h1
  · exact .inr ⟨g, cap, cur, h2, by omega, h4⟩

theorem own_call (h : RG cx γ s a w) {o : Oper} {d : Nat} (ho : o.dst = some d) {f : FuncId} {avs : List AV} {vs : List Value} {dr : Bool} (hD : cx.dr = true → dr = true) (hvs : All2 (M w (okOf cx s γ w) γ) avs vs) {K : Ob → Prop} (hd : d < cx.N) (hc : CallOwn dr P s f avs K) :
    Ent P f ∧ Calls P f vs.toArray w fun e w'' => ∃ v, e = .returned v ∧ ∃ ob, R cx (mk s d ob (.own d)) (a.put o.dst v) w'' ∧ K ob := by
  simp only [CallOwn_iff] at hc
  obtain ⟨xs, e, k, n, g, h1, ⟨hent, h2⟩, h3, hK⟩ := hc
  obtain ⟨h4, h5⟩ := toV1s_m h h1 hvs
  refine ⟨hent, (h2 w _ _ (fun b hb => hb) h4).mono fun en w' ⟨v, he, hb, ys, hown, hone, hrep⟩ => ⟨v, he, .row e k n g, ⟨upd γ d v, ?_⟩, hK⟩⟩
  rw [ho]
  refine mk_ok h hd hb.1 (fun e => hb.2 (hD e)) (blk_own hown) (fun ok' hok' => ⟨ys, by rw [upd_same]; exact ownsRow_base hown (Nat.zero_le _), fun b hb => by rw [upd_same] at hb; exact .inl (Nat.le_trans h.below.size (blk_own hown b hb)), hone, fun m hm j hj => ?_⟩) (fun cs e => by cases e) (fun _ => by show v = upd γ d v d; simp) (fun j hj => by simpa [AV.refs] using hj)
  obtain ⟨u, hu, hr⟩ := hrep m hm j hj
  exact ⟨u, hu, Rep.flat (h3 m j hm hj) hr⟩

theorem isNil_eq {v : Value} (h : isNil v = true) : v = .slice none 0 0 := by
  cases v with
  | slice ad l c =>
    cases ad with
    | none =>
      simp only [isNil, Bool.and_eq_true] at h
      rw [Nat.eq_of_beq_eq_true h.1, Nat.eq_of_beq_eq_true h.2]
    | some ad => simp [isNil] at h
  | _ => simp [isNil] at h

/-- A row takes the place of object i; slot t holds it. -/
theorem remk_ok (h : RG cx γ s a w) {i : Nat} {o o' : Ob} {v : Value} {w' : World} {t : Option Nat} (hi : s.ob i = some o) (ht : ∀ d, t = some d → d < cx.N) (hg : w.grownBy w' (blk (γ i))) (hdr : cx.dr = true → w.drawn ≤ w'.drawn) (hv : ∀ b, blk v = some b → blk (γ i) = some b ∨ w.heap.size ≤ b)
    (ho : ∀ ok : Nat → Prop, (∀ b, okOf cx s γ w b → ok b ∧ w'.heap[b]? = w.heap[b]?) → Holds w' cx.O ok (upd γ i v) i o') (hr : ∀ cs, o' = .box cs → ∀ c ∈ cs, c.refs = []) :
    R cx (remk s i o' t) (a.put t v) w' := by
  refine ⟨upd γ i v, (h.renew (i := i) (o' := o') (v := v) (row := blk (γ i)) hg hdr (fun b hb => ⟨o, hi, hb⟩) hv ho hr).putO ht ?_ fun j hj => ?_⟩
  · show v = upd γ i v i; simp
  · have : j = i := by simpa [AV.refs] using hj
    subst this
    show (upd (s.drop j).ob j (some o') j).isSome = true
    simp

variable (hT : ∀ t i, T t = some i → TI.of P t = some i) (hE : ∀ t, E.eq t = true → EqFact P t)
include hT

theorem slice_parts {t : Nat} {e : Nat} {size bytes : Nat} {ag : Bool} {zero : List Value} (ht : T t = some ⟨size, ag, bytes, zero, .slice e⟩) : P.underlying t = some (.slice e) := by
  obtain ⟨info, d, z, _, hd, _, _, _, _, _, hk⟩ := ti_facts (hT t _ ht)
  have hds := TK.of_slice hk
  subst hds
  exact hd

theorem appendE_ok (h : RG cx γ s a w) {o : Oper} {x y : Operand} {t : TypeId} (hop : o.op = .call { callee := .builtin .append, args := #[x, y], argTypes := #[t, t] }) (hd : ∀ d, o.dst = some d → d < cx.N) {K : St → Prop} (hl : appendE T s o.dst t (ev s x) (ev s y) K) :
    OpOK P o a w fun a' w' => ∃ s', R cx s' a' w' ∧ K s' := by
  unfold appendE at hl
  cases ht : T t with
  | none => simp [ht] at hl
  | some ti =>
    obtain ⟨size, ag, bytes, zero, kind⟩ := ti
    cases kind with
    | slice e =>
      cases hdst : o.dst with
      | none => simp [ht, hdst] at hl
      | some d =>
        simp only [ht, hdst] at hl
        cases he : T e with
        | none => simp [he] at hl
        | some ei =>
          simp only [he] at hl
          have hund := slice_parts hT ht
          have hx := ev_m h x
          have hy := ev_m h y
          have run : ∀ {v' : Value} {w' : World}, (Builtin.append_ #[t, t] o.type #[a.eval x, a.eval y]).run P w = .ok v' w' → (execOp a.eval o).run P w = .ok (.value v') w' := fun hr => by
            simp [execOp, hop, resolve, invoke, builtin, hr]
          cases hax : ev s x with
          | own i =>
            rw [hax] at hx
            have hxv : a.eval x = γ i := hx.1
            simp only [hax] at hl
            have key : ∀ (hsz : 0 < ei.size), ∃ k m g, _ ∧ _ := fun hsz => srcE_sound (size := ei.size) h hsz hy.1 hl
            cases hsz : Nat.ble 1 ei.size with
            | false =>
              exfalso
              have : ∃ k m g, (match s.ob i with | some (.row e' k' n f) => bif Nat.beq e e' && Nat.beq k' ei.size && Nat.ble 1 ei.size && Nat.beq ei.zero.length ei.size then ((m = 0 ∨ k = ei.size) ∧ n + m ≤ maxLen ∧ (n + m) * ei.bytes ≤ 140737488355328) ∧ K (remk s i (.row e k' (n + m) (appRow n f g)) (some d)) else False | _ => False : Prop) := by
                obtain ⟨k, m, g, hh, _⟩ := srcE_sound (size := 1) h (by omega) hy.1 hl
                exact ⟨k, m, g, hh⟩
              obtain ⟨k, m, g, hh⟩ := this
              cases ho : s.ob i with
              | none => simp [ho] at hh
              | some ob => cases ob <;> simp [ho, hsz] at hh
            | true =>
              obtain ⟨k, m, g, hh, hsrc⟩ := key (by have := Nat.le_of_ble_eq_true hsz; omega)
              cases ho : s.ob i with
              | none => simp [ho] at hh
              | some ob =>
                cases ob with
                | box cs => simp [ho] at hh
                | row e' k' n f =>
                  simp only [ho] at hh
                  cases hb : (Nat.beq e e' && Nat.beq k' ei.size && Nat.ble 1 ei.size && Nat.beq ei.zero.length ei.size) with
                  | false => simp [hb] at hh
                  | true =>
                    simp only [hb, cond_true] at hh
                    simp only [Bool.and_eq_true] at hb
                    have h1 := Nat.eq_of_beq_eq_true hb.1.1.1
                    have h2 := Nat.eq_of_beq_eq_true hb.1.1.2
                    have h3 := Nat.le_of_ble_eq_true hb.1.2
                    have h4 := Nat.eq_of_beq_eq_true hb.2
                    subst h1; subst h2
                    obtain ⟨⟨hk, hlen, hby⟩, hK⟩ := hh
                    obtain ⟨xs, hown, hO, hone, hrep⟩ := h.objs i _ ho
                    obtain ⟨v', w', ys, r1, r2, r3, r4, r5, r6⟩ := append_run (ty := o.type) hund (hT _ _ he) (by omega) h4 hown hone hrep (hsrc hk) hlen hby (Nat.zero_le _)
                    refine .value (run (by rw [hxv]; exact r1)) ⟨_, remk_ok (o' := .row e ei.size (n + m) (appRow n f g)) (v := v') h ho (t := o.dst) (by rw [hdst]; exact fun d' hd' => hd d' (by rw [hdst, ← hd'])) r3 (fun _ => run_drawn _ r1) (fun b hb => ?_) (fun ok hok => ⟨ys, by rw [upd_same]; exact r2, fun b hb => by rw [upd_same] at hb; rcases r4 with r4 | r4; exact hO b (by rw [← r4]; exact hb); rw [r4] at hb; cases hb; exact .inl h.below.size, r5, r6 ok hok⟩) (fun cs e => by cases e), by rw [hdst]; exact hK⟩
                    rcases r4 with r4 | r4
                    · exact .inl (by rw [← r4]; exact hb)
                    · rw [r4] at hb; cases hb; exact .inr (Nat.le_refl _)
          | nilsl =>
            rw [hax] at hx
            have hxv : a.eval x = .slice none 0 0 := hx.1
            simp only [hax] at hl
            cases hb : (Nat.ble 1 ei.size && Nat.beq ei.zero.length ei.size) with
            | false =>
              exfalso
              obtain ⟨k, m, g, hh, _⟩ := srcE_sound (size := 1) h (by omega) hy.1 hl
              simp [hb] at hh
            | true =>
              have hb' := hb
              simp only [Bool.and_eq_true] at hb
              have h3 := Nat.le_of_ble_eq_true hb.1
              have h4 := Nat.eq_of_beq_eq_true hb.2
              obtain ⟨k, m, g, hh, hsrc⟩ := srcE_sound (size := ei.size) h (by omega) hy.1 hl
              simp only [hb', cond_true] at hh
              obtain ⟨⟨hk, hlen, hby⟩, hK⟩ := hh
              obtain ⟨v', w', ys, r1, r2, r3, r4, r5, r6⟩ := append_run (f := fun _ _ => dflt) (ty := o.type) (ok := okOf cx s γ w) hund (hT _ _ he) (by omega) h4 (World.ownsRow_nil w w.heap.size e ei.size) (by simp) (fun i hi => by omega) (hsrc hk) (by omega) (by simpa using hby) (Nat.le_refl _)
              refine .value (run (by rw [hxv]; exact r1)) ⟨_, ⟨upd γ d v', ?_⟩, hK⟩
              rw [hdst]
              have hbel : Below w.heap.size w w' := ⟨r3.os, r3.tape, r3.output, r3.size, fun k hk => r3.block k hk (by simp [blk])⟩
              refine mk_ok h (hd d hdst) hbel (fun _ => run_drawn _ r1) (fun b hb => ?_) (fun ok hok => ⟨ys, by rw [upd_same]; exact ownsRow_base (by simpa using r2) (Nat.zero_le _), (fun b hb => by
                rw [upd_same] at hb
                rcases r4 with r4 | r4
                · rw [r4] at hb; simp [blk] at hb
                · rw [r4] at hb; cases hb; exact .inl h.below.size), r5, fun p hp q hq => ?_⟩) (fun cs e => by cases e) (fun _ => by show v' = upd γ d v' d; simp) (fun j hj => by simpa [AV.refs] using hj)
              · rcases r4 with r4 | r4
                · rw [r4] at hb; simp [blk] at hb
                · rw [r4] at hb; cases hb; exact Nat.le_refl _
              · obtain ⟨u, hu, hr⟩ := r6 ok hok p (by omega) q hq
                refine ⟨u, hu, ?_⟩
                have : appRow 0 (fun _ _ => dflt) g p q = g p q := by simp [appRow]
                rwa [this] at hr
          | _ =>
            exfalso
            simp only [hax] at hl
            obtain ⟨k, m, g, hh, _⟩ := srcE_sound (size := 1) h (by omega) hy.1 hl
            exact hh
    | _ => simp [ht] at hl

theorem buildSliceE_ok (h : RG cx γ s a w) {t len : Nat} {parts : Array (Nat × Operand)} {K : Nat → TI → (Nat → Nat → D) → Prop} (hl : buildSliceE T s t len parts.toList K) :
    ∃ (e : Nat) (ei : TI) (f : Nat → Nat → D) (xs : List Value), K e ei f ∧ (Instr.buildSlice t len (parts.map fun (i, x) => (i, a.eval x))).run P w = .ok (.slice (some ⟨w.heap.size, 0, none⟩) len len) (w.alloc (.cells xs.toArray e)) ∧ xs.length = len * ei.size ∧ 0 < ei.size ∧ len ≤ 16777216 ∧
      (∀ u ∈ xs, u.oneCell' = true) ∧ ∀ m, m < len → ∀ j, j < ei.size → ∃ u, xs[m * ei.size + j]? = some u ∧ Rep w (okOf cx s γ w) (f m j) u := by
  unfold buildSliceE at hl
  cases ht : T t with
  | none => simp [ht] at hl
  | some ti =>
    obtain ⟨size, ag, bytes, zero, kind⟩ := ti
    cases kind with
    | slice e =>
      simp only [ht] at hl
      cases he : T e with
      | none => simp [he] at hl
      | some ei =>
        simp only [he] at hl
        cases hz : cds ei.zero with
        | none => simp [hz] at hl
        | some zs =>
          simp only [hz] at hl
          cases hf : fillE (placesA ei) s parts.toList (repD len zs) with
          | none => simp [hf] at hl
          | some l =>
            simp only [hf] at hl
            cases hb : (Nat.ble 1 ei.size && Nat.beq ei.zero.length ei.size && Nat.ble (len * ei.size) 16777216) with
            | false => simp [hb] at hl
            | true =>
              simp only [hb, cond_true] at hl
              simp only [Bool.and_eq_true] at hb
              have h1 := Nat.le_of_ble_eq_true hb.1.1
              have h2 := Nat.eq_of_beq_eq_true hb.1.2
              have hcap := Nat.le_of_ble_eq_true hb.2
              have hK := hl
              have hund := slice_parts hT ht
              obtain ⟨info, d, z, hi, hd, hzz, hs1, _, _, hzc, _⟩ := ti_facts (hT e _ he)
              have hzr : All2 (Rep w (okOf cx s γ w)) zs z.cells.toList := by rw [hzc]; exact cds_rep hz
              have hzl : zs.length = ei.size := by rw [hzr.length, hzc, h2]
              obtain ⟨m, hm1, hm2⟩ := fillE_sound h hf (repD_rep hzr (by omega) len)
              have hll : l.length = len * ei.size := by
                have : ∀ {ps : List (Nat × Operand)} {ds l : List D}, fillE (placesA ei) s ps ds = some l → l.length = ds.length := by
                  intro ps
                  induction ps with
                  | nil => intro ds l h; simp [fillE] at h; rw [h]
                  | cons p ps ih =>
                    intro ds l h
                    obtain ⟨i, x⟩ := p
                    simp only [fillE, placesA] at h
                    cases hc : cellsD (ev s x) with
                    | none => simp [hc] at h
                    | some ys =>
                      simp only [hc] at h
                      cases hb : (Nat.beq ys.length ei.size && Nat.ble (i * ei.size + ei.size) ds.length) with
                      | false => simp [hb] at h
                      | true =>
                        simp only [hb, cond_true] at h
                        cases hr : setRange ds (i * ei.size) ys with
                        | none => simp [hr] at h
                        | some ds' => simp only [hr] at h; rw [ih h, (setRange_get hr).1]
                rw [this hf, repD_length, hzl]
              have hml : m.length = len * ei.size := by rw [← hm2.length, hll]
              have hlen : len ≤ 16777216 := by
                have : len * 1 ≤ len * ei.size := Nat.mul_le_mul_left _ h1
                omega
              refine ⟨e, ei, rowOf ei.size l, m, hK, ?_, hml, h1, hlen, Rep.ones hm2, fun p hp q hq => ?_⟩
              · have hzero : (zeroValue e).run P w = .ok z w := by simp [zeroValue, typeInfo, hi, hzz]
                have hparts : (parts.map fun (i, x) => (i, a.eval x)).toList = parts.toList.map fun p => (p.1, a.eval p.2) := by simp
                have hsize := run_sizeOf' (hT _ _ he) w
                unfold Instr.buildSlice
                simp only [Sem.run_bind, run_underlying hund, Result.andThen_ok, hsize, show ¬ len * ei.size > 2 ^ 24 by omega, if_false, Sem.run_pure]
                rw [hzl, Array.toArray_toList] at hm1
                by_cases h0 : len * ei.size = 0
                · rw [h0] at hm1
                  have e0 : ∀ (zv : Array Value), (Array.range 0).map (fun x => zv[x % zv.size]!) = #[] := fun zv => by simp [Array.range]
                  rw [e0] at hm1
                  simp only [h0, if_true, Sem.run_pure, Result.andThen_ok, e0, hparts]
                  rw [show (fun i => some (i * ei.size, ei.size)) = placesA ei from rfl]
                  have hm1' : Instr.fill (placesA ei) #[] (parts.toList.map fun p => (p.1, a.eval p.2)) = some m.toArray := hm1
                  rw [hm1']
                  simp only [newRow, Sem.run_bind, run_newObj, Result.andThen_ok, Sem.run_pure]
                  rfl
                · simp only [h0, if_false, Sem.run_bind, hzero, Result.andThen_ok, Sem.run_pure, hparts]
                  rw [show (fun i => some (i * ei.size, ei.size)) = placesA ei from rfl]
                  have hm1' : Instr.fill (placesA ei) (Array.map (fun x => z.cells[x % z.cells.size]!) (Array.range (len * ei.size))) (parts.toList.map fun p => (p.1, a.eval p.2)) = some m.toArray := hm1
                  rw [hm1']
                  simp only [newRow, Sem.run_bind, run_newObj, Result.andThen_ok, Sem.run_pure]
                  rfl
              · have hlt : p * ei.size + q < l.length := by
                  rw [hll]
                  have : (p + 1) * ei.size ≤ len * ei.size := Nat.mul_le_mul_right _ hp
                  rw [Nat.add_mul] at this; omega
                obtain ⟨u, hu, hr⟩ := hm2.get _ _ (List.getElem?_eq_getElem hlt)
                refine ⟨u, hu, ?_⟩
                have : rowOf ei.size l p q = l[p * ei.size + q] := by simp [rowOf, getD', nth_eq, hlt]
                rw [this]; exact hr
    | _ => simp [ht] at hl
end
end Go.Pg
