/- Texts joined and shortened by program. -/
import Derived.Test.YtooepbnecjepnaaGreatT2
import Derived.Sort.LoopGhostIn
set_option maxHeartbeats 4000000
set_option linter.all false
namespace Go.Pg
open Go.RowKit
section
variable {P : Program} {T : TT} {E : Env} {cx : Cx} {γ : Nat -> Value} {s : St} {a : Act} {w : World}
theorem zoE (h : RG cx γ s a w) {d e k : Nat} (hd : d < cx.N) : R cx (mk s d (.row e k 0 fun _ _ => dflt) (.own d)) (a.put (some d) (.slice none 0 0)) w :=
 ⟨upd γ d (.slice none 0 0), zgH h hd (Below.refl _ _) (fun _ => Nat.le_refl _) (fun b hb => by simp [blk] at hb) (fun ok hok => ⟨[], by rw [zae]; exact World.ownsRow_nil w _ e k, (fun b hb => by rw [zae] at hb; cases hb), by simp, fun m hm => absurd hm (Nat.not_lt_zero _)⟩) (fun cs e => by cases e) (fun _ => by show _ = upd γ d _ d; simp) (fun j hj => by simpa [AV.refs] using hj)⟩
theorem ziQ {ok : Nat -> Prop} {γ : Nat -> Value} : ∀ {zs : List Value}, zs.all (·.oneCell') = true -> All2 (fun c v => M w ok γ c v /\ v.oneCell' = true) (zs.map cv) zs
 | [], _ => .nil
 | z :: zs, h => by
  simp only [List.all_cons, Bool.and_eq_true] at h
  exact .cons ⟨(cv_m z).1, h.1⟩ (ziQ h.2)
theorem zj4 (h : RG cx γ s a w) {d : Nat} {t : TypeId} {cs : List AV} {vs : List Value} (hd : d < cx.N) (hcs : ∀ (ok : Nat -> Prop) (γ' : Nat -> Value) (w' : World), (∀ b, okOf cx s γ w b -> ok b /\ w'.heap[b]? = w.heap[b]?) -> All2 (fun c v => M w' ok γ' c v /\ v.oneCell' = true) cs vs) (hr : ∀ c ∈ cs, c.refs = []) :
  R cx (mk s d (.box cs) (.box d 0)) (a.put (some d) (.pointer (some ⟨w.heap.size, 0, none⟩))) (w.alloc (.cells vs.toArray t)) :=
 ⟨upd γ d (.pointer (some ⟨w.heap.size, 0, none⟩)), zgH h hd (zaF w _) (fun _ => Nat.le_refl _) (fun b hb => by simp [blk] at hb; omega)
  (fun ok hok => ⟨w.heap.size, vs, t, by rw [zae], .inl h.below.size, heap_alloc_new w _, hcs ok _ _ hok⟩) (fun cs' e => by cases e; exact hr) (fun _ => ⟨w.heap.size, by rw [zae], rfl⟩) (fun j hj => by simpa [AV.refs] using hj)⟩
variable (hT : ∀ t i, T t = some i -> TI.of P t = some i) (hE : ∀ t, E.eq t = true -> EqFact P t)
include hT hE
variable (hD : cx.dr = true -> E.dr = true)
include hD
theorem zkY (h : RG cx γ s a w) {o : Oper} {fo : Operand} {args : Array Operand} {at' : Array TypeId} (hop : o.op = .call { callee := .value fo, args, argTypes := at' }) (hd : ∀ d, o.dst = some d -> d < cx.N) {K : St -> Prop}
    (hc : CallSt E P s o fo args.toList K) (hny : ¬ YieldOb E s o fo args.toList K) : OpOK P o a w fun a' w' => ∃ s', R cx s' a' w' /\ K s' := by
  simp only [zag] at hc
  rcases hc with ⟨ids, f, ex, hcal, hc⟩ | ⟨ids, f, ex, d, hcal, hdst, hc⟩ | ⟨s', hc, hK⟩ | hc
  · obtain ⟨γ', h'⟩ := R.freezes ids ⟨γ, h⟩
    obtain ⟨cvs, hx, hcm⟩ := zaZ hcal (ev_m h' fo).1
    obtain ⟨hent, hcall⟩ := zg2 h' hD (o := o) ((zcA h' args.toList).append hcm) hd hc
    exact .enter (zaW hop hx hent) (hcall.mono fun e w' ⟨v, h1, u, h2, h3⟩ => ⟨v, h1, _, ⟨γ', h2⟩, h3⟩)
  · obtain ⟨γ', h'⟩ := R.freezes ids ⟨γ, h⟩
    obtain ⟨cvs, hx, hcm⟩ := zaZ hcal (ev_m h' fo).1
    obtain ⟨hent, hcall⟩ := zhD h' hdst hD ((zcA h' args.toList).append hcm) (hd d hdst) hc
    exact .enter (zaW hop hx hent) (hcall.mono fun e w' ⟨v, h1, ob, h2, h3⟩ => ⟨v, h1, _, h2, h3⟩)
  · simp only [zeL] at hc
    exact (hc cx a w hD hd ⟨γ, h⟩).mono fun a' w' h' => ⟨s', h', hK⟩
  · exact absurd hc hny
theorem zgk (h0 : R cx s a w) {o : Oper} (hd : ∀ d, o.dst = some d -> d < cx.N) {K : St -> Prop} (hny : ∀ fo args at', o.op = .call { callee := .value fo, args, argTypes := at' } -> ¬ YieldOb E s o fo args.toList K) (hl : stE P T E s o K) : OpOK P o a w fun a' w' => ∃ s', R cx s' a' w' /\ K s' := by
  obtain ⟨γ, h⟩ := h0
  have plain : ∀ {s : St} {γ : Nat -> Value}, RG cx γ s a w -> (opE P T E s o.op fun v => K (s.putO o.dst v)) -> OpOK P o a w fun a' w' => ∃ s', R cx s' a' w' /\ K s' := fun {s γ} h he =>
    (znr hT hE hD h hd he).mono fun a' w' ⟨v, h1, h2⟩ => ⟨_, ⟨γ, h1⟩, h2⟩
  have cust : (∃ s', Custom E.dr P s o s' /\ K s') -> OpOK P o a w fun a' w' => ∃ s', R cx s' a' w' /\ K s' := fun ⟨s', hc, hK⟩ => by
    simp only [zeL] at hc
    exact (hc cx a w hD hd ⟨γ, h⟩).mono fun a' w' h' => ⟨s', h', hK⟩
  obtain ⟨dst, op, type, pos, after, guard⟩ := o
  cases op with
  | alloc t =>
    simp only [stE] at hl
    cases dst with
    | none => simp at hl
    | some d =>
      cases ht : T t with
      | none => simp [ht] at hl
      | some ti =>
        simp only [ht] at hl
        cases hb : ti.zero.all (·.oneCell') with
        | false => simp [hb] at hl
        | true =>
          simp only [hb, cond_true] at hl
          obtain ⟨info, ds, z, hi, hds, hz, _, _, _, hzc, _⟩ := zad (hT t _ ht)
          refine .value (x := .pointer (some ⟨w.heap.size, 0, none⟩)) (w' := w.alloc (.cells ti.zero.toArray t)) ?_ ⟨_, zj4 h (vs := ti.zero) (t := t) (hd d rfl) (fun ok γ' w' _ => ziQ hb) (fun c hc => by obtain ⟨v, _, rfl⟩ := List.mem_map.1 hc; exact (cv_m (w := w) (ok := fun _ => True) (γ := γ) v).2), hl⟩
          have hzero : (zeroValue t).run P w = .ok z w := by simp [zeroValue, typeInfo, hi, hz]
          have hzv : z.cells = ti.zero.toArray := by rw [<- hzc]
          simp only [execOp, Instr.alloc, Sem.run_bind, hzero, Result.andThen_ok, newVar, newRow, run_newObj, Sem.run_pure, hzv]
          rfl
  | box t x =>
    simp only [stE] at hl
    cases dst with
    | none => simp at hl
    | some d =>
      cases ht : T t with
      | none => simp [ht] at hl
      | some ti =>
        cases hc : cellsA (ev s x) with
        | none => simp [ht, hc] at hl
        | some cs =>
          simp only [ht, hc] at hl
          cases hb : (Nat.beq cs.length ti.size && cs.all fun c => c.refs.isEmpty) with
          | false => simp [hb] at hl
          | true =>
            simp only [hb, cond_true] at hl
            simp only [Bool.and_eq_true] at hb
            have hx := ev_m h x
            have hrefs : ∀ c ∈ cs, c.refs = [] := fun c hc => by have := List.all_eq_true.1 hb.2 c hc; simpa using this
            obtain ⟨hm, _⟩ := zh3 hc hx.1 fun j e => by
              exfalso
              rw [e] at hc
              simp only [cellsA, Option.some.injEq] at hc
              have := hrefs (.own j) (by rw [<- hc]; simp)
              simp [AV.refs] at this
            refine .value (x := .pointer (some ⟨w.heap.size, 0, none⟩)) (w' := w.alloc (.cells (a.eval x).cells.toList.toArray t)) ?_ ⟨_, zj4 h (t := t) (vs := (a.eval x).cells.toList) (hd d rfl) (fun ok γ' w' hok => hm.imp fun c v hc' ⟨p1, p2⟩ => ⟨p1.keep hok (fun j hj => (by rw [hrefs c hc'] at hj; cases hj)), p2⟩) hrefs, hl⟩
            simp only [execOp, Instr.box, Sem.run_bind, newVar, newRow, run_newObj, Result.andThen_ok, Sem.run_pure, Array.toArray_toList]
            rfl
  | store t x y =>
    simp only [stE] at hl
    cases dst with
    | some d => simp at hl
    | none =>
      obtain ⟨w', s', h1, h2, h3⟩ := zji hT h (ev_m h x).1 (ev_m h y).1 (ev_m h y).2 hl
      exact .skip (w' := w') (by simp [execOp, h1]) ⟨s', ⟨γ, h2⟩, h3⟩
  | buildSlice t len parts =>
    simp only [stE] at hl
    cases dst with
    | none => simp at hl
    | some d =>
      obtain ⟨e, ei, f, xs, hK, h1, h2, h3, h4, h5, h6⟩ := zca hT h hl
      refine .value (x := .slice (some ⟨w.heap.size, 0, none⟩) len len) (w' := w.alloc (.cells xs.toArray e)) (by simp [execOp, h1]) ⟨_, ⟨upd γ d (.slice (some ⟨w.heap.size, 0, none⟩) len len), ?_⟩, hK⟩
      refine zgH h (hd d rfl) (zaF w _) (fun _ => Nat.le_refl _) (fun b hb => by simp [blk] at hb; omega) (fun ok hok => ⟨xs, ⟨h2, .inr ⟨w.heap.size, len, xs.toArray, by rw [zae], Nat.zero_le _, heap_alloc_new w _, Nat.le_refl _, by simp only [maxLen]; omega, by simp [h2], by rw [<- h2]; simp⟩⟩, (fun b hb => by rw [zae] at hb; simp [blk] at hb; subst hb; exact .inl h.below.size), h5, fun m hm j hj => ?_⟩) (fun cs e => by cases e) (fun _ => by show _ = upd γ d _ d; simp) (fun j hj => by simpa [AV.refs] using hj)
      obtain ⟨u, hu, hr⟩ := h6 m hm j hj
      exact ⟨u, hu, Rep.keep hok hr⟩
  | makeSlice t l c =>
    simp only [stE] at hl
    cases dst with
    | none => simp at hl
    | some d =>
      obtain ⟨e, n, ei, f, xs, hK, h1, h2, h3, h4, h5, h6⟩ := zmd hT h hl
      refine .value (x := .slice (some ⟨w.heap.size, 0, none⟩) n n) (w' := w.alloc (.cells xs.toArray e)) (by simp [execOp, h1]) ⟨_, ⟨upd γ d (.slice (some ⟨w.heap.size, 0, none⟩) n n), ?_⟩, hK⟩
      refine zgH h (hd d rfl) (zaF w _) (fun _ => Nat.le_refl _) (fun b hb => by simp [blk] at hb; omega) (fun ok hok => ⟨xs, ⟨h2, .inr ⟨w.heap.size, n, xs.toArray, by rw [zae], Nat.zero_le _, heap_alloc_new w _, Nat.le_refl _, by simp only [maxLen]; omega, by simp [h2], by rw [<- h2]; simp⟩⟩, (fun b hb => by rw [zae] at hb; simp [blk] at hb; subst hb; exact .inl h.below.size), h5, fun m hm j hj => ?_⟩) (fun cs e => by cases e) (fun _ => by show _ = upd γ d _ d; simp) (fun j hj => by simpa [AV.refs] using hj)
      obtain ⟨u, hu, hr⟩ := h6 m hm j hj
      exact ⟨u, hu, Rep.keep hok hr⟩
  | makeMap t r =>
    cases r with
    | some r => exact plain h hl
    | none =>
      simp only [stE] at hl
      cases dst with
      | none => simp at hl
      | some d =>
        refine .value (x := .map (some w.heap.size)) (w' := w.alloc (.map #[] 0)) (by simp [execOp, Instr.makeMap, Result.andThen]) ⟨_, ⟨upd γ d (.map (some w.heap.size)), ?_⟩, hl⟩
        exact zgH h (hd d rfl) (zaF w _) (fun _ => Nat.le_refl _) (fun b hb => by simp [blk] at hb; omega) (fun ok hok => ⟨w.heap.size, [], 0, by rw [zae], .inl h.below.size, heap_alloc_new w _, rfl, fun e he => by cases he⟩) (fun cs e => by cases e) (fun _ => by show _ = upd γ d _ d; simp) (fun j hj => by simpa [AV.refs] using hj)
  | lookup t x i ok =>
    cases ok with
    | true => exact plain h hl
    | false =>
      simp only [stE] at hl
      obtain ⟨b, h1, h2⟩ := zme hT h (ev_m h x).1 (ev_m h i).1 hl
      exact .value (x := .bool b) (w' := w) (by simp [execOp, h1]) ⟨_, ⟨γ, h.putO (v := .d (.bool b)) hd rfl (fun j hj => by simp [AV.refs] at hj)⟩, h2⟩
  | mapUpdate t m k v =>
    simp only [stE] at hl
    cases dst with
    | some d => simp at hl
    | none =>
      obtain ⟨w', s', h1, h2, h3⟩ := znS hT h (ev_m h m).1 (ev_m h k).1 (ev_m h v).1 hl
      exact .skip (w' := w') (by simp [execOp, h1]) ⟨s', ⟨γ, h2⟩, h3⟩
  | assign x =>
    simp only [stE] at hl
    cases hn : isNilOp x with
    | false => simp only [hn] at hl; exact plain h hl
    | true =>
      cases dst with
      | none => simp only [hn] at hl; exact plain h hl
      | some d =>
        cases hs : isSl T type with
        | false => simp only [hn, hs] at hl; exact plain h hl
        | true =>
          simp only [hn, hs] at hl
          unfold isSl at hs
          cases ht : T type with
          | none => simp [ht] at hs
          | some ti =>
            obtain ⟨size, ag, bytes, zero, kind⟩ := ti
            cases kind with
            | slice e =>
              simp only [ht] at hl
              cases he : T e with
              | none => simp [he] at hl
              | some ei =>
                simp only [he] at hl
                have hxv : a.eval x = .slice none 0 0 := by
                  cases x with
                  | const v => exact zmr hn
                  | _ => simp [isNilOp] at hn
                exact .value (x := .slice none 0 0) (w' := w) (by simp [execOp, hxv]) ⟨_, zoE h (hd d rfl), hl⟩
            | _ => simp [ht] at hs
  | slice t x lo hi mx =>
    cases lo with
    | some l => exact plain h hl
    | none =>
      cases hi with
      | none => exact plain h hl
      | some hv =>
        cases mx with
        | some m => exact plain h hl
        | none =>
          simp only [stE] at hl
          cases hx : ev s x with
          | own i =>
            cases hh : ev s hv with
            | d p =>
              cases p with
              | int kh ih =>
                simp only [hx, hh] at hl
                cases ho : s.ob i with
                | none => simp [ho] at hl
                | some ob =>
                  cases ob with
                  | box cs => simp [ho] at hl
                  | mp ks => simp [ho] at hl
                  | row e k n f =>
                    cases hel : hasEl T t with
                    | false => simp [ho, hel] at hl
                    | true =>
                      simp only [ho, hel] at hl
                      obtain ⟨⟨hh0, hhn⟩, hK⟩ := hl
                      unfold hasEl at hel
                      cases ht : T t with
                      | none => simp [ht] at hel
                      | some ti =>
                        obtain ⟨size, ag, bytes, zero, kind⟩ := ti
                        cases kind with
                        | slice e' =>
                          simp only [ht] at hel
                          cases he : T e' with
                          | none => simp [he] at hel
                          | some ei =>
                            have hund := za4 hT ht
                            have hxv : a.eval x = γ i := by have := (ev_m h x).1; rw [hx] at this; exact this
                            have hhv : a.eval hv = .int kh ih := by have := (ev_m h hv).1; rw [hh] at this; exact this
                            obtain ⟨xs, hown, hO, hone, hrep⟩ := h.objs i _ ho
                            have small : ∀ m, m < ih.toNat -> ∀ j, j < k -> m * k + j < ih.toNat * k := fun m hm j hj => by
                              have : (m + 1) * k <= ih.toNat * k := Nat.mul_le_mul_right _ hm
                              rw [Nat.add_mul] at this; omega
                            have hle : ih.toNat * k <= n * k := Nat.mul_le_mul_right _ (by omega)
                            have hsub : ∀ (ok : Nat -> Prop), (∀ b, okOf cx s γ w b -> ok b /\ w.heap[b]? = w.heap[b]?) -> (∀ u ∈ xs.take (ih.toNat * k), u.oneCell' = true) /\ ∀ m, m < ih.toNat -> ∀ j, j < k -> ∃ u, (xs.take (ih.toNat * k))[m * k + j]? = some u /\ Rep w ok (f m j) u := fun ok hok =>
                              ⟨fun u hu => hone u (List.mem_of_mem_take hu), fun m hm j hj => by
                                obtain ⟨u, hu, hr⟩ := hrep m (by omega) j hj
                                exact ⟨u, by rw [List.getElem?_take, if_pos (small m hm j hj)]; exact hu, Rep.keep hok hr⟩⟩
                            rcases hown.2 with ⟨e1, e2⟩ | ⟨g, cap, cur, e1, e2, e3, e4, e5, e6, e7⟩
                            · have h0 : ih.toNat = 0 := by omega
                              refine .value (x := .slice none 0 0) (w' := w) ?_ ⟨_, zdt (o' := .row e k ih.toNat f) h ho hd ⟨rfl, rfl, rfl, Nat.le_refl _, fun _ _ _ => rfl⟩ (fun _ => Nat.le_refl _) (fun b hb => by simp [blk] at hb) (fun ok hok => ⟨[], by rw [zae, h0]; exact World.ownsRow_nil w _ e k, (fun b hb => by rw [zae] at hb; cases hb), by simp, fun m hm => by omega⟩) (fun cs e => by cases e), hK⟩
                              have hih : ih = 0 := by omega
                              subst hih
                              subst e2
                              simp [execOp, hxv, e1, hhv, Instr.sliceAt, Instr.slice, run_underlying hund, Instr.sliceBounds, Instr.sliceBound, asIntOf, zac (hT _ _ he)]
                            · refine .value (x := .slice (some ⟨g, 0, none⟩) ih.toNat cap) (w' := w) ?_ ⟨_, zdt (o' := .row e k ih.toNat f) h ho hd ⟨rfl, rfl, rfl, Nat.le_refl _, fun _ _ _ => rfl⟩ (fun _ => Nat.le_refl _) (fun b hb => .inl (by rw [e1]; exact hb)) (fun ok hok => ⟨xs.take (ih.toNat * k), ⟨by rw [List.length_take, hown.1]; omega, .inr ⟨g, cap, cur, by rw [zae], e2, e3, by omega, e5, e6, by rw [<- e7, List.take_take]; congr 1; omega⟩⟩, (fun b hb => by rw [zae] at hb; exact hO b (by rw [e1]; exact hb)), hsub ok hok⟩) (fun cs e => by cases e), hK⟩
                              have hb : (0 : Int) <= ih /\ ih <= (cap : Int) := ⟨hh0, by omega⟩
                              have hadd : ∀ q : Nat, (⟨g, 0, none⟩ : Addr).add (0 * q) = ⟨g, 0, none⟩ := fun q => by simp [Addr.add]
                              simp [execOp, hxv, e1, hhv, Instr.sliceAt, Instr.slice, run_underlying hund, Instr.sliceBounds, Instr.sliceBound, asIntOf, hb, zac (hT _ _ he), hadd, Addr.add]
                        | _ => simp [ht] at hel
              | _ => simp only [hx, hh] at hl; exact plain h hl
            | _ => simp only [hx, hh] at hl; exact plain h hl
          | _ => simp only [hx] at hl; exact plain h hl
  | build t parts =>
    simp only [stE] at hl
    obtain ⟨γ', h'⟩ := R.freezes (ownIds (parts.toList.map fun p => ev s p.2)) ⟨γ, h⟩
    exact plain h' hl
  | call c =>
    obtain ⟨callee, args, argTypes⟩ := c
    cases callee with
    | value f =>
      simp only [stE] at hl
      exact zkY hT hE hD h rfl hd hl (hny _ _ _ rfl)
    | invoke r m => exact plain h hl
    | builtin b =>
      cases b with
      | append =>
        simp only [stE] at hl
        cases ha : args.toList with
        | nil => simp [ha] at hl
        | cons x r =>
          cases r with
          | nil => simp [ha] at hl
          | cons y r =>
            cases r with
            | cons z r => simp [ha] at hl
            | nil =>
              cases hat : argTypes.toList with
              | nil => simp [ha, hat] at hl
              | cons t r =>
                cases r with
                | nil => simp [ha, hat] at hl
                | cons t' r =>
                  cases r with
                  | cons z r => simp [ha, hat] at hl
                  | nil =>
                    simp only [ha, hat] at hl
                    cases hb : Nat.beq t t' with
                    | false => simp [hb] at hl
                    | true =>
                      simp only [hb, cond_true] at hl
                      have := Nat.eq_of_beq_eq_true hb
                      subst this
                      have h1 : args = #[x, y] := by rw [<- Array.toArray_toList (xs := args), ha]
                      have h2 : argTypes = #[t, t] := by rw [<- Array.toArray_toList (xs := argTypes), hat]
                      subst h1; subst h2
                      exact zpt hT h rfl hd hl
      | len => exact plain h hl
      | max => exact plain h hl
      | min => exact plain h hl
      | clear =>
        simp only [stE] at hl
        cases ha : args.toList with
        | nil => simp [ha] at hl
        | cons x r =>
          cases r with
          | cons y r => simp [ha] at hl
          | nil =>
            cases hat : argTypes.toList with
            | nil => simp [ha, hat] at hl
            | cons t r =>
              cases r with
              | cons t' r => simp [ha, hat] at hl
              | nil =>
                cases dst with
                | some d => simp [ha, hat] at hl
                | none =>
                  simp only [ha, hat] at hl
                  have h1 : args = #[x] := by rw [<- Array.toArray_toList (xs := args), ha]
                  have h2 : argTypes = #[t] := by rw [<- Array.toArray_toList (xs := argTypes), hat]
                  subst h1; subst h2
                  obtain ⟨w', s', h3, h4, h5⟩ := zkV hT h (ty := type) (ev_m h x).1 hl
                  exact .value (x := .tuple #[]) (w' := w') (by simp [execOp, resolve, invoke, builtin, h3]) ⟨s', ⟨γ, h4⟩, h5⟩
      | _ => exact cust hl
  | binOp op t x y yt =>
    simp only [stE] at hl
    cases hq : nilQ T op t (ev s x) (ev s y) with
    | none => simp only [hq] at hl; exact plain h hl
    | some un =>
      obtain ⟨u, n⟩ := un
      simp only [hq] at hl
      have shape : isSl T t = true /\ (∃ k f, ev s x = .d (.slc k n f)) /\ ev s y = .nilsl /\ ((op = .eql /\ u = true) \/ (op = .neq /\ u = false)) := by
        unfold nilQ at hq
        split at hq
        · rename_i q1 q2 q3; simp at hq; obtain ⟨rfl, rfl⟩ := hq; exact ⟨q1, ⟨_, _, q2⟩, q3, .inl ⟨rfl, rfl⟩⟩
        · rename_i q1 q2 q3; simp at hq; obtain ⟨rfl, rfl⟩ := hq; exact ⟨q1, ⟨_, _, q2⟩, q3, .inr ⟨rfl, rfl⟩⟩
        · cases hq
      obtain ⟨hs, ⟨k, f, hx⟩, hy, hop⟩ := shape
      obtain ⟨e, hund⟩ := znd hT hs
      have hmx := (ev_m h x).1
      rw [hx] at hmx
      have hmy := (ev_m h y).1
      rw [hy] at hmy
      have hyv : a.eval y = .slice none 0 0 := hmy
      have put : ∀ (b : Bool), RG cx γ (s.putO dst (.d (.bool b))) (a.put dst (.bool b)) w := fun b => by
        cases dst with
        | none => exact h
        | some d => exact h.put (hd d rfl) rfl (fun j hj => by simp [AV.refs] at hj)
      have shp : ∃ ad n' c, a.eval x = .slice ad n' c /\ (ad = none -> n = 0) := by
        rcases hmx with ⟨h1, h2⟩ | ⟨ad, c, h1, _⟩
        · exact ⟨none, 0, 0, h1, fun _ => h2⟩
        · exact ⟨some ad, n, c, h1, fun e => by cases e⟩
      obtain ⟨ad, n', c, hxv, hnil⟩ := shp
      rcases hop with ⟨rfl, rfl⟩ | ⟨rfl, rfl⟩
      · refine .value (x := .bool ad.isNone) (w' := w) ?_ ⟨_, ⟨γ, put _⟩, hl ad.isNone fun e => hnil (by simpa using e)⟩
        have := Go.run_eql_slice_nil (P := P) w t e ad n' c hund
        simp [execOp, hxv, hyv, eqGuard, this]
      · refine .value (x := .bool (!ad.isNone)) (w' := w) ?_ ⟨_, ⟨γ, put _⟩, hl (!ad.isNone) fun e => hnil (by simpa using e)⟩
        have := Go.run_neq_slice_nil (P := P) w t e ad n' c hund
        simp [execOp, hxv, hyv, eqGuard, this]
  | _ => exact plain h hl
def YLaw (Fm : Cx -> Prop) (P : Program) (E : Env) : Prop :=
 ∀ cx, Fm cx -> ∀ n, cx.gn = some n -> ∀ (γ : Nat -> Value) (sl : List (Nat × AV)) (ob : List (Nat × Ob)) (a : Act) (w : World) (vs : List V1) (us : List Value), (ob = [] \/ (E.cut keepN = true /\ keep1 ob = true)) -> look sl G = none -> RG cx γ (St.of sl ob) a w -> E.yd n vs -> All2 (Rep1 w (okOf cx (St.of sl ob) γ w)) vs us ->
  YieldAt Fence.wide 0 P E.l us.toArray w fun e w' =>
   (e = .returned (.bool true) /\ ∃ cx', Fm cx' /\ RG cx' γ (St.of ((G, .gho (some (n + 1))) :: sl) ob) a w') \/ (e = .returned (.bool false) /\ ∃ cx', Fm cx' /\ RG cx' γ (St.of ((G, .gho none) :: stillS sl) []) a w')
omit hT hE hD in
theorem YLaw.none {cx : Cx} (h : cx.gn = .none) : YLaw (· = cx) P E := fun c hc n hn => by subst hc; rw [h] at hn; cases hn
omit hT hE hD in
theorem zlm {Fm : Cx -> Prop} {N : Nat} (hNf : ∀ cx, Fm cx -> cx.N = N) (hY : YLaw Fm P E) (hcx : Fm cx) (h : RG cx γ s a w) {o : Oper} {fo : Operand} {args : Array Operand} {at' : Array TypeId} (hop : o.op = .call { callee := .value fo, args, argTypes := at' }) (hd : ∀ d, o.dst = some d -> d < cx.N) {K : St -> Prop}
    (hy : YieldOb E s o fo args.toList K) : OpOK P o a w fun a' w' => ∃ s', RF Fm s' a' w' /\ K s' := by
  obtain ⟨n, d, sl, ob, vs, hkp, hdst, hf, hg, hG, hw, hvs, hno, hyd, k1, k2⟩ := hy.out
  obtain ⟨us, hus⟩ : ∃ us : List Value, us = args.toList.map a.eval := ⟨_, rfl⟩
  have hm := (zbC h hvs (zcA h args.toList)).2 hno
  rw [<- hus] at hm
  have hfo := (ev_m h fo).1
  rw [hf] at hfo
  have hfo : a.eval fo = .func (.yield E.l) #[] #[] := hfo
  obtain ⟨γ', h', hok⟩ := h.weakL hw
  obtain ⟨fn, tmps, asg, body, hrun, hround⟩ := hY cx hcx n (h.gho _ hg) γ' sl ob a w vs us hkp hG h' hyd (hm.imp fun _ _ _ hr => Rep1.keep (fun b hb => ⟨hok b hb, rfl⟩) hr)
  refine .round (l := E.l) (fn := fn) (tmps := tmps) (asg := asg) (body := body) ?_ (zbF hround ?_)
  · have he : args.map a.eval = us.toArray := by rw [hus, <- Array.toList_map]
    simp [execOp, hop, resolve, hfo, Deferred.ofValue, invoke, he, hrun]
  · rintro e w' (⟨rfl, cx', hc', hr⟩ | ⟨rfl, cx', hc', hr⟩)
    · refine ⟨_, rfl, _, ⟨cx', hc', γ', ?_⟩, k1⟩
      rw [hdst]
      exact hr.put (by rw [hNf _ hc', <- hNf _ hcx]; exact hd d hdst) rfl (fun j hj => by simp [AV.refs] at hj)
    · refine ⟨_, rfl, _, ⟨cx', hc', γ', ?_⟩, k2⟩
      rw [hdst]
      exact hr.put (by rw [hNf _ hc', <- hNf _ hcx]; exact hd d hdst) rfl (fun j hj => by simp [AV.refs] at hj)
omit hD in
theorem znh {Fm : Cx -> Prop} {N : Nat} (hNf : ∀ cx, Fm cx -> cx.N = N) (hDf : ∀ cx, Fm cx -> cx.dr = true -> E.dr = true) (hY : YLaw Fm P E) (h0 : RF Fm s a w) {o : Oper} (hd : ∀ d, o.dst = some d -> d < N) {K : St -> Prop} (hl : stE P T E s o K) : OpOK P o a w fun a' w' => ∃ s', RF Fm s' a' w' /\ K s' := by
  obtain ⟨cx, hcx, γ, h⟩ := h0
  have hd' : ∀ d, o.dst = some d -> d < cx.N := by rw [hNf cx hcx]; exact hd
  by_cases hy : ∃ fo args at', o.op = .call { callee := .value fo, args, argTypes := at' } /\ YieldOb E s o fo args.toList K
  · obtain ⟨fo, args, at', hop, hy⟩ := hy
    exact zlm hNf hY hcx h hop hd' hy
  · exact (zgk hT hE (hDf cx hcx) ⟨γ, h⟩ hd' (fun fo args at' hop hyy => hy ⟨fo, args, at', hop, hyy⟩) hl).mono fun a' w' ⟨s', h1, h2⟩ => ⟨s', ⟨cx, hcx, h1⟩, h2⟩
end
def FW (F : Fence) : Prop := F = Fence.wide \/ ∃ l, F = Fence.wide.inRound l
theorem FWc.fw {cx : Cx} {F : Fence} (h : FWc cx F) : FW F := h.imp id fun ⟨l, _, h, _⟩ => ⟨l, h⟩
theorem FW.fn {F : Fence} (h : FW F) (f : FuncId) : F.fn f := by rcases h with rfl | ⟨l, rfl⟩ <;> exact trivial
theorem FW.depth {F : Fence} (h : FW F) : F.depth = none := by rcases h with rfl | ⟨l, rfl⟩ <;> rfl
theorem FW.calls {F : Fence} (h : FW F) {n : Nat} {P : Program} {f : FuncId} {args : Array Value} {w : World} {R : Ending -> World -> Prop} (hc : Calls P f args w R) : CallsIn F n P f args w R := by
 rcases h with rfl | ⟨l, rfl⟩
 ·exact callsIn_wide.2 hc
 ·exact (callsIn_wide (n := n)).2 hc
section
variable {P : Program} {T : TT} {E : Env} {cx : Cx} {γ : Nat -> Value} {s : St} {a : Act} {w : World} {F : Fence} {n : Nat}
theorem OpOK.noDefer {o : Oper} {Post : Act -> World -> Prop} (h : OpOK P o a w Post) (c : Call) : o.op ≠ .defer c := by
 intro e
 unfold OpOK at h
 simp only [execOp, e, Sem.run_bind] at h
 cases hr : (resolve a.eval c o.type).run P w with
 | ok d w' => simp [hr] at h
 | halt x w' => simp [hr] at h
theorem OpOK.wpIn (hF : FW F) {o : Oper} {K : Act -> World -> Prop} {Q : Exit -> Act -> World -> Prop} (h : OpOK P o a w K) : o.wpIn F n P a w K Q := by
 refine ⟨fun f _ => hF.fn f, ?_⟩
 rw [Oper.semAt_eq _ _ _ h.noDefer]
 unfold OpOK at h
 generalize (execOp a.eval o).run P w = r at *
 cases r with
 | halt x w' => exact h.elim
 | ok x w' =>
  cases x <;> simp only at h <;> simp only [Oper.uponIn]
  case value v => exact h
  case skip => exact h
  case round l fn tmps asg body =>
   have : RoundIn F (n - 1) P l fn tmps asg body w' fun e w'' => ∃ v, e = .returned v /\ K (a.put o.dst v) w'' := by
    rcases hF with rfl | ⟨l, rfl⟩ <;> exact ⟨trivial, fun c cs _ => h.2 c cs (room_wide _)⟩
   refine ⟨fun hd => (by rw [hF.depth] at hd; cases hd), zbF this fun e w'' ⟨v, he, hp⟩ => ?_⟩
   subst he; exact hp
  case enter f args =>
   refine ⟨fun hd => (by rw [hF.depth] at hd; cases hd), hF.calls (h.mono fun e w'' ⟨v, he, hp⟩ => ?_)⟩
   subst he; exact hp
theorem zaQ {ops : List Oper} {i : Nat} {d : Option Nat} {K : St -> Prop} (h : splitAt ops i d s K) : K s := by
 unfold splitAt at h
 cases hg : guardUsed ops i with
 | false => simp only [hg] at h; exact h
 | true =>
  cases d with
  | none => simp only [hg] at h; exact h
  | some t =>
   simp only [hg] at h
   cases hs : s.sl t with
   | d p =>
    cases p with
    | bool b =>
     simp only [hs] at h
     have := h.out
     rw [<- hs, zhs] at this
     exact this
    | _ => simp only [hs] at h; exact h
   | _ => simp only [hs] at h; exact h
theorem zea {Fm : Cx -> Prop} (h : RF Fm s a w) {ops : Array Oper} {j : Nat} {b : Bool} (hg : gval s ops.toList j = .d (.bool b)) : yielded ops a.tmps j = some b := by
 obtain ⟨_, _, γ, h⟩ := h
 unfold gval dstOf at hg
 rw [zap] at hg
 unfold yielded
 cases hj : ops.toList[j]? with
 | none => simp [hj] at hg
 | some o =>
  have hj' : ops[j]? = some o := by simpa using hj
  cases hd : o.dst with
  | none => simp [hj, hd] at hg
  | some t =>
   simp only [hj, hd] at hg
   have hm := h.slots t
   rw [hg] at hm
   have hv : a.tmps.getD t Go.undef = .bool b := hm
   have : a.tmps[t]? = some (.bool b) := by
    rw [Array.getD_eq_getD_getElem?] at hv
    cases hx : a.tmps[t]? with
    | none => rw [hx] at hv; simp [Go.undef] at hv
    | some x => rw [hx] at hv; simp at hv; rw [hv]
   simp [hj', hd, this]
theorem zdi {Fm : Cx -> Prop} (h : RF Fm s a w) {ops : Array Oper} {j : Nat} (hg : gval s ops.toList j = .undef) : yielded ops a.tmps j = none := by
 obtain ⟨_, _, γ, h⟩ := h
 unfold gval dstOf at hg
 rw [zap] at hg
 unfold yielded
 cases hj : ops.toList[j]? with
 | none => simp [hj] at hg
 | some o =>
  have hj' : ops[j]? = some o := by simpa using hj
  cases hd : o.dst with
  | none => simp [hj, hd] at hg
  | some t =>
   simp only [hj, hd] at hg
   have hm := h.slots t
   rw [hg] at hm
   have hv : a.tmps.getD t Go.undef = Go.undef := hm
   rw [Array.getD_eq_getD_getElem?] at hv
   cases hx : a.tmps[t]? with
   | none => simp [hj', hd, hx]
   | some x => rw [hx] at hv; simp at hv; subst hv; simp [hj', hd, hx, Go.undef]
theorem zfH (h : R cx s a w) {d : Option Nat} (hd : ∀ t, d = some t -> t < cx.N) : R cx (s.putO d .undef) (a.put d Go.undef) w := by
 obtain ⟨γ, h⟩ := h
 exact ⟨γ, h.putO hd rfl (fun j hj => by simp [AV.refs] at hj)⟩
theorem zio {Fm : Cx -> Prop} {N : Nat} (hNf : ∀ cx, Fm cx -> cx.N = N) (h : RF Fm s a w) {d : Option Nat} (hd : ∀ t, d = some t -> t < N) : RF Fm (s.putO d .undef) (a.put d Go.undef) w := by
 obtain ⟨cx, hcx, h⟩ := h
 exact ⟨cx, hcx, zfH h (by rw [hNf cx hcx]; exact hd)⟩
theorem zbZ {N : Nat} {ops : List Oper} (h : dstsOK N ops = true) {o : Oper} (ho : o ∈ ops) : ∀ d, o.dst = some d -> d < N := fun d hd => by
 have := List.all_eq_true.1 h o ho
 rw [hd] at this
 exact Nat.le_of_ble_eq_true this
variable (hT : ∀ t i, T t = some i -> TI.of P t = some i) (hE : ∀ t, E.eq t = true -> EqFact P t)
include hT hE
variable {Fm : Cx -> Prop} {N : Nat} (hNf : ∀ cx, Fm cx -> cx.N = N) (hD : ∀ cx, Fm cx -> cx.dr = true -> E.dr = true) (hY : YLaw Fm P E)
include hNf hD hY
theorem zds (hF : FW F) {ops : Array Oper} (hN : dstsOK N ops.toList = true) {Q : Exit -> Act -> World -> Prop} {K : St -> Prop} (hQ : ∀ s a w, RF Fm s a w -> K s -> Q .normal a w) :
  ∀ (rest : List Oper) (i : Nat), (∀ j, rest[j]? = ops.toList[i + j]?) -> ∀ {s : St} {a : Act} {w : World}, RF Fm s a w -> runOps P T E ops.toList i rest s K -> wpOpsIn F n P ops Q (List.range' i rest.length) a w
 | [], i, hr, s, a, w, h, hl => by simpa [wpOpsIn] using hQ s a w h hl
 | o :: r, i, hr, s, a, w, h, hl => by
  have ho : ops[i]? = some o := by have := hr 0; simpa using this.symm
  have hmem : o ∈ ops.toList := by simpa using Array.mem_of_getElem? ho
  have hd := zbZ hN hmem
  have hr' : ∀ j, r[j]? = ops.toList[i + 1 + j]? := fun j => by have := hr (j + 1); rw [show i + 1 + j = i + (j + 1) by omega]; simpa using this
  simp only [List.length_cons, List.range'_succ, wpOpsIn, ho]
  have go : (stF P T E s o fun s' => splitAt ops.toList i o.dst s' fun s' => runOps P T E ops.toList (i + 1) r s' K) -> o.wpIn F n P a w (wpOpsIn F n P ops Q (List.range' (i + 1) r.length)) Q := fun hl => by
   refine OpOK.wpIn hF ((znh hT hE hNf hD hY h hd (zdo hl)).mono fun a' w' ⟨s', h1, h2⟩ => ?_)
   exact zds hF hN hQ r (i + 1) hr' h1 (zaQ h2)
  have no : runOps P T E ops.toList (i + 1) r (s.putO o.dst .undef) K -> (∀ f, o.about P w a.eval = some f -> F.fn f) /\ wpOpsIn F n P ops Q (List.range' (i + 1) r.length) (a.put o.dst Go.undef) w := fun hl =>
   ⟨fun f _ => hF.fn f, zds hF hN hQ r (i + 1) hr' (zio hNf h hd) hl⟩
  simp only [zgu] at hl
  cases hg : o.guard with
  | none =>
   have : Region.wanted o (yielded ops a.tmps) = true := by simp [Region.wanted, hg]
   simp only [this, if_true]
   simp only [hg] at hl
   exact go hl
  | some p =>
   obtain ⟨j, want⟩ := p
   simp only [hg] at hl
   cases hv : gval s ops.toList j with
   | d q =>
    cases q with
    | bool b =>
     simp only [hv] at hl
     have hy := zea h hv
     cases hbw : (b == want) with
     | true =>
      have hw : Region.wanted o (yielded ops a.tmps) = true := by
       have : b = want := by simpa using hbw
       simp [Region.wanted, hg, hy, this]
      simp only [hw, if_true]
      simp only [hbw] at hl
      exact go hl
     | false =>
      have hw : Region.wanted o (yielded ops a.tmps) = false := by
       have : b ≠ want := by simpa using hbw
       simp [Region.wanted, hg, hy, this]
      simp only [hw, Bool.false_eq_true, if_false]
      simp only [hbw] at hl
      exact no hl
    | _ => simp [hv] at hl
   | undef =>
    simp only [hv] at hl
    have hy := zdi h hv
    have hw : Region.wanted o (yielded ops a.tmps) = false := by simp [Region.wanted, hg, hy]
    simp only [hw, Bool.false_eq_true, if_false]
    exact no hl
   | _ => simp [hv] at hl
theorem zjI (hF : FW F) {id : Nat} {ops : Array Oper} (hN : dstsOK N ops.toList = true) {Q : Exit -> Act -> World -> Prop} {K : St -> Prop} (hQ : ∀ s a w, RF Fm s a w -> K s -> Q .normal a w) (h : RF Fm s a w) (hl : runOps P T E ops.toList 0 ops.toList s K) :
  (Code.region id ops false).wpIn F n P Q a w := by
 refine wpIn_region ?_
 have := zds hT hE hNf hD hY (n := n) hF hN hQ ops.toList 0 (by simp) h hl
 rw [List.range_eq_range']
 simpa using this
end
section
variable {P : Program} {T : TT} {E : Env} {cx : Cx} {γ : Nat -> Value} {s s' : St} {a : Act} {w : World} {F : Fence} {n : Nat}
def Spl (f : (AV -> Prop) -> Prop) : Prop := ∀ K, f K ↔ ∃ v, f (fun u => u = v) /\ K v
theorem Spl.k (v : AV) : Spl fun K => K v := fun K => ⟨fun h => ⟨v, rfl, h⟩, fun ⟨u, h, hk⟩ => by rw [show v = u from h]; exact hk⟩
theorem Spl.false : Spl fun _ => False := fun K => ⟨fun h => h.elim, fun ⟨_, h, _⟩ => h⟩
theorem Spl.and {p : Prop} {f : (AV -> Prop) -> Prop} (h : Spl f) : Spl fun K => p /\ f K := fun K =>
 ⟨fun ⟨hp, hf⟩ => let ⟨v, h1, h2⟩ := (h K).1 hf; ⟨v, ⟨hp, h1⟩, h2⟩, fun ⟨v, ⟨hp, h1⟩, h2⟩ => ⟨hp, (h K).2 ⟨v, h1, h2⟩⟩⟩
theorem Spl.cond {b : Bool} {f g : (AV -> Prop) -> Prop} (h1 : Spl f) (h2 : Spl g) : Spl fun K => bif b then f K else g K := by
 cases b
 ·exact h2
 ·exact h1
theorem Spl.split {b : Bool} {f : (AV -> Prop) -> Bool -> Prop} (h : Spl fun K => f K b) : Spl fun K => Split b (f K) := fun K =>
 ⟨fun hs => let ⟨v, h1, h2⟩ := (h K).1 hs.out; ⟨v, .of h1, h2⟩, fun ⟨v, h1, h2⟩ => .of ((h K).2 ⟨v, h1.out, h2⟩)⟩
theorem zkb (s : St) (ti : TI) (v : AV) : Spl (loadP s ti v) := by
 unfold loadP
 split
 ·split
  ·split
   ·split
    ·exact .cond (.k _) .false
    ·exact .false
   ·split
    ·exact .k _
    ·exact .false
  ·exact .false
 ·split
  ·exact .cond (.k _) .false
  ·exact .cond (.k _) .false
 ·split
  ·split
   ·exact .cond (.and (.k _)) .false
   ·exact .cond (.and (.k _)) .false
  ·exact .false
 ·exact .false
theorem zkc (s : St) (ti : TI) (v : AV) : Spl (loadE s ti v) := zkb s ti v.asPtr
theorem zd7 (T : TT) (st fld : Nat) (v : AV) : Spl (fieldAddrE T st fld v) := by
 unfold fieldAddrE
 split
 ·split
  ·split
   ·exact .cond .false (.k _)
   ·exact .false
  ·exact .false
 ·exact .false
theorem zd5 (T : TT) (s : St) (t : Nat) (x ix : AV) : Spl (indexAddrP T s t x ix) := by
 unfold indexAddrP
 split
 ·split
  ·exact .and (.k _)
  ·split
   ·exact .and (.cond (.k _) .false)
   ·exact .false
  ·exact .and (.cond (.k _) .false)
  ·exact .false
 ·split
  ·exact .and (.k _)
  ·exact .and (.cond (.k _) .false)
  ·exact .false
 ·exact .false
theorem zd6 (T : TT) (s : St) (t : Nat) (x ix : AV) : Spl (indexAddrE T s t x ix) := zd5 T s t x.asPtr ix
theorem zfI (ti : TI) (xs : List D) (off : Nat) : Spl (partE ti xs off) := by
 unfold partE
 split
 ·exact .cond (.k _) .false
 ·split
  ·exact .k _
  ·exact .false
theorem ziC (T : TT) (st fld : Nat) (v : AV) : Spl (fieldE T st fld v) := by
 unfold fieldE
 split
 ·split
  ·split
   ·exact zfI _ _ _
   ·exact .false
  ·exact .false
 ·exact .false
theorem zix (T : TT) (t : Nat) (x ix : AV) : Spl (indexE T t x ix) := by
 unfold indexE
 split
 ·split
  ·exact .and (zfI _ _ _)
  ·exact .false
 ·exact .false
theorem zex (op : BinOp) (k : IntKind) (a b : Int) : Spl fun K => intBin op k a b fun r => K (.d r) := by
 unfold intBin
 cases op <;> first | exact .and (.k _) | exact .k _
theorem zgM (op : BinOp) (k : IntKind) (a b : Int) : Spl fun K => intBinW op k a b fun r => K (.d r) := by
 have old := fun op => zex op k a b
 cases op with
 | add => exact .k _
 | sub => exact .k _
 | mul => exact .k _
 | quo => exact old .quo
 | rem => exact old .rem
 | shl => exact old .shl
 | shr => exact old .shr
 | eql => exact old .eql
 | neq => exact old .neq
 | lss => exact old .lss
 | leq => exact old .leq
 | gtr => exact old .gtr
 | geq => exact old .geq
 | and => exact old .and
 | or => exact old .or
 | xor => exact old .xor
 | andNot => exact old .andNot
theorem zhv (T : TT) (op : BinOp) (t : Nat) (b : Bool) : Spl (ptrQ T op t b) := by
 unfold ptrQ
 split <;> first | exact .k _ | exact .false
theorem zm4 (T : TT) (E : Env) (op : BinOp) (t : Nat) (x y : AV) : Spl (binE T E op t x y) := by
 unfold binE
 split
 ·refine .cond ?_ .false
  split
  ·exact zgM _ _ _ _
  ·exact zex _ _ _ _
 ·split <;> first | exact .k _ | exact .false
 ·split
  ·refine .cond ?_ .false
   split <;> first | exact .k _ | exact .false
  ·exact .false
 ·exact zhv _ _ _ _
 ·exact zhv _ _ _ _
 ·exact .false
theorem znV (op : UnOp) (x : AV) : Spl (unE op x) := by
 unfold unE
 split <;> first | exact .and (.k _) | exact .k _ | exact .false
theorem ziH (T : TT) (s : St) (t : Nat) (parts : List (Nat × Operand)) : Spl (buildE T s t parts) := by
 unfold buildE
 split
 ·split
  ·split <;> first | exact .k _ | exact .false
  ·exact .false
 ·split
  ·split <;> first | exact .k _ | exact .false
  ·exact .false
 ·exact .false
theorem zdY (T : TT) (s : St) (t len : Nat) (parts : List (Nat × Operand)) : Spl fun K => buildSliceE T s t len parts fun _ ei f => K (.d (.slc ei.size len f)) := by
 unfold buildSliceE
 split
 ·split
  ·split
   ·split
    ·exact .cond (.k _) .false
    ·exact .false
   ·exact .false
  ·exact .false
 ·exact .false
theorem zih (T : TT) (s : St) (t : Nat) (x : AV) (lo hi : Option AV) : Spl (sliceE T s t x lo hi) := by
 unfold sliceE
 split
 ·split
  ·split <;> first | exact .and (.k _) | exact .false
  ·exact .false
 ·split
  ·split <;> first | exact .and (.k _) | exact .false
  ·exact .false
 ·exact .false
theorem zgq (T : TT) (t : Nat) (x : AV) (lo hi : Option AV) (m : AV) : Spl (slice3E T t x lo hi m) := by
 unfold slice3E
 split
 ·split
  ·exact .and (.k _)
  ·exact .false
 ·exact .false
theorem zf6 (v : AV) (i : Nat) : Spl (extractE v i) := by
 unfold extractE
 split
 ·split <;> first | exact .k _ | exact .false
 ·split
  ·exact .k _
  ·split <;> first | exact .k _ | exact .false
 ·exact .false
theorem zmg (T : TT) (t : Nat) (s : St) (v : AV) : Spl (lenE T t s v) := by
 unfold lenE
 split
 ·exact .cond (.k _) .false
 ·exact .cond (.k _) .false
 ·exact .cond (.k _) .false
 ·exact .cond (.k _) .false
 ·split
  ·exact .cond (.k _) .false
  ·exact .false
 ·exact .cond (.k _) .false
 ·exact .false
theorem ze7 (mx : Bool) : ∀ (r : List AV) (v : AV), Spl (maxE mx v r)
 | [], v => by
  have : maxE mx v [] = fun K => K v := by funext K; cases v <;> rfl
  rw [this]; exact .k _
 | u :: r, v => by
  have no : (∀ K, ¬ maxE mx v (u :: r) K) -> Spl (maxE mx v (u :: r)) := fun h => by
   have : maxE mx v (u :: r) = fun _ => False := by funext K; exact eq_false (h K)
   rw [this]; exact .false
  cases v with
  | d p =>
   cases p with
   | int k a =>
    cases u with
    | d q =>
     cases q with
     | int k' b => exact ze7 mx r _
     | _ => exact no fun K h => by simp [maxE] at h
    | _ => exact no fun K h => by simp [maxE] at h
   | _ => exact no fun K h => by cases u <;> simp [maxE] at h
  | _ => exact no fun K h => by simp [maxE] at h
theorem zb3 (d : Bool) (P : Program) (s : St) (f : FuncId) (args : List AV) : Spl (CallOb d P s f args) := fun K => by
 rw [zat]
 constructor
 ·rintro (⟨xs, res, h1, h2, h3, h4⟩ | ⟨xs, res, h1, h2, h4⟩)
  ·exact ⟨_, ⟨.inl ⟨xs, res, h1, h2, h3, rfl⟩⟩, h4⟩
  ·exact ⟨_, ⟨.inr ⟨xs, res, h1, h2, rfl⟩⟩, h4⟩
 ·rintro ⟨v, ⟨⟨xs, res, h1, h2, h3, h4⟩ | ⟨xs, res, h1, h2, h4⟩⟩, h5⟩
  ·exact .inl ⟨xs, res, h1, h2, h3, by rw [h4]; exact h5⟩
  ·exact .inr ⟨xs, res, h1, h2, by rw [h4]; exact h5⟩
theorem zkn (d : Bool) (P : Program) (s : St) (r : AV) (nm : String) (args : List AV) : Spl (InvOb d P s r nm args) := fun K => by
 simp only [zd3]
 constructor
 ·rintro ⟨u, m, g, f, h1, h2, h3⟩
  obtain ⟨v, h4, h5⟩ := (zb3 d P s f _ K).1 h3
  exact ⟨v, ⟨u, m, g, f, h1, h2, h4⟩, h5⟩
 ·rintro ⟨v, ⟨u, m, g, f, h1, h2, h4⟩, h5⟩
  exact ⟨u, m, g, f, h1, h2, (zb3 d P s f _ K).2 ⟨v, h4, h5⟩⟩
theorem zmb (v : AV) : Spl (nilE v) := by
 unfold nilE
 split <;> first | exact .k _ | exact .false
theorem ziy (T : TT) (t : Nat) (v : AV) : Spl (ifaceE T t v) := by
 unfold ifaceE
 split <;> first | exact .k _ | exact .false
theorem zg6 (T : TT) (t : Nat) (v : AV) : Spl (assertE T t v) := by
 unfold assertE
 split
 ·split
  ·exact .k _
  ·split
   ·exact .cond .false (.k _)
   ·exact .false
 ·exact .false
theorem zjV (P : Program) (T : TT) (E : Env) (s : St) (op : Op) : Spl (opE P T E s op) := by
 unfold opE
 split
 ·exact .k _
 ·exact .k _
 ·split
  ·exact .split (.k _)
  ·exact .false
 ·split
  ·exact zkc _ _ _
  ·exact .false
 ·exact zd7 _ _ _ _
 ·exact zd6 _ _ _ _ _
 ·exact ziC _ _ _ _
 ·exact zix _ _ _ _
 ·exact zm4 _ _ _ _ _ _
 ·exact znV _ _
 ·split <;> first | exact .k _ | exact .false
 ·exact ziH _ _ _ _
 ·exact zih _ _ _ _ _ _
 ·exact zgq _ _ _ _ _ _
 ·exact zf6 _ _
 ·split <;> first | exact .k _ | exact .false
 ·split
  ·exact zmg _ _ _ _
  ·exact .false
 ·split
  ·exact ze7 _ _ _
  ·exact .false
 ·split
  ·exact ze7 _ _ _
  ·exact .false
 ·split
  ·exact zb3 _ _ _ _ _
  ·exact .false
 ·exact zkn _ _ _ _ _ _
 ·exact zmb _
 ·exact ziy _ _ _
 ·exact zg6 _ _ _
 ·exact .false
theorem zbQ (P : Program) (T : TT) (E : Env) (s : St) (op : Op) : Spl (valD P T E s op) := by
 unfold valD
 split
 ·exact zdY _ _ _ _ _
 ·exact zjV _ _ _ _ _
def More (s s' : St) : Prop := ∀ i o, s.ob i = some o -> s'.ob i = some o
theorem zir {s s' : St} (h : More s s') {ti : TI} {v : AV} {K : AV -> Prop} (hl : loadP s ti v K) : loadP s' ti v K := by
 cases v with
 | box i off =>
  simp only [loadP] at *
  cases ho : s.ob i with
  | none => simp [ho] at hl
  | some o => rw [h i o ho]; rw [ho] at hl; exact hl
 | elt i k n c =>
  simp only [loadP] at *
  cases ho : s.ob i with
  | none => simp [ho] at hl
  | some o => rw [h i o ho]; rw [ho] at hl; exact hl
 | _ => exact hl
theorem zis {s s' : St} (h : More s s') {ti : TI} {v : AV} {K : AV -> Prop} (hl : loadE s ti v K) : loadE s' ti v K := zir h hl
theorem zgp {s s' : St} (h : More s s') {T : TT} {t : Nat} {x : AV} {lo hi : Option AV} {K : AV -> Prop} (hl : sliceE T s t x lo hi K) : sliceE T s' t x lo hi K := by
 cases ht : T t with
 | none => simp [sliceE, ht] at hl
 | some ti =>
  obtain ⟨size, ag, bytes, zero, kind⟩ := ti
  cases kind with
  | slice e =>
   cases x with
   | own id =>
    simp only [sliceE, ht] at *
    cases ho : s.ob id with
    | none => simp [ho] at hl
    | some o => rw [h id o ho]; rw [ho] at hl; exact hl
   | d y => cases y <;> first | exact (by simpa only [sliceE, ht] using hl) | (simp [sliceE, ht] at hl; done)
   | _ => simp [sliceE, ht] at hl
  | _ => simp [sliceE, ht] at hl
theorem zdG {s s' : St} (h : More s s') {T : TT} {t : Nat} {x ix : AV} {K : AV -> Prop} (hl : indexAddrP T s t x ix K) : indexAddrP T s' t x ix K := by
 cases ht : T t with
 | none => simp [indexAddrP, ht] at hl
 | some ti =>
  obtain ⟨size, ag, bytes, zero, kind⟩ := ti
  cases kind with
  | slice e =>
   cases ix with
   | d y =>
    cases y with
    | int k i =>
     simp only [indexAddrP, ht] at *
     cases he : T e with
     | none => simp [he] at hl
     | some ei =>
      cases x with
      | own id =>
       simp only [he] at *
       cases ho : s.ob id with
       | none => simp [ho] at hl
       | some o => rw [h id o ho]; rw [ho] at hl; exact hl
      | d p => cases p <;> first | (simp only [he] at *; exact hl) | (simp [he] at hl; done)
      | sub id k' lo n => simp only [he] at *; exact hl
      | _ => simp [he] at hl
    | _ => simp [indexAddrP, ht] at hl
   | _ => simp [indexAddrP, ht] at hl
  | array n e =>
   cases ix with
   | d y =>
    cases y with
    | int k i => simp only [indexAddrP, ht] at *; exact hl
    | _ => simp [indexAddrP, ht] at hl
   | _ => simp [indexAddrP, ht] at hl
  | _ => simp [indexAddrP, ht] at hl
theorem zdH {s s' : St} (h : More s s') {T : TT} {t : Nat} {x ix : AV} {K : AV -> Prop} (hl : indexAddrE T s t x ix K) : indexAddrE T s' t x ix K := zdG h hl
theorem zkf {s s' : St} (h : More s s') {T : TT} {t : Nat} {v : AV} {K : AV -> Prop} (hl : lenE T t s v K) : lenE T t s' v K := by
 cases v with
 | own i =>
  simp only [lenE] at *
  cases ho : s.ob i with
  | none => simp [ho] at hl
  | some o => rw [h i o ho]; rw [ho] at hl; exact hl
 | d p => cases p <;> exact hl
 | _ => exact hl
theorem zfv {s s' : St} (h : More s s') {v : AV} {y : V1} (hv : toV1 s v = some y) : toV1 s' v = some y := by
 cases v with
 | own i =>
  simp only [toV1] at *
  cases ho : s.ob i with
  | none => simp [ho] at hv
  | some o => rw [h i o ho]; rw [ho] at hv; exact hv
 | _ => exact hv
theorem zbS {s s' : St} (h : More s s') : ∀ {vs : List AV} {ys : List V1}, toV1s s vs = some ys -> toV1s s' vs = some ys
 | [], _, hv => hv
 | v :: vs, ys, hv => by
  simp only [toV1s] at *
  cases ha : toV1 s v with
  | none => simp [ha] at hv
  | some y =>
   cases hb : toV1s s vs with
   | none => simp [ha, hb] at hv
   | some l => rw [zfv h ha, zbS h hb]; rw [ha, hb] at hv; exact hv
theorem za7 {s s' : St} {place : Nat -> Option (Nat × Nat)} : ∀ {parts : List (Nat × Operand)} {l : List D}, (∀ p ∈ parts, ev s' p.2 = ev s p.2) -> fillE place s' parts l = fillE place s parts l
 | [], l, _ => rfl
 | (i, x) :: r, l, h => by
  have h1 := h (i, x) (by simp)
  have ih := fun l => za7 (s := s) (s' := s') (place := place) (parts := r) (l := l) fun p hp => h p (by simp [hp])
  simp only at h1
  simp only [fillE, h1, ih]
theorem zg1 {s s' : St} (h : More s s') {v : AV} {y : D} (hv : cellD2 s v = some y) : cellD2 s' v = some y := by
 cases v with
 | own i =>
  simp only [cellD2] at *
  cases ho : s.ob i with
  | none => simp [ho] at hv
  | some o => rw [h i o ho]; rw [ho] at hv; exact hv
 | _ => exact hv
theorem zc0 {s s' : St} (h : More s s') : ∀ {vs : List AV} {ys : List D}, cellsD2 s vs = some ys -> cellsD2 s' vs = some ys
 | [], ys, hv => hv
 | v :: vs, ys, hv => by
  simp only [cellsD2] at *
  cases ha : cellD2 s v with
  | none => simp [ha] at hv
  | some y =>
   cases hb : cellsD2 s vs with
   | none => simp [ha, hb] at hv
   | some l => rw [zg1 h ha, zc0 h hb]; rw [ha, hb] at hv; exact hv
theorem zi9 {s s' : St} (h : More s s') {v : AV} {y : V1} (hv : toV2 s v = some y) : toV2 s' v = some y := by
 cases v with
 | box i off =>
  simp only [toV2] at *
  cases ho : s.ob i with
  | none => simp [ho] at hv
  | some o =>
   rw [h i o ho]
   cases o with
   | box cs =>
    simp only [ho] at hv ⊢
    cases hc : cellsD2 s cs with
    | none => simp [hc] at hv
    | some xs => rw [zc0 h hc]; rw [hc] at hv; exact hv
   | row _ _ _ _ => simp [ho] at hv
   | mp _ => simp [ho] at hv
 | _ => simp only [toV2] at hv ⊢; exact zfv h hv
theorem zcH {s s' : St} (h : More s s') : ∀ {vs : List AV} {ys : List V1}, toV2s s vs = some ys -> toV2s s' vs = some ys
 | [], ys, hv => hv
 | v :: vs, ys, hv => by
  simp only [toV2s] at *
  cases ha : toV2 s v with
  | none => simp [ha] at hv
  | some y =>
   cases hb : toV2s s vs with
   | none => simp [ha, hb] at hv
   | some l => rw [zi9 h ha, zcH h hb]; rw [ha, hb] at hv; exact hv
def SameOn (s s' : St) (op : Op) : Prop := ∀ x ∈ op.operands, ev s' x = ev s x
theorem zl4 {s s' : St} (h : More s s') {op : Op} (hs : SameOn s s' op) {K : AV -> Prop} (hl : opE P T E s op K) : opE P T E s' op K := by
 unfold SameOn at hs
 cases op with
 | move x => have := hs x (by simp [Op.operands]); simp only [opE, this] at *; exact hl
 | assign x => have := hs x (by simp [Op.operands]); simp only [opE, this] at *; exact hl
 | pick c a b =>
  have h1 := hs c (by simp [Op.operands])
  have h2 := hs a (by simp [Op.operands])
  have h3 := hs b (by simp [Op.operands])
  simp only [opE, h1, h2, h3] at *; exact hl
 | load t x =>
  have := hs x (by simp [Op.operands])
  simp only [opE, this] at *
  cases ht : T t with
  | none => simp [ht] at hl
  | some ti => simp only [ht] at *; exact zis h hl
 | fieldAddr st x f => have := hs x (by simp [Op.operands]); simp only [opE, this] at *; exact hl
 | indexAddr t x i =>
  have h1 := hs x (by simp [Op.operands])
  have h2 := hs i (by simp [Op.operands])
  simp only [opE, h1, h2] at *; exact zdH h hl
 | field st x f => have := hs x (by simp [Op.operands]); simp only [opE, this] at *; exact hl
 | index t x i =>
  have h1 := hs x (by simp [Op.operands])
  have h2 := hs i (by simp [Op.operands])
  simp only [opE, h1, h2] at *; exact hl
 | binOp op t x y yt =>
  have h1 := hs x (by simp [Op.operands])
  have h2 := hs y (by simp [Op.operands])
  simp only [opE, h1, h2] at *; exact hl
 | unOp op t x => have := hs x (by simp [Op.operands]); simp only [opE, this] at *; exact hl
 | convert src dst x => have := hs x (by simp [Op.operands]); simp only [opE, this] at *; exact hl
 | build t parts =>
  have hp : ∀ p ∈ parts.toList, ev s' p.2 = ev s p.2 := fun p hp => hs p.2 (by simp only [Op.operands, List.mem_toArray, List.mem_map]; exact ⟨p, hp, rfl⟩)
  have e : ∀ place l, fillE place s' parts.toList l = fillE place s parts.toList l := fun _ _ => za7 hp
  simp only [opE, buildE, e] at *; exact hl
 | slice t x lo hi mx =>
  cases mx with
  | some m =>
   have h1 := hs x (by simp [Op.operands])
   have h4 := hs m (by simp [Op.operands])
   have h2 : lo.map (ev s') = lo.map (ev s) := by
    cases lo with
    | none => rfl
    | some l => simp only [Option.map_some]; rw [hs l (by simp [Op.operands])]
   have h3 : hi.map (ev s') = hi.map (ev s) := by
    cases hi with
    | none => rfl
    | some l => simp only [Option.map_some]; rw [hs l (by simp [Op.operands])]
   simp only [opE, h1, h2, h3, h4] at *; exact hl
  | none =>
   have h1 := hs x (by simp [Op.operands])
   have h2 : lo.map (ev s') = lo.map (ev s) := by
    cases lo with
    | none => rfl
    | some l => simp only [Option.map_some]; rw [hs l (by simp [Op.operands])]
   have h3 : hi.map (ev s') = hi.map (ev s) := by
    cases hi with
    | none => rfl
    | some l => simp only [Option.map_some]; rw [hs l (by simp [Op.operands])]
   simp only [opE, h1, h2, h3] at *; exact zgp h hl
 | extract x i => have := hs x (by simp [Op.operands]); simp only [opE, this] at *; exact hl
 | makeFunc fn first caps =>
  cases fn with
  | func f =>
   have h1 : caps.toList.map (ev s') = caps.toList.map (ev s) := List.map_congr_left fun x hx => hs x (by simp only [Op.operands, Array.mem_append]; exact .inr (by simpa using hx))
   simp only [opE, h1] at *; exact hl
  | _ => exact hl
 | call c =>
  obtain ⟨callee, args, argTypes⟩ := c
  have hargs : args.toList.map (ev s') = args.toList.map (ev s) := List.map_congr_left fun x hx => hs x (by simp only [Op.operands, Call.operands, Array.mem_append]; exact .inr (by simpa using hx))
  cases callee with
  | value f =>
   have h1 := hs f (by simp [Op.operands, Call.operands])
   simp only [opE, h1, hargs] at *
   split at hl
   ·simp only [zat] at *
    rcases hl with ⟨xs, res, h2, h3, h4, h5⟩ | ⟨xs, res, h2, h3, h5⟩
    ·exact .inl ⟨xs, res, zbS h h2, h3, h4, h5⟩
    ·exact .inr ⟨xs, res, zcH h h2, h3, h5⟩
   ·exact hl.elim
  | invoke r nm =>
   have h1 := hs r (by simp [Op.operands, Call.operands])
   simp only [opE, h1, hargs, zd3] at *
   obtain ⟨u, m, g, f, g1, g2, g3⟩ := hl
   refine ⟨u, m, g, f, g1, g2, ?_⟩
   simp only [zat] at *
   rcases g3 with ⟨xs, res, h2, h3, h4, h5⟩ | ⟨xs, res, h2, h3, h5⟩
   ·exact .inl ⟨xs, res, zbS h h2, h3, h4, h5⟩
   ·exact .inr ⟨xs, res, zcH h h2, h3, h5⟩
  | builtin b =>
   cases b <;> try exact hl
   case len =>
    simp only [opE] at *
    cases ha : args.toList with
    | nil => simp [ha] at hl
    | cons x r =>
     cases r with
     | cons y r => simp [ha] at hl
     | nil =>
      rw [ha] at hargs
      simp only [List.map_cons, List.map_nil, List.cons.injEq, and_true] at hargs
      cases hat : argTypes.toList with
      | nil => simp [ha, hat] at hl
      | cons t r' =>
       cases r' with
       | cons y r => simp [ha, hat] at hl
       | nil => simp only [ha, hat, hargs] at *; exact zkf h hl
   case max =>
    simp only [opE] at *
    cases ha : args.toList with
    | nil => simp [ha] at hl
    | cons x r =>
     rw [ha] at hargs
     simp only [List.map_cons, List.cons.injEq] at hargs
     simp only [ha, hargs.1, hargs.2] at *; exact hl
   case min =>
    simp only [opE] at *
    cases ha : args.toList with
    | nil => simp [ha] at hl
    | cons x r =>
     rw [ha] at hargs
     simp only [List.map_cons, List.cons.injEq] at hargs
     simp only [ha, hargs.1, hargs.2] at *; exact hl
 | nilCheck x => have := hs x (by simp [Op.operands]); simp only [opE, this] at *; exact hl
 | makeInterface t x => have := hs x (by simp [Op.operands]); simp only [opE, this] at *; exact hl
 | typeAssert x xt t ok =>
  cases ok with
  | false => exact hl
  | true => have := hs x (by simp [Op.operands]); simp only [opE, this] at *; exact hl
 | _ => exact hl
theorem zfs {s s' : St} (h : More s s') {op : Op} (hs : SameOn s s' op) {K : AV -> Prop} (hl : valD P T E s op K) : valD P T E s' op K := by
 cases op with
 | buildSlice t len parts =>
  have hp : ∀ p ∈ parts.toList, ev s' p.2 = ev s p.2 := fun p hp => hs p.2 (by simp only [Op.operands, List.mem_toArray, List.mem_map]; exact ⟨p, hp, rfl⟩)
  have e : ∀ place l, fillE place s' parts.toList l = fillE place s parts.toList l := fun _ _ => za7 hp
  simp only [valD, buildSliceE, e] at *; exact hl
 | _ => exact zl4 (P := P) (T := T) (E := E) (K := K) h hs hl
theorem zi2 {s s' : St} {op : Op} (hp : isPu op = true) (hs : SameOn s s' op) {K : AV -> Prop} (hl : valD P T E s op K) : valD P T E s' op K := by
 unfold SameOn at hs
 cases op with
 | move x => have := hs x (by simp [Op.operands]); simp only [valD, opE, this] at *; exact hl
 | pick c a b =>
  have h1 := hs c (by simp [Op.operands])
  have h2 := hs a (by simp [Op.operands])
  have h3 := hs b (by simp [Op.operands])
  simp only [valD, opE, h1, h2, h3] at *; exact hl
 | fieldAddr st x f => have := hs x (by simp [Op.operands]); simp only [valD, opE, this] at *; exact hl
 | field st x f => have := hs x (by simp [Op.operands]); simp only [valD, opE, this] at *; exact hl
 | index t x i =>
  have h1 := hs x (by simp [Op.operands])
  have h2 := hs i (by simp [Op.operands])
  simp only [valD, opE, h1, h2] at *; exact hl
 | binOp op t x y yt =>
  have h1 := hs x (by simp [Op.operands])
  have h2 := hs y (by simp [Op.operands])
  simp only [valD, opE, h1, h2] at *; exact hl
 | unOp op t x => have := hs x (by simp [Op.operands]); simp only [valD, opE, this] at *; exact hl
 | convert src dst x => have := hs x (by simp [Op.operands]); simp only [valD, opE, this] at *; exact hl
 | extract x i => have := hs x (by simp [Op.operands]); simp only [valD, opE, this] at *; exact hl
 | nilCheck x => have := hs x (by simp [Op.operands]); simp only [valD, opE, this] at *; exact hl
 | _ => cases hp
def MoreV (s s' : St) (v : AV) : Prop := ∀ b ∈ v.refs, ∀ o, s.ob b = some o -> s'.ob b = some o
theorem zmf {s s' : St} {ti : TI} {v : AV} (h : MoreV s s' v) {K : AV -> Prop} (hl : loadE s ti v K) : loadE s' ti v K := by
 have h : MoreV s s' v.asPtr := fun b hb => h b (by rw [<- zcP]; exact hb)
 unfold loadE at *
 generalize v.asPtr = u at *
 cases u with
 | box i off =>
  simp only [loadP] at *
  cases ho : s.ob i with
  | none => simp [ho] at hl
  | some o => rw [h i (by simp [AV.refs]) o ho]; rw [ho] at hl; exact hl
 | elt i k n c =>
  simp only [loadP] at *
  cases ho : s.ob i with
  | none => simp [ho] at hl
  | some o => rw [h i (by simp [AV.refs]) o ho]; rw [ho] at hl; exact hl
 | _ => exact hl
theorem zjr {s s' : St} {T : TT} {t : Nat} {x : AV} (h : MoreV s s' x) {lo hi : Option AV} {K : AV -> Prop} (hl : sliceE T s t x lo hi K) : sliceE T s' t x lo hi K := by
 cases ht : T t with
 | none => simp [sliceE, ht] at hl
 | some ti =>
  obtain ⟨size, ag, bytes, zero, kind⟩ := ti
  cases kind with
  | slice e =>
   cases x with
   | own id =>
    simp only [sliceE, ht] at *
    cases ho : s.ob id with
    | none => simp [ho] at hl
    | some o => rw [h id (by simp [AV.refs]) o ho]; rw [ho] at hl; exact hl
   | d y => cases y <;> first | exact (by simpa only [sliceE, ht] using hl) | (simp [sliceE, ht] at hl; done)
   | _ => simp [sliceE, ht] at hl
  | _ => simp [sliceE, ht] at hl
theorem zi3 {s s' : St} {op : Op} (hp : isPl op = true) (hs : SameOn s s' op) (h : ∀ x ∈ op.operands, MoreV s s' (ev s x)) {K : AV -> Prop} (hl : valD P T E s op K) : valD P T E s' op K := by
 unfold SameOn at hs
 cases op with
 | move x => have := hs x (by simp [Op.operands]); simp only [valD, opE, this] at *; exact hl
 | fieldAddr t x f => have := hs x (by simp [Op.operands]); simp only [valD, opE, this] at *; exact hl
 | load t x =>
  have := hs x (by simp [Op.operands])
  have hm := h x (by simp [Op.operands])
  simp only [valD, opE, this] at *
  cases ht : T t with
  | none => simp [ht] at hl
  | some ti => simp only [ht] at *; exact zmf hm hl
 | binOp op t x y yt =>
  have h1 := hs x (by simp [Op.operands])
  have h2 := hs y (by simp [Op.operands])
  simp only [valD, opE, h1, h2] at *; exact hl
 | buildSlice t len parts =>
  have hp : ∀ p ∈ parts.toList, ev s' p.2 = ev s p.2 := fun p hp => hs p.2 (by simp only [Op.operands, List.mem_toArray, List.mem_map]; exact ⟨p, hp, rfl⟩)
  have e : ∀ place l, fillE place s' parts.toList l = fillE place s parts.toList l := fun _ _ => za7 hp
  simp only [valD, buildSliceE, e] at *; exact hl
 | slice t x lo hi mx =>
  cases mx with
  | some m =>
   have h1 := hs x (by simp [Op.operands])
   have h4 := hs m (by simp [Op.operands])
   have h2 : lo.map (ev s') = lo.map (ev s) := by
    cases lo with
    | none => rfl
    | some l => simp only [Option.map_some]; rw [hs l (by simp [Op.operands])]
   have h3 : hi.map (ev s') = hi.map (ev s) := by
    cases hi with
    | none => rfl
    | some l => simp only [Option.map_some]; rw [hs l (by simp [Op.operands])]
   simp only [valD, opE, h1, h2, h3, h4] at *; exact hl
  | none =>
   have h1 := hs x (by simp [Op.operands])
   have hm := h x (by simp [Op.operands])
   have h2 : lo.map (ev s') = lo.map (ev s) := by
    cases lo with
    | none => rfl
    | some l => simp only [Option.map_some]; rw [hs l (by simp [Op.operands])]
   have h3 : hi.map (ev s') = hi.map (ev s) := by
    cases hi with
    | none => rfl
    | some l => simp only [Option.map_some]; rw [hs l (by simp [Op.operands])]
   simp only [valD, opE, h1, h2, h3] at *; exact zjr hm hl
 | _ => cases hp
end
section
variable {P : Program} {T : TT} {E : Env} {cx : Cx} {γ : Nat -> Value} {s s' : St} {a : Act} {w : World} {F : Fence} {n : Nat} {ops : Array Oper}
def gd (s : St) (ops : Array Oper) (o : Oper) : Option Bool :=
 match o.guard with
 | none => some true
 | some (j, want) => match gval s ops.toList j with
  | .d (.bool b) => some (b == want)
  | .undef => some false
  | _ => none
def stG (P : Program) (T : TT) (E : Env) (ops : Array Oper) (o : Oper) (s : St) (K : St -> Prop) : Prop :=
 match gd s ops o with
 | some true => stD P T E s o K
 | some false => K (s.putO o.dst .undef)
 | none => False
def opG (P : Program) (T : TT) (E : Env) (ops : Array Oper) (i : Nat) (K : St -> Prop) (s : St) : Prop :=
 match ops[i]? with
 | none => K s
 | some o => stG P T E ops o s K
def op2 (ow : Bool) (P : Program) (T : TT) (E : Env) (ops : Array Oper) (i : Nat) (K : St -> Prop) (s : St) : Prop :=
 opG P T E ops i K s \/ (ow = true /\ ∃ o, ops[i]? = some o /\ o.guard = none /\ OwnD E P s o K)
def anyA (ow : Bool) (P : Program) (T : TT) (E : Env) (ops : Array Oper) (Q : St -> Prop) : Nat -> Array Bool -> St -> Prop
 | 0, listed, s => Region.ready .any ops listed = [] /\ Q s
 | fuel + 1, listed, s => ((Region.ready .any ops listed = [] -> Q s) /\ ∀ i ∈ Region.ready .any ops listed, op2 ow P T E ops i (anyA ow P T E ops Q fuel (listed.setIfInBounds i true)) s) \/
   ∃ y o, y ∈ Region.ready .any ops listed /\ (∀ j ∈ Region.ready .any ops listed, j = y) /\ cmpB ops y = true /\ ops[y]? = some o /\ o.guard = none /\ ∃ ids, stE P T E (s.freezes ids) o (anyA ow P T E ops Q fuel (listed.setIfInBounds y true))
theorem zaT (s : St) {x y : Option Nat} (v u : AV) (h : ∀ d, x = some d -> y ≠ some d) : (s.putO x v).putO y u = (s.putO y u).putO x v := by
 cases x with
 | none => rfl
 | some d =>
  cases y with
  | none => rfl
  | some e =>
   have hne : d ≠ e := fun he => h d rfl (he ▸ rfl)
   show (⟨upd (upd s.sl d v) e u, s.ob⟩ : St) = ⟨upd (upd s.sl e u) d v, s.ob⟩
   congr 1
   funext t
   simp only [zaC]
   by_cases h1 : t = e
   ·subst h1; simp [Ne.symm hne]
   ·simp [h1]
theorem zgR {s : St} {d : Option Nat} {v : AV} {x : Operand} (h : ∀ t, d = some t -> x ≠ .tmp t) : ev (s.putO d v) x = ev s x := by
 cases d with
 | none => rfl
 | some t =>
  cases x with
  | tmp u =>
   show (upd s.sl t v u).unpin = (s.sl u).unpin
   rw [zaw _ _ fun e => h t rfl (by rw [e])]
  | _ => rfl
theorem zcq {o : Oper} {d : Nat} (h : d ∉ o.looksAt ops) : ∀ x ∈ o.op.operands, x ≠ .tmp d := fun x hx e => by
 subst e
 refine h ?_
 unfold Oper.looksAt
 refine List.mem_append.2 (.inl (List.mem_filterMap.2 ⟨_, by simpa using hx, rfl⟩))
theorem zaA {o : Oper} {d : Option Nat} {v : AV} (h : ∀ t, d = some t -> t ∉ o.looksAt ops) (s : St) : SameOn s (s.putO d v) o.op := fun x hx => zgR fun t ht => zcq (h t ht) x hx
theorem zgs {o : Oper} {d : Option Nat} {v : AV} (h : ∀ t, d = some t -> t ∉ o.looksAt ops) (s : St) : SameOn (s.putO d v) s o.op := fun x hx => (zgR fun t ht => zcq (h t ht) x hx).symm
theorem zda (s : St) (d : Option Nat) (v : AV) : More s (s.putO d v) := fun i o h => by cases d <;> exact h
theorem zfN (s : St) (d : Option Nat) (v : AV) : More (s.putO d v) s := fun i o h => by cases d <;> exact h
theorem zcY {o : Oper} {d : Option Nat} {v : AV} (h : ∀ t, d = some t -> t ∉ o.looksAt ops) (s : St) : gd (s.putO d v) ops o = gd s ops o := by
 unfold gd
 cases hg : o.guard with
 | none => rfl
 | some p =>
  obtain ⟨j, want⟩ := p
  have : gval (s.putO d v) ops.toList j = gval s ops.toList j := by
   unfold gval dstOf
   rw [zap]
   cases hj : ops.toList[j]? with
   | none => rfl
   | some oj =>
    cases hd : oj.dst with
    | none => simp [hd]
    | some t =>
     simp only [hd]
     cases d with
     | none => rfl
     | some e =>
      refine zaw _ _ fun he => h e rfl ?_
      unfold Oper.looksAt
      refine List.mem_append.2 (.inr ?_)
      have hj' : ops[j]? = some oj := by simpa using hj
      simp [hg, hj', hd, he]
  simp only [this]
theorem ziA {o : Oper} {s s' : St} (h : s'.sl = s.sl) : gd s' ops o = gd s ops o := by
 unfold gd gval; simp only [h]
def Yl (P : Program) (T : TT) (E : Env) (ops : Array Oper) (o : Oper) (v : AV) (s : St) : Prop :=
 (gd s ops o = some true /\ valD P T E s o.op fun u => u = v) \/ (gd s ops o = some false /\ v = .undef)
theorem Yl.opG {i : Nat} {o : Oper} {v : AV} (hi : ops[i]? = some o) (hb : isB o.op = true) (hy : Yl P T E ops o v s) {K : St -> Prop} (h : K (s.putO o.dst v)) : opG P T E ops i K s := by
 unfold Go.Pg.opG stG
 simp only [hi]
 rcases hy with ⟨h1, h2⟩ | ⟨h1, rfl⟩
 ·simp only [h1, stD, hb]
  exact (zbQ P T E s o.op _).2 ⟨v, h2, h⟩
 ·simp only [h1]; exact h
theorem ziT {i : Nat} {o : Oper} {K : St -> Prop} (hi : ops[i]? = some o) (hb : isB o.op = true) (h : opG P T E ops i K s) : ∃ v, Yl P T E ops o v s /\ K (s.putO o.dst v) := by
 unfold opG stG at h
 simp only [hi] at h
 cases hg : gd s ops o with
 | none => simp [hg] at h
 | some b =>
  cases b with
  | true =>
   simp only [hg, stD, hb] at h
   obtain ⟨v, h1, h2⟩ := (zbQ P T E s o.op _).1 h
   exact ⟨v, .inl ⟨hg, h1⟩, h2⟩
  | false => simp only [hg] at h; exact ⟨.undef, .inr ⟨hg, rfl⟩, h⟩
def Mon (f : (St -> Prop) -> Prop) : Prop := ∀ K K' : St -> Prop, (∀ s, K s -> K' s) -> f K -> f K'
theorem Mon.k (s : St) : Mon fun K => K s := fun _ _ h => h s
theorem Mon.false : Mon fun _ => False := fun _ _ _ h => h
theorem Mon.and {p : Prop} {f : (St -> Prop) -> Prop} (h : Mon f) : Mon fun K => p /\ f K := fun _ _ hk ⟨hp, hf⟩ => ⟨hp, h _ _ hk hf⟩
theorem Mon.ex {α : Type} {f : α -> (St -> Prop) -> Prop} (h : ∀ x, Mon (f x)) : Mon fun K => ∃ x, f x K := fun _ _ hk ⟨x, hf⟩ => ⟨x, h x _ _ hk hf⟩
theorem Mon.cond {b : Bool} {f g : (St -> Prop) -> Prop} (h1 : Mon f) (h2 : Mon g) : Mon fun K => bif b then f K else g K := by
 cases b
 ·exact h2
 ·exact h1
theorem Mon.spl {f : (AV -> Prop) -> Prop} (h : Spl f) (g : AV -> St) : Mon fun K => f fun v => K (g v) := fun K K' hk hf => by
 obtain ⟨v, h1, h2⟩ := (h _).1 hf
 exact (h _).2 ⟨v, h1, hk _ h2⟩
theorem ziE (E : Env) (P : Program) (s : St) (o : Oper) (f : Operand) (args : List Operand) : Mon (CallSt E P s o f args) := fun K K' hk h => by
 simp only [zag] at *
 rcases h with ⟨ids, f, ex, h0, h⟩ | ⟨ids, f, ex, d, h0, h1, h⟩ | ⟨s', h1, h2⟩ | ⟨⟨n, d, sl, ob, vs, hkp, h1, h2, h3, h4, h5, h6, h7, h8, h9, h10⟩⟩
 ·exact .inl ⟨ids, f, ex, h0, Mon.spl (zb3 E.dr P (s.freezes ids) f _) (fun v => (s.freezes ids).putO o.dst v) K K' hk h⟩
 ·refine .inr (.inl ⟨ids, f, ex, d, h0, h1, ?_⟩)
  simp only [zaG] at *
  obtain ⟨xs, e, k, n, g, g1, g2, g3, g4⟩ := h
  exact ⟨xs, e, k, n, g, g1, g2, g3, hk _ g4⟩
 ·exact .inr (.inr (.inl ⟨s', h1, hk _ h2⟩))
 ·exact .inr (.inr (.inr ⟨⟨n, d, sl, ob, vs, hkp, h1, h2, h3, h4, h5, h6, h7, h8, hk _ h9, hk _ h10⟩⟩))
theorem zig (T : TT) (s : St) (t : Nat) (a x : AV) : Mon (storeE T s t a x) := by
 unfold storeE
 split
 ·split
  ·refine .cond ?_ .false
   split
   ·exact .k _
   ·exact .false
  ·exact .false
 ·split
  ·exact .cond (.and (.k _)) .false
  ·exact .false
 ·exact .false
theorem zlw {s : St} {x : AV} {f : Nat -> Nat -> (Nat -> Nat -> D) -> (St -> Prop) -> Prop} (h : ∀ k m g, Mon (f k m g)) : Mon fun K => srcE s x fun k m g => f k m g K := by
 unfold srcE
 split
 ·exact h _ _ _
 ·exact h _ _ _
 ·exact h _ _ _
 ·split
  ·exact h _ _ _
  ·exact .false
 ·exact .false
theorem zg7 (T : TT) (s : St) (dst : Option Nat) (t : Nat) (a x : AV) : Mon (appendE T s dst t a x) := by
 unfold appendE
 split
 ·split
  ·refine zlw fun k m g => ?_
   split
   ·split
    ·exact .cond (.and (.k _)) .false
    ·exact .false
   ·exact .cond (.and (.k _)) .false
   ·exact .cond (.and (.k _)) .false
   ·exact .false
  ·exact .false
 ·exact .false
theorem zj8 (T : TT) (t : Nat) (l c : AV) (F : Nat -> Nat -> TI -> (Nat -> Nat -> D) -> St) : Mon fun K => makeE T t l c fun e n ei f => K (F e n ei f) := by
 unfold makeE
 split
 ·split
  ·split
   ·exact .cond (.and (.k _)) .false
   ·exact .false
  ·exact .false
 ·exact .false
theorem zdZ (T : TT) (s : St) (t len : Nat) (parts : List (Nat × Operand)) (g : Nat -> TI -> (Nat -> Nat -> D) -> St) : Mon fun K => buildSliceE T s t len parts fun e ei f => K (g e ei f) := by
 unfold buildSliceE
 split
 ·split
  ·split
   ·split
    ·exact .cond (.k _) .false
    ·exact .false
   ·exact .false
  ·exact .false
 ·exact .false
theorem ziD (T : TT) (s : St) (t : Nat) (v : AV) : Mon (clearE T s t v) := by
 unfold clearE
 split
 ·split
  ·split
   ·exact .cond (.and (.k _)) .false
   ·exact .false
  ·exact .false
 ·exact .false
theorem zka (T : TT) (s : St) (t : Nat) (x i : AV) (F : AV -> St) : Mon fun K => lookE T s t x i fun v => K (F v) := by
 unfold lookE
 split
 ·split
  ·exact .k _
  ·exact .false
 ·exact .false
theorem zlp (T : TT) (s : St) (t : Nat) (x i v : AV) : Mon (updE T s t x i v) := by
 unfold updE
 split
 ·split
  ·exact .and (.k _)
  ·exact .false
 ·exact .false
theorem Mon.all {α : Type} {p : α -> Prop} {f : α -> (St -> Prop) -> Prop} (h : ∀ x, Mon (f x)) : Mon fun K => ∀ x, p x -> f x K := fun _ _ hk H x hp => h x _ _ hk (H x hp)
theorem zmN (T : TT) (s : St) (dst : Option Nat) (t i m i' k' lo n' : Nat) : Mon (delE T s dst t i m i' k' lo n') := by
 unfold delE
 split
 ·split
  ·exact .cond (.and (.k _)) .false
  ·exact .false
 ·exact .false
theorem zm8 (T : TT) (s : St) (dst : Option Nat) (t : Nat) (a x : AV) : Mon (appE T s dst t a x) := by
 unfold appE
 split
 ·exact zmN _ _ _ _ _ _ _ _ _ _
 ·exact zg7 _ _ _ _ _ _
theorem zeS (P : Program) (T : TT) (E : Env) (s : St) (o : Oper) : Mon (stE P T E s o) := by
 have plain : ∀ s : St, Mon fun K => opE P T E s o.op fun v => K (s.putO o.dst v) := fun s => .spl (zjV P T E s o.op) _
 unfold stE
 split
 ·split
  ·exact .cond (.k _) .false
  ·exact .false
 ·split
  ·exact .cond (.k _) .false
  ·exact .false
 ·split
  ·exact zig _ _ _ _ _
  ·exact .false
 ·split
  ·exact zdZ _ _ _ _ _ _
  ·exact .false
 ·split
  ·exact zj8 _ _ _ _ _
  ·exact .false
 ·split
  ·exact .k _
  ·exact .false
 ·exact zka _ _ _ _ _ _
 ·split
  ·exact zlp _ _ _ _ _ _
  ·exact .false
 ·split
  ·split
   ·split
    ·exact .k _
    ·exact .false
   ·exact .false
  ·exact .k _
 ·split
  ·split
   ·exact .and (.k _)
   ·exact .false
  ·rename_i h _ _ _; rw [<- h] at *; exact plain s
 ·exact plain _
 ·split
  ·exact .cond (zm8 _ _ _ _ _ _) .false
  ·exact .false
 ·exact ziE _ _ _ _ _ _
 ·exact plain s
 ·exact plain s
 ·exact plain s
 ·split
  ·exact ziD _ _ _ _
  ·exact .false
 ·exact plain s
 ·exact .ex fun s' => .and (.k _)
 ·split
  ·exact .all fun b => .k _
  ·exact plain s
 ·exact plain s
theorem zjk (P : Program) (T : TT) (E : Env) (s : St) (o : Oper) : Mon (stD P T E s o) := by
 unfold stD
 split
 ·exact .spl (zbQ P T E s o.op) _
 ·split
  ·split
   ·exact zeS _ _ _ _ _
   ·exact .false
  ·exact zeS _ _ _ _ _
theorem zec {d : Option Nat} {v : AV} {t : Nat} {A X : AV} {K ps : St -> Prop} (h : storeE T (s.putO d v) t A X K) (hp : ∀ s' : St, s'.sl = s.sl -> ps s') : storeE T s t A X fun s' => ps s' /\ K (s'.putO d v) := by
 have hob : (s.putO d v).ob = s.ob := by cases d <;> rfl
 have hset : ∀ i o, (s.putO d v).setOb i o = (s.setOb i o).putO d v := fun i o => by cases d <;> rfl
 unfold storeE at *
 cases ht : T t with
 | none => simp [ht] at h
 | some ti =>
  cases A with
  | box i off =>
   simp only [ht, hob, hset] at h ⊢
   cases h1 : s.ob i with
   | none => simp [h1] at h
   | some o =>
    cases o with
    | row e k n f => simp [h1] at h
    | mp ks => simp [h1] at h
    | box cs =>
     cases h2 : cellsA X with
     | none => simp [h1, h2] at h
     | some ys =>
      simp only [h1, h2] at h ⊢
      cases hc : (Nat.beq ys.length ti.size) with
      | false => simp [hc] at h
      | true =>
       simp only [hc, cond_true] at h ⊢
       cases hr : setRange cs off ys with
       | none => simp [hr] at h
       | some cs' => simp only [hr] at h ⊢; exact ⟨hp _ rfl, h⟩
  | elt i k n c =>
   simp only [ht, hob, hset] at h ⊢
   cases h1 : s.ob i with
   | none => simp [h1] at h
   | some o =>
    cases o with
    | box cs => simp [h1] at h
    | mp ks => simp [h1] at h
    | row e k' N f =>
     cases h2 : cellsD X with
     | none => simp [h1, h2] at h
     | some ys =>
      simp only [h1, h2] at h ⊢
      cases hc : (Nat.beq k k' && Nat.beq ys.length ti.size && Nat.ble (c + ti.size) k) with
      | false => simp [hc] at h
      | true => simp only [hc, cond_true] at h ⊢; exact ⟨h.1, hp _ rfl, h.2⟩
  | _ => simp [ht] at h
structure Keep (ops : Array Oper) (s s' : St) (o : Oper) : Prop where
  gd : gd s' ops o = gd s ops o
  on : SameOn s s' o.op
theorem Keep.put {oi : Oper} {d : Option Nat} {u : AV} (h3 : ∀ t, d = some t -> t ∉ oi.looksAt ops) (s : St) : Keep ops s (s.putO d u) oi := ⟨zcY h3 s, zaA h3 s⟩
theorem zjU {j : Nat} {oi oj : Oper} {v : AV} (hj : ops[j]? = some oj) (hap : oi.apart ops oj = true) (hcls : (isB oj.op || isAl oj.op) = true) {K : St -> Prop}
  (h : opG P T E ops j K (s.putO oi.dst v)) : opG P T E ops j (fun s' => (Keep ops s s' oi /\ More s s') /\ K (s'.putO oi.dst v)) s := by
 obtain ⟨h1, h2, h3⟩ := Oper.apart_spec hap
 cases hb : isB oj.op with
 | true =>
  obtain ⟨u, hu, hK⟩ := ziT hj hb h
  refine Yl.opG (v := u) hj hb ?_ ⟨⟨.put h3 s, zda s _ _⟩, by rw [<- zaT s v u h2]; exact hK⟩
  rcases hu with ⟨g1, g2⟩ | ⟨g1, rfl⟩
  ·exact .inl ⟨by rw [zcY h1] at g1; exact g1, zfs (zfN s _ _) (zgs h1 s) g2⟩
  ·exact .inr ⟨by rw [zcY h1] at g1; exact g1, rfl⟩
 | false =>
  have hal : isAl oj.op = true := by simpa [hb] using hcls
  unfold opG stG at h ⊢
  simp only [hj] at h ⊢
  rw [zcY h1] at h
  cases hg : gd s ops oj with
  | none => simp [hg] at h
  | some b =>
   cases b with
   | false => simp only [hg] at h ⊢; exact ⟨⟨.put h3 s, zda s _ _⟩, by rw [<- zaT s v .undef h2]; exact h⟩
   | true =>
    simp only [hg, stD, hb, hal] at h ⊢
    have hev : ∀ x ∈ oj.op.operands, ev (s.putO oi.dst v) x = ev s x := zaA h1 s
    cases hd : oj.dst with
    | none =>
     simp only [hd] at h ⊢
     obtain ⟨dst, op, type, pos, after, guard⟩ := oj
     cases op <;> first | (simp [isAl] at hal; done) | skip
     all_goals (simp only at hd; subst hd; simp [stE] at h)
    | some d =>
     simp only [hd] at h ⊢
     have hob : (s.putO oi.dst v).ob d = s.ob d := by cases oi.dst <;> rfl
     rw [hob] at h
     cases hs : s.ob d with
     | some o => simp [hs] at h
     | none =>
      simp only [hs] at h ⊢
      have made : ∀ (o : Ob) (u : AV), K (mk (s.putO oi.dst v) d o u) -> (Keep ops s (mk s d o u) oi /\ More s (mk s d o u)) /\ K ((mk s d o u).putO oi.dst v) := fun o u h => by
       simp only [mk, hob, hs] at h ⊢
       have hm : More s ((s.setOb d (some o)).put d u) := fun i o' ho => by
        show upd s.ob d _ i = some o'
        rw [zaw _ _ (fun e => by subst e; rw [hs] at ho; cases ho)]; exact ho
       have hso : SameOn s ((s.setOb d (some o)).put d u) oi.op := fun x hx => by
        have := zaA (ops := ops) (o := oi) (d := some d) (v := u) (by rw [<- hd]; exact h3) s x hx
        rw [<- this]
        cases x <;> rfl
       have hge := ziA (ops := ops) (o := oi) (s := s.putO (some d) u) (s' := (s.setOb d (some o)).put d u) rfl
       refine ⟨⟨⟨by rw [hge]; exact zcY (by rw [<- hd]; exact h3) s, hso⟩, hm⟩, ?_⟩
       cases hx : oi.dst with
       | none => rw [hx] at h; exact h
       | some e =>
        rw [hx] at h
        have hne : e ≠ d := fun he => h2 e hx (by rw [he, hd])
        have : ((s.setOb d (some o)).put d u).put e v = ((s.put e v).setOb d (some o)).put d u := by
         show (⟨upd (upd s.sl d u) e v, _⟩ : St) = ⟨upd (upd s.sl e v) d u, _⟩
         congr 1
         funext t
         simp only [zaC]
         by_cases h4 : t = d
         ·subst h4; simp [Ne.symm hne]
         ·simp [h4]
        show K (((s.setOb d (some o)).put d u).put e v)
        rw [this]; exact h
      obtain ⟨dst, op, type, pos, after, guard⟩ := oj
      cases op <;> first | (simp [isAl] at hal; done) | skip
      case alloc t =>
       simp only at hd; subst hd
       simp only [stE] at h ⊢
       cases ht : T t with
       | none => simp [ht] at h
       | some ti =>
        simp only [ht] at h ⊢
        cases hz : ti.zero.all (·.oneCell') with
        | false => simp [hz] at h
        | true => simp only [hz, cond_true] at h ⊢; exact made _ _ h
      case buildSlice t len parts =>
       simp only at hd; subst hd
       simp only [stE] at h ⊢
       have hp : ∀ p ∈ parts.toList, ev (s.putO oi.dst v) p.2 = ev s p.2 := fun p hp => hev p.2 (by simp only [Op.operands, List.mem_toArray, List.mem_map]; exact ⟨p, hp, rfl⟩)
       have e : ∀ place l, fillE place (s.putO oi.dst v) parts.toList l = fillE place s parts.toList l := fun _ _ => za7 hp
       unfold buildSliceE at h ⊢
       simp only [e] at h
       cases ht : T t with
       | none => simp [ht] at h
       | some ti =>
        obtain ⟨size, ag, bytes, zero, kind⟩ := ti
        cases kind with
        | slice el =>
         simp only [ht] at h ⊢
         cases he : T el with
         | none => simp [he] at h
         | some ei =>
          simp only [he] at h ⊢
          cases hz : cds ei.zero with
          | none => simp [hz] at h
          | some zs =>
           simp only [hz] at h ⊢
           cases hf : fillE (placesA ei) s parts.toList (repD len zs) with
           | none => simp [hf] at h
           | some l =>
            simp only [hf] at h ⊢
            cases hb' : (Nat.ble 1 ei.size && Nat.beq ei.zero.length ei.size && Nat.ble (len * ei.size) 16777216) with
            | false => simp [hb'] at h
            | true => simp only [hb', cond_true] at h ⊢; exact made _ _ h
        | _ => simp [ht] at h
theorem Yl.keep {o : Oper} {v : AV} (hy : Yl P T E ops o v s) (hk : Keep ops s s' o) (hm : More s s') : Yl P T E ops o v s' := by
 rcases hy with ⟨g1, g2⟩ | ⟨g1, rfl⟩
 ·exact .inl ⟨by rw [hk.gd]; exact g1, zfs hm hk.on g2⟩
 ·exact .inr ⟨by rw [hk.gd]; exact g1, rfl⟩
theorem zbs {i : Nat} {K K' : St -> Prop} (h : ∀ s, K s -> K' s) (hl : opG P T E ops i K s) : opG P T E ops i K' s := by
 unfold opG at *
 cases hi : ops[i]? with
 | none => simp only [hi] at *; exact h _ hl
 | some o =>
  simp only [hi] at *
  unfold stG at *
  cases hg : gd s ops o with
  | none => simp [hg] at hl
  | some b =>
   cases b with
   | false => simp only [hg] at *; exact h _ hl
   | true => simp only [hg] at *; exact zjk P T E s o _ _ h hl
theorem zoA {j : Nat} {oi oj : Oper} {v : AV} (hj : ops[j]? = some oj) (hap : oi.apart ops oj = true) (hcls : (isB oj.op || isAl oj.op || (isPu oi.op && isSt oj.op)) = true) {K : St -> Prop}
  (hy : Yl P T E ops oi v s) (h : opG P T E ops j K (s.putO oi.dst v)) : opG P T E ops j (fun s' => Yl P T E ops oi v s' /\ K (s'.putO oi.dst v)) s := by
 cases hba : (isB oj.op || isAl oj.op) with
 | true => exact zbs (fun s' hs' => ⟨hy.keep hs'.1.1 hs'.1.2, hs'.2⟩) (zjU hj hap hba h)
 | false =>
  obtain ⟨h1, h2, h3⟩ := Oper.apart_spec hap
  have keep : ∀ u, Yl P T E ops oi v (s.putO oj.dst u) := fun u => hy.keep (.put h3 s) (zda s _ _)
  have hb : isB oj.op = false := by cases q : isB oj.op <;> simp [q] at hba ⊢
  have hal' : isAl oj.op = false := by cases q : isAl oj.op <;> simp [q] at hba ⊢
  have hc : isPu oi.op = true /\ isSt oj.op = true := by simpa [hb, hal'] using hcls
  obtain ⟨hpu, hst⟩ := hc
  unfold opG stG at h ⊢
  simp only [hj] at h ⊢
  rw [zcY h1] at h
  cases hg : gd s ops oj with
  | none => simp [hg] at h
  | some b =>
   cases b with
   | false => simp only [hg] at h ⊢; exact ⟨keep _, by rw [<- zaT s v .undef h2]; exact h⟩
   | true =>
    simp only [hg, stD, hb, hal'] at h ⊢
    have hev : ∀ x ∈ oj.op.operands, ev (s.putO oi.dst v) x = ev s x := zaA h1 s
    obtain ⟨dst, op, type, pos, after, guard⟩ := oj
    cases op <;> first | (simp [isSt] at hst; done) | skip
    rename_i t x y
    have e1 := hev x (by simp [Op.operands])
    have e2 := hev y (by simp [Op.operands])
    cases dst with
    | some d => simp [stE] at h
    | none =>
     simp only [stE] at h ⊢
     rw [e1, e2] at h
     refine zec (ps := fun s' => Yl P T E ops oi v s') h fun s' hs' => ?_
     have hso : SameOn s s' oi.op := fun x _ => by cases x <;> simp [ev, hs']
     rcases hy with ⟨g1, g2⟩ | ⟨g1, rfl⟩
     ·exact .inl ⟨by rw [ziA hs']; exact g1, zi2 hpu hso g2⟩
     ·exact .inr ⟨by rw [ziA hs']; exact g1, rfl⟩
theorem zl5 {ow : Bool} {i : Nat} {K K' : St -> Prop} (h : ∀ s, K s -> K' s) (hl : op2 ow P T E ops i K s) : op2 ow P T E ops i K' s := by
 rcases hl with hl | ⟨h0, o, h1, h2, ⟨fo, args, at', f, ex, d, h3, h4, h5, h6, h7⟩⟩
 ·exact .inl (zbs h hl)
 ·refine .inr ⟨h0, o, h1, h2, ⟨fo, args, at', f, ex, d, h3, h4, h5, h6, ?_⟩⟩
  rw [zaG] at h7 ⊢
  obtain ⟨xs, e, k, n, g, g1, g2, g3, g4⟩ := h7
  exact ⟨xs, e, k, n, g, g1, g2, g3, h _ g4⟩
theorem zoB {ow : Bool} {j : Nat} {oi oj : Oper} {v : AV} (hj : ops[j]? = some oj) (hap : oi.apart ops oj = true) (hcls : (isB oj.op || isAl oj.op || (isPu oi.op && isSt oj.op)) = true) {K : St -> Prop}
  (hy : Yl P T E ops oi v s) (h : op2 ow P T E ops j K (s.putO oi.dst v)) : op2 ow P T E ops j (fun s' => Yl P T E ops oi v s' /\ K (s'.putO oi.dst v)) s := by
 rcases h with h | ⟨h0, o, h1, h2, ⟨fo, args, at', f, ex, d, h3, h4, h5, h6, h7⟩⟩
 ·exact .inl (zoA hj hap hcls hy h)
 ·rw [hj] at h1
  cases h1
  obtain ⟨p1, p2, p3⟩ := Oper.apart_spec hap
  have hev : ∀ x ∈ oj.op.operands, ev (s.putO oi.dst v) x = ev s x := zaA p1 s
  have hob : (s.putO oi.dst v).ob d = s.ob d := by cases oi.dst <;> rfl
  have hs : s.ob d = none := by rw [<- hob]; exact h5
  have e1 : ev (s.putO oi.dst v) fo = ev s fo := hev fo (by rw [h3]; simp [Op.operands, Call.operands])
  have e2 : args.toList.map (ev (s.putO oi.dst v)) = args.toList.map (ev s) := List.map_congr_left fun x hx => hev x (by rw [h3]; simp only [Op.operands, Call.operands, Array.mem_append]; exact .inr (by simpa using hx))
  rw [e1] at h6
  rw [e2] at h7
  refine .inr ⟨h0, oj, hj, h2, ⟨fo, args, at', f, ex, d, h3, h4, hs, h6, ?_⟩⟩
  rw [zaG] at h7 ⊢
  obtain ⟨xs, e, k, n, g, g1, g2, g3, g4⟩ := h7
  refine ⟨xs, e, k, n, g, zbS (zfN s _ _) g1, g2, g3, ?_⟩
  simp only [mk, hob, hs] at g4 ⊢
  have hm : More s ((s.setOb d (some (.row e k n g))).put d (.own d)) := fun i o' ho => by
   show upd s.ob d _ i = some o'
   rw [zaw _ _ (fun e => by subst e; rw [hs] at ho; cases ho)]; exact ho
  have hso : SameOn s ((s.setOb d (some (.row e k n g))).put d (.own d)) oi.op := fun x hx => by
   have := zaA (ops := ops) (o := oi) (d := some d) (v := .own d) (by rw [<- h4]; exact p3) s x hx
   rw [<- this]
   cases x <;> rfl
  have hge := ziA (ops := ops) (o := oi) (s := s.putO (some d) (.own d)) (s' := (s.setOb d (some (.row e k n g))).put d (.own d)) rfl
  refine ⟨hy.keep ⟨by rw [hge]; exact zcY (by rw [<- h4]; exact p3) s, hso⟩ hm, ?_⟩
  cases hx : oi.dst with
  | none => rw [hx] at g4; exact g4
  | some t =>
   rw [hx] at g4
   have hne : t ≠ d := fun e => p2 t hx (by rw [h4, e])
   have : ((s.setOb d (some (.row e k n g))).put d (.own d)).putO (some t) v = ((s.putO (some t) v).setOb d (some (.row e k n g))).put d (.own d) := by
    have := zaT (s.setOb d (some (.row e k n g))) (x := some d) (y := some t) (.own d) v (fun q hq e => by cases hq; exact hne (Option.some.inj e))
    exact this
   rw [this]
   exact g4
structure Pln (ops : Array Oper) (s : St) (o : Oper) (v : AV) : Prop where
  ngd : o.guard = none
  on : ∀ x ∈ o.op.operands, ∀ b ∈ (ev s x).refs, (∀ p ∈ ops.toList, p.dst ≠ some b) /\ ∃ cs, s.ob b = some (.box cs) /\ ∀ c ∈ cs, c.refs = []
  res : ∀ b ∈ v.refs, ∃ x ∈ o.op.operands, b ∈ (ev s x).refs
theorem zek (v : AV) : v.unpin.refs = v.refs := by cases v <;> rfl
theorem Pln.keep {o : Oper} {v : AV} (hp : Pln ops s o v) (hk : Keep ops s s' o) (hm : ∀ x ∈ o.op.operands, MoreV s s' (ev s x)) : Pln ops s' o v :=
 ⟨hp.ngd, fun x hx b hb => by
  rw [hk.on x hx] at hb
  obtain ⟨h1, cs, h2, h3⟩ := hp.on x hx b hb
  exact ⟨h1, cs, hm x hx b hb _ h2, h3⟩, fun b hb => by
  obtain ⟨x, hx, h⟩ := hp.res b hb
  exact ⟨x, hx, by rw [hk.on x hx]; exact h⟩⟩
def Iv (P : Program) (T : TT) (E : Env) (ops : Array Oper) (o : Oper) (s : St) (v : AV) : Prop := Yl P T E ops o v s /\ ((isMv o.op = true /\ o.guard = none) \/ Pln ops s o v)
theorem Iv.keep {o : Oper} {v : AV} (hpl : isPl o.op = true) (h : Iv P T E ops o s v) (hk : Keep ops s s' o) (hm : ∀ x ∈ o.op.operands, MoreV s s' (ev s x)) : Iv P T E ops o s' v := by
 obtain ⟨hy, hp⟩ := h
 refine ⟨?_, hp.imp id fun hp => hp.keep hk hm⟩
 rcases hy with ⟨g1, g2⟩ | ⟨g1, rfl⟩
 ·exact .inl ⟨by rw [hk.gd]; exact g1, zi3 hpl hk.on hm g2⟩
 ·exact .inr ⟨by rw [hk.gd]; exact g1, rfl⟩
theorem zf8 (s : St) (i : Nat) (d : Option Nat) (v : AV) : (s.putO d v).drop i = (s.drop i).putO d (v.purge i) := by
 cases d with
 | none => rfl
 | some e =>
  show (⟨fun t => ((upd s.sl e v) t).purge i, _⟩ : St) = ⟨upd (fun t => (s.sl t).purge i) e (v.purge i), _⟩
  congr 1
  funext t
  simp only [zaC]
  by_cases h : t = e
  ·simp only [h, if_true]
  ·simp [h]
theorem zgB (v : AV) (i : Nat) : (v.purge i).unpin = v.unpin.purge i := by
 have h : v.unpin.hasRef i = v.hasRef i := by unfold AV.hasRef; rw [zek]
 unfold AV.purge
 rw [h]
 cases v.hasRef i <;> rfl
theorem zo9 (v : Value) : (cv v).refs = [] := by
 unfold cv
 split
 ·rename_i l c; cases Nat.beq l 0 && Nat.beq c 0 <;> rfl
 ·split <;> rfl
 ·split <;> rfl
theorem Iv.drop {oi : Oper} {v : AV} (hpl : isPl oi.op = true) (h : Iv P T E ops oi s v) {i : Nat} (hi : (∃ e k n f, s.ob i = some (.row e k n f)) \/ ∃ p ∈ ops.toList, p.dst = some i) (o' : Ob) {d : Nat} (h3 : d ∉ oi.looksAt ops) (u : AV) :
  Iv P T E ops oi (((s.drop i).setOb i (some o')).put d u) (v.purge i) := by
 obtain ⟨hy, hp⟩ := id h
 rcases hp with ⟨hmv, hg⟩ | hp
 ·refine ⟨.inl ⟨by unfold gd; rw [hg], ?_⟩, .inl ⟨hmv, hg⟩⟩
  have hy : valD P T E s oi.op fun u => u = v := by
   rcases hy with h | h
   ·exact h.2
   ·have := h.1; unfold gd at this; rw [hg] at this; cases this
  obtain ⟨dst, op, type, pos, after, guard⟩ := oi
  cases op <;> first | (simp [isMv] at hmv; done) | skip
  rename_i x _
  have hy : ev s x = v := hy
  show ev _ x = v.purge i
  rw [<- hy]
  cases x with
  | tmp t =>
   have hne : t ≠ d := fun e => zcq h3 (.tmp t) (by simp [Op.operands]) (by rw [e])
   show (upd (fun t => (s.sl t).purge i) d u t).unpin = (s.sl t).unpin.purge i
   rw [zaw _ _ hne, zgB]
  | const c =>
   have h : i ∉ (cv c).refs := by rw [zo9]; exact List.not_mem_nil
   exact (zco h).symm
  | func f => rfl
  | global g => rfl
 have hi : ∀ x ∈ oi.op.operands, i ∉ (ev s x).refs := fun x hx hb => by
  obtain ⟨hd, cs, h1, _⟩ := hp.on x hx i hb
  rcases hi with ⟨e, k, n, f, h2⟩ | ⟨p, hp, h2⟩
  ·rw [h1] at h2; cases h2
  ·exact hd p hp h2
 rw [zco (fun hb => by obtain ⟨x, hx, h⟩ := hp.res i hb; exact hi x hx h)]
 refine h.keep hpl ⟨?_, fun x hx => ?_⟩ fun x hx b hb o ho => ?_
 ·unfold gd; rw [hp.ngd]
 ·cases x with
  | tmp t =>
   have hne : t ≠ d := fun e => zcq h3 _ hx (by rw [e])
   show (upd (fun t => (s.sl t).purge i) d u t).unpin = (s.sl t).unpin
   rw [zaw _ _ hne, zco]
   rw [<- zek]; exact hi _ hx
  | _ => rfl
 ·obtain ⟨_, cs, h1, h2⟩ := hp.on x hx b hb
  rw [h1] at ho; cases ho
  have hne : b ≠ i := fun e => hi x hx (e ▸ hb)
  show upd (s.drop i).ob i (some o') b = _
  rw [zaw _ _ hne, zkL, if_neg hne, h1]
  simp only [Option.map_some, Ob.purge, Option.some.injEq, Ob.box.injEq]
  exact (List.map_congr_left fun c hc => zco (by rw [h2 c hc]; exact List.not_mem_nil)).trans (List.map_id _)
theorem zqf {j : Nat} {oi oj : Oper} {v : AV} (hj : ops[j]? = some oj) (hap : oi.apart ops oj = true) (hpl : isPl oi.op = true) (hA : isAp oj.op = true) (hAg : oj.guard = none) (hp : Iv P T E ops oi s v) {K : St -> Prop}
  (h : opG P T E ops j K (s.putO oi.dst v)) : opG P T E ops j (fun s' => ∃ v', Iv P T E ops oi s' v' /\ K (s'.putO oi.dst v')) s := by
 obtain ⟨h1, h2, h3⟩ := Oper.apart_spec hap
 have hev : ∀ x ∈ oj.op.operands, ev (s.putO oi.dst v) x = ev s x := zaA h1 s
 have hmem : oj ∈ ops.toList := by have := Array.mem_of_getElem? hj; simpa using this
 unfold opG stG at h ⊢
 simp only [hj] at h ⊢
 unfold gd at h ⊢
 simp only [hAg] at h ⊢
 obtain ⟨dst, op, type, pos, after, guard⟩ := oj
 cases op <;> first | (simp [isAp] at hA; done) | skip
 rename_i c
 obtain ⟨callee, args, argTypes⟩ := c
 cases callee <;> first | (simp [isAp] at hA; done) | skip
 rename_i bi
 cases bi <;> first | (simp [isAp] at hA; done) | skip
 simp only [stD, isB, isAl, stE] at h ⊢
 cases ha : args.toList with
 | nil => simp [ha] at h
 | cons a r =>
  cases r with
  | nil => simp [ha] at h
  | cons x r =>
   cases r with
   | cons y r => simp [ha] at h
   | nil =>
    cases ht : argTypes.toList with
    | nil => simp [ha, ht] at h
    | cons t r =>
     cases r with
     | nil => simp [ha, ht] at h
     | cons t' r =>
      cases r with
      | cons y r => simp [ha, ht] at h
      | nil =>
       simp only [ha, ht] at h ⊢
       cases hb : Nat.beq t t' with
       | false => simp [hb] at h
       | true =>
        simp only [hb, cond_true] at h ⊢
        have ho : ∀ y ∈ args.toList, ev (s.putO oi.dst v) y = ev s y := fun y hy => hev y (by simp only [Op.operands, Call.operands, Array.mem_append]; exact .inr (by simpa using hy))
        rw [ho a (by rw [ha]; simp), ho x (by rw [ha]; simp)] at h
        have hob : (s.putO oi.dst v).ob = s.ob := by cases oi.dst <;> rfl
        rcases appE_cases (ev s a) (ev s x) with ⟨i, m, i', k', lo, n', q1, q2⟩ | q
        ·rw [q1, q2] at h ⊢
         have h : delE T (s.putO oi.dst v) dst t i m i' k' lo n' K := h
         show delE T s dst t i m i' k' lo n' (fun s' => ∃ v', Iv P T E ops oi s' v' /\ K (s'.putO oi.dst v'))
         unfold delE at h ⊢
         rw [hob] at h
         cases dst with
         | none =>
          exfalso
          cases hty : T t with
          | none => simp [hty] at h
          | some ti =>
           obtain ⟨size, ag, bytes, zero, kind⟩ := ti
           cases kind <;> simp [hty] at h
         | some d =>
          have hd3 : d ∉ oi.looksAt ops := h3 d rfl
          cases hty : T t with
          | none => simp [hty] at h
          | some ti =>
           obtain ⟨size, ag, bytes, zero, kind⟩ := ti
           cases kind with
           | slice el =>
            simp only [hty] at h ⊢
            cases he : T el with
            | none => simp [he] at h
            | some ei =>
             cases hoi : s.ob i with
             | none => simp [he, hoi] at h
             | some o =>
              cases o with
              | box cs => simp [he, hoi] at h
              | mp ks => simp [he, hoi] at h
              | row e2 k2 N f =>
               simp only [he, hoi] at h ⊢
               generalize (Nat.beq el e2 && Nat.beq k2 ei.size && Nat.beq k' k2 && Nat.beq i i' && Nat.ble 1 ei.size && Nat.beq ei.zero.length ei.size : Bool) = bb at h ⊢
               cases bb with
               | false => exact h.elim
               | true =>
                simp only [cond_true] at h ⊢
                refine ⟨h.1, ?_⟩
                have hK := h.2
                refine ⟨_, hp.drop hpl (.inl ⟨_, _, _, _, hoi⟩) _ hd3 (.own i), ?_⟩
                have hK : K ((((s.putO oi.dst v).drop i).setOb i (some (.row el k2 (m + n') (cutRow f m lo)))).put d (.own i)) := hK
                show K ((((s.drop i).setOb i (some (.row el k2 (m + n') (cutRow f m lo)))).put d (.own i)).putO oi.dst (v.purge i))
                rw [zf8 s i oi.dst v] at hK
                generalize v.purge i = v at hK ⊢
                have e1 : ((s.drop i).putO oi.dst v).setOb i (some (.row el k2 (m + n') (cutRow f m lo))) = ((s.drop i).setOb i (some (.row el k2 (m + n') (cutRow f m lo)))).putO oi.dst v := by cases oi.dst <;> rfl
                rw [e1] at hK
                have e2 := zaT ((s.drop i).setOb i (some (.row el k2 (m + n') (cutRow f m lo)))) (x := oi.dst) (y := some d) v (.own i) (fun e he hh => h2 e he hh)
                rw [show ((((s.drop i).setOb i (some (.row el k2 (m + n') (cutRow f m lo)))).putO oi.dst v).put d (.own i)) = ((((s.drop i).setOb i (some (.row el k2 (m + n') (cutRow f m lo)))).putO oi.dst v).putO (some d) (.own i)) from rfl, e2] at hK
                exact hK
           | _ => simp [hty] at h
        rw [q] at h ⊢
        unfold appendE at h ⊢
        cases dst with
        | none =>
         exfalso
         cases hty : T t with
         | none => simp [hty] at h
         | some ti =>
          obtain ⟨size, ag, bytes, zero, kind⟩ := ti
          cases kind <;> simp [hty] at h
        | some d =>
         have hd3 : d ∉ oi.looksAt ops := h3 d rfl
         have anew : ∀ (i : Nat) (o' : Ob) (u : AV), ((∃ e k n f, s.ob i = some (.row e k n f)) \/ ∃ p ∈ ops.toList, p.dst = some i) -> K ((((s.putO oi.dst v).drop i).setOb i (some o')).put d u) ->
           ∃ v', Iv P T E ops oi (((s.drop i).setOb i (some o')).put d u) v' /\ K ((((s.drop i).setOb i (some o')).put d u).putO oi.dst v') := fun i o' u hi hK => by
          refine ⟨_, hp.drop hpl hi o' hd3 u, ?_⟩
          rw [zf8 s i oi.dst v] at hK
          generalize v.purge i = v at hK ⊢
          have e1 : ((s.drop i).putO oi.dst v).setOb i (some o') = ((s.drop i).setOb i (some o')).putO oi.dst v := by cases oi.dst <;> rfl
          rw [e1] at hK
          have e2 := zaT ((s.drop i).setOb i (some o')) (x := oi.dst) (y := some d) v u (fun e he hh => h2 e he hh)
          rw [show ((((s.drop i).setOb i (some o')).putO oi.dst v).put d u) = ((((s.drop i).setOb i (some o')).putO oi.dst v).putO (some d) u) from rfl, e2] at hK
          exact hK
         have anew0 : ∀ (o' : Ob) (u : AV), K (mk (s.putO oi.dst v) d o' u) -> ∃ v', Iv P T E ops oi (mk s d o' u) v' /\ K ((mk s d o' u).putO oi.dst v') := fun o' u hK => by
          unfold mk at hK ⊢
          rw [hob] at hK
          cases hs : s.ob d with
          | some o => simp only [hs] at hK ⊢; exact anew d o' u (.inr ⟨_, hmem, rfl⟩) hK
          | none =>
           simp only [hs] at hK ⊢
           have hng : oi.guard = none := hp.2.elim (fun h => h.2) fun h => h.ngd
           refine ⟨v, hp.keep hpl ⟨by unfold gd; rw [hng], fun x hx => ?_⟩ (fun x hx b hb o ho => ?_), ?_⟩
           ·have := zaA (ops := ops) (o := oi) (d := some d) (v := u) (fun t ht => by cases ht; exact hd3) s x hx
            rw [<- this]; cases x <;> rfl
           ·show upd s.ob d _ b = some o
            rw [zaw _ _ (fun e => by subst e; rw [hs] at ho; cases ho)]; exact ho
           ·have e1 : (s.putO oi.dst v).setOb d (some o') = (s.setOb d (some o')).putO oi.dst v := by cases oi.dst <;> rfl
            rw [e1] at hK
            have e2 := zaT (s.setOb d (some o')) (x := oi.dst) (y := some d) v u (fun e he hh => h2 e he hh)
            rw [show (((s.setOb d (some o')).putO oi.dst v).put d u) = (((s.setOb d (some o')).putO oi.dst v).putO (some d) u) from rfl, e2] at hK
            exact hK
         cases hty : T t with
         | none => simp [hty] at h
         | some ti =>
          obtain ⟨size, ag, bytes, zero, kind⟩ := ti
          cases kind with
          | slice el =>
           simp only [hty] at h ⊢
           cases he : T el with
           | none => simp [he] at h
           | some ei =>
            simp only [he] at h ⊢
            have src : ∀ {K1 K2 : Nat -> Nat -> (Nat -> Nat -> D) -> Prop}, (∀ k m g, K1 k m g -> K2 k m g) -> srcE (s.putO oi.dst v) (ev s x) K1 -> srcE s (ev s x) K2 := fun {K1 K2} hK hs => by
             unfold srcE at *
             rw [hob] at hs
             split at hs
             ·exact hK _ _ _ hs
             ·exact hK _ _ _ hs
             ·exact hK _ _ _ hs
             ·rename_i id' _
              cases q : s.ob id' with
              | none => simp [q] at hs
              | some o =>
               cases o with
               | box cs => simp [q] at hs
               | mp ks => simp [q] at hs
               | row e' k' n' f' => simp only [q] at hs ⊢; exact hK _ _ _ hs
             ·exact hs.elim
            refine src (fun k m g hh => ?_) h
            rw [hob] at hh
            have nil : (bif Nat.ble 1 ei.size && Nat.beq ei.zero.length ei.size then ((m = 0 \/ k = ei.size) /\ m <= maxLen /\ m * ei.bytes <= 140737488355328) /\ K (mk (s.putO oi.dst v) d (.row el ei.size m g) (.own d)) else False) ->
              (bif Nat.ble 1 ei.size && Nat.beq ei.zero.length ei.size then ((m = 0 \/ k = ei.size) /\ m <= maxLen /\ m * ei.bytes <= 140737488355328) /\
               (∃ v', Iv P T E ops oi (mk s d (.row el ei.size m g) (.own d)) v' /\ K ((mk s d (.row el ei.size m g) (.own d)).putO oi.dst v')) else False) := fun hh => by
             generalize (Nat.ble 1 ei.size && Nat.beq ei.zero.length ei.size : Bool) = bb at hh ⊢
             cases bb with
             | false => exact hh.elim
             | true => simp only [cond_true] at hh ⊢; exact ⟨hh.1, anew0 _ _ hh.2⟩
            cases hav : ev s a with
            | own i =>
             simp only [hav] at hh ⊢
             cases hoi : s.ob i with
             | none => simp [hoi] at hh
             | some o =>
              cases o with
              | box cs => simp [hoi] at hh
              | mp ks => simp [hoi] at hh
              | row e' k' n' f' =>
               simp only [hoi] at hh ⊢
               generalize (Nat.beq el e' && Nat.beq k' ei.size && Nat.ble 1 ei.size && Nat.beq ei.zero.length ei.size : Bool) = bb at hh ⊢
               cases bb with
               | false => exact hh.elim
               | true =>
                simp only [cond_true] at hh ⊢
                refine ⟨hh.1, ?_⟩
                exact anew i _ (.own i) (.inl ⟨_, _, _, _, hoi⟩) hh.2
            | nilsl => simp only [hav] at hh ⊢; exact nil hh
            | d p =>
             cases p with
             | nil => simp only [hav] at hh ⊢; exact nil hh
             | _ => simp [hav] at hh
            | _ => simp [hav] at hh
          | _ => simp [hty] at h
def Closed (ops : Array Oper) (listed : Array Bool) : Prop := ∀ j oj, ops[j]? = some oj -> listed.getD j true = true -> ∀ e ∈ oj.after, Region.binds .any e = true -> listed.getD e.on false = true
theorem Closed.start (ops : Array Oper) : Closed ops (Array.replicate ops.size false) := fun j oj hj hl => by
 have hlt := (Array.getElem?_eq_some_iff.1 hj).1
 simp [hlt] at hl
theorem zgP {l : Array Bool} {j : Nat} (h : l.getD j false = true) : l.getD j true = true := by
 rcases Nat.lt_or_ge j l.size with hj | hj
 ·simp [hj] at h ⊢; exact h
 ·simp [Array.getElem?_eq_none hj]
theorem Closed.step {listed : Array Bool} (hc : Closed ops listed) {k : Nat} (hk : k ∈ Region.ready .any ops listed) : Closed ops (listed.setIfInBounds k true) := fun j oj hj hl e he hb => by
 by_cases hjk : j = k
 ·subst hjk
  obtain ⟨_, o, ho, hall⟩ := mem_ready.1 hk
  rw [hj] at ho; cases ho
  exact getD_set_true (hall e he hb)
 ·rw [getD_set_ne true (Ne.symm hjk)] at hl
  exact getD_set_true (hc j oj hj hl e he hb)
theorem zlf {listed : Array Bool} (hc : Closed ops listed) {i : Nat} (hi : listed.getD i true = false) : ∀ (r : List Oper) (acc : List Bool) (pre : List Oper), ops.toList = pre ++ r -> acc.length = pre.length ->
  (∀ j oj, ops[j]? = some oj -> acc.getD j false = true -> (∀ e ∈ oj.after, Region.binds .any e = true -> listed.getD e.on false = true) -> False) ->
  ∀ j oj, ops[j]? = some oj -> (behs i r acc).getD j false = true -> (∀ e ∈ oj.after, Region.binds .any e = true -> listed.getD e.on false = true) -> False
 | [], acc, pre, _, _, H => H
 | o :: r, acc, pre, hp, hl, H => by
  simp only [behs]
  refine zlf hc hi r _ (pre ++ [o]) (by rw [hp]; simp) (by simp [hl]) fun j oj hj ha hall => ?_
  rcases Nat.lt_or_ge j acc.length with h | h
  ·rw [List.getD_eq_getElem?_getD, List.getElem?_append_left h, <- List.getD_eq_getElem?_getD] at ha
   exact H j oj hj ha hall
  ·rcases Nat.lt_or_eq_of_le h with h2 | h2
   ·rw [List.getD_eq_getElem?_getD, List.getElem?_eq_none (by simp; omega)] at ha
    cases ha
   ·subst h2
    have e1 : ops.toList[acc.length]? = some o := by rw [hp, hl]; simp
    have e2 : ops[acc.length]? = some o := by simpa using e1
    rw [e2] at hj; cases hj
    rw [List.getD_eq_getElem?_getD, List.getElem?_append_right (Nat.le_refl _), Nat.sub_self] at ha
    simp only [List.getElem?_cons_zero, Option.getD_some] at ha
    obtain ⟨e, he, hbe⟩ := Array.any_eq_true'.1 ha
    simp only [Bool.and_eq_true, Bool.or_eq_true, beq_iff_eq] at hbe
    have hon := hall e he hbe.1
    rcases hbe.2 with h3 | h3
    ·subst h3
     rw [zgP hon] at hi; cases hi
    ·cases hoe : ops[e.on]? with
     | none =>
      have hlt : e.on < acc.length := by
       rcases Nat.lt_or_ge e.on acc.length with h4 | h4
       ·exact h4
       ·rw [List.getD_eq_getElem?_getD, List.getElem?_eq_none h4] at h3; cases h3
      have : e.on < ops.toList.length := by rw [hp, List.length_append]; omega
      have h5 : ops[e.on]? = some ops.toList[e.on] := by
       have := List.getElem?_eq_getElem this
       simpa using this
      rw [hoe] at h5; cases h5
     | some oe => exact H e.on oe hoe h3 (hc e.on oe hoe (zgP hon))
theorem zcJ {listed : Array Bool} (hc : Closed ops listed) {i j : Nat} (hi : listed.getD i true = false) (hj : j ∈ Region.ready .any ops listed) : (behs i ops.toList []).getD j false = false := by
 obtain ⟨_, o, ho, hall⟩ := mem_ready.1 hj
 cases h : (behs i ops.toList []).getD j false with
 | false => rfl
 | true => exact (zlf hc hi ops.toList [] [] rfl rfl (fun j oj _ h => by cases h) j o ho h hall).elim
theorem zqM {listed : Array Bool} (hc : Closed ops listed) {i y : Nat} (hi : i ∈ Region.ready .any ops listed) (hy : y ∈ Region.ready .any ops listed) (hne : y ≠ i) (hcmp : cmpB ops y = true) : False := by
 have h1 := zcJ hc (mem_ready.1 hi).1 hy
 have h2 := zcJ hc (mem_ready.1 hy).1 hi
 obtain ⟨_, o, ho, _⟩ := mem_ready.1 hi
 have hlt : i < ops.size := (Array.getElem?_eq_some_iff.1 ho).1
 have := List.all_eq_true.1 hcmp i (List.mem_range.2 hlt)
 simp only [h1, h2, Bool.or_false] at this
 exact hne (Nat.eq_of_beq_eq_true this).symm
theorem zfn {ow : Bool} {Q : St -> Prop} {i j : Nat} {fuel : Nat} {listed : Array Bool} {s : St} (hc : Closed ops listed) (hi : i ∈ Region.ready .any ops listed) (hj : j ∈ Region.ready .any ops listed) (hji : j ≠ i)
  (H : anyA ow P T E ops Q (fuel + 1) (listed.setIfInBounds i true) s) : ∀ j ∈ Region.ready .any ops (listed.setIfInBounds i true), op2 ow P T E ops j (anyA ow P T E ops Q fuel ((listed.setIfInBounds i true).setIfInBounds j true)) s := by
 rcases H with H | ⟨y, o, h1, h2, h3, h4, h5, h6⟩
 ·exact H.2
 ·have := h2 j (ready_mono hj hji)
  subst this
  exact (zqM hc hi hj hji h3).elim
theorem zeI {ow : Bool} {Q : St -> Prop} {i : Nat} {oi : Oper} {v : AV} (hi : ops[i]? = some oi) (hbi : isB oi.op = true) :
  ∀ (fuel : Nat) (listed : Array Bool) (s : St), Closed ops listed ->
   (∀ j oj, ops[j]? = some oj -> j ≠ i -> listed.getD j true = false -> (∀ e ∈ oj.after, Region.binds .any e = true -> e.on ≠ i) -> (behs i ops.toList []).getD j false = false -> oi.apart ops oj = true /\ (isB oj.op || isAl oj.op || (isPu oi.op && isSt oj.op)) = true) ->
   i ∈ Region.ready .any ops listed -> Yl P T E ops oi v s ->
   anyA ow P T E ops Q fuel (listed.setIfInBounds i true) (s.putO oi.dst v) -> anyA ow P T E ops Q (fuel + 1) listed s := by
 intro fuel
 induction fuel with
 | zero =>
  intro listed s _ _ hr hy H
  refine .inl ⟨fun h => (by rw [h] at hr; cases hr), fun j hj => ?_⟩
  by_cases hji : j = i
  ·subst hji; exact .inl (hy.opG hi hbi H)
  ·have := ready_mono hj hji
   rw [H.1] at this
   cases this
 | succ fuel ih =>
  intro listed s hcl hfree hr hy H
  refine .inl ⟨fun h => (by rw [h] at hr; cases hr), fun j hj => ?_⟩
  by_cases hji : j = i
  ·subst hji; exact .inl (hy.opG hi hbi H)
  ·have h1 := (zfn hcl hr hj hji H) j (ready_mono hj hji)
   obtain ⟨hjun, oj, hoj, hall⟩ := mem_ready.1 hj
   have hnot : ∀ e ∈ oj.after, Region.binds .any e = true -> e.on ≠ i := fun e he hb heq => by
    have h1 := hall e he hb
    have h0 := (mem_ready.1 hr).1
    rw [heq] at h1
    rw [zgP h1] at h0; cases h0
   obtain ⟨hap, hcls⟩ := hfree j oj hoj hji hjun hnot (zcJ hcl (mem_ready.1 hr).1 hj)
   have h2 := zoB hoj hap hcls hy h1
   have hfree' : ∀ k ok, ops[k]? = some ok -> k ≠ i -> (listed.setIfInBounds j true).getD k true = false ->
     (∀ e ∈ ok.after, Region.binds .any e = true -> e.on ≠ i) -> (behs i ops.toList []).getD k false = false -> oi.apart ops ok = true /\ (isB ok.op || isAl ok.op || (isPu oi.op && isSt ok.op)) = true := fun k ok hk hki hun hno hbe => by
    refine hfree k ok hk hki ?_ hno hbe
    by_cases hjk : j = k
    ·subst hjk; exact hjun
    ·rw [getD_set_ne true hjk] at hun; exact hun
   refine zl5 (fun s' h3 => ih (listed.setIfInBounds j true) s' (hcl.step hj) hfree' (ready_mono hr (Ne.symm hji)) h3.1 ?_) h2
   rw [Array.setIfInBounds_comm _ _ hji]
   exact h3.2
theorem zg9 {Q : St -> Prop} {i : Nat} {oi : Oper} (hi : ops[i]? = some oi) (hpl : isPl oi.op = true) (hbi : isB oi.op = true) :
  ∀ (fuel : Nat) (listed : Array Bool) (s : St) (v : AV), Closed ops listed ->
   (∀ j oj, ops[j]? = some oj -> j ≠ i -> listed.getD j true = false -> (behs i ops.toList []).getD j false = false -> oi.apart ops oj = true /\ ((isB oj.op || isAl oj.op) = true \/ (isAp oj.op = true /\ oj.guard = none))) ->
   i ∈ Region.ready .any ops listed -> Iv P T E ops oi s v ->
   anyA false P T E ops Q fuel (listed.setIfInBounds i true) (s.putO oi.dst v) -> anyA false P T E ops Q (fuel + 1) listed s := by
 intro fuel
 induction fuel with
 | zero =>
  intro listed s v _ _ hr hy H
  refine .inl ⟨fun h => (by rw [h] at hr; cases hr), fun j hj => ?_⟩
  by_cases hji : j = i
  ·subst hji; exact .inl (hy.1.opG hi hbi H)
  ·have := ready_mono hj hji
   rw [H.1] at this
   cases this
 | succ fuel ih =>
  intro listed s v hcl hfree hr hy H
  refine .inl ⟨fun h => (by rw [h] at hr; cases hr), fun j hj => ?_⟩
  by_cases hji : j = i
  ·subst hji; exact .inl (hy.1.opG hi hbi H)
  ·have h1 := ((zfn hcl hr hj hji H) j (ready_mono hj hji)).resolve_right fun q => by cases q.1
   obtain ⟨hjun, oj, hoj, hall⟩ := mem_ready.1 hj
   obtain ⟨hap, hcls⟩ := hfree j oj hoj hji hjun (zcJ hcl (mem_ready.1 hr).1 hj)
   have h2 : opG P T E ops j (fun s' => ∃ v', Iv P T E ops oi s' v' /\ anyA false P T E ops Q fuel ((listed.setIfInBounds i true).setIfInBounds j true) (s'.putO oi.dst v')) s := by
    rcases hcls with hcls | ⟨c1, c2⟩
    ·exact zbs (fun s' h => ⟨v, hy.keep hpl h.1.1 fun x _ b _ o ho => h.1.2 b o ho, h.2⟩) (zjU hoj hap hcls h1)
    ·exact zqf hoj hap hpl c1 c2 hy h1
   have hfree' : ∀ k ok, ops[k]? = some ok -> k ≠ i -> (listed.setIfInBounds j true).getD k true = false -> (behs i ops.toList []).getD k false = false -> oi.apart ops ok = true /\ ((isB ok.op || isAl ok.op) = true \/ (isAp ok.op = true /\ ok.guard = none)) := fun k ok hk hki hun hbe => by
    refine hfree k ok hk hki ?_ hbe
    by_cases hjk : j = k
    ·subst hjk; exact hjun
    ·rw [getD_set_ne true hjk] at hun; exact hun
   refine .inl (zbs (fun s' ⟨v', h3, h4⟩ => ih (listed.setIfInBounds j true) s' v' (hcl.step hj) hfree' (ready_mono hr (Ne.symm hji)) h3 ?_) h2)
   rw [Array.setIfInBounds_comm _ _ hji]
   exact h4
theorem zl3 {j : Nat} {oi oj : Oper} {v : AV} (hj : ops[j]? = some oj) (hap : oi.apart ops oj = true) (hpl : isPl oi.op = true) (hcls : (isB oj.op || isAl oj.op || isSt oj.op) = true) (hn : ∀ x ∈ oi.op.operands, (ev s x).refs = []) {K : St -> Prop}
  (hy : Yl P T E ops oi v s) (h : opG P T E ops j K (s.putO oi.dst v)) : opG P T E ops j (fun s' => (Yl P T E ops oi v s' /\ ∀ x ∈ oi.op.operands, (ev s' x).refs = []) /\ K (s'.putO oi.dst v)) s := by
 have refs : ∀ {s'}, SameOn s s' oi.op -> ∀ x ∈ oi.op.operands, (ev s' x).refs = [] := fun hs x hx => by rw [hs x hx]; exact hn x hx
 cases hba : (isB oj.op || isAl oj.op) with
 | true => exact zbs (fun s' hs' => ⟨⟨hy.keep hs'.1.1 hs'.1.2, refs hs'.1.1.on⟩, hs'.2⟩) (zjU hj hap hba h)
 | false =>
  obtain ⟨h1, h2, h3⟩ := Oper.apart_spec hap
  have keep : ∀ u, Yl P T E ops oi v (s.putO oj.dst u) /\ ∀ x ∈ oi.op.operands, (ev (s.putO oj.dst u) x).refs = [] := fun u => ⟨hy.keep (.put h3 s) (zda s _ _), refs (Keep.put h3 s).on⟩
  have hb : isB oj.op = false := by cases q : isB oj.op <;> simp [q] at hba ⊢
  have hal' : isAl oj.op = false := by cases q : isAl oj.op <;> simp [q] at hba ⊢
  have hst : isSt oj.op = true := by simpa [hb, hal'] using hcls
  unfold opG stG at h ⊢
  simp only [hj] at h ⊢
  rw [zcY h1] at h
  cases hg : gd s ops oj with
  | none => simp [hg] at h
  | some b =>
   cases b with
   | false => simp only [hg] at h ⊢; exact ⟨keep _, by rw [<- zaT s v .undef h2]; exact h⟩
   | true =>
    simp only [hg, stD, hb, hal'] at h ⊢
    have hev : ∀ x ∈ oj.op.operands, ev (s.putO oi.dst v) x = ev s x := zaA h1 s
    obtain ⟨dst, op, type, pos, after, guard⟩ := oj
    cases op <;> first | (simp [isSt] at hst; done) | skip
    rename_i t x y
    have e1 := hev x (by simp [Op.operands])
    have e2 := hev y (by simp [Op.operands])
    cases dst with
    | some d => simp [stE] at h
    | none =>
     simp only [stE] at h ⊢
     rw [e1, e2] at h
     refine zec (ps := fun s' => Yl P T E ops oi v s' /\ ∀ x ∈ oi.op.operands, (ev s' x).refs = []) h fun s' hs' => ?_
     have hso : SameOn s s' oi.op := fun x _ => by cases x <;> simp [ev, hs']
     refine ⟨?_, refs hso⟩
     rcases hy with ⟨g1, g2⟩ | ⟨g1, rfl⟩
     ·exact .inl ⟨by rw [ziA hs']; exact g1, zi3 hpl hso (fun x hx b hb => by rw [hn x hx] at hb; cases hb) g2⟩
     ·exact .inr ⟨by rw [ziA hs']; exact g1, rfl⟩
theorem zg8 {Q : St -> Prop} {i : Nat} {oi : Oper} {v : AV} (hi : ops[i]? = some oi) (hpl : isPl oi.op = true) (hbi : isB oi.op = true) :
  ∀ (fuel : Nat) (listed : Array Bool) (s : St), Closed ops listed ->
   (∀ j oj, ops[j]? = some oj -> j ≠ i -> listed.getD j true = false -> (behs i ops.toList []).getD j false = false -> oi.apart ops oj = true /\ (isB oj.op || isAl oj.op || isSt oj.op) = true) ->
   i ∈ Region.ready .any ops listed -> (∀ x ∈ oi.op.operands, (ev s x).refs = []) -> Yl P T E ops oi v s ->
   anyA false P T E ops Q fuel (listed.setIfInBounds i true) (s.putO oi.dst v) -> anyA false P T E ops Q (fuel + 1) listed s := by
 intro fuel
 induction fuel with
 | zero =>
  intro listed s _ _ hr hp hy H
  refine .inl ⟨fun h => (by rw [h] at hr; cases hr), fun j hj => ?_⟩
  by_cases hji : j = i
  ·subst hji; exact .inl (hy.opG hi hbi H)
  ·have := ready_mono hj hji
   rw [H.1] at this
   cases this
 | succ fuel ih =>
  intro listed s hcl hfree hr hp hy H
  refine .inl ⟨fun h => (by rw [h] at hr; cases hr), fun j hj => ?_⟩
  by_cases hji : j = i
  ·subst hji; exact .inl (hy.opG hi hbi H)
  ·have h1 := ((zfn hcl hr hj hji H) j (ready_mono hj hji)).resolve_right fun q => by cases q.1
   obtain ⟨hjun, oj, hoj, hall⟩ := mem_ready.1 hj
   obtain ⟨hap, hcls⟩ := hfree j oj hoj hji hjun (zcJ hcl (mem_ready.1 hr).1 hj)
   have h2 := zl3 hoj hap hpl hcls hp hy h1
   have hfree' : ∀ k ok, ops[k]? = some ok -> k ≠ i -> (listed.setIfInBounds j true).getD k true = false -> (behs i ops.toList []).getD k false = false -> oi.apart ops ok = true /\ (isB ok.op || isAl ok.op || isSt ok.op) = true := fun k ok hk hki hun hbe => by
    refine hfree k ok hk hki ?_ hbe
    by_cases hjk : j = k
    ·subst hjk; exact hjun
    ·rw [getD_set_ne true hjk] at hun; exact hun
   refine .inl (zbs (fun s' h3 => ih (listed.setIfInBounds j true) s' (hcl.step hj) hfree' (ready_mono hr (Ne.symm hji)) h3.1.2 h3.1.1 ?_) h2)
   rw [Array.setIfInBounds_comm _ _ hji]
   exact h3.2
def NoRef (ops : Array Oper) (d : Nat) (s : St) : Prop := ∀ (j : Nat) (o : Oper), ops[j]? = some o -> ∀ x ∈ o.op.operands, x ≠ .tmp d -> d ∉ (ev s x).refs
theorem zdB {s : St} {d : Nat} {o : Ob} {v : AV} (h : s.ob d = none) : mk s d o v = (s.setOb d (some o)).put d v := by unfold mk; rw [h]
theorem zng {s s' : St} (h1 : ∀ t, s.sl t = s'.sl t) (h2 : ∀ t, s.ob t = s'.ob t) : s = s' := by
 cases s; cases s'
 congr 1
 ·funext t; exact h1 t
 ·funext t; exact h2 t
theorem zqe {j d : Nat} {oi oj : Oper} {O : Ob} {V : AV} (hj : ops[j]? = some oj) (hd : oi.dst = some d) (hap : oi.apart ops oj = true) (hcls : isAo oj.op = true \/ (isSt oj.op = true /\ oj.dst = none)) (hgj : oj.guard = none)
  (h0 : s.ob d = none) (hn : NoRef ops d s) {K : St -> Prop} (h : opG P T E ops j K (mk s d O V)) : opG P T E ops j (fun s' => (s'.ob d = none /\ NoRef ops d s') /\ K (mk s' d O V)) s := by
 obtain ⟨h1, h2, h3⟩ := Oper.apart_spec hap
 have hlk := zcq (h1 d hd)
 have hdd := h2 d hd
 rw [zdB h0] at h
 have hev : ∀ x, x ≠ .tmp d -> ev ((s.setOb d (some O)).put d V) x = ev s x := fun x hx => zgR (s := s.setOb d (some O)) (d := some d) fun t ht => by cases ht; exact hx
 have hgd : ∀ s : St, gd s ops oj = some true := fun s => by unfold gd; rw [hgj]
 unfold opG stG at h ⊢
 simp only [hj, hgd] at h ⊢
 rcases hcls with hal | ⟨hst, hnd⟩
 ·obtain ⟨dst, op, type, pos, after, guard⟩ := oj
  cases op <;> first | (simp [isAo] at hal; done) | skip
  rename_i t
  dsimp only at *
  cases dst with
  | none => simp [stD, isB, isAl, stE] at h
  | some e =>
   have hne : e ≠ d := fun he => hdd (by rw [he])
   have hob : ((s.setOb d (some O)).put d V).ob e = s.ob e := zaw s.ob _ hne
   simp only [stD, isB, isAl, hob] at h ⊢
   cases hoe : s.ob e with
   | some o => simp [hoe] at h
   | none =>
    simp only [hoe, stE] at h ⊢
    cases ht : T t with
    | none => simp [ht] at h
    | some ti =>
     simp only [ht] at h ⊢
     cases hz : (ti.zero.all (·.oneCell')) with
     | false => simp [hz] at h
     | true =>
      simp only [hz, cond_true] at h ⊢
      rw [zdB (hob.trans hoe)] at h
      rw [zdB hoe]
      have h0' : ((s.setOb e (some (Ob.box (ti.zero.map cv)))).put e (.box e 0)).ob d = none := by
       show upd s.ob e _ d = none
       rw [zaw _ _ (Ne.symm hne)]; exact h0
      refine ⟨⟨h0', fun k o hk x hx hxd => ?_⟩, ?_⟩
      ·cases x with
       | tmp u =>
        show d ∉ (upd s.sl e (.box e 0) u).unpin.refs
        by_cases hu : u = e
        ·subst hu; rw [zae]
         show d ∉ [u]
         simpa using Ne.symm hne
        ·rw [zaw _ _ hu]; exact hn k o hk (.tmp u) hx hxd
       | const v => exact hn k o hk (.const v) hx hxd
       | global g => exact hn k o hk (.global g) hx hxd
       | func f => exact hn k o hk (.func f) hx hxd
      ·rw [zdB h0']
       refine cast (congrArg K (zng (fun t => ?_) fun t => ?_)) h
       ·show upd (upd s.sl d V) e _ t = upd (upd s.sl e _) d V t
        simp only [zaC]
        by_cases h4 : t = e
        ·subst h4; simp [hne]
        ·simp [h4]
       ·show upd (upd s.ob d _) e _ t = upd (upd s.ob e _) d _ t
        simp only [zaC]
        by_cases h4 : t = e
        ·subst h4; simp [hne]
        ·simp [h4]
 ·obtain ⟨dst, op, type, pos, after, guard⟩ := oj
  cases op <;> first | (simp [isSt] at hst; done) | skip
  rename_i t A X
  dsimp only at hnd
  subst hnd
  have eA := hev A (hlk A (by simp [Op.operands]))
  have eX := hev X (hlk X (by simp [Op.operands]))
  have nA := hn j _ hj A (by simp [Op.operands]) (hlk A (by simp [Op.operands]))
  simp only [stD, isB, isAl, stE, eA, eX] at h ⊢
  have fin : ∀ (i : Nat) (o' : Ob), i ≠ d -> K (((s.setOb d (some O)).put d V).setOb i (some o')) -> ((s.setOb i (some o')).ob d = none /\ NoRef ops d (s.setOb i (some o'))) /\ K (mk (s.setOb i (some o')) d O V) := fun i o' hi hk => by
   have h0' : (s.setOb i (some o')).ob d = none := by
    show upd s.ob i _ d = none
    rw [zaw _ _ (Ne.symm hi)]; exact h0
   refine ⟨⟨h0', fun k o hk x hx hxd => hn k o hk x hx hxd⟩, ?_⟩
   rw [zdB h0']
   have e : ((s.setOb d (some O)).put d V).setOb i (some o') = ((s.setOb i (some o')).setOb d (some O)).put d V := zng (fun t => rfl) fun t => by
    show upd (upd s.ob d _) i _ t = upd (upd s.ob i _) d _ t
    simp only [zaC]
    by_cases h4 : t = i
    ·subst h4; simp [hi]
    ·simp [h4]
   rw [<- e]; exact hk
  have hob : ∀ i, i ≠ d -> ((s.setOb d (some O)).put d V).ob i = s.ob i := fun i hi => zaw s.ob _ hi
  unfold storeE at h ⊢
  cases ht : T t with
  | none => simp [ht] at h
  | some ti =>
   cases ha : ev s A with
   | box i off =>
    have hi : i ≠ d := fun e => nA (by rw [ha, e]; simp [AV.refs])
    simp only [ht, ha, hob i hi] at h ⊢
    cases ho : s.ob i with
    | none => simp [ho] at h
    | some o =>
     cases o with
     | box cs =>
      cases hc : cellsA (ev s X) with
      | none => simp [ho, hc] at h
      | some ys =>
       simp only [ho, hc] at h ⊢
       cases hl : Nat.beq ys.length ti.size with
       | false => simp [hl] at h
       | true =>
        simp only [hl, cond_true] at h ⊢
        cases hr : setRange cs off ys with
        | none => simp [hr] at h
        | some cs' => simp only [hr] at h ⊢; exact fin _ _ hi h
     | row e k n f => simp [ho] at h
     | mp ks => simp [ho] at h
   | elt i k n c =>
    have hi : i ≠ d := fun e => nA (by rw [ha, e]; simp [AV.refs])
    simp only [ht, ha, hob i hi] at h ⊢
    cases ho : s.ob i with
    | none => simp [ho] at h
    | some o =>
     cases o with
     | box cs => simp [ho] at h
     | mp ks => simp [ho] at h
     | row e k' N f =>
      cases hc : cellsD (ev s X) with
      | none => simp [ho, hc] at h
      | some ys =>
       simp only [ho, hc] at h ⊢
       cases hl : (Nat.beq k k' && Nat.beq ys.length ti.size && Nat.ble (c + ti.size) k) with
       | false => simp [hl] at h
       | true => simp only [hl, cond_true] at h ⊢; exact ⟨h.1, fin _ _ hi h.2⟩
   | _ => simp [ht, ha] at h
theorem zha {Q : St -> Prop} {i d t : Nat} {oi : Oper} {ti : TI} (hi : ops[i]? = some oi) (hop : oi.op = .alloc t) (hg : oi.guard = none) (hd : oi.dst = some d) (ht : T t = some ti) (hz : ti.zero.all (·.oneCell') = true) :
  ∀ (fuel : Nat) (listed : Array Bool) (s : St), Closed ops listed ->
   (∀ j oj, ops[j]? = some oj -> j ≠ i -> listed.getD j true = false -> (behs i ops.toList []).getD j false = false -> oi.apart ops oj = true /\ (isAo oj.op = true \/ (isSt oj.op = true /\ oj.dst = none)) /\ oj.guard = none) ->
   i ∈ Region.ready .any ops listed -> s.ob d = none -> NoRef ops d s ->
   anyA false P T E ops Q fuel (listed.setIfInBounds i true) (mk s d (.box (ti.zero.map cv)) (.box d 0)) -> anyA false P T E ops Q (fuel + 1) listed s := by
 have self : ∀ {K : St -> Prop} {s : St}, s.ob d = none -> K (mk s d (.box (ti.zero.map cv)) (.box d 0)) -> opG P T E ops i K s := fun {K s} h0 hK => by
  have hgd : gd s ops oi = some true := by unfold gd; rw [hg]
  unfold opG stG
  simp only [hi, hgd, stD, hop, isB, isAl, hd, h0, stE, ht, hz, cond_true]
  exact hK
 intro fuel
 induction fuel with
 | zero =>
  intro listed s _ _ hr h0 hn H
  refine .inl ⟨fun h => (by rw [h] at hr; cases hr), fun j hj => ?_⟩
  by_cases hji : j = i
  ·subst hji; exact .inl (self h0 H)
  ·have := ready_mono hj hji
   rw [H.1] at this
   cases this
 | succ fuel ih =>
  intro listed s hcl hfree hr h0 hn H
  refine .inl ⟨fun h => (by rw [h] at hr; cases hr), fun j hj => ?_⟩
  by_cases hji : j = i
  ·subst hji; exact .inl (self h0 H)
  ·have h1 := ((zfn hcl hr hj hji H) j (ready_mono hj hji)).resolve_right fun q => by cases q.1
   obtain ⟨hjun, oj, hoj, hall⟩ := mem_ready.1 hj
   obtain ⟨hap, hcls, hgj⟩ := hfree j oj hoj hji hjun (zcJ hcl (mem_ready.1 hr).1 hj)
   have h2 := zqe hoj hd hap hcls hgj h0 hn h1
   have hfree' : ∀ k ok, ops[k]? = some ok -> k ≠ i -> (listed.setIfInBounds j true).getD k true = false -> (behs i ops.toList []).getD k false = false -> oi.apart ops ok = true /\ (isAo ok.op = true \/ (isSt ok.op = true /\ ok.dst = none)) /\ ok.guard = none := fun k ok hk hki hun hbe => by
    refine hfree k ok hk hki ?_ hbe
    by_cases hjk : j = k
    ·subst hjk; exact hjun
    ·rw [getD_set_ne true hjk] at hun; exact hun
   refine .inl (zbs (fun s' h3 => ih (listed.setIfInBounds j true) s' (hcl.step hj) hfree' (ready_mono hr (Ne.symm hji)) h3.1.1 h3.1.2 ?_) h2)
   rw [Array.setIfInBounds_comm _ _ hji]
   exact h3.2
theorem zj0 {listed : Array Bool} {i : Nat} (h : okAl ops listed i = true) : ∃ oi, ops[i]? = some oi /\ i ∈ Region.ready .any ops listed /\ oi.guard = none /\ isAo oi.op = true /\
  ∀ j oj, ops[j]? = some oj -> j ≠ i -> listed.getD j true = false -> (behs i ops.toList []).getD j false = false -> oi.apart ops oj = true /\ (isAo oj.op = true \/ (isSt oj.op = true /\ oj.dst = none)) /\ oj.guard = none := by
 unfold okAl at h
 cases hi : ops[i]? with
 | none => simp [hi] at h
 | some oi =>
  simp only [hi, Bool.and_eq_true] at h
  refine ⟨oi, rfl, by simpa using h.1.1, by simpa using h.1.2, h.2.1, fun j oj hj hne hun hbe => ?_⟩
  have h3 := List.all_eq_true.1 h.2.2 j (List.mem_range.2 (Array.getElem?_eq_some_iff.1 hj).1)
  simp only [hj, Bool.or_eq_true, hun, hbe, Bool.false_eq_true, or_false, Bool.and_eq_true] at h3
  rcases h3 with h3 | ⟨⟨h3, h4⟩, h5⟩
  ·exact absurd (Nat.eq_of_beq_eq_true h3) hne
  ·exact ⟨h3, by simpa using h4, by simpa using h5⟩
theorem zma {s : St} {o : Oper} {d : Nat} (hd : o.dst = some d) (h : noRefB s ops.toList o = true) : NoRef ops d s := fun j p hp x hx hxd hr => by
 unfold noRefB at h
 simp only [hd] at h
 have h1 := List.all_eq_true.1 (List.all_eq_true.1 h p (by simpa using Array.mem_of_getElem? hp)) x (by simpa using hx)
 simp only [Bool.or_eq_true, Bool.not_eq_true'] at h1
 rcases h1 with h1 | h1
 ·cases x with
  | tmp t => exact hxd (by rw [Nat.eq_of_beq_eq_true h1])
  | _ => cases h1
 ·unfold AV.hasRef at h1
  have := List.any_eq_false.1 h1 d hr
  rw [zaS] at this; exact this rfl
theorem ziq {listed : Array Bool} {i : Nat} (h : okNow ops listed i = true) : ∃ oi, ops[i]? = some oi /\ i ∈ Region.ready .any ops listed /\
    ((isB oi.op = true /\ ∀ j oj, ops[j]? = some oj -> j ≠ i -> listed.getD j true = false -> (∀ e ∈ oj.after, Region.binds .any e = true -> e.on ≠ i) -> (behs i ops.toList []).getD j false = false -> oi.apart ops oj = true /\ (isB oj.op || isAl oj.op || (isPu oi.op && isSt oj.op)) = true) \/
     ∀ j ∈ Region.ready .any ops listed, j = i) := by
  unfold okNow at h
  cases hi : ops[i]? with
  | none => simp [hi] at h
  | some oi =>
    simp only [hi, Bool.and_eq_true, Bool.or_eq_true] at h
    refine ⟨oi, rfl, by simpa using h.1, ?_⟩
    rcases h.2 with h2 | h2
    · refine .inl ⟨h2.1, fun j oj hj hne hun hno hbe => ?_⟩
      have h3 := List.all_eq_true.1 h2.2 j (List.mem_range.2 (Array.getElem?_eq_some_iff.1 hj).1)
      simp only [hj, Bool.or_eq_true, hun, hbe, Bool.false_eq_true, or_false, Bool.and_eq_true] at h3
      rcases h3 with h3 | h3 | h3
      · exact absurd (Nat.eq_of_beq_eq_true h3) hne
      · obtain ⟨e, he, hb⟩ := Array.any_eq_true'.1 h3
        simp only [Bool.and_eq_true, beq_iff_eq] at hb
        exact absurd hb.2 (hno e he hb.1)
      · exact ⟨h3.1, by simpa using h3.2⟩
    · exact .inr fun j hj => Nat.eq_of_beq_eq_true (List.all_eq_true.1 h2 j hj)
theorem znx {o : Op} (h : isPl o = true) : isB o = true := by cases o <;> first | (simp [isPl] at h; done) | rfl | exact h
theorem zjY {listed : Array Bool} {i : Nat} (h : okPs ops listed i = true) : ∃ oi, ops[i]? = some oi /\ i ∈ Region.ready .any ops listed /\ isPl oi.op = true /\
  ∀ j oj, ops[j]? = some oj -> j ≠ i -> listed.getD j true = false -> (behs i ops.toList []).getD j false = false -> oi.apart ops oj = true /\ (isB oj.op || isAl oj.op || isSt oj.op) = true := by
 unfold okPs at h
 cases hi : ops[i]? with
 | none => simp [hi] at h
 | some oi =>
  simp only [hi, Bool.and_eq_true] at h
  refine ⟨oi, rfl, by simpa using h.1, h.2.1, fun j oj hj hne hun hbe => ?_⟩
  have h3 := List.all_eq_true.1 h.2.2 j (List.mem_range.2 (Array.getElem?_eq_some_iff.1 hj).1)
  simp only [hj, Bool.or_eq_true, hun, hbe, Bool.false_eq_true, or_false, Bool.and_eq_true] at h3
  rcases h3 with h3 | ⟨h3, h4⟩
  ·exact absurd (Nat.eq_of_beq_eq_true h3) hne
  ·exact ⟨h3, by simpa using h4⟩
theorem zjZ {listed : Array Bool} {i : Nat} (h : okPl ops listed i = true) : ∃ oi, ops[i]? = some oi /\ i ∈ Region.ready .any ops listed /\ isPl oi.op = true /\
  ∀ j oj, ops[j]? = some oj -> j ≠ i -> listed.getD j true = false -> (behs i ops.toList []).getD j false = false -> oi.apart ops oj = true /\ ((isB oj.op || isAl oj.op) = true \/ (isAp oj.op = true /\ oj.guard = none)) := by
 unfold okPl at h
 cases hi : ops[i]? with
 | none => simp [hi] at h
 | some oi =>
  simp only [hi, Bool.and_eq_true] at h
  refine ⟨oi, rfl, by simpa using h.1, h.2.1, fun j oj hj hne hun hbe => ?_⟩
  have h3 := List.all_eq_true.1 h.2.2 j (List.mem_range.2 (Array.getElem?_eq_some_iff.1 hj).1)
  simp only [hj, Bool.or_eq_true, hun, hbe, Bool.false_eq_true, or_false, Bool.and_eq_true] at h3
  rcases h3 with h3 | ⟨h3, h4⟩
  ·exact absurd (Nat.eq_of_beq_eq_true h3) hne
  ·refine ⟨h3, ?_⟩
   rcases h4 with h4 | h4
   ·exact .inl (by simpa using h4)
   ·exact .inr ⟨h4.1.1, by simpa using h4.1.2⟩
theorem zhb {off : Nat} {v w : AV} (h : addOff off v = some w) : ∀ b ∈ w.refs, b ∈ v.refs := fun b hb => by
 unfold addOff at h
 cases v with
 | box i o => simp only [AV.asPtr, addOffP, Option.some.injEq] at h; subst h; exact hb
 | elt i k n c => simp only [AV.asPtr, addOffP, Option.some.injEq] at h; subst h; exact hb
 | roe m f =>
  simp only [AV.asPtr, addOffP] at h
  cases hh : Nat.ble off m <;> simp [hh] at h
  subst h; cases hb
 | d x =>
  cases x <;> simp only [AV.asPtr, addOffP] at h <;> first | (cases h; done) | skip
  rename_i m f
  cases hh : Nat.ble off m <;> simp [hh] at h
  subst h; cases hb
 | _ => simp [AV.asPtr, addOffP] at h
theorem iv_of {s : St} {o : Oper} {v : AV} (h : plainB s ops.toList o = true) (hr : isMv o.op = true \/ isFa o.op = true \/ v.refs = []) (hy : valD P T E s o.op fun u => u = v) : Iv P T E ops o s v := by
 unfold plainB at h
 simp only [Bool.and_eq_true, Bool.or_eq_true] at h
 obtain ⟨hg, h⟩ := h
 have hg : o.guard = none := by simpa using hg
 refine ⟨.inl ⟨by unfold gd; rw [hg], hy⟩, ?_⟩
 rcases h with hmv | h
 ·exact .inl ⟨hmv, hg⟩
 by_cases hmv : isMv o.op = true
 ·exact .inl ⟨hmv, hg⟩
 refine .inr ⟨hg, fun x hx b hb => ?_, fun b hb => ?_⟩
 ·have h2 := List.all_eq_true.1 h x (by simpa using hx)
  unfold plainV at h2
  cases hv : (ev s x).refs with
  | nil => rw [hv] at hb; cases hb
  | cons c r =>
   cases r with
   | cons d r => simp [hv] at h2
   | nil =>
    rw [hv] at hb
    obtain rfl : b = c := by simpa using hb
    simp only [hv, Bool.and_eq_true] at h2
    refine ⟨fun p hp e => ?_, ?_⟩
    ·have := List.all_eq_true.1 h2.1 p hp
     rw [e] at this
     simp [zaS] at this
    ·cases ho : s.ob b with
     | none => simp [ho] at h2
     | some o' =>
      cases o' with
      | row e k n f => simp [ho] at h2
      | mp ks => simp [ho] at h2
      | box cs =>
       simp only [ho] at h2
       exact ⟨cs, rfl, fun c hc => by have := List.all_eq_true.1 h2.2 c hc; simpa using this⟩
 ·rcases hr with hr | hfa | hr
  ·exact absurd hr hmv
  ·obtain ⟨dst, op, type, pos, after, guard⟩ := o
   cases op <;> first | (simp [isFa] at hfa; done) | skip
   rename_i st x fld _
   have hy : fieldAddrE T st fld (ev s x) fun u => u = v := hy
   refine ⟨x, by simp [Op.operands], ?_⟩
   unfold fieldAddrE at hy
   split at hy
   ·split at hy
    ·split at hy
     ·rename_i h1
      rename_i w _ _
      simp only [cond_eq_ite] at hy
      split at hy
      ·exact hy.elim
      ·subst hy; exact zhb ‹addOff _ _ = some _› b hb
     ·exact hy.elim
    ·exact hy.elim
   ·exact hy.elim
  ·rw [hr] at hb; cases hb
theorem zbd {ow : Bool} {Q : St -> Prop} : ∀ (l : List Nat) (listed : Array Bool) (s : St), Closed ops listed -> drawFrom ow ops l listed = true -> runD P T E ops.toList l s Q -> anyA ow P T E ops Q l.length listed s
 | [], listed, s, _, hB, h => ⟨by simpa [drawFrom] using hB, h⟩
 | k :: l, listed, s, hcl, hB, h => by
  unfold drawFrom at hB
  rw [zjC] at h
  cases hkk : Nat.ble 1000 k with
  | true =>
   simp only [hkk] at hB h
   cases hk2 : Nat.ble 2000 k with
   | true =>
    cases hk3 : Nat.ble 3000 k with
    | true =>
     cases hk4 : Nat.ble 4000 k with
     | true =>
      cases hk5 : Nat.ble 5000 k with
      | true =>
       cases hk6 : Nat.ble 6000 k with
       | true =>
        simp only [hk2, hk3, hk4, hk5, hk6, Bool.and_eq_true] at hB h
        obtain ⟨how, hok, hB'⟩ := hB
        unfold okW at hok
        cases h0 : ops[k - 6000]? with
        | none => simp [h0] at hok
        | some o =>
         simp only [h0, Bool.and_eq_true] at hok
         obtain ⟨⟨c1, c2⟩, c3⟩ := hok
         have hr : k - 6000 ∈ Region.ready .any ops listed := by simpa using c1
         have hn : nth ops.toList (k - 6000) = some o := by rw [zap]; simpa using h0
         simp only [hn] at h
         refine .inl ⟨fun hn => (by rw [hn] at hr; cases hr), fun j hj => ?_⟩
         have hjk := Nat.eq_of_beq_eq_true (List.all_eq_true.1 c2 j hj)
         rw [hjk]
         obtain ⟨fo, args, at', f, ex, d, h3, h4, h5, h6, h7⟩ := h
         refine .inr ⟨how, o, h0, by simpa using c3, ⟨fo, args, at', f, ex, d, h3, h4, h5, h6, ?_⟩⟩
         rw [zaG] at h7 ⊢
         obtain ⟨xs, e, m, n, g, g1, g2, g3, g4⟩ := h7
         exact ⟨xs, e, m, n, g, g1, g2, g3, zbd l _ _ (hcl.step hr) hB' (zaQ g4)⟩
       | false =>
       simp only [hk2, hk3, hk4, hk5, hk6, Bool.and_eq_true] at hB h
       obtain ⟨hok, hB'⟩ := hB
       unfold okY at hok
       cases h0 : ops[k - 5000]? with
       | none => simp [h0] at hok
       | some o =>
        simp only [h0, Bool.and_eq_true] at hok
        obtain ⟨⟨⟨c1, c2⟩, c3⟩, c4⟩ := hok
        have hr : k - 5000 ∈ Region.ready .any ops listed := by simpa using c1
        have hn : nth ops.toList (k - 5000) = some o := by rw [zap]; simpa using h0
        simp only [hn] at h
        obtain ⟨ids, h⟩ := h
        exact .inr ⟨_, o, hr, fun j hj => Nat.eq_of_beq_eq_true (List.all_eq_true.1 c2 j hj), c4, h0, by simpa using c3, ids, zeS P T E _ o _ _ (fun s' h' => zbd l _ s' (hcl.step hr) hB' (zaQ h')) (zdo h)⟩
      | false =>
      simp only [hk2, hk3, hk4, hk5, Bool.and_eq_true, Bool.not_eq_true'] at hB h
      obtain ⟨how, hok, hB'⟩ := hB
      subst how
      obtain ⟨o, h0, hr, hpl, hfree⟩ := zjY hok
      have hn : nth ops.toList (k - 4000) = some o := by rw [zap]; simpa using h0
      simp only [hn] at h
      obtain ⟨hnr, h⟩ := h
      have hb := znx hpl
      have h := zck h
      simp only [stD, hb] at h
      obtain ⟨v, h1, h2⟩ := (zbQ P T E s o.op _).1 h
      unfold noRefsB at hnr
      simp only [Bool.and_eq_true] at hnr
      have hng : o.guard = none := by simpa using hnr.1
      have href : ∀ x ∈ o.op.operands, (ev s x).refs = [] := fun x hx => by
       have := List.all_eq_true.1 hnr.2 x (by simpa using hx)
       simpa using this
      exact zg8 h0 hpl hb l.length listed s hcl hfree hr href (.inl ⟨by unfold gd; rw [hng], h1⟩) (zbd l _ _ (hcl.step hr) hB' h2)
     | false =>
     simp only [hk2, hk3, hk4, Bool.and_eq_true] at hB h
     obtain ⟨hok, hB'⟩ := hB
     unfold okY at hok
     cases h0 : ops[k - 3000]? with
     | none => simp [h0] at hok
     | some o =>
      simp only [h0, Bool.and_eq_true] at hok
      obtain ⟨⟨⟨c1, c2⟩, c3⟩, c4⟩ := hok
      have hr : k - 3000 ∈ Region.ready .any ops listed := by simpa using c1
      have hn : nth ops.toList (k - 3000) = some o := by rw [zap]; simpa using h0
      simp only [hn] at h
      exact .inr ⟨_, o, hr, fun j hj => Nat.eq_of_beq_eq_true (List.all_eq_true.1 c2 j hj), c4, h0, by simpa using c3, [], zeS P T E s o _ _ (fun s' h' => zbd l _ s' (hcl.step hr) hB' (zaQ h')) (zdo h)⟩
    | false =>
    simp only [hk2, hk3, Bool.and_eq_true, Bool.not_eq_true'] at hB h
    obtain ⟨how, hok, hB'⟩ := hB
    subst how
    obtain ⟨o, h0, hr, hg, hao, hfree⟩ := zj0 hok
    have hn : nth ops.toList (k - 2000) = some o := by rw [zap]; simpa using h0
    simp only [hn] at h
    obtain ⟨hnr, h⟩ := h
    have h := zck h
    obtain ⟨t, hop⟩ : ∃ t, o.op = .alloc t := by
     cases hq : o.op <;> rw [hq] at hao <;> first | (simp [isAo] at hao; done) | exact ⟨_, rfl⟩
    cases hd : o.dst with
    | none => simp [noRefB, hd] at hnr
    | some d =>
     simp only [stD, hop, isB, isAl, hd] at h
     cases hob : s.ob d with
     | some _ => simp [hob] at h
     | none =>
      simp only [hob, stE, hop, hd] at h
      cases ht : T t with
      | none => simp [ht] at h
      | some ti =>
       simp only [ht] at h
       cases hz : (ti.zero.all (·.oneCell')) with
       | false => simp [hz] at h
       | true =>
        simp only [hz, cond_true] at h
        exact zha h0 hop hg hd ht hz l.length listed s hcl hfree hr hob (zma hd hnr) (zbd l _ _ (hcl.step hr) hB' h)
   | false =>
   simp only [hk2, Bool.and_eq_true, Bool.not_eq_true'] at hB h
   obtain ⟨how, hok, hB'⟩ := hB
   subst how
   obtain ⟨o, h0, hr, hpl, hfree⟩ := zjZ hok
   have hn : nth ops.toList (k - 1000) = some o := by rw [zap]; simpa using h0
   simp only [hn] at h
   obtain ⟨hpb, h⟩ := h
   have hb := znx hpl
   have h := zck h
   simp only [stD, hb] at h
   obtain ⟨v, h1, h2, h3⟩ := (zbQ P T E s o.op _).1 h
   have hng : o.guard = none := by
    unfold plainB at hpb
    simp only [Bool.and_eq_true] at hpb
    simpa using hpb.1
   have hres : isMv o.op = true \/ isFa o.op = true \/ v.refs = [] := by
    unfold resB at h2
    rw [Bool.or_eq_true, Bool.or_eq_true] at h2
    rcases h2 with (h2 | h2) | h2
    ·exact .inl h2
    ·exact .inr (.inl h2)
    refine .inr (.inr ?_)
    cases hd : o.dst with
    | none => simp [hd] at h2
    | some d =>
     simp only [hd] at h2
     have : (s.putO (some d) v).sl d = v := zae _ _ _
     rw [this] at h2
     simpa using h2
   refine zg9 h0 hpl hb l.length listed s v hcl hfree hr (iv_of hpb hres h1) ?_
   exact zbd l _ _ (hcl.step hr) hB' h3
  | false =>
  simp only [hkk, Bool.and_eq_true] at hB h
  obtain ⟨hok, hB'⟩ := hB
  obtain ⟨o, h0, hr, hcls⟩ := ziq hok
  have hn : nth ops.toList k = some o := by rw [zap]; simpa using h0
  simp only [hn] at h
  have step : (gd s ops o = some true /\ stD P T E s o fun s' => splitAt ops.toList k o.dst s' fun s' => runD P T E ops.toList l s' Q) \/ (gd s ops o = some false /\ runD P T E ops.toList l (s.putO o.dst .undef) Q) := by
   unfold gd
   cases hg : o.guard with
   | none => simp only [hg] at h; exact .inl ⟨rfl, zck h⟩
   | some p =>
    obtain ⟨j, want⟩ := p
    simp only [hg] at h
    cases hv : gval s ops.toList j with
    | d q =>
     cases q with
     | bool b =>
      simp only [hv] at h
      cases hbw : (b == want) with
      | true => simp only [hbw] at h; exact .inl ⟨by simp [hv, hbw], zck h⟩
      | false => simp only [hbw] at h; exact .inr ⟨by simp [hv, hbw], h⟩
     | _ => simp [hv] at h
    | undef => simp only [hv] at h; exact .inr ⟨by simp [hv], h⟩
    | _ => simp [hv] at h
  have onw : ∀ s', runD P T E ops.toList l s' Q -> anyA ow P T E ops Q l.length (listed.setIfInBounds k true) s' := fun s' h' => zbd l _ s' (hcl.step hr) hB' h'
  rcases hcls with ⟨hb, hfree⟩ | honly
  ·rcases step with ⟨hg, hst⟩ | ⟨hg, hst⟩
   ·simp only [stD, hb] at hst
    obtain ⟨v, h1, h2⟩ := (zbQ P T E s o.op _).1 hst
    exact zeI h0 hb l.length listed s hcl hfree hr (.inl ⟨hg, h1⟩) (onw _ (zaQ h2))
   ·exact zeI h0 hb l.length listed s hcl hfree hr (.inr ⟨hg, rfl⟩) (onw _ hst)
  ·refine .inl ⟨fun hn => (by rw [hn] at hr; cases hr), fun j hj => ?_⟩
   have := honly j hj
   subst this
   refine .inl ?_
   unfold opG stG
   simp only [h0]
   rcases step with ⟨hg, hst⟩ | ⟨hg, hst⟩
   ·simp only [hg]
    exact zjk P T E s o _ _ (fun s' h' => onw s' (zaQ h')) hst
   ·simp only [hg]
    exact onw _ hst
variable (hT : ∀ t i, T t = some i -> TI.of P t = some i) (hE : ∀ t, E.eq t = true -> EqFact P t)
include hT hE
variable (hD : cx.dr = true -> E.dr = true)
include hD
theorem znR (h : RG cx γ s a w) {o : Oper} {K : AV -> Prop} (hd : ∀ d, o.dst = some d -> d < cx.N) (hl : valD P T E s o.op K) :
  OpOK P o a w fun a' w' => ∃ v, R cx (s.putO o.dst v) a' w' /\ K v := by
 obtain ⟨dst, op, type, pos, after, guard⟩ := o
 cases op with
 | buildSlice t len parts =>
  have hl' : buildSliceE T s t len parts.toList (fun _ ei f => K (.d (.slc ei.size len f))) := hl
  obtain ⟨e, ei, f, xs, hK, h1, h2, h3, h4, h5, h6⟩ := zca hT h hl'
  have hg := h.grow (zaF w (.cells xs.toArray e)) (fun _ => Nat.le_refl _)
  have hrep : Rep (w.alloc (.cells xs.toArray e)) (okOf cx s γ (w.alloc (.cells xs.toArray e))) (.slc ei.size len f) (.slice (some ⟨w.heap.size, 0, none⟩) len len) := by
   refine .inr ⟨⟨w.heap.size, 0, none⟩, len, rfl, Nat.le_refl _, by simp only [maxLen]; omega, fun i hi j hj => ?_⟩
   obtain ⟨u, hu, hr⟩ := h6 i hi j hj
   refine ⟨.inr ⟨.inl h.below.size, by simp, fun p o ho e' => ?_⟩, u, ?_, Rep.keep (fun b hb => ⟨?_, (zaF w _).block b (zal h hb)⟩) hr⟩
   ·have := (zar h ho e').2
    exact absurd this (by simp)
   ·rw [zav, Nat.zero_add]
    have := heap_alloc_new w (.cells xs.toArray e)
    simp only [World.cell?, this]; simpa using hu
   ·exact ze5 h (zaF w _) b (.inl hb)
  refine .value (x := .slice (some ⟨w.heap.size, 0, none⟩) len len) (w' := w.alloc (.cells xs.toArray e)) (by simp [execOp, h1]) ⟨.d (.slc ei.size len f), ⟨γ, hg.putO (v := .d (.slc ei.size len f)) hd hrep (fun j hj => by simp [AV.refs] at hj)⟩, hK⟩
 | _ => exact (znr hT hE hD h hd hl).mono fun a' w' ⟨v, h1, h2⟩ => ⟨v, ⟨γ, h1⟩, h2⟩
theorem zpO (h0 : R cx s a w) {o : Oper} (hd : ∀ d, o.dst = some d -> d < cx.N) {K : St -> Prop} (hl : stD P T E s o K) : OpOK P o a w fun a' w' => ∃ s', R cx s' a' w' /\ K s' := by
 unfold stD at hl
 cases hb : isB o.op with
 | true =>
  simp only [hb] at hl
  obtain ⟨γ, h⟩ := h0
  exact (znR hT hE hD h hd hl).mono fun a' w' ⟨v, h1, h2⟩ => ⟨_, h1, h2⟩
 | false =>
  simp only [hb] at hl
  split at hl
  ·split at hl
   ·exact zgk hT hE hD h0 hd (fun fo args at' hop => by simp [hop, isB] at *) hl
   ·exact hl.elim
  ·exact zgk hT hE hD h0 hd (fun fo args at' hop => by simp [hop, isB] at *) hl
theorem zqd (hF : FW F) (hN : dstsOK cx.N ops.toList = true) {Q : Exit -> Act -> World -> Prop} {i : Nat} {K : St -> Prop} (h : R cx s a w) (hl : opG P T E ops i K s) :
  wpOpIn F n P ops Q i (fun a' w' => ∃ s', R cx s' a' w' /\ K s') a w := by
 unfold wpOpIn
 unfold opG at hl
 cases hi : ops[i]? with
 | none => simp only [hi] at hl ⊢; exact ⟨s, h, hl⟩
 | some o =>
  simp only [hi] at hl ⊢
  have hd := zbZ hN (o := o) (by simpa using Array.mem_of_getElem? hi)
  unfold stG at hl
  have go : stD P T E s o K -> o.wpIn F n P a w (fun a' w' => ∃ s', R cx s' a' w' /\ K s') Q := fun hl => OpOK.wpIn hF (zpO hT hE hD h hd hl)
  have no : K (s.putO o.dst .undef) -> (∀ f, o.about P w a.eval = some f -> F.fn f) /\ ∃ s', R cx s' (a.put o.dst Go.undef) w /\ K s' := fun hl => ⟨fun f _ => hF.fn f, _, zfH h hd, hl⟩
  unfold gd at hl
  cases hg : o.guard with
  | none =>
   have : Region.wanted o (yielded ops a.tmps) = true := by simp [Region.wanted, hg]
   simp only [this, if_true]
   simp only [hg] at hl
   exact go hl
  | some p =>
   obtain ⟨j, want⟩ := p
   simp only [hg] at hl
   cases hv : gval s ops.toList j with
   | d q =>
    cases q with
    | bool b =>
     have hy := zea (Fm := (· = cx)) ⟨_, rfl, h⟩ hv
     cases hbw : (b == want) with
     | true =>
      have hw : Region.wanted o (yielded ops a.tmps) = true := by
       have : b = want := by simpa using hbw
       simp [Region.wanted, hg, hy, this]
      simp only [hw, if_true]
      simp only [hv, hbw] at hl
      exact go hl
     | false =>
      have hw : Region.wanted o (yielded ops a.tmps) = false := by
       have : b ≠ want := by simpa using hbw
       simp [Region.wanted, hg, hy, this]
      simp only [hw, Bool.false_eq_true, if_false]
      simp only [hv, hbw] at hl
      exact no hl
    | _ => simp [hv] at hl
   | undef =>
    simp only [hv] at hl
    have hy := zdi (Fm := (· = cx)) ⟨_, rfl, h⟩ hv
    have hw : Region.wanted o (yielded ops a.tmps) = false := by simp [Region.wanted, hg, hy]
    simp only [hw, Bool.false_eq_true, if_false]
    exact no hl
   | _ => simp [hv] at hl
variable {Fm : Cx -> Prop} {N : Nat} (hNf : ∀ cx, Fm cx -> cx.N = N) (hDf : ∀ cx, Fm cx -> cx.dr = true -> E.dr = true) (hY : YLaw Fm P E)
omit hD in
include hNf hDf hY in
theorem zfm {ow : Bool} (hF : FW F) (hN : dstsOK N ops.toList = true) {Q : Exit -> Act -> World -> Prop} {K : St -> Prop} (hQ : ∀ s a w, RF Fm s a w -> K s -> Q .normal a w) :
  ∀ (fuel : Nat) (listed : Array Bool) {s : St} {a : Act} {w : World}, RF Fm s a w -> anyA ow P T E ops K fuel listed s -> wpAnyIn F n P .any ops Q fuel listed a w
 | 0, _, _, _, _, h, hl => ⟨hl.1, hQ _ _ _ h hl.2⟩
 | fuel + 1, listed, _, _, _, h, hl => by
  rcases hl with hl | ⟨y, o, h1, h2, h3, h4, h5, ids, h6⟩
  ·refine ⟨fun h0 => hQ _ _ _ h (hl.1 h0), fun i hi => ?_⟩
   obtain ⟨cx, hcx, h⟩ := h
   rcases hl.2 i hi with hop | ⟨-, o, h4, h5, hop⟩
   ·exact wpOpIn_mono (fun a' w' ⟨s', h1, h2⟩ => zfm hF hN hQ fuel _ ⟨cx, hcx, h1⟩ h2) (zqd hT hE (hDf cx hcx) hF (by rw [hNf cx hcx]; exact hN) h hop)
   ·unfold wpOpIn
    have hw : ∀ ys, Region.wanted o ys = true := fun ys => by simp [Region.wanted, h5]
    simp only [h4, hw, if_true]
    have hd := zbZ hN (o := o) (by simpa using Array.mem_of_getElem? h4)
    obtain ⟨fo, args, at', f, ex, d, q3, q4, q5, q6, q7⟩ := hop
    obtain ⟨γ, hg⟩ := h
    obtain ⟨caps, hf, hc⟩ := zaZ q6 (ev_m hg fo).1
    have ho := zhD hg q4 (hDf cx hcx) ((zcA hg args.toList).append hc) (by rw [hNf cx hcx]; exact hd d q4) q7
    refine OpOK.wpIn hF (.enter (zaW q3 hf ho.1) (ho.2.mono fun e w' ⟨v, e1, ob, e2, e3⟩ => ⟨v, e1, zfm hF hN hQ fuel _ ⟨cx, hcx, e2⟩ e3⟩))
  ·refine ⟨fun h0 => (by rw [h0] at h1; cases h1), fun i hi => ?_⟩
   have := h2 i hi
   subst this
   unfold wpOpIn
   have hw : ∀ ys, Region.wanted o ys = true := fun ys => by simp [Region.wanted, h5]
   simp only [h4, hw, if_true]
   have hd := zbZ hN (o := o) (by simpa using Array.mem_of_getElem? h4)
   have h : RF Fm _ _ _ := (by obtain ⟨cx, hcx, h⟩ := h; exact ⟨cx, hcx, R.freezes ids h⟩)
   exact OpOK.wpIn hF ((znh hT hE hNf hDf hY h hd h6).mono fun a' w' ⟨s', h1, h2⟩ => zfm hF hN hQ fuel _ h1 h2)
omit hD in
include hNf hDf hY in
theorem zo3 (hF : FW F) (hm : P.follows .mixedOrders = true) {id : Nat} (hN : dstsOK N ops.toList = true) {Q : Exit -> Act -> World -> Prop} {K : St -> Prop} (hQ : ∀ s a w, RF Fm s a w -> K s -> Q .normal a w) (h : RF Fm s a w)
  {ord : List Nat} (hB : drawB ops ord = true) (hl : runD P T E ops.toList ord s K) : (Code.region id ops true).wpIn F n P Q a w := by
 obtain ⟨cx, hcx, γ, h⟩ := h
 simp only [drawB, Bool.and_eq_true] at hB
 refine wpIn_region_any hm (zfm (ow := ord.any (Nat.ble 6000)) hT hE hNf hDf hY hF hN hQ ops.size (Array.replicate ops.size false) (s := s) ⟨cx, hcx, γ, h.drew⟩ ?_)
 have := zbd (ow := ord.any (Nat.ble 6000)) (P := P) (T := T) (E := E) (Q := K) (ops := ops) ord (Array.replicate ops.size false) s (Closed.start ops) hB.2 hl
 rwa [Nat.eq_of_beq_eq_true hB.1] at this
end
theorem zaP {P : Program} {b : Frame} {a : Act} {k : List Item} {cs : List Frame} {w : World} {c : Code} : step P (lone (b.atR a (.code (.scope c) :: k)) cs w) = .next (lone (b.atR a (.code c :: .inScope c :: k)) cs w) :=
 step_lone_go (by simp [stepG, stepG.exec, Frame.atR])
theorem zeR {P : Program} {b : Frame} {a : Act} {k : List Item} {cs : List Frame} {w : World} {c : Code} : step P (lone (b.atR a (.inScope c :: k)) cs w) = .next (lone (b.atR a k) cs w) :=
 step_lone_go (by simp [stepG, stepG.exec, Frame.atR])
theorem zic {F : Fence} {n : Nat} {P : Program} {c : Code} {Q : Exit -> Act -> World -> Prop} {a : Act} {w : World} (h : c.wpIn F n P (fun e a w => match e with | .goto _ => False | e => Q e a w) a w) : (Code.scope c).wpIn F n P Q a w := by
 intro b k cs hro hb hr
 have h0 : (lone (b.atR a (.code (.scope c) :: k)) cs w).fenced P F := fenced_calm hb hr rfl
 obtain ⟨e, a₁, w₁, hq, harr⟩ := h b (.inScope c :: k) cs hro hb hr
 cases e with
 | normal => exact ⟨.normal, a₁, w₁, hq, .head h0 zaP (StepsIn.trans harr (.one (fenced_calm hb hr rfl) zeR))⟩
 | exit id =>
  have hx : exitTo id (.inScope c :: k) = exitTo id k := by simp [exitTo]
  exact ⟨_, a₁, w₁, hq, fun k' hk => .head h0 zaP (harr.1 k' (by rw [hx]; exact hk)),
   fun hr' hk => let ⟨k₁, h1, h2⟩ := harr.2 hr' (by rw [hx]; exact hk); ⟨k₁, h1, .head h0 zaP h2⟩⟩
 | goto l => exact hq.elim
 | ret => exact ⟨_, a₁, w₁, hq, .of_steps (.one h0 zaP) harr⟩
 | panic ch => exact ⟨_, a₁, w₁, hq, .of_steps (.one h0 zaP) harr⟩
 | outgrown => exact ⟨_, a₁, w₁, hq, .of_steps (.one h0 zaP) harr⟩
section
variable {P : Program} {T : TT} {E : Env} {cx : Cx} {F : Fence} {n : Nat}
variable (hT : ∀ t i, T t = some i -> TI.of P t = some i) (hE : ∀ t, E.eq t = true -> EqFact P t)
include hT hE
variable {Fm : Cx -> Prop} {N : Nat} (hNf : ∀ cx, Fm cx -> cx.N = N) (hD : ∀ cx, Fm cx -> cx.dr = true -> E.dr = true) (hY : YLaw Fm P E) (hFw : FW F) (hIt : ∀ cx, Fm cx -> cx.nod = true -> E.it = true)
include hNf hD hY hFw hIt
theorem zbc (hF : ∀ cx, Fm cx -> FWc cx F) (hm : P.follows .mixedOrders = true) : ∀ (c : Code), codeN N c = true -> ∀ {K : KK} {Q : Exit -> Act -> World -> Prop} {s : St} {a : Act} {w : World},
  (∀ e s a w, RF Fm s a w -> K e s -> Q e a w) -> RF Fm s a w -> awp P T E c s K -> c.wpIn F n P Q a w
 | .skip, _, _, _, _, _, _, hQ, h, hl => wpIn_skip (hQ _ _ _ _ h hl)
 | .region id ops draw, hN, K, Q, s, a, w, hQ, h, hl => by
  have main : ∀ {s : St}, RF Fm s a w -> (match (generalizing := false) draw with
    | false => runOps P T E ops.toList 0 ops.toList s (K .normal)
    | true => ∃ ord, drawB ops ord = true /\ FzOb s fun s => runD P T E ops.toList ord s (K .normal)) -> (Code.region id ops draw).wpIn F n P Q a w := fun {s} h hl => by
   cases draw with
   | false => exact zjI hT hE hNf hD hY hFw hN (hQ .normal) h hl
   | true => obtain ⟨ord, h1, ⟨ids, h2⟩⟩ := hl; obtain ⟨cx, hcx, h⟩ := h; exact zo3 hT hE hNf hD hY (hF cx hcx).fw hm hN (hQ .normal) ⟨cx, hcx, R.freezes ids h⟩ h1 h2
  rw [ziM] at hl
  cases hc : E.cut id with
  | false => simp only [hc] at hl; exact main h hl
  | true =>
   simp only [hc] at hl
   obtain ⟨sl, ob, hw, hk⟩ := hl.out
   obtain ⟨cx, hcx, h⟩ := h
   exact main ⟨cx, hcx, h.weak hw⟩ hk
 | .seq x y, hN, K, Q, s, a, w, hQ, h, hl => by
  simp only [codeN, Bool.and_eq_true] at hN
  refine wpIn_seq (zbc hF hm x hN.1 (K := fun e s' => match e with | .normal => awp P T E y s' K | e => K e s') (fun e s a w hR hk => ?_) h hl)
  cases e with
  | normal => exact zbc hF hm y hN.2 hQ hR hk
  | _ => exact hQ _ _ _ _ hR hk
 | .cond c x y, hN, K, Q, s, a, w, hQ, h, hl => by
  simp only [codeN, Bool.and_eq_true] at hN
  simp only [zm6] at hl
  cases hv : ev s c with
  | d q =>
   cases q with
   | bool b =>
    simp only [hv] at hl
    have hs := Split.out hl
    obtain ⟨cx, hcx, γ, hg⟩ := h
    have hm' := (ev_m hg c).1
    rw [hv] at hm'
    have he : a.eval c = .bool b := hm'
    refine wpIn_cond he ?_
    cases b with
    | true => exact zbc hF hm x hN.1 hQ ⟨cx, hcx, γ, hg⟩ hs
    | false => exact zbc hF hm y hN.2 hQ ⟨cx, hcx, γ, hg⟩ hs
   | _ => simp [hv] at hl
  | _ => simp [hv] at hl
 | .block id c, hN, K, Q, s, a, w, hQ, h, hl => by
  refine wpIn_block (zbc hF hm c hN (K := fun e s' => match e with
   | .exit j => match Nat.beq j id with
    | true => K .normal s'
    | false => K (.exit j) s'
   | e => K e s') (fun e s a w hR hk => ?_) h hl)
  cases e with
  | exit j =>
   simp only at hk
   cases hb : Nat.beq j id with
   | true =>
    have := Nat.eq_of_beq_eq_true hb
    subst this
    simp only [hb] at hk
    simp only [Exit.inBlock, if_true]
    exact hQ _ _ _ _ hR hk
   | false =>
    have : j ≠ id := Nat.ne_of_beq_eq_false hb
    simp only [hb] at hk
    simp only [Exit.inBlock, this, if_false]
    exact hQ _ _ _ _ hR hk
  | _ => exact hQ _ _ _ _ hR hk
 | .loop c, hN, K, Q, s, a, w, hQ, h, hl => by
  have hl' : LoopOb (fun s K => awp P T E c s K) s K := hl
  simp only [zeK] at hl'
  obtain ⟨σ, S, Inv, μ, x0, hw, hi, hr⟩ := hl'
  refine wpIn_loop_ghost (fun m a w => ∃ x, Inv x /\ μ x = m /\ RF Fm (St.of (S x).1 (S x).2) a w) (μ x0) ⟨x0, hi, rfl, by obtain ⟨cx, hcx, h⟩ := h; exact ⟨cx, hcx, h.weak hw⟩⟩ fun m a w ⟨x, hx, hm', hR⟩ => ?_
  refine zbc hF hm c hN (K := fun e s' => match e with
   | .normal => ∃ x', Weak s' (S x').1 (S x').2 /\ Inv x' /\ μ x' < μ x
   | e => K e s') (fun e s a w hR hk => ?_) hR (hr x hx)
  cases e with
  | normal =>
   obtain ⟨x', h1, h2, h3⟩ := hk
   exact ⟨μ x', hm' ▸ h3, x', h2, rfl, by obtain ⟨cx, hcx, hR⟩ := hR; exact ⟨cx, hcx, hR.weak h1⟩⟩
  | _ => exact hQ _ _ _ _ hR hk
 | .exit id, _, _, _, _, _, _, hQ, h, hl => wpIn_exit (hQ _ _ _ _ h hl)
 | .ret, _, _, _, _, _, _, hQ, h, hl => wpIn_ret (hQ _ _ _ _ h hl)
 | .label l, _, _, _, _, _, _, hQ, h, hl => wpIn_label (hQ _ _ _ _ h hl)
 | .rangeFunc f ps as body, hN, K, Q, s, a, w, hQ, h, hl => by
  have hl' : CodeOb E.dr E.it P (.rangeFunc f ps as body) s K := hl
  simp only [zb9] at hl'
  obtain ⟨cx, hcx, h⟩ := h
  exact wpIn_mono (hl' cx F n a w (hD cx hcx) (hIt cx hcx) (hF cx hcx) (by rw [hNf cx hcx]; exact hN) h) fun e a w ⟨s', h1, h2⟩ => hQ _ _ _ _ ⟨cx, hcx, h1⟩ h2
 | .scope c, hN, K, Q, s, a, w, hQ, h, hl => by
  refine zic (zbc hF hm c hN (K := fun e s' => match e with
   | .goto _ => False
   | e => K e s') (fun e s a w hR hk => ?_) h hl)
  cases e with
  | goto l => exact hk.elim
  | _ => exact hQ _ _ _ _ hR hk
 | .goto l, hN, K, Q, s, a, w, hQ, h, hl => by
  have hl' : CodeOb E.dr E.it P (.goto l) s K := hl
  simp only [zb9] at hl'
  obtain ⟨cx, hcx, h⟩ := h
  exact wpIn_mono (hl' cx F n a w (hD cx hcx) (hIt cx hcx) (hF cx hcx) (by rw [hNf cx hcx]; exact hN) h) fun e a w ⟨s', h1, h2⟩ => hQ _ _ _ _ ⟨cx, hcx, h1⟩ h2
 | .refuse _, _, _, _, _, _, _, _, _, hl => hl.elim
end
def okEnd (cx : Cx) (w : World) (b : Nat) : Prop := cx.okA b \/ (cx.O b /\ b < w.heap.size)
def cx0 (d : Bool) (w : World) (ok : Nat -> Prop) (N : Nat) : Cx := ⟨w, ok, N, fun _ => False, fun _ _ => False, 0, d, none, false⟩
theorem bel0 {d : Bool} {w w' : World} {ok : Nat -> Prop} {N : Nat} (h : Bel (cx0 d w ok N) w') : Below w.heap.size w w' := ⟨h.os, h.tape, h.output, h.size, fun k hk => h.block k hk id⟩
theorem zqh {d : Bool} {w w' : World} {ok : Nat -> Prop} {N b : Nat} (h : okEnd (cx0 d w ok N) w' b) : ok b \/ (w.heap.size <= b /\ b < w'.heap.size) := h.imp id fun ⟨h1, h2⟩ => ⟨h1.elim id False.elim, h2⟩
theorem RG.defs {cx : Cx} {γ : Nat -> Value} {s : St} {a : Act} {w : World} (h : RG cx γ s a w) {ds : List Deferred} (hd : Marks cx w ds) : RG cx γ s { a with defers := ds } w :=
 ⟨hd, h.size, h.okA, h.lent, h.below, h.hold, h.least, h.objs, h.refs, h.sep, h.slots, h.srefs, h.gho, h.ng⟩
theorem zfO : ∀ {l m : List Nat}, l.map mark = m.map mark -> l = m
 | [], [], _ => rfl
 | x :: l, y :: m, h => by
  simp only [List.map_cons, List.cons.injEq] at h
  have : x = y := by have := h.1; simp only [mark, Deferred.mk.injEq, Target.collected.injEq, and_true] at this; exact this
  rw [this, zfO h.2]
 | [], _ :: _, h => by simp at h
 | _ :: _, [], h => by simp at h
theorem R.take {cx : Cx} {s : St} {a : Act} {w : World} (hh : ∀ k o, ¬ cx.hold k o) {D : Nat} {ms : List Nat} (h : R cx s { a with defers := mark D :: ms.map mark } w) :
  w.heap[D]? = some (.deferred (some [])) /\ R cx s { a with defers := ms.map mark } (w.putObj D (.deferred none)) := by
 obtain ⟨γ, h⟩ := h
 obtain ⟨h0, ms', h1, h2, h3⟩ := h.defers
 have h1' : (D :: ms).map mark = ms'.map mark := h1
 obtain rfl := zfO h1'
 have hD := h3 D (by simp)
 refine ⟨hD.2, γ, ?_⟩
 have h4 : RG cx γ s { a with defers := ms.map mark } w := RG.defs (a := { a with defers := mark D :: ms.map mark }) h ⟨(fun e => by cases h0 e), ms, rfl, (List.nodup_cons.1 h2).2, fun E hE => h3 E (by simp [hE])⟩
 refine h4.other (grownBy_putObj' w D _) (fun _ => Nat.le_refl _) hD.2 rfl (.inl fun _ _ e => by cases e) (fun hm => ?_) (fun p => hh D p) hD.1
 obtain ⟨E, hE, he⟩ := List.mem_map.1 hm
 have : E = D := by simp only [mark, Deferred.mk.injEq, Target.collected.injEq, and_true] at he; exact he
 subst this
 exact (List.nodup_cons.1 h2).1 hE
theorem zfQ {cx : Cx} {s : St} {a : Act} {P : Program} {fn : Func} {F : Fence} {n : Nat} {Rp : Ending -> World -> Prop} (hh : ∀ k o, ¬ cx.hold k o)
  (hQ : ∀ w', R cx s { a with defers := [] } w' -> ∃ v, (results fn a.tmps).run P w' = .ok v w' /\ Rp (.returned v) w') : ∀ (ms : List Nat) (w : World), R cx s { a with defers := ms.map mark } w -> LeavesInM F n P fn a.tmps Rp (ms.map mark) .returning w
 | [], w, h => hQ w h
 | D :: ms, w, h => by
  obtain ⟨h1, h2⟩ := R.take hh h
  exact ⟨by simp, .inl ⟨D, _, rfl, run_takeDeferred h1, zfQ hh hQ ms _ h2⟩⟩
theorem zhM {cx : Cx} {s : St} {a : Act} {w : World} {P : Program} {fn : Func} {F : Fence} {n : Nat} {Rp : Ending -> World -> Prop} (hh : ∀ k o, ¬ cx.hold k o) (h : R cx s a w)
  (hQ : ∀ w', R cx s { a with defers := [] } w' -> ∃ v, (results fn a.tmps).run P w' = .ok v w' /\ Rp (.returned v) w') : LeavesInM F n P fn a.tmps Rp a.defers .returning w := by
 obtain ⟨γ, h'⟩ := id h
 obtain ⟨_, ms, h1, _⟩ := h'.defers
 rw [h1]
 refine zfQ hh hQ ms w ?_
 rw [<- h1]; exact h
theorem ze6 {cx : Cx} {s : St} {γ : Nat -> Value} {w : World} {b : Nat} (h : okOf cx s γ w b) : okEnd cx w b := h.imp id fun h => ⟨h.1, h.2.1⟩
theorem zba (x : V1) : (avOf x).refs = [] := by
 cases x with
 | d y => cases y <;> rfl
 | agg xs => rfl
theorem zdC {w : World} {ok : Nat -> Prop} {γ : Nat -> Value} {x : V1} {v : Value} : M w ok γ (avOf x) v ↔ Rep1 w ok x v := by
 cases x with
 | d y => cases y <;> exact Iff.rfl
 | agg xs => exact Iff.rfl
theorem zbj {w : World} {ok ok' : Nat -> Prop} {x : V1} {v : Value} (hk : ∀ b, ok b -> ok' b) (h : Rep1 w ok x v) : Rep1 w ok' x v := by
 cases x with
 | d x => exact Rep.keep (fun b hb => ⟨hk b hb, rfl⟩) h
 | agg xs => obtain ⟨vs, h1, h2⟩ := h; exact ⟨vs, h1, h2.imp fun _ _ _ => Rep.keep fun b hb => ⟨hk b hb, rfl⟩⟩
def avRes : V1 -> AV
 | .d x => .d x
 | .agg xs => .agg xs
theorem ziO (x : V1) : (avRes x).refs = [] := by cases x <;> rfl
theorem zoI {w : World} {ok : Nat -> Prop} {γ : Nat -> Value} {x : V1} {v : Value} : M w ok γ (avRes x) v ↔ Rep1 w ok x v := by cases x <;> exact Iff.rfl
theorem zg5 {s : St} {v : AV} {x : V1} (h : RetAV s v x) : AVle s (fun _ => none) v (avRes x) := by
 cases x with
 | agg ys => cases v <;> first | exact h | exact h.elim
 | d y => cases v <;> cases y <;> first | exact h | exact h.elim | exact ⟨rfl, h⟩
theorem zoj {cx : Cx} {s : St} {a : Act} {w : World} (h : R cx s a w) {t : Nat} {x : V1} (hr : RetAV s (s.sl t) x) : Rep1 w (okEnd cx w) x (a.tmps.getD t undef) := by
 obtain ⟨γ, h⟩ := h
 obtain ⟨γ', h'⟩ := h.weak (s' := ⟨upd (fun _ => .any) t (avRes x), fun _ => none⟩) (fun u => by
   show AVle s _ (s.sl u) (upd (fun _ => AV.any) t (avRes x) u)
   rw [zaC]
   by_cases hu : u = t
   ·subst hu; rw [if_pos rfl]; exact zg5 hr
   ·rw [if_neg hu]; cases s.sl u <;> exact trivial) (fun i o h => by cases h) (fun u j hj => by
   rw [show (St.sl ⟨upd (fun _ => AV.any) t (avRes x), fun _ => none⟩ u) = upd (fun _ => AV.any) t (avRes x) u from rfl, zaC] at hj
   by_cases hu : u = t
   ·rw [if_pos hu, ziO] at hj; cases hj
   ·rw [if_neg hu] at hj; cases hj) (fun i cs h => by cases h)
 have := h'.slots t
 rw [show (St.sl ⟨upd (fun _ => AV.any) t (avRes x), fun _ => none⟩ t) = upd (fun _ => AV.any) t (avRes x) t from rfl, zaC, if_pos rfl] at this
 exact zbj (fun _ => ze6) (zoI.1 this)
theorem zlL {cx : Cx} {s : St} {a : Act} {w : World} {P : Program} {T : TT} (hT : ∀ t i, T t = some i -> TI.of P t = some i) (h : R cx s a w) {t u : Nat} {x : V1} (hr : RetCell T s t (s.sl u) x) :
  ∃ v, (do loadVar t (← asAddr (a.tmps.getD u undef))).run P w = .ok v w /\ Rep1 w (okEnd cx w) x v := by
 obtain ⟨γ, h⟩ := h
 unfold RetCell at hr
 cases hv : s.sl u with
 | box i off =>
  cases off with
  | succ n => simp [hv] at hr
  | zero =>
  cases ht : T t with
  | none => simp [hv, ht] at hr
  | some ti =>
   cases ho : s.ob i with
   | none => simp [hv, ht, ho] at hr
   | some o =>
    cases o with
    | row e k n f => simp [hv, ht, ho] at hr
    | mp ks => simp [hv, ht, ho] at hr
    | box cs =>
     simp only [hv, ht, ho] at hr
     obtain ⟨h1, h2, h3⟩ := hr
     have h1 := Nat.eq_of_beq_eq_true h1
     have hm := h.slots u
     rw [hv] at hm
     have hld : ∀ K, loadE s ti (.box i 0) K -> Yd P cx γ s w (Instr.loadAt t (a.tmps.getD u undef)) K := fun K hk => zdD h (hT t ti ht) hm hk
     have key : ∀ (y : AV), loadE s ti (.box i 0) (fun z => z = y) -> (∀ v, M w (okOf cx s γ w) γ y v -> Rep1 w (okEnd cx w) x v) -> ∃ v, (do loadVar t (← asAddr (a.tmps.getD u undef))).run P w = .ok v w /\ Rep1 w (okEnd cx w) x v := fun y hk hrep => by
      obtain ⟨z, v, g1, g2, _, rfl⟩ := hld _ hk
      obtain ⟨b, hb, hx⟩ := id hm
      refine ⟨v, ?_, hrep v g2⟩
      rw [hx] at g1 ⊢
      have g3 : (loadVar t ⟨b, 0, none⟩).run P w = .ok v w := by simpa [Instr.loadAt, Instr.sureAddr] using g1
      simpa [asAddr] using g3
     cases ha : ti.agg with
     | true =>
      cases x with
      | d y => simp [ha] at h2
      | agg ys =>
       have h3' : match allD cs with | some xs => eqvs xs ys | none => False := by
        rcases cs with _ | ⟨c, _ | ⟨c', r⟩⟩ <;> first | exact h3 | (cases c <;> exact h3)
       cases hal : allD cs with
       | none => simp [hal] at h3'
       | some xs =>
        simp only [hal] at h3'
        have hlen : xs.length = ti.size := by rw [zib hal, h1]
        refine key (.agg xs) ?_ fun v ⟨vs, e1, e2⟩ => ⟨vs, e1, zbK h3' (e2.imp fun _ _ _ => Rep.keep fun b hb => ⟨ze6 hb, rfl⟩)⟩
        simp only [loadE, AV.asPtr, loadP, ho, ha, List.drop_zero]
        rw [<- h1, List.take_length]
        simp only [hal]
        rw [hlen, <- h1]; simp
     | false =>
      cases x with
      | agg ys => simp [ha] at h2
      | d y =>
       match cs, h3 with
       | [.d q], h3 =>
        refine key (.d q) ?_ fun v hr => (Rep.keep (fun b hb => ⟨ze6 hb, rfl⟩) hr).eqv h3
        simp [loadE, AV.asPtr, loadP, ho, ha, nth]
 | _ => simp [hv] at hr
theorem zgy {cx : Cx} {s : St} {a : Act} {w : World} {P : Program} {T : TT} (hT : ∀ t i, T t = some i -> TI.of P t = some i) (h : R cx s a w) : ∀ {rs : List ResultVar} {res : List V1}, RetAll T s rs res ->
  ∃ vs : List Value, (rs.mapM (m := Sem) fun | .tmp t => pure (a.tmps.getD t undef) | .cell x t => do loadVar t (← asAddr (a.tmps.getD x undef))).run P w = .ok vs w /\ All2 (Rep1 w (okEnd cx w)) res vs
 | [], [], _ => ⟨[], by simp, .nil⟩
 | .tmp t :: r, x :: xs, hr => by
  obtain ⟨vs, h1, h2⟩ := zgy (P := P) hT h hr.2
  refine ⟨a.tmps.getD t undef :: vs, ?_, .cons (zoj h hr.1) h2⟩
  rw [List.mapM_cons]
  simp only [pure_bind, Sem.run_bind, h1, Result.andThen_ok, Sem.run_pure]
 | .cell u t :: r, x :: xs, hr => by
  obtain ⟨vs, h1, h2⟩ := zgy (P := P) hT h hr.2
  obtain ⟨v, h3, h4⟩ := zlL (P := P) hT h hr.1
  refine ⟨v :: vs, ?_, .cons h4 h2⟩
  rw [List.mapM_cons]
  simp only [Sem.run_bind] at h3 ⊢
  rw [h3]
  simp only [h1, Result.andThen_ok, Sem.run_pure]
 | .tmp _ :: _, [], hr => by simp [RetAll] at hr
 | .cell .. :: _, [], hr => by simp [RetAll] at hr
 | [], _ :: _, hr => by simp [RetAll] at hr
def packR : List Value -> Value
 | [x] => x
 | l => .tuple l.toArray
theorem za5 {P : Program} {fn : Func} {a : Act} {w : World} {vs : List Value}
  (h : (fn.results.toList.mapM (m := Sem) fun | .tmp t => pure (a.tmps.getD t undef) | .cell x t => do loadVar t (← asAddr (a.tmps.getD x undef))).run P w = .ok vs w) :
  (results fn a.tmps).run P w = .ok (packR vs) w := by
 unfold results
 rw [Array.mapM_eq_mapM_toList]
 simp only [Sem.run_bind, map_eq_pure_bind, Sem.run_pure]
 refine (congrArg (fun r => (Result.andThen r _).andThen _) h).trans ?_
 rcases vs with _ | ⟨x, _ | ⟨y, r⟩⟩ <;> simp [packR]
theorem zei {cx : Cx} {s : St} {a : Act} {w : World} {P : Program} {T : TT} (hT : ∀ t i, T t = some i -> TI.of P t = some i) {fn : Func} {res : List V1} (h : R cx s a w) (hr : RetAll T s fn.results.toList res) :
  ∃ v, (results fn a.tmps).run P w = .ok v w /\ ResRep w (okEnd cx w) res v := by
 obtain ⟨vs, h1, h2⟩ := zgy (P := P) hT h hr
 refine ⟨_, za5 h1, ?_⟩
 match res, vs, h2 with
 | [], [], _ => exact ⟨[], rfl, .nil⟩
 | [x], [v], .cons h _ => exact h
 | x :: y :: r, v :: u :: q, h2 => exact ⟨_, rfl, h2⟩
theorem zaq {w : World} {ok : Nat -> Prop} : ∀ (args : List V1) (vs : List Value) (i t : Nat), All2 (Rep1 w ok) args vs -> ∀ x, look (argSlots i args) t = some x -> ∃ j u y, t = i + j /\ vs[j]? = some u /\ x = avOf y /\ Rep1 w ok y u := by
 intro args
 induction args with
 | nil => intro vs i t _ x hx; cases hx
 | cons y r ih =>
  intro vs i t h2 x hx
  cases h2 with
  | cons h1 h2 =>
   simp only [argSlots, look] at hx
   cases hb : Nat.beq t i with
   | true => rw [hb] at hx; cases hx; exact ⟨0, _, _, by simpa using Nat.eq_of_beq_eq_true hb, rfl, rfl, h1⟩
   | false =>
    rw [hb] at hx
    obtain ⟨j, u, z, g1, g2, g3, g4⟩ := ih _ (i + 1) t h2 x hx
    exact ⟨j + 1, u, z, by omega, by simpa using g2, g3, g4⟩
theorem zaE {vs : List Value} {N j : Nat} {u : Value} (h : vs[j]? = some u) : (vs.toArray ++ Array.replicate (N - vs.toArray.size) undef).getD j undef = u := by
 have : j < vs.length := (List.getElem?_eq_some_iff.1 h).1
 rw [Array.getD_eq_getD_getElem?, Array.getElem?_append_left (by simp; omega)]
 simp [h]
theorem zjJ {d : Bool} {args : List V1} {vs : List Value} {w : World} {ok : Nat -> Prop} {N : Nat} (hok : ∀ b, ok b -> b < w.heap.size) (h : All2 (Rep1 w ok) args vs) (hsz : args.length <= N) (hng : N <= G) :
    R (cx0 d w ok N) (St.of (argSlots 0 args) []) { tmps := vs.toArray ++ Array.replicate (N - vs.toArray.size) undef, defers := [] } w := by
  refine ⟨fun _ => undef, ?_⟩
  have hl := h.length
  exact { defers := ⟨fun _ => rfl, [], rfl, List.nodup_nil, fun D hD => by cases hD⟩
          size := by simp [cx0]; omega
          okA := fun b hb => ⟨hok b hb, id⟩
          lent := fun b hb => hb.elim
          below := ⟨rfl, rfl, rfl, fun _ => Nat.le_refl _, Nat.le_refl _, fun _ _ _ => rfl⟩
          hold := fun k o hk => hk.elim
          least := Nat.zero_le _
          objs := fun i o hi => by cases hi
          refs := fun i cs hi => by cases hi
          sep := fun i j o o' hi => by cases hi
          slots := fun t => by
            show M w _ _ ((look (argSlots 0 args) t).getD .any) _
            cases hx : look (argSlots 0 args) t with
            | none => exact trivial
            | some x =>
              obtain ⟨j, u, y, g1, g2, g3, g4⟩ := zaq args vs 0 t h x hx
              obtain rfl : t = j := by omega
              rw [zaE g2]
              subst g3
              exact zdC.2 (zbj (fun b hb => .inl hb) g4)
          ng := hng
          gho := fun m hm => by
            have hm' : (look (argSlots 0 args) G).getD .any = .gho m := hm
            cases hx : look (argSlots 0 args) G with
            | none => rw [hx] at hm'; cases hm'
            | some x =>
              obtain ⟨_, u, y, g1, g2, g3, g4⟩ := zaq args vs 0 G h x hx
              rw [hx] at hm'
              subst g3
              cases y with
              | d z => cases z <;> cases hm'
              | agg z => cases hm'
          srefs := fun t j hj => by
            have hj' : j ∈ ((look (argSlots 0 args) t).getD .any).refs := hj
            cases hx : look (argSlots 0 args) t with
            | none => rw [hx] at hj'; cases hj'
            | some x =>
              obtain ⟨_, u, y, g1, g2, g3, g4⟩ := zaq args vs 0 t h x hx
              rw [hx] at hj'
              subst g3
              rw [show (Option.some (avOf y)).getD .any = avOf y from rfl, zba] at hj'
              cases hj' }
theorem zgz {w : World} {ok ok' : Nat -> Prop} {res : List V1} {v : Value} (hk : ∀ b, ok b -> ok' b) (h : ResRep w ok res v) : ResRep w ok' res v := by
 have : ∀ {l : List V1} {vs : List Value}, All2 (Rep1 w ok) l vs -> All2 (Rep1 w ok') l vs := fun h => h.imp fun _ _ _ => zbj hk
 match res, h with
 | [], ⟨vs, h1, h2⟩ => exact ⟨vs, h1, this h2⟩
 | [x], h => exact zbj hk h
 | x :: y :: r, ⟨vs, h1, h2⟩ => exact ⟨vs, h1, this h2⟩
section
variable {P : Program} {T : TT} {E : Env}
theorem zmD (hT : ∀ t i, T t = some i -> TI.of P t = some i) (hE : ∀ t, E.eq t = true -> EqFact P t) (hm : P.follows .mixedOrders = true)
    {f : FuncId} {fn : Func} {c : Code} (hf : P.funcs[f]? = some fn) (hb : fn.body = some c) (hN : codeN fn.ntmps c = true)
    {vs : List Value} {w : World} {cx : Cx} (hD : cx.dr = true -> E.dr = true) (hcx : cx.N = fn.ntmps) (hgn : cx.gn = none) (hnod : cx.nod = false) (hh : ∀ k o, ¬ cx.hold k o) {s0 : St} (h0 : R cx s0 { tmps := vs.toArray ++ Array.replicate (fn.ntmps - vs.toArray.size) undef, defers := [] } w) {K : KK} (h : awp P T E c s0 K)
    {Rp : Ending -> World -> Prop} (hK : ∀ x, x ≠ .normal -> x ≠ .ret -> ∀ s, ¬ K x s)
    (hQ : ∀ x s a w', (x = .normal \/ x = .ret) -> K x s -> R cx s a w' -> a.defers = [] -> ∃ v, (results fn a.tmps).run P w' = .ok v w' /\ Rp (.returned v) w') : Calls P f vs.toArray w Rp := by
  refine callsIn_wide.1 (callsIn_of_wp_marks (F := Fence.wide) (n := 0) hf hb trivial ?_)
  refine zbc (Fm := (· = cx)) (N := cx.N) hT hE (fun c hc => by rw [hc]) (fun c hc => by rw [hc]; exact hD) (YLaw.none hgn) (.inl rfl) (fun c hc h => by rw [hc, hnod] at h; cases h) (fun c hc => .inl rfl) hm c (by rw [hcx]; exact hN) (fun x s a w' hR hk => ?_) ⟨cx, rfl, h0⟩ h
  obtain ⟨_, rfl, hR⟩ := hR
  cases x with
  | normal => exact zhM hh hR fun w' h' => hQ .normal s { a with defers := [] } w' (.inl rfl) hk h' rfl
  | ret => exact zhM hh hR fun w' h' => hQ .ret s { a with defers := [] } w' (.inr rfl) hk h' rfl
  | exit id => exact absurd hk (hK _ (by simp) (by simp) s)
  | goto l => exact absurd hk (hK _ (by simp) (by simp) s)
  | panic ch => exact absurd hk (hK _ (by simp) (by simp) s)
  | outgrown => exact absurd hk (hK _ (by simp) (by simp) s)
theorem zjH {rs : List ResultVar} {res : List V1} : ∀ x, x ≠ .normal -> x ≠ .ret -> ∀ s, ¬ retK T rs res x s := fun x h1 h2 s h => by
 cases x <;> first | exact h1 rfl | exact h2 rfl | exact h
theorem zlM {rs : List ResultVar} {res : List V1} {x : Exit} {s : St} (hx : x = .normal \/ x = .ret) (h : retK T rs res x s) : RetAll T s rs res := by
 rcases hx with rfl | rfl <;> exact h
theorem zgl (hT : ∀ t i, T t = some i -> TI.of P t = some i) (hE : ∀ t, E.eq t = true -> EqFact P t) (hm : P.follows .mixedOrders = true)
  {f : FuncId} {fn : Func} {c : Code} (hf : P.funcs[f]? = some fn) (hb : fn.body = some c) (hn : (fn.name == "runtime.NumGoroutine") = false) (hN : codeN fn.ntmps c = true)
  {args res : List V1} (hsz : args.length <= fn.ntmps) (hng : fn.ntmps <= G) (h : awp P T E c (St.of (argSlots 0 args) []) (retK T fn.results.toList res)) : SpecG E.dr P f args res :=
 ⟨⟨fn, hf, hn, by rw [hb]; rfl⟩, fun w ok vs hok hr => zmD hT hE hm hf hb hN (cx := cx0 E.dr w ok fn.ntmps) id rfl rfl rfl (fun _ _ => id) (zjJ hok hr hsz hng) h zjH fun x s a w' hx hk hR _ => by
  obtain ⟨v, h1, h2⟩ := zei (P := P) hT (fn := fn) hR (zlM hx hk)
  obtain ⟨γ, hg⟩ := hR
  exact ⟨v, h1, v, rfl, ⟨bel0 hg.below, hg.below.drawn⟩, zgz (fun b => zqh) h2⟩⟩
theorem zeh {rs : List ResultVar} {e k n : Nat} {g : Nat -> Nat -> D} : ∀ x, x ≠ .normal -> x ≠ .ret -> ∀ s, ¬ retKO rs e k n g x s := fun x h1 h2 s h => by
 cases x <;> first | exact h1 rfl | exact h2 rfl | exact h
theorem zhq {rs : List ResultVar} {e k n : Nat} {g : Nat -> Nat -> D} {x : Exit} {s : St} (hx : x = .normal \/ x = .ret) (h : retKO rs e k n g x s) :
  ∃ t i f, rs = [.tmp t] /\ s.sl t = .own i /\ s.ob i = some (.row e k n f) /\ ∀ i, i < n -> ∀ j, j < k -> D.eqv (f i j) (g i j) := by
 have hk : retKO rs e k n g .ret s := by rcases hx with rfl | rfl <;> exact h
 unfold retKO at hk
 match hrs : rs, hk with
 | [.tmp t], hk =>
  simp only at hk
  cases hv : s.sl t with
  | own i =>
   simp only [hv] at hk
   cases ho : s.ob i with
   | none => simp [ho] at hk
   | some o =>
    cases o with
    | box cs => simp [ho] at hk
    | mp ks => simp [ho] at hk
    | row e' k' n' f' =>
     simp only [ho] at hk
     obtain ⟨rfl, rfl, rfl, hq⟩ := hk
     exact ⟨t, i, f', rfl, hv, ho, hq⟩
  | _ => simp [hv] at hk
 | [], hk => simp at hk
 | .cell .. :: _, hk => simp at hk
 | _ :: _ :: _, hk => simp at hk
theorem zlA (hT : ∀ t i, T t = some i -> TI.of P t = some i) (hE : ∀ t, E.eq t = true -> EqFact P t) (hm : P.follows .mixedOrders = true)
  {f : FuncId} {fn : Func} {c : Code} (hf : P.funcs[f]? = some fn) (hb : fn.body = some c) (hn : (fn.name == "runtime.NumGoroutine") = false) (hN : codeN fn.ntmps c = true)
  {args : List V1} {e k n : Nat} {g : Nat -> Nat -> D} (hsz : args.length <= fn.ntmps) (hng : fn.ntmps <= G) (h : awp P T E c (St.of (argSlots 0 args) []) (retKO fn.results.toList e k n g)) : SpecOG E.dr P f args e k n g :=
 ⟨⟨fn, hf, hn, by rw [hb]; rfl⟩, fun w ok vs hok hr => zmD hT hE hm hf hb hN (cx := cx0 E.dr w ok fn.ntmps) id rfl rfl rfl (fun _ _ => id) (zjJ hok hr hsz hng) h zeh fun x s a w' hx hk hR _ => by
  obtain ⟨γ, hg⟩ := hR
  obtain ⟨t, i, f', hrs, hv, ho, hq⟩ := zhq hx hk
  obtain ⟨xs, h1, h0, h2, h3⟩ := hg.objs i _ ho
  have hsl := hg.slots t
  rw [hv] at hsl
  have hval : a.tmps.getD t undef = γ i := hsl
  have hrun := za5 (P := P) (fn := fn) (a := a) (w := w') (vs := [γ i]) (by rw [hrs]; simp [<- hval])
  have h1' : w'.ownsRow w.heap.size e k (γ i) n xs := ⟨h1.1, by
   rcases h1.2 with h4 | ⟨g', cap, cur, h4, h5, h6⟩
   ·exact .inl h4
   ·exact .inr ⟨g', cap, cur, h4, (h0 g' (by rw [h4]; rfl)).elim id False.elim, h6⟩⟩
  refine ⟨γ i, hrun, γ i, rfl, ⟨bel0 hg.below, hg.below.drawn⟩, xs, h1', h2, fun m hm j hj => ?_⟩
  obtain ⟨u, hu, hr⟩ := h3 m hm j hj
  exact ⟨u, hu, (Rep.keep (fun b hb => ⟨hb.imp id fun hb => ⟨hb.1.elim id False.elim, hb.2.1, hb.2.2 i _ ho⟩, rfl⟩) hr).eqv (hq m hm j hj)⟩⟩
end
structure RowAt (w : World) (ok : Nat -> Prop) (e k n : Nat) (g : Nat -> Nat -> D) (v : Value) (xs : List Value) : Prop where
  own : w.ownsRow 0 e k v n xs
  one : ∀ u ∈ xs, u.oneCell' = true
  rep : ∀ m, m < n -> ∀ j, j < k -> ∃ u, xs[m * k + j]? = some u /\ Rep w ok (g m j) u
  sep : ∀ b, blk v = some b -> ¬ ok b
def SpecR (P : Program) (f : FuncId) (pre post : List V1) (e k n : Nat) (g g' : Nat -> Nat -> D) (res : List V1) : Prop :=
 Ent P f /\ ∀ (w : World) (ok : Nat -> Prop) (vs us : List Value) (v : Value) (xs : List Value), (∀ b, ok b -> b < w.heap.size) -> All2 (Rep1 w ok) pre vs -> All2 (Rep1 w ok) post us -> RowAt w ok e k n g v xs ->
  Calls P f (vs ++ v :: us).toArray w fun en w' => ∃ r, en = .returned r /\ w.grownBy w' (blk v) /\ ResRep w' (fun _ => False) res r /\
   ∃ xs', w'.ownsRow 0 e k v n xs' /\ (∀ u ∈ xs', u.oneCell' = true) /\ ∀ m, m < n -> ∀ j, j < k -> ∃ u, xs'[m * k + j]? = some u /\ Rep w' (fun _ => False) (g' m j) u
def SpecT (P : Program) (f : FuncId) (pre post : List V1) (e k n : Nat) (g : Nat -> Nat -> D) (n' : Nat) (g' : Nat -> Nat -> D) : Prop :=
 Ent P f /\ ∀ (w : World) (ok : Nat -> Prop) (vs us : List Value) (v : Value) (xs : List Value), (∀ b, ok b -> b < w.heap.size) -> All2 (Rep1 w ok) pre vs -> All2 (Rep1 w ok) post us -> RowAt w ok e k n g v xs ->
  Calls P f (vs ++ v :: us).toArray w fun en w' => ∃ v', en = .returned v' /\ w.grownBy w' (blk v) /\ (∀ b, blk v' = some b -> blk v = some b \/ w.heap.size <= b) /\
   ∃ xs', w'.ownsRow 0 e k v' n' xs' /\ (∀ u ∈ xs', u.oneCell' = true) /\ ∀ m, m < n' -> ∀ j, j < k -> ∃ u, xs'[m * k + j]? = some u /\ Rep w' (fun _ => False) (g' m j) u
def cxR (w : World) (ok : Nat -> Prop) (N : Nat) (v : Value) : Cx := ⟨w, ok, N, fun b => blk v = some b, fun _ _ => False, 0, false, none, false⟩
theorem zcs {α : Type} : ∀ (l m : List (Nat × α)) (t : Nat), look (l ++ m) t = match look l t with | some x => some x | none => look m t
 | [], m, t => rfl
 | (i, x) :: l, m, t => by
  simp only [List.cons_append, look]
  cases Nat.beq t i with
  | true => rfl
  | false => exact zcs l m t
def rowSlots (pre post : List V1) (v : Value) : List (Nat × AV) := argSlots 0 pre ++ (pre.length, .pin pre.length v) :: argSlots (pre.length + 1) post
theorem zlQ {pre post : List V1} {vs us : List Value} {w : World} {ok : Nat -> Prop} {N e k n : Nat} {g : Nat -> Nat -> D} {v : Value} {xs : List Value} (hok : ∀ b, ok b -> b < w.heap.size) (h1 : All2 (Rep1 w ok) pre vs) (h2 : All2 (Rep1 w ok) post us) (hr : RowAt w ok e k n g v xs)
    (hsz : pre.length + 1 + post.length <= N) (hng : N <= G) :
    R (cxR w ok N v) (St.of (rowSlots pre post v) [(pre.length, .row e k n g)]) { tmps := (vs ++ v :: us).toArray ++ Array.replicate (N - (vs ++ v :: us).toArray.size) undef, defers := [] } w := by
  have l1 := h1.length
  have l2 := h2.length
  have hblk : ∀ b, blk v = some b -> b < w.heap.size := fun b hb => by
    rcases hr.own.2 with ⟨h3, _⟩ | ⟨q, cap, cur, h3, _, h4, _⟩
    · rw [h3] at hb; cases hb
    · rw [h3] at hb; simp [blk] at hb; subst hb; exact (Array.getElem?_eq_some_iff.1 h4).1
  have slot : ∀ t x, look (rowSlots pre post v) t = some x -> M w ok (fun _ => v) x ((((vs ++ v :: us).toArray ++ Array.replicate (N - (vs ++ v :: us).toArray.size) undef)).getD t undef) /\ (x.refs = [] \/ x.refs = [pre.length]) := fun t x hx => by
    unfold rowSlots at hx
    rw [zcs] at hx
    cases ha : look (argSlots 0 pre) t with
    | some y =>
      rw [ha] at hx; cases hx
      obtain ⟨j, u, z, g1, g2, g3, g4⟩ := zaq pre vs 0 t h1 _ ha
      obtain rfl : t = j := by omega
      have hj : t < vs.length := (List.getElem?_eq_some_iff.1 g2).1
      rw [zaE (u := u) (by rw [List.getElem?_append_left hj]; exact g2), g3]
      exact ⟨zdC.2 g4, .inl (zba z)⟩
    | none =>
      rw [ha] at hx
      simp only [look] at hx
      cases hb : Nat.beq t pre.length with
      | true =>
        rw [hb] at hx; cases hx
        have := Nat.eq_of_beq_eq_true hb
        subst this
        rw [zaE (u := v) (by rw [l1, List.getElem?_append_right (Nat.le_refl _)]; simp)]
        exact ⟨⟨rfl, rfl⟩, .inr rfl⟩
      | false =>
        rw [hb] at hx
        obtain ⟨j, u, z, g1, g2, g3, g4⟩ := zaq post us (pre.length + 1) t h2 x hx
        rw [zaE (u := u) (by
          rw [List.getElem?_append_right (by omega), show t - vs.length = j + 1 by omega, List.getElem?_cons_succ]; exact g2), g3]
        exact ⟨zdC.2 g4, .inl (zba z)⟩
  refine ⟨fun _ => v, ?_⟩
  have hob : ∀ i o, look [(pre.length, Ob.row e k n g)] i = some o -> i = pre.length /\ o = .row e k n g := fun i o ho => by
    simp only [look] at ho
    cases hb : Nat.beq i pre.length with
    | true => rw [hb] at ho; cases ho; exact ⟨Nat.eq_of_beq_eq_true hb, rfl⟩
    | false => rw [hb] at ho; cases ho
  have hself : look [(pre.length, Ob.row e k n g)] pre.length = some (.row e k n g) := by simp [look, zaS]
  exact { defers := ⟨fun _ => rfl, [], rfl, List.nodup_nil, fun D hD => by cases hD⟩
          size := by simp [cxR]; omega
          okA := fun b hb => ⟨hok b hb, fun e => hr.sep b e hb⟩
          lent := fun b hb => hblk b hb
          below := ⟨rfl, rfl, rfl, fun _ => Nat.le_refl _, Nat.le_refl _, fun _ _ _ => rfl⟩
          hold := fun k o hk => hk.elim
          least := Nat.zero_le _
          objs := fun i o hi => by
            obtain ⟨rfl, rfl⟩ := hob i o hi
            exact ⟨xs, hr.own, fun b hb => .inr hb, hr.one, fun m hm j hj => by obtain ⟨u, hu, h3⟩ := hr.rep m hm j hj; exact ⟨u, hu, Rep.keep (fun b hb => ⟨.inl hb, rfl⟩) h3⟩⟩
          refs := fun i cs hi => by obtain ⟨_, h3⟩ := hob i _ hi; cases h3
          sep := fun i j o o' hi hj hne => absurd ((hob i o hi).1.trans (hob j o' hj).1.symm) hne
          slots := fun t => by
            show M w _ _ ((look (rowSlots pre post v) t).getD .any) _
            cases hx : look (rowSlots pre post v) t with
            | none => exact trivial
            | some x => exact (slot t x hx).1.keep (fun b hb => ⟨.inl hb, rfl⟩) fun _ _ => rfl
          ng := hng
          gho := fun m hm => by
            have hm' : (look (rowSlots pre post v) G).getD .any = .gho m := hm
            cases hx : look (rowSlots pre post v) G with
            | none => rw [hx] at hm'; cases hm'
            | some x =>
              rw [hx] at hm'
              have hs := (slot G x hx).2
              have hno : ∀ y : V1, avOf y ≠ .gho m := fun y => by
                cases y with
                | d z => cases z <;> simp [avOf]
                | agg z => simp [avOf]
              unfold rowSlots at hx
              rw [zcs] at hx
              cases ha : look (argSlots 0 pre) G with
              | some y =>
                rw [ha] at hx; cases hx
                obtain ⟨j, u, z, g1, g2, g3, g4⟩ := zaq pre vs 0 G h1 _ ha
                exact absurd (g3.symm.trans hm') (hno z)
              | none =>
                rw [ha] at hx
                simp only [look] at hx
                cases hb : Nat.beq G pre.length with
                | true => rw [hb] at hx; cases hx; cases hm'
                | false =>
                  rw [hb] at hx
                  obtain ⟨j, u, z, g1, g2, g3, g4⟩ := zaq post us (pre.length + 1) G h2 x hx
                  exact absurd (g3.symm.trans hm') (hno z)
          srefs := fun t j hj => by
            have hj' : j ∈ ((look (rowSlots pre post v) t).getD .any).refs := hj
            cases hx : look (rowSlots pre post v) t with
            | none => rw [hx] at hj'; cases hj'
            | some x =>
              rw [hx] at hj'
              rcases (slot t x hx).2 with h3 | h3
              · rw [show (Option.some x).getD .any = x from rfl, h3] at hj'; cases hj'
              · rw [show (Option.some x).getD .any = x from rfl, h3] at hj'
                simp only [List.mem_singleton] at hj'
                subst hj'
                show (look [(pre.length, Ob.row e k n g)] pre.length).isSome = true
                rw [hself]; rfl }
theorem zcX {w w' : World} {ok : Nat -> Prop} {N : Nat} {v : Value} (h : Bel (cxR w ok N v) w') : w.grownBy w' (blk v) :=
 ⟨h.os, h.tape, h.output, h.size, fun k hk hne => h.block k hk fun e => hne e.symm⟩
theorem zgA {w : World} {ok : Nat -> Prop} {res : List V1} {v : Value} (hf : res.all V1.flat = true) (h : ResRep w ok res v) : ResRep w (fun _ => False) res v := by
 have : ∀ {l : List V1} {vs : List Value}, (∀ x ∈ l, x.flat = true) -> All2 (Rep1 w ok) l vs -> All2 (Rep1 w fun _ => False) l vs := fun hl h => h.imp fun x _ hx hr => Rep1.flat (hl x hx) hr
 have hall := List.all_eq_true.1 hf
 match res, h with
 | [], ⟨vs, h1, h2⟩ => exact ⟨vs, h1, this hall h2⟩
 | [x], h => exact Rep1.flat (hall x (by simp)) h
 | x :: y :: r, ⟨vs, h1, h2⟩ => exact ⟨vs, h1, this hall h2⟩
section
variable {P : Program} {T : TT} {E : Env}
theorem zlz (hT : ∀ t i, T t = some i -> TI.of P t = some i) (hE : ∀ t, E.eq t = true -> EqFact P t) (hm : P.follows .mixedOrders = true)
  {f : FuncId} {fn : Func} {c : Code} (hf : P.funcs[f]? = some fn) (hb : fn.body = some c) (hn : (fn.name == "runtime.NumGoroutine") = false) (hN : codeN fn.ntmps c = true)
  {pre post : List V1} {e k n n' : Nat} {g g' : Nat -> Nat -> D} (hfl : ∀ i, i < n' -> ∀ j, j < k -> (g' i j).flat = true) (hsz : pre.length + 1 + post.length <= fn.ntmps) (hng : fn.ntmps <= G)
  (h : ∀ v, awp P T E c (St.of (rowSlots pre post v) [(pre.length, .row e k n g)]) (retKO fn.results.toList e k n' g')) : SpecT P f pre post e k n g n' g' :=
 ⟨⟨fn, hf, hn, by rw [hb]; rfl⟩, fun w ok vs us v xs hok h1 h2 hr => zmD hT hE hm hf hb hN (cx := cxR w ok fn.ntmps v) (fun e => by cases e) rfl rfl rfl (fun _ _ => id) (zlQ hok h1 h2 hr hsz hng) (h v) zeh fun x s a w' hx hk hR _ => by
  obtain ⟨γ, hg⟩ := hR
  obtain ⟨t, i, f', hrs, hv, ho, hq⟩ := zhq hx hk
  obtain ⟨ys, o1, o0, o2, o3⟩ := hg.objs i _ ho
  have hsl := hg.slots t
  rw [hv] at hsl
  have hval : a.tmps.getD t undef = γ i := hsl
  have hrun := za5 (P := P) (fn := fn) (a := a) (w := w') (vs := [γ i]) (by rw [hrs]; simp [<- hval])
  refine ⟨γ i, hrun, γ i, rfl, zcX hg.below, fun b hb => ?_, ys, o1, o2, fun m hm j hj => ?_⟩
  ·rcases o0 b hb with h3 | h3
   ·exact .inr h3
   ·exact .inl h3
  ·obtain ⟨u, hu, hrr⟩ := o3 m hm j hj
   exact ⟨u, hu, Rep.flat (hfl m hm j hj) (hrr.eqv (hq m hm j hj))⟩⟩
end
section
variable {P : Program} {s : St} {o : Oper} {fo : Operand} {f : FuncId} {K : St -> Prop} {E : Env} (hdr : E.dr = false)
theorem All2.split {α β : Type} {r : α -> β -> Prop} : ∀ {xs ys : List α} {vs : List β}, All2 r (xs ++ ys) vs -> ∃ v1 v2, vs = v1 ++ v2 /\ All2 r xs v1 /\ All2 r ys v2
 | [], ys, vs, h => ⟨[], vs, rfl, .nil, h⟩
 | x :: xs, ys, _, .cons h1 h2 => by
  obtain ⟨v1, v2, rfl, h3, h4⟩ := All2.split h2
  exact ⟨_ :: v1, v2, rfl, .cons h1 h3, h4⟩
structure RowArgs (s : St) (fo : Operand) (args : List Operand) (f : FuncId) (pre : List V1) (i : Nat) (post : List V1) : Prop where
  out : ∃ a1 a0 a2 ex, args = a1 ++ a0 :: a2 /\ callee (ev s fo) = some (f, ex) /\ ev s a0 = .own i /\ toV1s s (a1.map (ev s)) = some pre /\ toV1s s (a2.map (ev s) ++ ex) = some post /\ (a1.map (ev s)).all (fun v => !v.isOwn) = true /\ (a2.map (ev s) ++ ex).all (fun v => !v.isOwn) = true
theorem zfF {cx : Cx} {γ : Nat -> Value} {a : Act} {w : World} (h : RG cx γ s a w) {args : List Operand} {pre post : List V1} {i e k n : Nat} {g : Nat -> Nat -> D} (ha : RowArgs s fo args f pre i post) (hi : s.ob i = some (.row e k n g)) :
  ∃ (caps vs us xs : List Value), a.eval fo = .func (.func f) #[] caps.toArray /\ args.map a.eval ++ caps = vs ++ γ i :: us /\ All2 (Rep1 w (okOf cx s γ w)) pre vs /\ All2 (Rep1 w (okOf cx s γ w)) post us /\ RowAt w (okOf cx s γ w) e k n g (γ i) xs := by
 obtain ⟨a1, a0, a2, ex, rfl, h1, h2, h3, h4, h5, h6⟩ := ha.out
 obtain ⟨caps, hf, hc⟩ := zaZ h1 (ev_m h fo).1
 have h0 := (ev_m h a0).1
 rw [h2] at h0
 have hv0 : a.eval a0 = γ i := h0
 have m1 := (zbC h h3 (zcA h a1)).2 h5
 have m2 := (zbC h h4 ((zcA h a2).append hc)).2 h6
 obtain ⟨xs, o1, o0, o2, o3⟩ := h.objs i _ hi
 exact ⟨caps, a1.map a.eval, a2.map a.eval ++ caps, xs, hf, by simp [hv0], m1, m2, ⟨o1, o2, o3, fun b hb hok => zc1 h hok hi hb⟩⟩
include hdr in
theorem CallSt.row {args : Array Operand} {at' : Array TypeId} (hop : o.op = .call { callee := .value fo, args, argTypes := at' }) {pre post res : List V1} {i e k n : Nat} {g g' : Nat -> Nat -> D} (h : SpecR P f pre post e k n g g' res)
    (ha : RowArgs s fo args.toList f pre i post) (hi : s.ob i = some (.row e k n g)) (hk : K ((s.setOb i (some (.row e k n g'))).putO o.dst (resAV res))) : CallSt E P s o fo args.toList K := by
  rw [zag]
  refine .inr (.inr (.inl ⟨_, ⟨fun cx a w hD hd hR => ?_⟩, hk⟩))
  obtain ⟨γ, hg⟩ := hR
  obtain ⟨caps, vs, us, xs, h1, h2, h3, h4, h5⟩ := zfF hg ha hi
  refine .enter (zaW hop h1 h.1) ?_
  rw [h2]
  refine (h.2 w _ vs us _ xs (fun b hb => zal hg hb) h3 h4 h5).mono fun en w' ⟨r, he, hgr, hres, ys, y1, y2, y3⟩ => ⟨r, he, γ, ?_⟩
  refine (hg.change (i := i) (o' := .row e k n g') hi hgr (fun e => by have := hD e; rw [hdr] at this; cases this) (fun ok hok => ⟨ys, y1, fun b hb => (zar hg hi hb).1, y2, fun m hm j hj => ?_⟩) (fun cs e => by cases e)).putO hd (zbT (.inl fun b hb => hb.elim) hres) (fun j hj => by rw [za1] at hj; cases hj)
  obtain ⟨u, hu, hr⟩ := y3 m hm j hj
  exact ⟨u, hu, Rep.keep0 (w := w') (fun b hb => hb.elim) hr⟩
include hdr in
theorem CallSt.take {args : Array Operand} {at' : Array TypeId} (hop : o.op = .call { callee := .value fo, args, argTypes := at' }) {pre post : List V1} {i e k n n' : Nat} {g g' : Nat -> Nat -> D} (h : SpecT P f pre post e k n g n' g')
    (ha : RowArgs s fo args.toList f pre i post) (hi : s.ob i = some (.row e k n g)) (hk : K (remk s i (.row e k n' g') o.dst)) : CallSt E P s o fo args.toList K := by
  rw [zag]
  refine .inr (.inr (.inl ⟨_, ⟨fun cx a w hD hd hR => ?_⟩, hk⟩))
  obtain ⟨γ, hg⟩ := hR
  obtain ⟨caps, vs, us, xs, h1, h2, h3, h4, h5⟩ := zfF hg ha hi
  refine .enter (zaW hop h1 h.1) ?_
  rw [h2]
  refine (h.2 w _ vs us _ xs (fun b hb => zal hg hb) h3 h4 h5).mono fun en w' ⟨r, he, hgr, hbl, ys, y1, y2, y3⟩ => ⟨r, he, ?_⟩
  refine zdt (o' := .row e k n' g') hg hi hd hgr (fun e => by have := hD e; rw [hdr] at this; cases this) (fun b hb => hbl b hb) (fun ok hok => ⟨ys, by rw [zae]; exact y1, (fun b hb => ?_), y2, fun m hm j hj => ?_⟩) (fun cs e => by cases e)
  · rw [zae] at hb
    rcases hbl b hb with h6 | h6
    · exact (zar hg hi h6).1
    · exact .inl (Nat.le_trans hg.below.size h6)
  · obtain ⟨u, hu, hr⟩ := y3 m hm j hj
    exact ⟨u, hu, Rep.keep0 (w := w') (fun b hb => hb.elim) hr⟩
end
def Ow (B : Nat -> Prop) (Q : Nat -> Nat -> Prop) (W : World) (k : Nat) : Prop := B k \/ ∃ b c v, B b /\ Q b c /\ W.cell? ⟨b, c, none⟩ = some v /\ blk v = some k
def KpB (B : Nat -> Prop) (Q : Nat -> Nat -> Prop) (W W' : World) : Prop :=
 W.heap.size <= W'.heap.size /\ (∀ k, Ow B Q W' k -> Ow B Q W k \/ (W.heap.size <= k /\ k < W'.heap.size)) /\ ∀ k o, W.heap[k]? = some o -> o.isCells = true -> ¬ Ow B Q W k -> W'.heap[k]? = some o
section
variable {B : Nat -> Prop} {Q : Nat -> Nat -> Prop}
theorem KpB.trans {W1 W2 W3 : World} (h : KpB B Q W1 W2) (k : KpB B Q W2 W3) : KpB B Q W1 W3 := by
 obtain ⟨h1, h2, h3⟩ := h
 obtain ⟨k1, k2, k3⟩ := k
 refine ⟨Nat.le_trans h1 k1, fun i hi => ?_, fun i o hi ho hn => ?_⟩
 ·rcases k2 i hi with h4 | h4
  ·rcases h2 i h4 with h5 | h5
   ·exact .inl h5
   ·exact .inr ⟨h5.1, by omega⟩
  ·exact .inr ⟨by omega, h4.2⟩
 ·refine k3 i o (h3 i o hi ho hn) ho fun hw => ?_
  rcases h2 i hw with h4 | h4
  ·exact hn h4
  ·have := (Array.getElem?_eq_some_iff.1 hi).1; omega
theorem Ow.same {W W' : World} (hB : ∀ b, B b -> W'.heap[b]? = W.heap[b]?) {k : Nat} : Ow B Q W' k ↔ Ow B Q W k := by
 refine or_congr Iff.rfl (exists_congr fun b => exists_congr fun c => exists_congr fun v => ⟨fun ⟨h1, h2, h3, h4⟩ => ⟨h1, h2, ?_, h4⟩, fun ⟨h1, h2, h3, h4⟩ => ⟨h1, h2, ?_, h4⟩⟩)
 ·rwa [World.cell?_of_block (hB b h1)] at h3
 ·rwa [World.cell?_of_block (hB b h1)]
theorem KpB.book {w : World} (hB : ∀ b, B b -> b < w.heap.size) (W : World) (l : Nat) (o o' : Obj) (hl : w.heap.size <= l) (hW : W.heap[l]? = some o) (hc : o.isCells = false) : KpB B Q W (W.putObj l o') := by
 have hb : ∀ k, k ≠ l -> (W.putObj l o').heap[k]? = W.heap[k]? := fun k hk => World.putObj_heap_other hk
 refine ⟨(grownBy_putObj' W l o').size, fun k hk => .inl ((Ow.same fun b h => hb b fun e => by have := hB b h; omega).1 hk), fun k p hk hp _ => ?_⟩
 by_cases e : k = l
 ·subst e; rw [hW] at hk; cases hk; rw [hc] at hp; cases hp
 ·rw [hb k e]; exact hk
end
def SeqX {α : Type} (F : Fence) (n : Nat) (P : Program) (g : Nat) (lb : Array Value) (encs : α -> Array Value) (Kp : World -> World -> Prop) (xs : List α) (w : World) : Prop :=
 ∀ (l : Nat) (J Jx : List α -> World -> Prop) (W : World), Below w.heap.size w W -> AbidesFrom W.heap.size J -> AbidesFrom W.heap.size Jx ->
  (∀ pre x W1, J pre W1 -> pre ++ [x] <+: xs -> YieldAt F (n - 1) P l (encs x) W1 fun e W' =>
   (e = .returned (.bool true) /\ J (pre ++ [x]) W' /\ Kp W1 W') \/ (e = .returned (.bool false) /\ Jx (pre ++ [x]) W')) ->
  J [] W ->
  CallsIn F n P g (#[.func (.yield l) #[] #[]] ++ lb) W fun e W' => (∃ v, e = .returned v) /\ ((∃ ys, ys = xs /\ J ys W') \/ (∃ pre, pre <+: xs /\ Jx pre W'))
def SeqC (P : Program) (g : FuncId) (m : Nat) (cap : Nat -> D) {τ : Type} (encV : τ -> List Value) (xs : List τ) : Prop :=
 Ent P g /\ ∀ (w : World) (ok : Nat -> Prop) (lb : List Value) (B : Nat -> Prop) (Q : Nat -> Nat -> Prop), (∀ b, ok b -> b < w.heap.size) -> lb.length = m -> (∀ j, j < m -> ∃ u, lb[j]? = some u /\ Rep w ok (cap j) u) ->
  (∀ k, Ow B Q w k -> k < w.heap.size /\ ¬ ok k) -> SeqX Fence.wide 4 P g lb.toArray (fun x => (encV x).toArray) (KpB B Q) xs w
theorem zgv {n m : Nat} {P : Program} {l : Nat} {fn : FuncId} {tmps : Array Value} {asg body : Code} {w : World} {R : Ending -> World -> Prop} (h : RoundIn Fence.wide n P l fn tmps asg body w R) : RoundIn Fence.wide m P l fn tmps asg body w R :=
 ⟨trivial, fun c cs _ => h.2 c cs (room_wide _)⟩
theorem zdj {n m : Nat} {P : Program} {l : Nat} {args : Array Value} {w : World} {R : Ending -> World -> Prop} (h : YieldAt Fence.wide n P l args w R) : YieldAt Fence.wide m P l args w R :=
 let ⟨fn, tmps, asg, body, h1, h2⟩ := h; ⟨fn, tmps, asg, body, h1, zgv h2⟩
theorem zcR {n : Nat} {P : Program} {l : Nat} {args : Array Value} {w : World} {R R' : Ending -> World -> Prop} (h : YieldAt Fence.wide n P l args w R) (hr : ∀ e w, R e w -> R' e w) : YieldAt Fence.wide n P l args w R' :=
 let ⟨fn, tmps, asg, body, h1, h2⟩ := h; ⟨fn, tmps, asg, body, h1, zbF h2 hr⟩
theorem zcD {n m : Nat} {P : Program} {f : FuncId} {args : Array Value} {w : World} {R : Ending -> World -> Prop} (h : CallsIn Fence.wide n P f args w R) : CallsIn Fence.wide m P f args w R := callsIn_wide.2 (callsIn_wide.1 h)
def Fam (N : Nat) {τ : Type} (xs : List τ) (B : Nat -> Prop) (Q : Nat -> Nat -> Prop) (J Jx : List τ -> World -> Prop) (cx : Cx) : Prop :=
 cx.N = N /\ cx.lent = (fun _ => False) /\ cx.hold = (fun _ _ => False) /\ cx.dr = false /\ cx.nod = true /\
  match cx.gn with
  | some n => J (xs.take n) cx.w0 /\ n <= xs.length /\ (∀ b, cx.okA b -> ¬ Ow B Q cx.w0 b) /\ (∀ k, Ow B Q cx.w0 k -> k < cx.w0.heap.size)
  | none => ∃ n, n <= xs.length /\ Jx (xs.take n) cx.w0
theorem zcw {cx : Cx} {w : World} (h : Bel cx w) (hl : cx.lent = fun _ => False) : cx.w0.grownBy w none :=
 ⟨h.os, h.tape, h.output, h.size, fun k hk _ => h.block k hk (by rw [hl]; exact id)⟩
theorem zjj {w w' : World} {ok ok' : Nat -> Prop} {γ : Nat -> Value} {v : AV} {x : Value} (h : M w ok γ v x) : M w' ok' γ v.still x := by
 cases v with
 | d y =>
  simp only [AV.still]
  cases hf : y.flat with
  | true => exact Rep.flat hf h
  | false => exact trivial
 | agg ys =>
  simp only [AV.still]
  cases hf : ys.all D.flat with
  | true => obtain ⟨vs, h1, h2⟩ := h; exact ⟨vs, h1, h2.imp fun y _ hy hr => Rep.flat (List.all_eq_true.1 hf y hy) hr⟩
  | false => exact trivial
 | undef => exact h
 | _ => exact trivial
theorem zed (v : AV) : v.still.refs = [] := by
 cases v with
 | d y => simp only [AV.still]; split <;> rfl
 | agg ys => simp only [AV.still]; split <;> rfl
 | _ => rfl
theorem zbl : ∀ (sl : List (Nat × AV)) (t : Nat), look (stillS sl) t = (look sl t).map AV.still
 | [], _ => rfl
 | (i, v) :: r, t => by
  simp only [stillS, look]
  cases Nat.beq t i with
  | true => rfl
  | false => exact zbl r t
theorem ylaw {P : Program} {E : Env} {N : Nat} (hN : N <= G) {τ : Type} {enc : τ -> List V1} {encV : τ -> List Value} (henc : ∀ x (w : World) ok us, All2 (Rep1 w ok) (enc x) us -> us = encV x) {xs : List τ} {B : Nat -> Prop} {Q : Nat -> Nat -> Prop} {J Jx : List τ -> World -> Prop} {W0 : Nat}
    (hnk : E.cut keepN = false) (hyd : ∀ n vs, E.yd n vs -> ∃ x, xs[n]? = some x /\ vs = enc x)
    (hJ : AbidesFrom W0 J) (hJx : AbidesFrom W0 Jx)
    (hY : ∀ pre x W1, J pre W1 -> pre ++ [x] <+: xs -> YieldAt Fence.wide 3 P E.l (encV x).toArray W1 fun e W' => (e = .returned (.bool true) /\ J (pre ++ [x]) W' /\ KpB B Q W1 W') \/ (e = .returned (.bool false) /\ Jx (pre ++ [x]) W')) :
    YLaw (Fam N xs B Q J Jx) P E := by
  intro cx hcx n hgn γ sl ob a w vs us hkp hG h hv hus
  obtain rfl : ob = [] := by
    rcases hkp with h1 | ⟨h1, _⟩
    · exact h1
    · rw [hnk] at h1; cases h1
  obtain ⟨x, hx, rfl⟩ := hyd n vs hv
  obtain rfl := henc x w _ us hus
  obtain ⟨f1, f2, f3, f4, f5, f7⟩ := hcx
  rw [hgn] at f7
  obtain ⟨j1, j2, j3, j4⟩ := f7
  have hn : n < xs.length := (List.getElem?_eq_some_iff.1 hx).1
  have htk : xs.take n ++ [x] = xs.take (n + 1) := by rw [List.take_succ, hx]; rfl
  have hgr := zcw h.below f2
  have hJw : J (xs.take n) w := hJ _ _ _ none j1 hgr (fun r e => by cases e)
  have hOw : ∀ k, Ow B Q w k ↔ Ow B Q cx.w0 k := fun k => Ow.same fun b hb => hgr.block b (j4 b (.inl hb)) (by simp)
  have hds : a.defers = [] := h.defers.1 f5
  have hok : ∀ b, okOf cx (St.of sl []) γ w b -> ¬ Ow B Q w b := fun b hb hw => by
    rw [hOw] at hw
    rcases hb with h1 | ⟨h1, _⟩
    · exact j3 b h1 hw
    · have := j4 b hw
      rcases h1 with h1 | h1
      · omega
      · rw [f2] at h1; exact h1
  have hundef : a.tmps.getD G undef = undef := by
    rw [Array.getD_eq_getD_getElem?, Array.getElem?_eq_none (by rw [h.size, f1]; exact hN)]; rfl
  have hsr : ∀ t, ∀ x, look sl t = some x -> x.refs = [] := fun t x hx' => by
    have := h.srefs t
    rw [show (St.of sl []).sl t = (look sl t).getD .any from rfl, hx'] at this
    cases hr : x.refs with
    | nil => rfl
    | cons j r => have := this j (by simp [hr]); cases this
  have look2 : ∀ (m : Option Nat) (l : List (Nat × AV)) (t : Nat), look ((G, AV.gho m) :: l) t = if t = G then some (.gho m) else look l t := fun m l t => by
    simp only [look]
    by_cases e : t = G
    · subst e; simp [Nat.beq_refl]
    · rw [if_neg e, zle e]; rfl
  refine zcR (zdj (hY _ x w hJw (by rw [htk]; exact List.take_prefix _ _))) ?_
  rintro e W' (⟨rfl, hj, kp⟩ | ⟨rfl, hj⟩)
  · refine .inl ⟨rfl, ⟨W', okOf cx (St.of sl []) γ w, N, fun _ => False, fun _ _ => False, 0, false, some (n + 1), true⟩, ⟨rfl, rfl, rfl, rfl, rfl, ?_⟩, ?_⟩
    · rw [htk] at hj
      refine ⟨hj, by omega, fun b hb hw => ?_, fun k hk => ?_⟩
      · rcases kp.2.1 b hw with h1 | h1
        · exact hok b hb h1
        · have := zal h hb; omega
      · rcases kp.2.1 k hk with h1 | h1
        · rw [hOw] at h1
          have := j4 k h1
          have := hgr.size
          have := kp.1
          show k < W'.heap.size
          omega
        · exact h1.2
    · exact { defers := ⟨fun _ => hds, [], hds, List.nodup_nil, fun D hD => by cases hD⟩
              size := by rw [h.size, f1]
              okA := fun b hb => ⟨Nat.lt_of_lt_of_le (zal h hb) kp.1, id⟩
              lent := fun b hb => hb.elim
              below := ⟨rfl, rfl, rfl, fun _ => Nat.le_refl _, Nat.le_refl _, fun _ _ _ => rfl⟩
              hold := fun k o hk => hk.elim
              least := Nat.zero_le _
              objs := fun i o hi => by cases hi
              refs := fun i cs hi => by cases hi
              sep := fun i j o o' hi => by cases hi
              slots := fun t => by
                show M W' _ γ ((look ((G, AV.gho (some (n + 1))) :: sl) t).getD .any) _
                rw [look2]
                by_cases e : t = G
                · subst e; rw [if_pos rfl]; exact hundef
                · rw [if_neg e]
                  refine (h.slots t).keep0 (fun b hb => ⟨.inl hb, fun ad u hb' hc => ?_⟩) fun _ _ => rfl
                  subst hb'
                  simp only [World.cell?] at hc ⊢
                  cases ho : w.heap[ad.block]? with
                  | none => rw [ho] at hc; cases hc
                  | some o =>
                    cases o with
                    | cells c T fr => rw [kp.2.2 _ _ ho rfl (hok _ hb)]; rw [ho] at hc; exact hc
                    | _ => rw [ho] at hc; cases hc
              srefs := fun t j hj => by
                have hj' : j ∈ ((look ((G, AV.gho (some (n + 1))) :: sl) t).getD .any).refs := hj
                rw [look2] at hj'
                by_cases e : t = G
                · rw [if_pos e] at hj'; cases hj'
                · rw [if_neg e] at hj'; exact h.srefs t j hj'
              gho := fun m hm => by
                have hm' : (look ((G, AV.gho (some (n + 1))) :: sl) G).getD .any = .gho m := hm
                rw [look2, if_pos rfl] at hm'
                cases hm'; rfl
              ng := hN }
  · refine .inr ⟨rfl, ⟨W', fun _ => False, N, fun _ => False, fun _ _ => False, 0, false, none, true⟩, ⟨rfl, rfl, rfl, rfl, rfl, n + 1, by omega, by rw [<- htk]; exact hj⟩, ?_⟩
    · exact { defers := ⟨fun _ => hds, [], hds, List.nodup_nil, fun D hD => by cases hD⟩
              size := by rw [h.size, f1]
              okA := fun b hb => hb.elim
              lent := fun b hb => hb.elim
              below := ⟨rfl, rfl, rfl, fun _ => Nat.le_refl _, Nat.le_refl _, fun _ _ _ => rfl⟩
              hold := fun k o hk => hk.elim
              least := Nat.zero_le _
              objs := fun i o hi => by cases hi
              refs := fun i cs hi => by cases hi
              sep := fun i j o o' hi => by cases hi
              slots := fun t => by
                show M W' _ γ ((look ((G, AV.gho none) :: stillS sl) t).getD .any) _
                rw [look2]
                by_cases e : t = G
                · subst e; rw [if_pos rfl]; exact hundef
                · rw [if_neg e, zbl]
                  have := h.slots t
                  rw [show (St.of sl []).sl t = (look sl t).getD .any from rfl] at this
                  cases hl : look sl t with
                  | none => exact trivial
                  | some v => rw [hl] at this; exact zjj this
              srefs := fun t j hj => by
                have hj' : j ∈ ((look ((G, AV.gho none) :: stillS sl) t).getD .any).refs := hj
                rw [look2] at hj'
                by_cases e : t = G
                · rw [if_pos e] at hj'; cases hj'
                · rw [if_neg e, zbl] at hj'
                  cases hl : look sl t with
                  | none => rw [hl] at hj'; cases hj'
                  | some v => rw [hl] at hj'; rw [show ((some v).map AV.still).getD .any = v.still from rfl, zed] at hj'; cases hj'
              gho := fun m hm => by
                have hm' : (look ((G, AV.gho none) :: stillS sl) G).getD .any = .gho m := hm
                rw [look2, if_pos rfl] at hm'
                cases hm'; rfl
              ng := hN }
def retY (len : Nat) : KK := fun x s =>
 let fin : Prop := s.sl G = .gho (some len) \/ s.sl G = .gho none
 match x with
 | .normal => fin
 | .ret => fin
 | _ => False
theorem zn8 {P : Program} {T : TT} (hT : ∀ t i, T t = some i -> TI.of P t = some i) {eq : Nat -> Bool} (hE : ∀ t, eq t = true -> EqFact P t) (hm : P.follows .mixedOrders = true)
    {f : FuncId} {fn : Func} {c : Code} (hf : P.funcs[f]? = some fn) (hb : fn.body = some c) (hn : (fn.name == "runtime.NumGoroutine") = false) (hN : codeN fn.ntmps c = true) (hres : fn.results.toList = []) (hng : fn.ntmps <= G)
    {m : Nat} {cap : Nat -> D} (hsz : m + 1 <= fn.ntmps) {τ : Type} (enc : τ -> List V1) {encV : τ -> List Value} (henc : ∀ x (w : World) ok us, All2 (Rep1 w ok) (enc x) us -> us = encV x) (xs : List τ)
    (h : ∀ l, awp P T ⟨eq, false, l, fun n vs => ∃ x, xs[n]? = some x /\ vs = enc x, true, fun _ => false⟩ c (St.of ((G, .gho (some 0)) :: (0, .yl l) :: argSlots 1 ((List.range m).map fun j => .d (cap j))) []) (retY xs.length)) : SeqC P f m cap encV xs := by
  refine ⟨⟨fn, hf, hn, by rw [hb]; rfl⟩, fun w ok lb B Q hok hl hcap hOw l J Jx W hW hJ hJx hY h0 => ?_⟩
  have hBs : ∀ k, Ow B Q W k ↔ Ow B Q w k := fun k => Ow.same fun b hb => hW.block b (hOw b (.inl hb)).1
  let vs : List Value := .func (.yield l) #[] #[] :: lb
  have hvs : (#[.func (.yield l) #[] #[]] ++ lb.toArray : Array Value) = vs.toArray := by simp [vs]
  have hargs : All2 (Rep1 W ok) ((List.range m).map fun j => V1.d (cap j)) lb := by
    refine .map_left (All2.of_get (by simp [hl]) fun j q y hx hy => ?_)
    have hj : j < m := by have := (List.getElem?_eq_some_iff.1 hx).1; simpa using this
    rw [List.getElem?_range hj] at hx
    cases hx
    obtain ⟨u, hu, hr⟩ := hcap j hj
    rw [hy] at hu; cases hu
    exact Rep.keep (x := cap j) (fun b hb => ⟨hb, hW.block b (hok b hb)⟩) hr
  let cx : Cx := ⟨W, ok, fn.ntmps, fun _ => False, fun _ _ => False, 0, false, some 0, true⟩
  let a : Act := { tmps := vs.toArray ++ Array.replicate (fn.ntmps - vs.toArray.size) undef, defers := [] }
  have hsize : a.tmps.size = fn.ntmps := by simp [a, vs, hl]; omega
  have hcx : Fam fn.ntmps xs B Q J Jx cx := ⟨rfl, rfl, rfl, rfl, rfl, by simpa using h0, Nat.zero_le _, fun b hb hw => (hOw b ((hBs b).1 hw)).2 hb, fun k hk => Nat.lt_of_lt_of_le (hOw k ((hBs k).1 hk)).1 hW.size⟩
  let sl0 : List (Nat × AV) := (G, .gho (some 0)) :: (0, .yl l) :: argSlots 1 ((List.range m).map fun j => .d (cap j))
  have lk : ∀ t x, look sl0 t = some x -> x.refs = [] /\ M W (okOf cx (St.of sl0 []) (fun _ => undef) W) (fun _ => undef) x (a.tmps.getD t undef) /\ (∀ q, x = .gho q -> q = some 0) := fun t x hx => by
    simp only [sl0, look] at hx
    cases hb1 : Nat.beq t G with
    | true =>
      rw [hb1] at hx; cases hx
      have := Nat.eq_of_beq_eq_true hb1
      subst this
      refine ⟨rfl, ?_, fun q e => by cases e; rfl⟩
      show a.tmps.getD G undef = undef
      rw [Array.getD_eq_getD_getElem?, Array.getElem?_eq_none (by rw [hsize]; exact hng)]; rfl
    | false =>
      rw [hb1] at hx
      simp only [cond_false] at hx
      cases hb2 : Nat.beq t 0 with
      | true =>
        rw [hb2] at hx; cases hx
        have := Nat.eq_of_beq_eq_true hb2
        subst this
        refine ⟨rfl, ?_, fun q e => by cases e⟩
        exact zaE (vs := vs) (N := fn.ntmps) (j := 0) rfl
      | false =>
        rw [hb2] at hx
        obtain ⟨j, u, y, g1, g2, g3, g4⟩ := zaq (ok := ok) _ lb 1 t hargs x hx
        subst g3
        refine ⟨zba y, ?_, fun q e => ?_⟩
        · have := zaE (vs := vs) (N := fn.ntmps) (j := t) (u := u) (by rw [g1, Nat.add_comm]; exact g2)
          rw [show a.tmps.getD t undef = u from this]
          exact zdC.2 (zbj (fun b hb => .inl hb) g4)
        · cases y with
          | d z => cases z <;> cases e
          | agg z => cases e
  have hR0 : R cx (St.of sl0 []) a W := ⟨fun _ => undef,
    { defers := ⟨fun _ => rfl, [], rfl, List.nodup_nil, fun D hD => by cases hD⟩
      size := hsize
      okA := fun b hb => ⟨Nat.lt_of_lt_of_le (hok b hb) hW.size, id⟩
      lent := fun b hb => hb.elim
      below := ⟨rfl, rfl, rfl, fun _ => Nat.le_refl _, Nat.le_refl _, fun _ _ _ => rfl⟩
      hold := fun k o hk => hk.elim
      least := Nat.zero_le _
      objs := fun i o hi => by cases hi
      refs := fun i cs hi => by cases hi
      sep := fun i j o o' hi => by cases hi
      slots := fun t => by
        show M W _ _ ((look sl0 t).getD .any) _
        cases hx : look sl0 t with
        | none => exact trivial
        | some x => exact (lk t x hx).2.1
      srefs := fun t j hj => by
        have hj' : j ∈ ((look sl0 t).getD .any).refs := hj
        cases hx : look sl0 t with
        | none => rw [hx] at hj'; cases hj'
        | some x => rw [hx] at hj'; rw [show (some x).getD .any = x from rfl, (lk t x hx).1] at hj'; cases hj'
      gho := fun q hq => by
        have hq' : (look sl0 G).getD .any = .gho q := hq
        cases hx : look sl0 G with
        | none => rw [hx] at hq'; cases hq'
        | some x => rw [hx] at hq'; exact ((lk G x hx).2.2 q hq').symm
      ng := hng }⟩
  rw [hvs]
  refine zcD (n := 0) (callsIn_of_wp_marks hf hb trivial ?_)
  refine zbc (Fm := Fam fn.ntmps xs B Q J Jx) (N := fn.ntmps) hT hE (fun c hc => hc.1) (fun c hc hd => by rw [hc.2.2.2.1] at hd; cases hd) (ylaw hng henc rfl (fun n vs h => h) hJ hJx hY) (.inl rfl) (fun _ _ _ => rfl) (fun c hc => .inl rfl) hm c hN (fun x s a w' hR hk => ?_) ⟨cx, hcx, hR0⟩ (h l)
  have fin : (s.sl G = .gho (some xs.length) \/ s.sl G = .gho none) -> LeavesInM Fence.wide 0 P fn a.tmps (fun e W' => (∃ v, e = .returned v) /\ ((∃ ys, ys = xs /\ J ys W') \/ (∃ pre, pre <+: xs /\ Jx pre W'))) a.defers .returning w' := fun hk => by
    obtain ⟨cx', ⟨f1, f2, f3, f4, f5, f7⟩, γ, hg⟩ := hR
    rw [hg.defers.1 f5]
    refine ⟨_, za5 (P := P) (fn := fn) (a := a) (w := w') (vs := []) (by rw [hres]; rfl), ⟨_, rfl⟩, ?_⟩
    have hgr := zcw hg.below f2
    rcases hk with hk | hk
    · rw [hg.gho _ hk] at f7
      obtain ⟨j1, _⟩ := f7
      rw [List.take_length] at j1
      exact .inl ⟨xs, rfl, hJ _ _ _ none j1 hgr (fun r e => by cases e)⟩
    · rw [hg.gho _ hk] at f7
      obtain ⟨n, _, j1⟩ := f7
      exact .inr ⟨xs.take n, List.take_prefix n xs, hJx _ _ _ none j1 hgr (fun r e => by cases e)⟩
  cases x with
  | normal => exact fin hk
  | ret => exact fin hk
  | _ => exact hk.elim
end Go.Pg
