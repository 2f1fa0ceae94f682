/-
  One operation, whatever its kind; a plain region. For every program.
-/
import Derived.Test.YtlmljmgappiehaaPgL
set_option linter.all false
namespace Go.Pg
open Go.RowKit
section
variable {P : Program} {T : TT} {E : Env} {cx : Cx} {γ : Nat → Value} {s : St} {a : Act} {w : World}

theorem nil_own (h : RG cx γ s a w) {d e k : Nat} (hd : d < cx.N) : R cx (mk s d (.row e k 0 fun _ _ => dflt) (.own d)) (a.put (some d) (.slice none 0 0)) w :=
  ⟨upd γ d (.slice none 0 0), mk_ok h hd (Below.refl _ _) (fun _ => Nat.le_refl _) (fun b hb => by simp [blk] at hb) (fun ok hok => ⟨[], by rw [upd_same]; exact World.ownsRow_nil w _ e k, (fun b hb => by rw [upd_same] at hb; cases hb), by simp, fun m hm => absurd hm (Nat.not_lt_zero _)⟩) (fun cs e => by cases e) (fun _ => by show _ = upd γ d _ d; simp) (fun j hj => by simpa [AV.refs] using hj)⟩

theorem zeros_m {ok : Nat → Prop} {γ : Nat → Value} : ∀ {zs : List Value}, zs.all (·.oneCell') = true → All2 (fun c v => M w ok γ c v ∧ v.oneCell' = true) (zs.map cv) zs
  | [], _ => .nil
  | z :: zs, h => by
    simp only [List.all_cons, Bool.and_eq_true] at h
    exact .cons ⟨(cv_m z).1, h.1⟩ (zeros_m h.2)

theorem new_box (h : RG cx γ s a w) {d : Nat} {t : TypeId} {cs : List AV} {vs : List Value} (hd : d < cx.N) (hcs : ∀ (ok : Nat → Prop) (γ' : Nat → Value) (w' : World), (∀ b, okOf cx s γ w b → ok b ∧ w'.heap[b]? = w.heap[b]?) → All2 (fun c v => M w' ok γ' c v ∧ v.oneCell' = true) cs vs) (hr : ∀ c ∈ cs, c.refs = []) :
    R cx (mk s d (.box cs) (.box d 0)) (a.put (some d) (.pointer (some ⟨w.heap.size, 0, none⟩))) (w.alloc (.cells vs.toArray t)) :=
  ⟨upd γ d (.pointer (some ⟨w.heap.size, 0, none⟩)), mk_ok h hd (below_alloc w _) (fun _ => Nat.le_refl _) (fun b hb => by simp [blk] at hb; omega)
    (fun ok hok => ⟨w.heap.size, vs, t, by rw [upd_same], .inl h.below.size, heap_alloc_new w _, hcs ok _ _ hok⟩) (fun cs' e => by cases e; exact hr) (fun _ => ⟨w.heap.size, by rw [upd_same], rfl⟩) (fun j hj => by simpa [AV.refs] using hj)⟩

variable (hT : ∀ t i, T t = some i → TI.of P t = some i) (hE : ∀ t, E.eq t = true → EqFact P t)
include hT hE
variable (hD : cx.dr = true → E.dr = true)
include hD

theorem callSt_ok (h : RG cx γ s a w) {o : Oper} {fo : Operand} {args : Array Operand} {at' : Array TypeId} (hop : o.op = .call { callee := .value fo, args, argTypes := at' }) (hd : ∀ d, o.dst = some d → d < cx.N) {K : St → Prop}
    (hc : CallSt E P s o fo args.toList K) (hny : ¬ YieldOb E s o fo args.toList K) : OpOK P o a w fun a' w' => ∃ s', R cx s' a' w' ∧ K s' := by
  simp only [CallSt_iff] at hc
  rcases hc with ⟨ids, f, ex, hcal, hc⟩ | ⟨ids, f, ex, d, hcal, hdst, hc⟩ | ⟨s', hc, hK⟩ | hc
  · obtain ⟨γ', h'⟩ := R.freezes ids ⟨γ, h⟩
    obtain ⟨cvs, hx, hcm⟩ := callee_m hcal (ev_m h' fo).1
    obtain ⟨hent, hcall⟩ := call_ok h' hD (o := o) ((evs_m h' args.toList).append hcm) hd hc
    exact .enter (enter_run hop hx hent) (hcall.mono fun e w' ⟨v, h1, u, h2, h3⟩ => ⟨v, h1, _, ⟨γ', h2⟩, h3⟩)
  · obtain ⟨γ', h'⟩ := R.freezes ids ⟨γ, h⟩
    obtain ⟨cvs, hx, hcm⟩ := callee_m hcal (ev_m h' fo).1
    obtain ⟨hent, hcall⟩ := own_call h' hdst hD ((evs_m h' args.toList).append hcm) (hd d hdst) hc
    exact .enter (enter_run hop hx hent) (hcall.mono fun e w' ⟨v, h1, ob, h2, h3⟩ => ⟨v, h1, _, h2, h3⟩)
  · simp only [Custom_iff] at hc
    exact (hc cx a w hD hd ⟨γ, h⟩).mono fun a' w' h' => ⟨s', h', hK⟩
  · exact absurd hc hny

theorem stE_old (h0 : R cx s a w) {o : Oper} (hd : ∀ d, o.dst = some d → d < cx.N) {K : St → Prop} (hny : ∀ fo args at', o.op = .call { callee := .value fo, args, argTypes := at' } → ¬ YieldOb E s o fo args.toList K) (hl : stE P T E s o K) : OpOK P o a w fun a' w' => ∃ s', R cx s' a' w' ∧ K s' := by
  obtain ⟨γ, h⟩ := h0
  have plain : ∀ {s : St} {γ : Nat → Value}, RG cx γ s a w → (opE P T E s o.op fun v => K (s.putO o.dst v)) → OpOK P o a w fun a' w' => ∃ s', R cx s' a' w' ∧ K s' := fun {s γ} h he =>
    (opE_ok hT hE hD h hd he).mono fun a' w' ⟨v, h1, h2⟩ => ⟨_, ⟨γ, h1⟩, h2⟩
  have cust : (∃ s', Custom E.dr P s o s' ∧ K s') → OpOK P o a w fun a' w' => ∃ s', R cx s' a' w' ∧ K s' := fun ⟨s', hc, hK⟩ => by
    simp only [Custom_iff] at hc
    exact (hc cx a w hD hd ⟨γ, h⟩).mono fun a' w' h' => ⟨s', h', hK⟩
  obtain ⟨dst, op, type, pos, after, guard⟩ := o
  cases op with
  | alloc t =>
    simp only [stE] at hl
    cases dst with
    | none => simp at hl
    | some d =>
      cases ht : T t with
      | none => simp [ht] at hl
      | some ti =>
        simp only [ht] at hl
        cases hb : ti.zero.all (·.oneCell') with
        | false => simp [hb] at hl
        | true =>
          simp only [hb, cond_true] at hl
          obtain ⟨info, ds, z, hi, hds, hz, _, _, _, hzc, _⟩ := ti_facts (hT t _ ht)
          refine .value (x := .pointer (some ⟨w.heap.size, 0, none⟩)) (w' := w.alloc (.cells ti.zero.toArray t)) ?_ ⟨_, new_box h (vs := ti.zero) (t := t) (hd d rfl) (fun ok γ' w' _ => zeros_m hb) (fun c hc => by obtain ⟨v, _, rfl⟩ := List.mem_map.1 hc; exact (cv_m (w := w) (ok := fun _ => True) (γ := γ) v).2), hl⟩
          have hzero : (zeroValue t).run P w = .ok z w := by simp [zeroValue, typeInfo, hi, hz]
          have hzv : z.cells = ti.zero.toArray := by rw [← hzc]
          simp only [execOp, Instr.alloc, Sem.run_bind, hzero, Result.andThen_ok, newVar, newRow, run_newObj, Sem.run_pure, hzv]
          rfl
  | box t x =>
    simp only [stE] at hl
    cases dst with
    | none => simp at hl
    | some d =>
      cases ht : T t with
      | none => simp [ht] at hl
      | some ti =>
        cases hc : cellsA (ev s x) with
        | none => simp [ht, hc] at hl
        | some cs =>
          simp only [ht, hc] at hl
          cases hb : (Nat.beq cs.length ti.size && cs.all fun c => c.refs.isEmpty) with
          | false => simp [hb] at hl
          | true =>
            simp only [hb, cond_true] at hl
            simp only [Bool.and_eq_true] at hb
            have hx := ev_m h x
            have hrefs : ∀ c ∈ cs, c.refs = [] := fun c hc => by have := List.all_eq_true.1 hb.2 c hc; simpa using this
            obtain ⟨hm, _⟩ := cellsA_m hc hx.1 fun j e => by
              exfalso
              rw [e] at hc
              simp only [cellsA, Option.some.injEq] at hc
              have := hrefs (.own j) (by rw [← hc]; simp)
              simp [AV.refs] at this
            refine .value (x := .pointer (some ⟨w.heap.size, 0, none⟩)) (w' := w.alloc (.cells (a.eval x).cells.toList.toArray t)) ?_ ⟨_, new_box h (t := t) (vs := (a.eval x).cells.toList) (hd d rfl) (fun ok γ' w' hok => hm.imp fun c v hc' ⟨p1, p2⟩ => ⟨p1.keep hok (fun j hj => (by rw [hrefs c hc'] at hj; cases hj)), p2⟩) hrefs, hl⟩
            simp only [execOp, Instr.box, Sem.run_bind, newVar, newRow, run_newObj, Result.andThen_ok, Sem.run_pure, Array.toArray_toList]
            rfl
  | store t x y =>
    simp only [stE] at hl
    cases dst with
    | some d => simp at hl
    | none =>
      obtain ⟨w', s', h1, h2, h3⟩ := storeE_ok hT h (ev_m h x).1 (ev_m h y).1 (ev_m h y).2 hl
      exact .skip (w' := w') (by simp [execOp, h1]) ⟨s', ⟨γ, h2⟩, h3⟩
  | buildSlice t len parts =>
    simp only [stE] at hl
    cases dst with
    | none => simp at hl
    | some d =>
      obtain ⟨e, ei, f, xs, hK, h1, h2, h3, h4, h5, h6⟩ := buildSliceE_ok hT h hl
      refine .value (x := .slice (some ⟨w.heap.size, 0, none⟩) len len) (w' := w.alloc (.cells xs.toArray e)) (by simp [execOp, h1]) ⟨_, ⟨upd γ d (.slice (some ⟨w.heap.size, 0, none⟩) len len), ?_⟩, hK⟩
      refine mk_ok h (hd d rfl) (below_alloc w _) (fun _ => Nat.le_refl _) (fun b hb => by simp [blk] at hb; omega) (fun ok hok => ⟨xs, ⟨h2, .inr ⟨w.heap.size, len, xs.toArray, by rw [upd_same], Nat.zero_le _, heap_alloc_new w _, Nat.le_refl _, by simp only [maxLen]; omega, by simp [h2], by rw [← h2]; simp⟩⟩, (fun b hb => by rw [upd_same] at hb; simp [blk] at hb; subst hb; exact .inl h.below.size), h5, fun m hm j hj => ?_⟩) (fun cs e => by cases e) (fun _ => by show _ = upd γ d _ d; simp) (fun j hj => by simpa [AV.refs] using hj)
      obtain ⟨u, hu, hr⟩ := h6 m hm j hj
      exact ⟨u, hu, Rep.keep hok hr⟩
  | assign x =>
    simp only [stE] at hl
    cases hn : isNilOp x with
    | false => simp only [hn] at hl; exact plain h hl
    | true =>
      cases dst with
      | none => simp only [hn] at hl; exact plain h hl
      | some d =>
        cases hs : isSl T type with
        | false => simp only [hn, hs] at hl; exact plain h hl
        | true =>
          simp only [hn, hs] at hl
          unfold isSl at hs
          cases ht : T type with
          | none => simp [ht] at hs
          | some ti =>
            obtain ⟨size, ag, bytes, zero, kind⟩ := ti
            cases kind with
            | slice e =>
              simp only [ht] at hl
              cases he : T e with
              | none => simp [he] at hl
              | some ei =>
                simp only [he] at hl
                have hxv : a.eval x = .slice none 0 0 := by
                  cases x with
                  | const v => exact isNil_eq hn
                  | _ => simp [isNilOp] at hn
                exact .value (x := .slice none 0 0) (w' := w) (by simp [execOp, hxv]) ⟨_, nil_own h (hd d rfl), hl⟩
            | _ => simp [ht] at hs
  | slice t x lo hi mx =>
    cases lo with
    | some l => exact plain h hl
    | none =>
      cases hi with
      | none => exact plain h hl
      | some hv =>
        cases mx with
        | some m => exact plain h hl
        | none =>
          simp only [stE] at hl
          cases hx : ev s x with
          | own i =>
            cases hh : ev s hv with
            | d p =>
              cases p with
              | int kh ih =>
                simp only [hx, hh] at hl
                cases ho : s.ob i with
                | none => simp [ho] at hl
                | some ob =>
                  cases ob with
                  | box cs => simp [ho] at hl
                  | row e k n f =>
                    cases hel : hasEl T t with
                    | false => simp [ho, hel] at hl
                    | true =>
                      simp only [ho, hel] at hl
                      obtain ⟨⟨hh0, hhn⟩, hK⟩ := hl
                      unfold hasEl at hel
                      cases ht : T t with
                      | none => simp [ht] at hel
                      | some ti =>
                        obtain ⟨size, ag, bytes, zero, kind⟩ := ti
                        cases kind with
                        | slice e' =>
                          simp only [ht] at hel
                          cases he : T e' with
                          | none => simp [he] at hel
                          | some ei =>
                            have hund := slice_parts hT ht
                            have hxv : a.eval x = γ i := by have := (ev_m h x).1; rw [hx] at this; exact this
                            have hhv : a.eval hv = .int kh ih := by have := (ev_m h hv).1; rw [hh] at this; exact this
                            obtain ⟨xs, hown, hO, hone, hrep⟩ := h.objs i _ ho
                            have small : ∀ m, m < ih.toNat → ∀ j, j < k → m * k + j < ih.toNat * k := fun m hm j hj => by
                              have : (m + 1) * k ≤ ih.toNat * k := Nat.mul_le_mul_right _ hm
                              rw [Nat.add_mul] at this; omega
                            have hle : ih.toNat * k ≤ n * k := Nat.mul_le_mul_right _ (by omega)
                            have hsub : ∀ (ok : Nat → Prop), (∀ b, okOf cx s γ w b → ok b ∧ w.heap[b]? = w.heap[b]?) → (∀ u ∈ xs.take (ih.toNat * k), u.oneCell' = true) ∧ ∀ m, m < ih.toNat → ∀ j, j < k → ∃ u, (xs.take (ih.toNat * k))[m * k + j]? = some u ∧ Rep w ok (f m j) u := fun ok hok =>
                              ⟨fun u hu => hone u (List.mem_of_mem_take hu), fun m hm j hj => by
                                obtain ⟨u, hu, hr⟩ := hrep m (by omega) j hj
                                exact ⟨u, by rw [List.getElem?_take, if_pos (small m hm j hj)]; exact hu, Rep.keep hok hr⟩⟩
                            rcases hown.2 with ⟨e1, e2⟩ | ⟨g, cap, cur, e1, e2, e3, e4, e5, e6, e7⟩
                            · have h0 : ih.toNat = 0 := by omega
                              refine .value (x := .slice none 0 0) (w' := w) ?_ ⟨_, remk_ok (o' := .row e k ih.toNat f) h ho hd ⟨rfl, rfl, rfl, Nat.le_refl _, fun _ _ _ => rfl⟩ (fun _ => Nat.le_refl _) (fun b hb => by simp [blk] at hb) (fun ok hok => ⟨[], by rw [upd_same, h0]; exact World.ownsRow_nil w _ e k, (fun b hb => by rw [upd_same] at hb; cases hb), by simp, fun m hm => by omega⟩) (fun cs e => by cases e), hK⟩
                              have hih : ih = 0 := by omega
                              subst hih
                              subst e2
                              simp [execOp, hxv, e1, hhv, Instr.sliceAt, Instr.slice, run_underlying hund, Instr.sliceBounds, Instr.sliceBound, asIntOf, run_sizeOf' (hT _ _ he)]
                            · refine .value (x := .slice (some ⟨g, 0, none⟩) ih.toNat cap) (w' := w) ?_ ⟨_, remk_ok (o' := .row e k ih.toNat f) h ho hd ⟨rfl, rfl, rfl, Nat.le_refl _, fun _ _ _ => rfl⟩ (fun _ => Nat.le_refl _) (fun b hb => .inl (by rw [e1]; exact hb)) (fun ok hok => ⟨xs.take (ih.toNat * k), ⟨by rw [List.length_take, hown.1]; omega, .inr ⟨g, cap, cur, by rw [upd_same], e2, e3, by omega, e5, e6, by rw [← e7, List.take_take]; congr 1; omega⟩⟩, (fun b hb => by rw [upd_same] at hb; exact hO b (by rw [e1]; exact hb)), hsub ok hok⟩) (fun cs e => by cases e), hK⟩
                              have hb : (0 : Int) ≤ ih ∧ ih ≤ (cap : Int) := ⟨hh0, by omega⟩
                              have hadd : ∀ q : Nat, (⟨g, 0, none⟩ : Addr).add (0 * q) = ⟨g, 0, none⟩ := fun q => by simp [Addr.add]
                              simp [execOp, hxv, e1, hhv, Instr.sliceAt, Instr.slice, run_underlying hund, Instr.sliceBounds, Instr.sliceBound, asIntOf, hb, run_sizeOf' (hT _ _ he), hadd, Addr.add]
                        | _ => simp [ht] at hel
              | _ => simp only [hx, hh] at hl; exact plain h hl
            | _ => simp only [hx, hh] at hl; exact plain h hl
          | _ => simp only [hx] at hl; exact plain h hl
  | build t parts =>
    simp only [stE] at hl
    obtain ⟨γ', h'⟩ := R.freezes (ownIds (parts.toList.map fun p => ev s p.2)) ⟨γ, h⟩
    exact plain h' hl
  | call c =>
    obtain ⟨callee, args, argTypes⟩ := c
    cases callee with
    | value f =>
      simp only [stE] at hl
      exact callSt_ok hT hE hD h rfl hd hl (hny _ _ _ rfl)
    | invoke r m => exact cust hl
    | builtin b =>
      cases b with
      | append =>
        simp only [stE] at hl
        cases ha : args.toList with
        | nil => simp [ha] at hl
        | cons x r =>
          cases r with
          | nil => simp [ha] at hl
          | cons y r =>
            cases r with
            | cons z r => simp [ha] at hl
            | nil =>
              cases hat : argTypes.toList with
              | nil => simp [ha, hat] at hl
              | cons t r =>
                cases r with
                | nil => simp [ha, hat] at hl
                | cons t' r =>
                  cases r with
                  | cons z r => simp [ha, hat] at hl
                  | nil =>
                    simp only [ha, hat] at hl
                    cases hb : Nat.beq t t' with
                    | false => simp [hb] at hl
                    | true =>
                      simp only [hb, cond_true] at hl
                      have := Nat.eq_of_beq_eq_true hb
                      subst this
                      have h1 : args = #[x, y] := by rw [← Array.toArray_toList (xs := args), ha]
                      have h2 : argTypes = #[t, t] := by rw [← Array.toArray_toList (xs := argTypes), hat]
                      subst h1; subst h2
                      exact appendE_ok hT h rfl hd hl
      | len => exact plain h hl
      | max => exact plain h hl
      | min => exact plain h hl
      | clear =>
        simp only [stE] at hl
        cases ha : args.toList with
        | nil => simp [ha] at hl
        | cons x r =>
          cases r with
          | cons y r => simp [ha] at hl
          | nil =>
            cases hat : argTypes.toList with
            | nil => simp [ha, hat] at hl
            | cons t r =>
              cases r with
              | cons t' r => simp [ha, hat] at hl
              | nil =>
                cases dst with
                | some d => simp [ha, hat] at hl
                | none =>
                  simp only [ha, hat] at hl
                  have h1 : args = #[x] := by rw [← Array.toArray_toList (xs := args), ha]
                  have h2 : argTypes = #[t] := by rw [← Array.toArray_toList (xs := argTypes), hat]
                  subst h1; subst h2
                  obtain ⟨w', s', h3, h4, h5⟩ := clearE_ok hT h (ty := type) (ev_m h x).1 hl
                  exact .value (x := .tuple #[]) (w' := w') (by simp [execOp, resolve, invoke, builtin, h3]) ⟨s', ⟨γ, h4⟩, h5⟩
      | _ => exact cust hl
  | binOp op t x y yt =>
    simp only [stE] at hl
    cases hq : nilQ T op t (ev s x) (ev s y) with
    | none => simp only [hq] at hl; exact plain h hl
    | some un =>
      obtain ⟨u, n⟩ := un
      simp only [hq] at hl
      have shape : isSl T t = true ∧ (∃ k f, ev s x = .d (.slc k n f)) ∧ ev s y = .nilsl ∧ ((op = .eql ∧ u = true) ∨ (op = .neq ∧ u = false)) := by
        unfold nilQ at hq
        split at hq
        · rename_i q1 q2 q3; simp at hq; obtain ⟨rfl, rfl⟩ := hq; exact ⟨q1, ⟨_, _, q2⟩, q3, .inl ⟨rfl, rfl⟩⟩
        · rename_i q1 q2 q3; simp at hq; obtain ⟨rfl, rfl⟩ := hq; exact ⟨q1, ⟨_, _, q2⟩, q3, .inr ⟨rfl, rfl⟩⟩
        · cases hq
      obtain ⟨hs, ⟨k, f, hx⟩, hy, hop⟩ := shape
      obtain ⟨e, hund⟩ := und_sl hT hs
      have hmx := (ev_m h x).1
      rw [hx] at hmx
      have hmy := (ev_m h y).1
      rw [hy] at hmy
      have hyv : a.eval y = .slice none 0 0 := hmy
      have put : ∀ (b : Bool), RG cx γ (s.putO dst (.d (.bool b))) (a.put dst (.bool b)) w := fun b => by
        cases dst with
        | none => exact h
        | some d => exact h.put (hd d rfl) rfl (fun j hj => by simp [AV.refs] at hj)
      have shp : ∃ ad n' c, a.eval x = .slice ad n' c ∧ (ad = none → n = 0) := by
        rcases hmx with ⟨h1, h2⟩ | ⟨ad, c, h1, _⟩
        · exact ⟨none, 0, 0, h1, fun _ => h2⟩
        · exact ⟨some ad, n, c, h1, fun e => by cases e⟩
      obtain ⟨ad, n', c, hxv, hnil⟩ := shp
      rcases hop with ⟨rfl, rfl⟩ | ⟨rfl, rfl⟩
      · refine .value (x := .bool ad.isNone) (w' := w) ?_ ⟨_, ⟨γ, put _⟩, hl ad.isNone fun e => hnil (by simpa using e)⟩
        have := Go.run_eql_slice_nil (P := P) w t e ad n' c hund
        simp [execOp, hxv, hyv, eqGuard, this]
      · refine .value (x := .bool (!ad.isNone)) (w' := w) ?_ ⟨_, ⟨γ, put _⟩, hl (!ad.isNone) fun e => hnil (by simpa using e)⟩
        have := Go.run_neq_slice_nil (P := P) w t e ad n' c hund
        simp [execOp, hxv, hyv, eqGuard, this]
  | _ => exact plain h hl
/-- What a call of yield does, in a family of frames. -/
def YLaw (Fm : Cx → Prop) (P : Program) (E : Env) : Prop :=
  ∀ cx, Fm cx → ∀ n, cx.gn = some n → ∀ (γ : Nat → Value) (sl : List (Nat × AV)) (a : Act) (w : World) (vs : List V1) (us : List Value), look sl G = none → RG cx γ (St.of sl []) a w → E.yd n vs → All2 (Rep1 w (okOf cx (St.of sl []) γ w)) vs us →
    YieldAt Fence.wide 0 P E.l us.toArray w fun e w' =>
      (e = .returned (.bool true) ∧ ∃ cx', Fm cx' ∧ RG cx' γ (St.of ((G, .gho (some (n + 1))) :: sl) []) a w') ∨ (e = .returned (.bool false) ∧ ∃ cx', Fm cx' ∧ RG cx' γ (St.of ((G, .gho none) :: stillS sl) []) a w')
omit hT hE hD in
theorem YLaw.none {cx : Cx} (h : cx.gn = .none) : YLaw (· = cx) P E := fun c hc n hn => by subst hc; rw [h] at hn; cases hn
omit hT hE hD in
theorem yield_ok {Fm : Cx → Prop} {N : Nat} (hNf : ∀ cx, Fm cx → cx.N = N) (hY : YLaw Fm P E) (hcx : Fm cx) (h : RG cx γ s a w) {o : Oper} {fo : Operand} {args : Array Operand} {at' : Array TypeId} (hop : o.op = .call { callee := .value fo, args, argTypes := at' }) (hd : ∀ d, o.dst = some d → d < cx.N) {K : St → Prop}
    (hy : YieldOb E s o fo args.toList K) : OpOK P o a w fun a' w' => ∃ s', RF Fm s' a' w' ∧ K s' := by
  obtain ⟨n, d, sl, vs, hdst, hf, hg, hG, hw, hvs, hno, hyd, k1, k2⟩ := hy.out
  obtain ⟨us, hus⟩ : ∃ us : List Value, us = args.toList.map a.eval := ⟨_, rfl⟩
  have hm := (toV1s_m h hvs (evs_m h args.toList)).2 hno
  rw [← hus] at hm
  have hfo := (ev_m h fo).1
  rw [hf] at hfo
  have hfo : a.eval fo = .func (.yield E.l) #[] #[] := hfo
  obtain ⟨γ', h'⟩ := R.weak ⟨γ, h⟩ hw
  have hok : ∀ b, okOf cx s γ w b → okOf cx (St.of sl []) γ' w b := fun b hb => by
    rcases hb with h1 | ⟨h1, h2, h3⟩
    · exact .inl h1
    · exact .inr ⟨h1, h2, fun i o hi => by cases hi⟩
  obtain ⟨fn, tmps, asg, body, hrun, hround⟩ := hY cx hcx n (h.gho _ hg) γ' sl a w vs us hG h' hyd (hm.imp fun _ _ _ hr => Rep1.keep (fun b hb => ⟨hok b hb, rfl⟩) hr)
  refine .round (l := E.l) (fn := fn) (tmps := tmps) (asg := asg) (body := body) ?_ (roundIn_mono hround ?_)
  · have he : args.map a.eval = us.toArray := by rw [hus, ← Array.toList_map]
    simp [execOp, hop, resolve, hfo, Deferred.ofValue, invoke, he, hrun]
  · rintro e w' (⟨rfl, cx', hc', hr⟩ | ⟨rfl, cx', hc', hr⟩)
    · refine ⟨_, rfl, _, ⟨cx', hc', γ', ?_⟩, k1⟩
      rw [hdst]
      exact hr.put (by rw [hNf _ hc', ← hNf _ hcx]; exact hd d hdst) rfl (fun j hj => by simp [AV.refs] at hj)
    · refine ⟨_, rfl, _, ⟨cx', hc', γ', ?_⟩, k2⟩
      rw [hdst]
      exact hr.put (by rw [hNf _ hc', ← hNf _ hcx]; exact hd d hdst) rfl (fun j hj => by simp [AV.refs] at hj)
omit hD in
theorem stE_ok {Fm : Cx → Prop} {N : Nat} (hNf : ∀ cx, Fm cx → cx.N = N) (hDf : ∀ cx, Fm cx → cx.dr = true → E.dr = true) (hY : YLaw Fm P E) (h0 : RF Fm s a w) {o : Oper} (hd : ∀ d, o.dst = some d → d < N) {K : St → Prop} (hl : stE P T E s o K) : OpOK P o a w fun a' w' => ∃ s', RF Fm s' a' w' ∧ K s' := by
  obtain ⟨cx, hcx, γ, h⟩ := h0
  have hd' : ∀ d, o.dst = some d → d < cx.N := by rw [hNf cx hcx]; exact hd
  by_cases hy : ∃ fo args at', o.op = .call { callee := .value fo, args, argTypes := at' } ∧ YieldOb E s o fo args.toList K
  · obtain ⟨fo, args, at', hop, hy⟩ := hy
    exact yield_ok hNf hY hcx h hop hd' hy
  · exact (stE_old hT hE (hDf cx hcx) ⟨γ, h⟩ hd' (fun fo args at' hop hyy => hy ⟨fo, args, at', hop, hyy⟩) hl).mono fun a' w' ⟨s', h1, h2⟩ => ⟨s', ⟨cx, hcx, h1⟩, h2⟩
end
end Go.Pg
