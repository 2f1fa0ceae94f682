/-
  The operations that change nothing, second part: addresses, arithmetic, parts, slices, lengths. For every program.
-/
import Derived.Test.YtlmljmgappiehaaPgF
set_option linter.all false
namespace Go.Pg
open Go.RowKit
section
variable {P : Program} {T : TT} {E : Env} {cx : Cx} {γ : Nat → Value} {s : St} {a : Act} {w : World}

theorem addOffP_m {ok : Nat → Prop} {γ : Nat → Value} {off : Nat} {v v' : AV} {x : Value} (h : addOffP off v = some v') (hm : M w ok γ v x) : ∃ ad : Addr, x = .pointer (some ad) ∧ M w ok γ v' (.pointer (some (ad.add off))) ∧ v'.refs = v.refs := by
  cases v with
  | box i o =>
    simp only [addOffP, Option.some.injEq] at h; subst h
    obtain ⟨b, h1, rfl⟩ := hm
    exact ⟨_, rfl, ⟨b, h1, by rw [add_lit']⟩, rfl⟩
  | roe m g =>
    simp only [addOffP] at h
    cases hb : Nat.ble off m with
    | false => simp [hb] at h
    | true =>
      simp only [hb, cond_true, Option.some.injEq] at h; subst h
      have hle := Nat.le_of_ble_eq_true hb
      obtain ⟨ad, rfl, hc⟩ := hm
      refine ⟨ad, rfl, ⟨_, rfl, fun j hj => ?_⟩, rfl⟩
      obtain ⟨h1, u, h2, h3⟩ := hc (off + j) (by omega)
      exact ⟨by rw [add_block]; exact h1, u, by rw [add_add']; exact h2, h3⟩
  | elt i k n c =>
    simp only [addOffP, Option.some.injEq] at h; subst h
    obtain ⟨g, len, cap, h1, rfl⟩ := hm
    exact ⟨_, rfl, ⟨g, len, cap, h1, by rw [add_lit', Nat.add_assoc]⟩, rfl⟩
  | _ => simp [addOffP] at h

theorem addOff_m {ok : Nat → Prop} {γ : Nat → Value} {off : Nat} {v v' : AV} {x : Value} (h : addOff off v = some v') (hm : M w ok γ v x) : ∃ ad : Addr, x = .pointer (some ad) ∧ M w ok γ v' (.pointer (some (ad.add off))) ∧ v'.refs = v.refs := by
  rw [← asPtr_refs v]; exact addOffP_m h (asPtr_m hm)
theorem TK.of_struct {d : TypeDesc} {fs : List (Nat × Nat)} (h : TK.of d = .struct fs) : ∃ F, d = .struct F ∧ fs = F.toList.map fun f => (f.offset, f.type) := by
  cases d <;> simp [TK.of] at h
  exact ⟨_, rfl, h.symm⟩
theorem TK.of_slice {d : TypeDesc} {e : Nat} (h : TK.of d = .slice e) : d = .slice e := by cases d <;> simp [TK.of] at h; subst h; rfl
theorem TK.of_array {d : TypeDesc} {n e : Nat} (h : TK.of d = .array n e) : d = .array n e := by cases d <;> simp [TK.of] at h; obtain ⟨rfl, rfl⟩ := h; rfl
theorem TK.of_bool {d : TypeDesc} (h : TK.of d = .bool) : d = .bool := by cases d <;> simp [TK.of] at h; rfl
theorem TK.of_int {d : TypeDesc} {k : IntKind} (h : TK.of d = .int k) : d = .int k := by cases d <;> simp [TK.of] at h; subst h; rfl

variable (hT : ∀ t i, T t = some i → TI.of P t = some i)
include hT

theorem fieldAddrE_sound (h : RG cx γ s a w) {st fld : Nat} {v : AV} {x : Value} (hm : M w (okOf cx s γ w) γ v x) (hr : ∀ j ∈ v.refs, (s.ob j).isSome = true) {K : AV → Prop} (hl : fieldAddrE T st fld v K) :
    Yd P cx γ s w (Instr.fieldAt st x fld) K := by
  unfold fieldAddrE at hl
  cases hst : T st with
  | none => simp [hst] at hl
  | some ti =>
    obtain ⟨size, ag, bytes, zero, kind⟩ := ti
    cases kind with
    | struct fs =>
      simp only [hst] at hl
      obtain ⟨info, d, z, _, hd, _, _, _, _, _, hk⟩ := ti_facts (hT st _ hst)
      obtain ⟨F, rfl, hF⟩ := TK.of_struct hk
      cases hn : nth fs fld with
      | none => simp [hn] at hl
      | some p =>
        obtain ⟨off, ft⟩ := p
        simp only [hn] at hl
        cases hf : T ft with
        | none => simp [hf] at hl
        | some fi =>
          cases ho : addOff off v with
          | none => simp [hf, ho] at hl
          | some v' =>
            simp only [hf, ho] at hl
            cases hb : Nat.beq fi.size 0 with
            | true => simp [hb] at hl
            | false =>
              simp only [hb] at hl
              obtain ⟨ad, rfl, hm', hrr⟩ := addOff_m ho hm
              rw [nth_eq, hF, List.getElem?_map] at hn
              cases hq : F.toList[fld]? with
              | none => simp [hq] at hn
              | some f =>
                simp only [hq, Option.map_some, Option.some.injEq, Prod.mk.injEq] at hn
                obtain ⟨rfl, rfl⟩ := hn
                have hq' : F[fld]? = some f := by simpa using hq
                have hne : fi.size ≠ 0 := fun e => by rw [e] at hb; simp [Nat.beq] at hb
                refine .of (v := v') (x := .pointer (some (ad.add f.offset))) ?_ hm' (by rw [hrr]; exact hr) hl
                simp [Instr.fieldAt, underlying, hd, hq', Instr.sureAddr, fieldPlace, run_sizeOf' (hT _ _ hf), hne]
    | _ => simp [hst] at hl

theorem indexAddrP_sound (h : RG cx γ s a w) {t : Nat} {v iv : AV} {x ix : Value} (hm : M w (okOf cx s γ w) γ v x) (hr : ∀ j ∈ v.refs, (s.ob j).isSome = true) (hi : M w (okOf cx s γ w) γ iv ix) {K : AV → Prop} (hl : indexAddrP T s t v iv K) :
    Yd P cx γ s w (Instr.indexAt t x ix) K := by
  unfold indexAddrP at hl
  cases ht : T t with
  | none => simp [ht] at hl
  | some ti =>
    obtain ⟨size, ag, bytes, zero, kind⟩ := ti
    obtain ⟨info, d, z, _, hd, _, _, _, _, _, hk⟩ := ti_facts (hT t _ ht)
    cases kind with
    | slice e =>
      have hds := TK.of_slice hk
      subst hds
      cases iv with
      | d y =>
        cases y with
        | int k i =>
          simp only [ht] at hl
          have hix : ix = .int k i := hi
          subst hix
          cases hE : T e with
          | none => simp [hE] at hl
          | some ei =>
            cases v with
            | d y =>
              cases y with
              | slc k' n f =>
                simp only [hE] at hl
                obtain ⟨⟨h1, h2, h3⟩, hK⟩ := hl
                rcases hm with ⟨_, h0⟩ | ⟨ad, cap, rfl, h4, h5, h6⟩
                · omega
                · refine .of (v := .roe ei.size (f i.toNat)) (x := .pointer (some (ad.add (i.toNat * ei.size)))) ?_ ⟨_, rfl, fun j hj => ?_⟩ (fun j hj => by simp [AV.refs] at hj) hK
                  · simp [Instr.indexAt, asIntOf, underlying, hd, h2, h3, run_sizeOf' (hT _ _ hE)]
                  · obtain ⟨h7, u, h8, h9⟩ := h6 i.toNat (by omega) j (by omega)
                    exact ⟨by rw [add_block]; exact h7, u, by rw [add_add', h1]; exact h8, h9⟩
              | _ => simp [hE] at hl
            | own id =>
              simp only [hE] at hl
              cases ho : s.ob id with
              | none => simp [ho] at hl
              | some o =>
                cases o with
                | box cs => simp [ho] at hl
                | row e' k' n f =>
                  simp only [ho] at hl
                  obtain ⟨⟨h2, h3⟩, hK⟩ := hl
                  cases hb : Nat.beq ei.size k' with
                  | false => simp [hb] at hK
                  | true =>
                    simp only [hb] at hK
                    have hek := Nat.eq_of_beq_eq_true hb
                    obtain ⟨xs, h4, _, _⟩ := h.objs id _ ho
                    rcases h4.2 with ⟨_, h0⟩ | ⟨g, cap, cur, hg, h5, _⟩
                    · omega
                    · have hxv : x = γ id := hm
                      rw [hg] at hxv; subst hxv
                      refine .of (v := .elt id k' i.toNat 0) (x := .pointer (some ⟨g, i.toNat * k' + 0, none⟩)) ?_ ⟨g, n, cap, hg, rfl⟩ (fun j hj => by simp [AV.refs] at hj; subst hj; rw [ho]; rfl) hK
                      simp [Instr.indexAt, asIntOf, underlying, hd, h2, h3, run_sizeOf' (hT _ _ hE), add_lit', hek]
            | sub id k' lo n =>
              simp only [hE] at hl
              obtain ⟨⟨h2, h3⟩, hK⟩ := hl
              cases hb : Nat.beq ei.size k' with
              | false => simp [hb] at hK
              | true =>
                simp only [hb] at hK
                have hek := Nat.eq_of_beq_eq_true hb
                rcases hm with ⟨h0, _⟩ | ⟨g, len, cap, cap', hg, rfl⟩
                · omega
                · refine .of (v := .elt id k' (lo + i.toNat) 0) (x := .pointer (some ⟨g, lo * k' + i.toNat * k', none⟩)) ?_ ⟨g, len, cap, hg, by rw [Nat.add_mul]; rfl⟩ (fun j hj => by simp [AV.refs] at hj; subst hj; exact hr _ (by simp [AV.refs])) hK
                  simp [Instr.indexAt, asIntOf, underlying, hd, h2, h3, run_sizeOf' (hT _ _ hE), add_lit', hek]
            | _ => simp [hE] at hl
        | _ => simp [ht] at hl
      | _ => simp [ht] at hl
    | array len e =>
      have hds := TK.of_array hk
      subst hds
      cases iv with
      | d y =>
        cases y with
        | int k i =>
          simp only [ht] at hl
          have hix : ix = .int k i := hi
          subst hix
          cases hE : T e with
          | none => simp [hE] at hl
          | some ei =>
            cases v with
            | box id off =>
              simp only [hE] at hl
              obtain ⟨⟨h2, h3⟩, hK⟩ := hl
              obtain ⟨b, hb, rfl⟩ := hm
              refine .of (v := .box id (off + i.toNat * ei.size)) (x := .pointer (some ⟨b, off + i.toNat * ei.size, none⟩)) ?_ ⟨b, hb, rfl⟩ (by simpa [AV.refs] using hr) hK
              simp [Instr.indexAt, asIntOf, underlying, hd, Instr.sureAddr, h2, h3, run_sizeOf' (hT _ _ hE), add_lit']
            | roe m g =>
              simp only [hE] at hl
              obtain ⟨⟨h2, h3⟩, hK⟩ := hl
              cases hb : Nat.ble (len * ei.size) m with
              | false => simp [hb] at hK
              | true =>
                simp only [hb] at hK
                have hle := Nat.le_of_ble_eq_true hb
                obtain ⟨ad, rfl, hc⟩ := hm
                refine .of (v := .roe ei.size fun j => g (i.toNat * ei.size + j)) (x := .pointer (some (ad.add (i.toNat * ei.size)))) ?_ ⟨_, rfl, fun j hj => ?_⟩ (fun j hj => by simp [AV.refs] at hj) hK
                · simp [Instr.indexAt, asIntOf, underlying, hd, Instr.sureAddr, h2, h3, run_sizeOf' (hT _ _ hE)]
                · have hlt : i.toNat * ei.size + j < m := by
                    have h5 : (i.toNat + 1) * ei.size ≤ len * ei.size := Nat.mul_le_mul_right _ (by omega)
                    rw [Nat.add_mul] at h5
                    omega
                  obtain ⟨h7, u, h8, h9⟩ := hc _ hlt
                  exact ⟨by rw [add_block]; exact h7, u, by rw [add_add']; exact h8, h9⟩
            | _ => simp [hE] at hl
        | _ => simp [ht] at hl
      | _ => simp [ht] at hl
    | _ => simp [ht] at hl

theorem indexAddrE_sound (h : RG cx γ s a w) {t : Nat} {v iv : AV} {x ix : Value} (hm : M w (okOf cx s γ w) γ v x) (hr : ∀ j ∈ v.refs, (s.ob j).isSome = true) (hi : M w (okOf cx s γ w) γ iv ix) {K : AV → Prop} (hl : indexAddrE T s t v iv K) :
    Yd P cx γ s w (Instr.indexAt t x ix) K := indexAddrP_sound hT h (asPtr_m hm) (by rw [asPtr_refs]; exact hr) hi hl
theorem partE_sound {ti : TI} {t : TypeId} (ht : TI.of P t = some ti) {xs : List D} {vs : List Value} {off : Nat} (hm : All2 (Rep w (okOf cx s γ w)) xs vs) {K : AV → Prop} (hl : partE ti xs off K) : Yd P cx γ s w (part t vs.toArray off) K := by
  unfold partE at hl
  cases ha : ti.agg with
  | true =>
    simp only [ha] at hl
    cases hb : Nat.ble (off + ti.size) xs.length with
    | false => simp [hb] at hl
    | true =>
      simp only [hb] at hl
      refine .of (v := .agg ((xs.drop off).take ti.size)) (x := .agg ((vs.drop off).take ti.size).toArray) ?_ ⟨_, rfl, (hm.drop off).take ti.size⟩ (fun j hj => by simp [AV.refs] at hj) hl
      simp [part, run_isAgg' ht, ha, run_sizeOf' ht]
  | false =>
    simp only [ha, nth_eq] at hl
    cases hx : xs[off]? with
    | none => simp [hx] at hl
    | some y =>
      simp only [hx] at hl
      obtain ⟨u, hu, hr⟩ := hm.get off y hx
      refine .of (v := .d y) (x := u) ?_ hr (fun j hj => by simp [AV.refs] at hj) hl
      simp [part, run_isAgg' ht, ha, hu]

theorem fieldE_sound {st fld : Nat} {v : AV} {x : Value} (hm : M w (okOf cx s γ w) γ v x) {K : AV → Prop} (hl : fieldE T st fld v K) : Yd P cx γ s w (Instr.field st x fld) K := by
  unfold fieldE at hl
  cases hst : T st with
  | none => simp [hst] at hl
  | some ti =>
    obtain ⟨size, ag, bytes, zero, kind⟩ := ti
    cases kind with
    | struct fs =>
      cases v with
      | agg xs =>
        simp only [hst] at hl
        obtain ⟨info, d, z, _, hd, _, _, _, _, _, hk⟩ := ti_facts (hT st _ hst)
        obtain ⟨F, rfl, hF⟩ := TK.of_struct hk
        cases hn : nth fs fld with
        | none => simp [hn] at hl
        | some p =>
          obtain ⟨off, ft⟩ := p
          simp only [hn] at hl
          cases hf : T ft with
          | none => simp [hf] at hl
          | some fi =>
            simp only [hf] at hl
            rw [nth_eq, hF, List.getElem?_map] at hn
            cases hq : F.toList[fld]? with
            | none => simp [hq] at hn
            | some f =>
              simp only [hq, Option.map_some, Option.some.injEq, Prod.mk.injEq] at hn
              obtain ⟨rfl, rfl⟩ := hn
              have hq' : F[fld]? = some f := by simpa using hq
              obtain ⟨vs, rfl, hvs⟩ := hm
              obtain ⟨v, x, h1, h2, h3, h4⟩ := partE_sound hT (hT _ _ hf) hvs hl
              exact ⟨v, x, by simpa [Instr.field, underlying, hd, hq', asAgg] using h1, h2, h3, h4⟩
      | _ => simp [hst] at hl
    | _ => simp [hst] at hl
theorem indexE_sound {t : Nat} {v iv : AV} {x ix : Value} (hm : M w (okOf cx s γ w) γ v x) (hi : M w (okOf cx s γ w) γ iv ix) {K : AV → Prop} (hl : indexE T t v iv K) : Yd P cx γ s w (Instr.index t x ix) K := by
  unfold indexE at hl
  cases hst : T t with
  | none => simp [hst] at hl
  | some ti =>
    obtain ⟨size, ag, bytes, zero, kind⟩ := ti
    cases kind with
    | array len e =>
      cases v with
      | agg xs =>
        cases iv with
        | d y =>
          cases y with
          | int k i =>
            simp only [hst] at hl
            have hix : ix = .int k i := hi
            subst hix
            obtain ⟨info, d, z, _, hd, _, _, _, _, _, hk⟩ := ti_facts (hT t _ hst)
            have hds := TK.of_array hk
            subst hds
            cases hE : T e with
            | none => simp [hE] at hl
            | some ei =>
              simp only [hE] at hl
              obtain ⟨⟨h2, h3⟩, hl⟩ := hl
              obtain ⟨vs, rfl, hvs⟩ := hm
              obtain ⟨v, x, h4, h5, h6, h7⟩ := partE_sound hT (hT _ _ hE) hvs hl
              exact ⟨v, x, by simpa [Instr.index, asIntOf, underlying, hd, h2, h3, run_sizeOf' (hT _ _ hE)] using h4, h5, h6, h7⟩
          | _ => simp [hst] at hl
        | _ => simp [hst] at hl
      | _ => simp [hst] at hl
    | _ => simp [hst] at hl

theorem sliceBound_run (k : IntKind) (i : Int) (y : Nat) (c : BoundsCode) (h : 0 ≤ i ∧ i ≤ y) (w : World) : (Instr.sliceBound (.int k i) y c).run P w = .ok i.toNat w := by
  simp [Instr.sliceBound, asIntOf, h]
theorem sliceE_sound (h : RG cx γ s a w) {t : Nat} {v : AV} {x : Value} {lo hi : Option AV} {xlo xhi : Option Value} (hm : M w (okOf cx s γ w) γ v x) (h1 : ∀ u, lo = some u → ∃ y, xlo = some y ∧ M w (okOf cx s γ w) γ u y) (h1' : lo = none → xlo = none)
    (h2 : ∀ u, hi = some u → ∃ y, xhi = some y ∧ M w (okOf cx s γ w) γ u y) (h2' : hi = none → xhi = none) {K : AV → Prop} (hl : sliceE T s t v lo hi K) : Yd P cx γ s w (Instr.sliceAt t x xlo xhi none) K := by
  unfold sliceE at hl
  cases hst : T t with
  | none => simp [hst] at hl
  | some ti =>
    obtain ⟨size, ag, bytes, zero, kind⟩ := ti
    cases kind with
    | slice e =>
      cases v with
      | d y =>
        cases y with
        | slc k n f =>
          simp only [hst] at hl
          obtain ⟨info, d, z, _, hd, _, _, _, _, _, hk⟩ := ti_facts (hT t _ hst)
          have hds := TK.of_slice hk
          subst hds
          cases hE : T e with
          | none => simp [hE] at hl
          | some ei =>
            simp only [hE] at hl
            have hsz := run_sizeOf' (hT _ _ hE)
            -- the part of a slice that has elements
            have cut : ∀ (l m : Nat), l ≤ m → m ≤ n → (n = 0 ∨ k = ei.size) → ∀ (ad : Option Addr) (cap : Nat), x = .slice ad n cap → M w (okOf cx s γ w) γ (.d (.slc k (m - l) fun i => f (l + i))) (.slice (if cap = l then ad else ad.map (·.add (l * ei.size))) (m - l) (cap - l)) := by
              intro l m hlm hmn hk' ad cap hx
              rcases hm with ⟨hx', h0⟩ | ⟨ad', cap', hx', h4, h5, h6⟩
              · rw [hx] at hx'
                obtain ⟨rfl, rfl, rfl⟩ : ad = none ∧ n = 0 ∧ cap = 0 := by simpa using hx'
                have hl0 : l = 0 := by omega
                have hm0 : m = 0 := by omega
                subst hl0; subst hm0
                exact .inl ⟨rfl, rfl⟩
              · rw [hx] at hx'
                obtain ⟨rfl, rfl⟩ : ad = some ad' ∧ cap = cap' := by simpa using hx'
                by_cases hcl : cap = l
                · rw [if_pos hcl]
                  exact .inr ⟨ad', cap - l, rfl, by omega, by omega, fun i hi => by omega⟩
                · rw [if_neg hcl]
                  refine .inr ⟨ad'.add (l * ei.size), cap - l, rfl, by omega, by omega, fun i hi j hj => ?_⟩
                  obtain ⟨h7, u, h8, h9⟩ := h6 (l + i) (by omega) j hj
                  refine ⟨by rw [add_block]; exact h7, u, ?_, h9⟩
                  rw [add_add']
                  have : k = ei.size := hk'.resolve_left (by omega)
                  rw [← this, ← Nat.add_assoc, ← Nat.add_mul]
                  exact h8
            have shape : ∃ (ad : Option Addr) (cap : Nat), x = .slice ad n cap ∧ n ≤ cap := by
              rcases hm with ⟨hx', h0⟩ | ⟨ad', cap', hx', h4, _⟩
              · exact ⟨none, 0, by rw [hx', h0], by omega⟩
              · exact ⟨_, _, hx', h4⟩
            obtain ⟨ad, cap, hx, hnc⟩ := shape
            have run : ∀ (l m : Nat), l ≤ m → m ≤ n → ∀ e, (Instr.sliceBounds true n cap xlo xhi none).run P w = .ok (l, m, cap) w → e = (Instr.sliceAt t x xlo xhi none).run P w →
                e = .ok (.slice (if cap = l then ad else ad.map (·.add (l * ei.size))) (m - l) (cap - l)) w := by
              intro l m _ _ e hb he
              rw [he, hx]
              simp [Instr.sliceAt, Instr.slice, underlying, hd, hb, hsz]
            have ints : ∀ (u : AV) (y : Value) (k' : IntKind) (i : Int), u = .d (.int k' i) → M w (okOf cx s γ w) γ u y → y = .int k' i := by
              intro u y k' i e hm'; subst e; exact hm'
            cases lo with
            | none =>
              have hxl := h1' rfl; subst hxl
              cases hi with
              | none =>
                have hxh := h2' rfl; subst hxh
                simp only at hl
                refine .of (v := .d (.slc k n f)) (x := .slice (if cap = 0 then ad else ad.map (·.add (0 * ei.size))) (n - 0) (cap - 0)) (run 0 n (by omega) (by omega) _ (by simp [Instr.sliceBounds]) rfl) ?_ (fun j hj => by simp [AV.refs] at hj) hl.2
                have := cut 0 n (by omega) (by omega) hl.1 ad cap hx
                simpa using this
              | some hv =>
                obtain ⟨yh, rfl, hyh⟩ := h2 hv rfl
                cases hv with
                | d q =>
                  cases q with
                  | int kh ih =>
                    simp only at hl
                    obtain ⟨⟨hk', ha, hb⟩, hK⟩ := hl
                    have := ints _ yh kh ih rfl hyh; subst this
                    refine .of (v := .d (.slc k ih.toNat f)) (x := .slice (if cap = 0 then ad else ad.map (·.add (0 * ei.size))) (ih.toNat - 0) (cap - 0)) (run 0 ih.toNat (by omega) (by omega) _ (by simp [Instr.sliceBounds, sliceBound_run hT kh ih cap .sliceAcap ⟨ha, by omega⟩]) rfl) ?_ (fun j hj => by simp [AV.refs] at hj) hK
                    have := cut 0 ih.toNat (by omega) (by omega) hk' ad cap hx
                    simpa using this
                  | _ => simp at hl
                | _ => simp at hl
            | some lv =>
              obtain ⟨yl, rfl, hyl⟩ := h1 lv rfl
              cases lv with
              | d q =>
                cases q with
                | int kl il =>
                  have := ints _ yl kl il rfl hyl; subst this
                  cases hi with
                  | none =>
                    have hxh := h2' rfl; subst hxh
                    simp only at hl
                    obtain ⟨⟨hk', ha, hb⟩, hK⟩ := hl
                    exact .of (v := .d (.slc k (n - il.toNat) fun i => f (il.toNat + i))) (x := .slice (if cap = il.toNat then ad else ad.map (·.add (il.toNat * ei.size))) (n - il.toNat) (cap - il.toNat)) (run il.toNat n (by omega) (by omega) _ (by simp [Instr.sliceBounds, sliceBound_run hT kl il n .sliceB ⟨ha, by omega⟩]) rfl) (cut il.toNat n (by omega) (by omega) hk' ad cap hx) (fun j hj => by simp [AV.refs] at hj) hK
                  | some hv =>
                    obtain ⟨yh, rfl, hyh⟩ := h2 hv rfl
                    cases hv with
                    | d q =>
                      cases q with
                      | int kh ih =>
                        simp only at hl
                        obtain ⟨⟨hk', ha, hb, hc⟩, hK⟩ := hl
                        have := ints _ yh kh ih rfl hyh; subst this
                        exact .of (v := .d (.slc k (ih.toNat - il.toNat) fun i => f (il.toNat + i))) (x := .slice (if cap = il.toNat then ad else ad.map (·.add (il.toNat * ei.size))) (ih.toNat - il.toNat) (cap - il.toNat)) (run il.toNat ih.toNat (by omega) (by omega) _ (by simp [Instr.sliceBounds, sliceBound_run hT kh ih cap .sliceAcap ⟨by omega, by omega⟩, sliceBound_run hT kl il ih.toNat .sliceB ⟨ha, by omega⟩]) rfl) (cut il.toNat ih.toNat (by omega) (by omega) hk' ad cap hx) (fun j hj => by simp [AV.refs] at hj) hK
                      | _ => simp at hl
                    | _ => simp at hl
                | _ => simp at hl
              | _ => simp at hl
        | _ => simp [hst] at hl
      | own id =>
        simp only [hst] at hl
        obtain ⟨info, d, z, _, hd, _, _, _, _, _, hk⟩ := ti_facts (hT t _ hst)
        have hds := TK.of_slice hk
        subst hds
        cases hE : T e with
        | none => simp [hE] at hl
        | some ei =>
          have hsz := run_sizeOf' (hT _ _ hE)
          cases ho : s.ob id with
          | none => simp [hE, ho] at hl
          | some o =>
            cases o with
            | box cs => simp [hE, ho] at hl
            | row e' k n f =>
              simp only [hE, ho] at hl
              cases lo with
              | none => simp at hl
              | some lv =>
                cases lv with
                | d q =>
                  cases q with
                  | int kl il =>
                    cases hi with
                    | some hv => simp at hl
                    | none =>
                      simp only at hl
                      obtain ⟨⟨hk', ha, hb⟩, hK⟩ := hl
                      obtain ⟨yl, rfl, hyl⟩ := h1 _ rfl
                      have hyl' : yl = .int kl il := hyl
                      subst hyl'
                      have hxh := h2' rfl; subst hxh
                      have hxv : x = γ id := hm
                      have hown := (h.objs id _ ho)
                      obtain ⟨xs, h4, _, _⟩ := hown
                      have hrf : ∀ j ∈ (AV.sub id k il.toNat (n - il.toNat)).refs, (s.ob j).isSome = true := fun j hj => by simp [AV.refs] at hj; subst hj; rw [ho]; rfl
                      rcases h4.2 with ⟨hg, h0⟩ | ⟨g, cap, cur, hg, _, _, hnc, _⟩
                      · rw [hg] at hxv; subst hxv
                        have hl0 : il = 0 := by omega
                        subst hl0
                        refine .of (v := .sub id k 0 n) (x := .slice none 0 0) ?_ (.inl ⟨h0, none, 0, rfl⟩) hrf hK
                        simp [Instr.sliceAt, Instr.slice, underlying, hd, hsz, Instr.sliceBounds, sliceBound_run hT kl 0 0 .sliceB ⟨by omega, by omega⟩]
                      · rw [hg] at hxv; subst hxv
                        refine .of (v := .sub id k il.toNat (n - il.toNat)) (x := .slice (if cap = il.toNat then some ⟨g, 0, none⟩ else (some (⟨g, 0, none⟩ : Addr)).map (·.add (il.toNat * ei.size))) (n - il.toNat) (cap - il.toNat)) ?_ ?_ hrf hK
                        · simp [Instr.sliceAt, Instr.slice, underlying, hd, hsz, Instr.sliceBounds, sliceBound_run hT kl il n .sliceB ⟨ha, by omega⟩]
                        · by_cases hz : n - il.toNat = 0
                          · exact .inl ⟨hz, _, _, by rw [hz]⟩
                          · refine .inr ⟨g, n, cap, cap - il.toNat, hg, ?_⟩
                            rw [if_neg (by omega)]
                            simp [add_lit', hk']
                  | _ => simp at hl
                | _ => simp at hl
      | _ => simp [hst] at hl
    | _ => simp [hst] at hl
end
end Go.Pg
