/-
  The operations that change nothing: what the evaluator says of them is so. For every program.
-/
import Derived.Test.YtlmljmgappiehaaPgE
import Derived.Laws.Entries
import Derived.Laws.Cells
set_option linter.all false
namespace Go.Pg
open Go.RowKit

theorem ti_facts {P : Program} {t : TypeId} {ti : TI} (h : TI.of P t = some ti) :
    ∃ info d z, P.info? t = some info ∧ P.underlying t = some d ∧ info.zero = some z ∧ info.size = ti.size ∧ info.bytes = ti.bytes ∧ TK.isAgg d = ti.agg ∧ z.cells.toList = ti.zero ∧ TK.of d = ti.kind := by
  unfold TI.of at h
  cases hi : P.info? t with
  | none => simp [hi] at h
  | some info =>
    cases hd : P.underlying t with
    | none => simp [hi, hd] at h
    | some d =>
      simp only [hi, hd] at h
      cases hz : info.zero with
      | none => simp [hz] at h
      | some z =>
        simp only [hz, Option.some.injEq] at h
        subst h
        exact ⟨info, d, z, rfl, rfl, hz, rfl, rfl, rfl, rfl, rfl⟩
theorem run_sizeOf' {P : Program} {t : TypeId} {ti : TI} (h : TI.of P t = some ti) (w : World) : (sizeOf t).run P w = .ok ti.size w := by
  obtain ⟨info, d, z, h1, h2, h3, h4, _⟩ := ti_facts h
  simp [sizeOf, typeInfo, h1, h4]
theorem run_isAgg' {P : Program} {t : TypeId} {ti : TI} (h : TI.of P t = some ti) (w : World) : (isAgg t).run P w = .ok ti.agg w := by
  obtain ⟨info, d, z, h1, h2, h3, h4, h5, h6, _⟩ := ti_facts h
  rw [← h6]
  cases d <;> simp [isAgg, underlying, h2, TK.isAgg]

theorem Rep.one {w : World} {ok : Nat → Prop} {x : D} {v : Value} (h : Rep w ok x v) : v.oneCell' = true := by
  cases x with
  | slc k n f => rcases h with ⟨rfl, _⟩ | ⟨a, cap, rfl, _⟩ <;> rfl
  | ptr m g => obtain ⟨a, rfl, _⟩ := h; rfl
  | clo f m g => obtain ⟨vs, rfl, _⟩ := h; rfl
  | _ => simp only [Rep] at h; subst h; rfl

section
variable {P : Program} {T : TT} {E : Env} {cx : Cx} {γ : Nat → Value} {s : St} {a : Act} {w : World}

theorem cd_rep {ok : Nat → Prop} : ∀ {v : Value} {x : D}, cd v = some x → Rep w ok x v := by
  intro v x h
  cases v with
  | slice a l c =>
    cases a with
    | none =>
      simp only [cd] at h
      cases hb : (Nat.beq l 0 && Nat.beq c 0) with
      | false => rw [hb] at h; cases h
      | true =>
        rw [hb] at h
        simp only [Bool.and_eq_true] at hb
        have h1 := Nat.eq_of_beq_eq_true hb.1
        have h2 := Nat.eq_of_beq_eq_true hb.2
        cases h
        exact .inl ⟨by rw [h1, h2], rfl⟩
    | some a => simp [cd] at h
  | _ => simp [cd] at h <;> (subst h; rfl)
theorem cds_rep {ok : Nat → Prop} : ∀ {vs : List Value} {xs : List D}, cds vs = some xs → All2 (Rep w ok) xs vs
  | [], xs, h => by simp [cds] at h; subst h; exact .nil
  | v :: r, xs, h => by
    simp only [cds] at h
    cases h1 : cd v with
    | none => simp [h1] at h
    | some x =>
      cases h2 : cds r with
      | none => simp [h1, h2] at h
      | some ys =>
        simp only [h1, h2, Option.some.injEq] at h
        subst h
        exact .cons (cd_rep h1) (cds_rep h2)
theorem cv_m {ok : Nat → Prop} {γ : Nat → Value} (v : Value) : M w ok γ (cv v) v ∧ (cv v).refs = [] := by
  cases v with
  | slice a l c =>
    cases a with
    | none =>
      simp only [cv]
      cases hb : (Nat.beq l 0 && Nat.beq c 0) with
      | false => exact ⟨trivial, rfl⟩
      | true =>
        simp only [Bool.and_eq_true] at hb
        have h1 := Nat.eq_of_beq_eq_true hb.1
        have h2 := Nat.eq_of_beq_eq_true hb.2
        exact ⟨by rw [h1, h2]; rfl, rfl⟩
    | some a => exact ⟨trivial, rfl⟩
  | agg cs =>
    simp only [cv]
    cases h : cds cs.toList with
    | none => exact ⟨trivial, rfl⟩
    | some xs => exact ⟨⟨cs.toList, by simp, cds_rep h⟩, rfl⟩
  | int k n => exact ⟨rfl, rfl⟩
  | bool b => exact ⟨rfl, rfl⟩
  | string b => exact ⟨rfl, rfl⟩
  | _ => exact ⟨trivial, rfl⟩
theorem ev_m (h : RG cx γ s a w) (x : Operand) : M w (okOf cx s γ w) γ (ev s x) (a.eval x) ∧ ∀ j ∈ (ev s x).refs, (s.ob j).isSome = true := by
  cases x with
  | tmp t =>
    have h1 := h.slots t
    have h2 := h.srefs t
    show M w _ γ (s.sl t).unpin _ ∧ ∀ j ∈ (s.sl t).unpin.refs, _
    cases hv : s.sl t with
    | pin i v => rw [hv] at h1 h2; exact ⟨h1.1, h2⟩
    | pbox i v => rw [hv] at h1 h2; exact ⟨h1.1, h2⟩
    | _ => rw [hv] at h1 h2; exact ⟨h1, h2⟩
  | const v => have := cv_m (w := w) (ok := okOf cx s γ w) (γ := γ) v; exact ⟨this.1, fun j hj => by rw [show ev s (.const v) = cv v from rfl, this.2] at hj; cases hj⟩
  | global g => exact ⟨trivial, fun j hj => by simp [ev, AV.refs] at hj⟩
  | func f => exact ⟨rfl, fun j hj => by simp [ev, AV.refs] at hj⟩

theorem asPtr_m {ok : Nat → Prop} {v : AV} {x : Value} (h : M w ok γ v x) : M w ok γ v.asPtr x := by
  cases v with
  | d p => cases p <;> exact h
  | _ => exact h
theorem asPtr_refs (v : AV) : v.asPtr.refs = v.refs := by
  cases v with
  | d p => cases p <;> rfl
  | _ => rfl
/-- What an operation that changes nothing comes to: a value that K knows of. -/
def Yd (P : Program) (cx : Cx) (γ : Nat → Value) (s : St) (w : World) (e : Sem Value) (K : AV → Prop) : Prop :=
  ∃ v x, e.run P w = .ok x w ∧ M w (okOf cx s γ w) γ v x ∧ (∀ j ∈ v.refs, (s.ob j).isSome = true) ∧ K v
theorem Yd.of {e : Sem Value} {K : AV → Prop} {v : AV} {x : Value} (h : e.run P w = .ok x w) (hm : M w (okOf cx s γ w) γ v x) (hr : ∀ j ∈ v.refs, (s.ob j).isSome = true) (hk : K v) : Yd P cx γ s w e K := ⟨v, x, h, hm, hr, hk⟩

theorem kbeq_eq {a b : IntKind} (h : kbeq a b = true) : a = b := by cases a <;> cases b <;> first | rfl | cases h

theorem wrap_inR {k : IntKind} {n : Int} (h : inR k n) : k.wrap n = n := by
  obtain ⟨h1, h2⟩ := h
  cases k <;> simp [IntKind.wrap, IntKind.min, IntKind.max, IntKind.bits, IntKind.signed] at * <;> omega

theorem rangeD_rep {ok : Nat → Prop} {m : Nat} {g : Nat → D} {f : Nat → Value} (h : ∀ j, j < m → Rep w ok (g j) (f j)) : All2 (Rep w ok) (rangeD m g) ((List.range m).map f) := by
  refine All2.of_get (by simp [rangeD]) fun j x y hx hy => ?_
  simp only [rangeD, List.getElem?_map] at hx hy
  by_cases hj : j < m
  · rw [List.getElem?_range hj] at hx hy
    simp at hx hy; subst hx; subst hy; exact h j hj
  · rw [List.getElem?_eq_none (by simpa using hj)] at hx; cases hx

theorem All2.drop {α β : Type} {r : α → β → Prop} {xs : List α} {ys : List β} (h : All2 r xs ys) (n : Nat) : All2 r (xs.drop n) (ys.drop n) := by
  refine All2.of_get (by simp [h.length]) fun j x y hx hy => ?_
  rw [List.getElem?_drop] at hx hy
  obtain ⟨y', h1, h2⟩ := h.get _ _ hx
  rw [hy] at h1; cases h1; exact h2
theorem All2.take {α β : Type} {r : α → β → Prop} {xs : List α} {ys : List β} (h : All2 r xs ys) (n : Nat) : All2 r (xs.take n) (ys.take n) := by
  refine All2.of_get (by simp [h.length]) fun j x y hx hy => ?_
  rw [List.getElem?_take] at hx hy
  split at hx
  · rename_i hj
    rw [if_pos hj] at hy
    obtain ⟨y', h1, h2⟩ := h.get _ _ hx
    rw [hy] at h1; cases h1; exact h2
  · cases hx

theorem box_cell {cs : List AV} {i b : Nat} {vs : List Value} {T' : TypeId} (h3 : w.heap[b]? = some (.cells vs.toArray T' (0, 0))) (off : Nat) : w.cell? ⟨b, off, none⟩ = vs[off]? := by
  simp [World.cell?, h3]

theorem loadP_sound (h : RG cx γ s a w) {t : TypeId} {ti : TI} (ht : TI.of P t = some ti) {v : AV} {x : Value} (hm : M w (okOf cx s γ w) γ v x) {K : AV → Prop} (hl : loadP s ti v K) :
    Yd P cx γ s w (Instr.loadAt t x) K := by
  cases v with
  | box i off =>
    obtain ⟨b, hb, rfl⟩ := hm
    simp only [loadP] at hl
    cases ho : s.ob i with
    | none => simp [ho] at hl
    | some o =>
      cases o with
      | row e k n f => simp [ho] at hl
      | box cs =>
        obtain ⟨b', vs, T', h1, h2, h3, h4⟩ := h.objs i _ ho
        rw [hb] at h1; simp at h1; subst h1
        simp only [ho] at hl
        cases ha : ti.agg with
        | true =>
          simp only [ha] at hl
          cases hd : allD ((cs.drop off).take ti.size) with
          | none => simp [hd] at hl
          | some xs =>
            simp only [hd] at hl
            cases hbq : Nat.beq xs.length ti.size with
            | false => simp [hbq] at hl
            | true =>
              simp only [hbq] at hl
              have hlen := Nat.eq_of_beq_eq_true hbq
              have hr := allD_rep hd ((h4.drop off).take ti.size)
              have hvl : ((vs.drop off).take ti.size).length = ti.size := by rw [← hr.length]; exact hlen
              have hrun := run_loadCells_list (P := P) w ⟨b, off, none⟩ ((vs.drop off).take ti.size) (fun j u hj => by
                rw [add_lit', box_cell (cs := cs) (i := i) h3, ← List.getElem?_drop]
                rw [List.getElem?_take] at hj
                split at hj
                · exact hj
                · cases hj)
              rw [hvl] at hrun
              refine .of (v := .agg xs) (x := .agg ((vs.drop off).take ti.size).toArray) ?_ ⟨_, rfl, hr⟩ (fun j hj => by simp [AV.refs] at hj) hl
              simp [Instr.loadAt, Instr.sureAddr, loadVar, run_isAgg' ht, ha, run_sizeOf' ht, hrun]
        | false =>
          simp only [ha, nth_eq] at hl
          cases hc : cs[off]? with
          | none => simp [hc] at hl
          | some c =>
            simp only [hc] at hl
            obtain ⟨y, hy, hm', _⟩ := h4.get off c hc
            have hcell : w.cell? ⟨b, off, none⟩ = some y := (box_cell (cs := cs) (i := i) h3 off).trans hy
            refine .of (v := c) (x := y) ?_ hm' (h.refs i cs ho c (List.mem_of_getElem? hc)) hl
            simp [Instr.loadAt, Instr.sureAddr, loadVar, run_isAgg' ht, ha, hcell]
  | roe m g =>
    obtain ⟨ad, rfl, hcell⟩ := hm
    simp only [loadP] at hl
    cases ha : ti.agg with
    | true =>
      simp only [ha] at hl
      cases hb : Nat.ble ti.size m with
      | false => simp [hb] at hl
      | true =>
        simp only [hb] at hl
        have hle := Nat.le_of_ble_eq_true hb
        have hex : ∀ j, ∃ u, j < ti.size → w.cell? (ad.add j) = some u ∧ Rep w (okOf cx s γ w) (g j) u := fun j => by
          by_cases hj : j < ti.size
          · obtain ⟨_, u, h1, h2⟩ := hcell j (by omega); exact ⟨u, fun _ => ⟨h1, h2⟩⟩
          · exact ⟨Go.undef, fun h => absurd h hj⟩
        obtain ⟨f, hf⟩ := Classical.axiomOfChoice hex
        have hrun := run_loadCells (P := P) w ad ti.size f fun j hj => (hf j hj).1
        refine .of (v := .agg (rangeD ti.size g)) (x := .agg ((List.range ti.size).map f).toArray) ?_ ⟨_, rfl, rangeD_rep fun j hj => (hf j hj).2⟩ (fun j hj => by simp [AV.refs] at hj) hl
        simp [Instr.loadAt, Instr.sureAddr, loadVar, run_isAgg' ht, ha, run_sizeOf' ht, hrun]
    | false =>
      simp only [ha] at hl
      cases hb : Nat.ble 1 m with
      | false => simp [hb] at hl
      | true =>
        simp only [hb] at hl
        obtain ⟨_, u, h1, h2⟩ := hcell 0 (by have := Nat.le_of_ble_eq_true hb; omega)
        have h0 : ad.add 0 = ad := by simp [Addr.add]
        rw [h0] at h1
        refine .of (v := .d (g 0)) (x := u) ?_ h2 (fun j hj => by simp [AV.refs] at hj) hl
        simp [Instr.loadAt, Instr.sureAddr, loadVar, run_isAgg' ht, ha, h1]
  | elt i k n c =>
    obtain ⟨g, len, cap, hg, rfl⟩ := hm
    simp only [loadP] at hl
    cases ho : s.ob i with
    | none => simp [ho] at hl
    | some o =>
      cases o with
      | box cs => simp [ho] at hl
      | row e k' N f =>
        obtain ⟨xs, h1, _, h2, h3⟩ := h.objs i _ ho
        simp only [ho] at hl
        have hcells := h1.cells (g := g) (by rw [hg]; rfl)
        have cell : n < N → ∀ j, c + j < k' → k = k' → ∃ u, w.cell? ⟨g, n * k + c + j, none⟩ = some u ∧ Rep w (okOf cx s γ w) (f n (c + j)) u := fun hn j hj hk => by
          obtain ⟨u, hu, hr⟩ := h3 n hn (c + j) hj
          refine ⟨u, ?_, hr⟩
          have := hcells _ _ hu
          rw [add_lit'] at this
          rw [← this]; congr 2; rw [hk]; omega
        cases ha : ti.agg with
        | true =>
          simp only [ha] at hl
          cases hb : (Nat.beq k k' && Nat.ble (c + ti.size) k) with
          | false => simp [hb] at hl
          | true =>
            simp only [hb] at hl
            simp only [Bool.and_eq_true] at hb
            have hk := Nat.eq_of_beq_eq_true hb.1
            have hle := Nat.le_of_ble_eq_true hb.2
            have hex : ∀ j, ∃ u, j < ti.size → w.cell? ((⟨g, n * k + c, none⟩ : Addr).add j) = some u ∧ Rep w (okOf cx s γ w) (f n (c + j)) u := fun j => by
              by_cases hj : j < ti.size
              · obtain ⟨u, h4, h5⟩ := cell hl.1 j (by omega) hk; exact ⟨u, fun _ => ⟨by rw [add_lit']; exact h4, h5⟩⟩
              · exact ⟨Go.undef, fun h => absurd h hj⟩
            obtain ⟨q, hq⟩ := Classical.axiomOfChoice hex
            have hrun := run_loadCells (P := P) w ⟨g, n * k + c, none⟩ ti.size q fun j hj => (hq j hj).1
            refine .of (v := .agg (rangeD ti.size fun j => f n (c + j))) (x := .agg ((List.range ti.size).map q).toArray) ?_ ⟨_, rfl, rangeD_rep fun j hj => (hq j hj).2⟩ (fun j hj => by simp [AV.refs] at hj) hl.2
            simp [Instr.loadAt, Instr.sureAddr, loadVar, run_isAgg' ht, ha, run_sizeOf' ht, hrun]
        | false =>
          simp only [ha] at hl
          cases hb : (Nat.beq k k' && Nat.ble (c + 1) k) with
          | false => simp [hb] at hl
          | true =>
            simp only [hb] at hl
            simp only [Bool.and_eq_true] at hb
            have hk := Nat.eq_of_beq_eq_true hb.1
            have hle := Nat.le_of_ble_eq_true hb.2
            obtain ⟨u, h4, h5⟩ := cell hl.1 0 (by omega) hk
            refine .of (v := .d (f n c)) (x := u) ?_ h5 (fun j hj => by simp [AV.refs] at hj) hl.2
            simp at h4
            simp [Instr.loadAt, Instr.sureAddr, loadVar, run_isAgg' ht, ha, h4]
  | _ => simp [loadP] at hl
theorem loadE_sound (h : RG cx γ s a w) {t : TypeId} {ti : TI} (ht : TI.of P t = some ti) {v : AV} {x : Value} (hm : M w (okOf cx s γ w) γ v x) {K : AV → Prop} (hl : loadE s ti v K) :
    Yd P cx γ s w (Instr.loadAt t x) K := loadP_sound h ht (asPtr_m hm) hl
end
end Go.Pg
