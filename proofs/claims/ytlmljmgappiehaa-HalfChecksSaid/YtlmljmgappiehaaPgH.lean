/-
  The operations that change nothing, third part: arithmetic, comparisons, structs built, the rest; all of them together. For every program.
-/
import Derived.Test.YtlmljmgappiehaaPgG
import Derived.Laws.StructEq
set_option linter.all false
namespace Go.Pg
open Go.RowKit

/-- '==' and '!=' at a struct type are what they are cell by cell. -/
def EqFact (P : Program) (t : TypeId) : Prop :=
  ∀ (w : World) (ok : Nat → Prop) (xs ys : List D) (vs us : List Value) (b : Bool) (x y : Operand), (∃ ti, TI.of P t = some ti ∧ xs.length = ti.size) → eqDs xs ys = some b → All2 (Rep w ok) xs vs → All2 (Rep w ok) ys us →
    (do eqGuard .eql t x y (.agg vs.toArray) (.agg us.toArray); binOp .eql t (.agg vs.toArray) (.agg us.toArray) : Sem Value).run P w = .ok (.bool b) w ∧
    (do eqGuard .neq t x y (.agg vs.toArray) (.agg us.toArray); binOp .neq t (.agg vs.toArray) (.agg us.toArray) : Sem Value).run P w = .ok (.bool (!b)) w

theorem setRange_get {α : Type} : ∀ {l : List α} {off : Nat} {ys m : List α}, setRange l off ys = some m → m.length = l.length ∧ (ys = [] ∨ off + ys.length ≤ l.length) ∧ ∀ i, m[i]? = if off ≤ i ∧ i < off + ys.length then ys[i - off]? else l[i]?
  | l, off, [], m, h => by
    simp [setRange] at h; subst h
    exact ⟨rfl, .inl rfl, fun i => by rw [if_neg (by simp)]⟩
  | [], off, y :: ys, m, h => by simp [setRange] at h
  | x :: l, 0, y :: ys, m, h => by
    simp only [setRange] at h
    cases hr : setRange l 0 ys with
    | none => simp [hr] at h
    | some r =>
      simp only [hr, Option.some.injEq] at h; subst h
      obtain ⟨h1, h2, h3⟩ := setRange_get hr
      refine ⟨by simp [h1], .inr ?_, fun i => ?_⟩
      · rcases h2 with rfl | h2
        · simp
        · simp at *; omega
      · cases i with
        | zero => simp
        | succ i =>
          simp only [List.getElem?_cons_succ, h3, Nat.zero_le, true_and, Nat.zero_add, Nat.sub_zero, List.length_cons, Nat.add_lt_add_iff_right]
  | x :: l, n + 1, y :: ys, m, h => by
    simp only [setRange] at h
    cases hr : setRange l n (y :: ys) with
    | none => simp [hr] at h
    | some r =>
      simp only [hr, Option.some.injEq] at h; subst h
      obtain ⟨h1, h2, h3⟩ := setRange_get hr
      refine ⟨by simp [h1], .inr ?_, fun i => ?_⟩
      · rcases h2 with h2 | h2
        · cases h2
        · simp at *; omega
      · cases i with
        | zero => simp
        | succ i =>
          simp only [List.getElem?_cons_succ, h3]
          have e1 : (n ≤ i ∧ i < n + (y :: ys).length) ↔ (n + 1 ≤ i + 1 ∧ i + 1 < n + 1 + (y :: ys).length) := by omega
          by_cases hc : n ≤ i ∧ i < n + (y :: ys).length
          · rw [if_pos hc, if_pos (e1.1 hc)]; congr 1; omega
          · rw [if_neg hc, if_neg (fun h => hc (e1.2 h))]
theorem setRange_all2 {α β : Type} {r : α → β → Prop} : ∀ {l : List α} {l' : List β} {off : Nat} {ys m : List α} {ys' : List β}, All2 r l l' → All2 r ys ys' → setRange l off ys = some m → ∃ m', setRange l' off ys' = some m' ∧ All2 r m m'
  | l, l', off, [], m, _, h1, .nil, h => by simp [setRange] at h; subst h; exact ⟨l', by simp [setRange], h1⟩
  | [], _, off, y :: ys, m, _, h1, _, h => by simp [setRange] at h
  | x :: l, x' :: l', 0, y :: ys, m, y' :: ys', .cons h1 h2, .cons h3 h4, h => by
    simp only [setRange] at h
    cases hr : setRange l 0 ys with
    | none => simp [hr] at h
    | some q =>
      simp only [hr, Option.some.injEq] at h; subst h
      obtain ⟨m', h5, h6⟩ := setRange_all2 h2 h4 hr
      exact ⟨y' :: m', by simp [setRange, h5], .cons h3 h6⟩
  | x :: l, x' :: l', n + 1, y :: ys, m, y' :: ys', .cons h1 h2, h34, h => by
    simp only [setRange] at h
    cases hr : setRange l n (y :: ys) with
    | none => simp [hr] at h
    | some q =>
      simp only [hr, Option.some.injEq] at h; subst h
      obtain ⟨m', h5, h6⟩ := setRange_all2 h2 h34 hr
      exact ⟨x' :: m', by simp [setRange, h5], .cons h1 h6⟩

theorem foldl_set : ∀ (us : List Value) (k off : Nat) (a : Array Value), ((us.zipIdx k).foldl (fun (cs : Array Value) (p : Value × Nat) => cs.setIfInBounds (off + p.2) p.1) a).size = a.size ∧
    ∀ i, ((us.zipIdx k).foldl (fun (cs : Array Value) (p : Value × Nat) => cs.setIfInBounds (off + p.2) p.1) a)[i]? = if off + k ≤ i ∧ i < off + k + us.length ∧ i < a.size then us[i - (off + k)]? else a[i]?
  | [], k, off, a => by simp; intro i h1 h2; omega
  | u :: us, k, off, a => by
    simp only [List.zipIdx_cons, List.foldl_cons]
    obtain ⟨h1, h2⟩ := foldl_set us (k + 1) off (a.setIfInBounds (off + k) u)
    refine ⟨by rw [h1]; simp, fun i => ?_⟩
    rw [h2]
    simp only [Array.size_setIfInBounds, List.length_cons]
    by_cases hi : i = off + k
    · subst hi
      rw [if_neg (by omega)]
      by_cases hs : off + k < a.size
      · rw [if_pos ⟨Nat.le_refl _, by omega, hs⟩]; simp [hs]
      · rw [if_neg (by omega)]; simp [hs]
    · rw [Array.getElem?_setIfInBounds_ne (by omega)]
      by_cases hc : off + (k + 1) ≤ i ∧ i < off + (k + 1) + us.length ∧ i < a.size
      · rw [if_pos hc, if_pos ⟨by omega, by omega, hc.2.2⟩]
        have : i - (off + k) = (i - (off + (k + 1))) + 1 := by omega
        rw [this]; simp
      · rw [if_neg hc, if_neg (by omega)]
theorem fill_step {vs us m : List Value} {off : Nat} (h : setRange vs off us = some m) : us.toArray.zipIdx.foldl (fun (cs : Array Value) (p : Value × Nat) => cs.setIfInBounds (off + p.2) p.1) vs.toArray = m.toArray := by
  obtain ⟨h1, h2, h3⟩ := setRange_get h
  have e : us.toArray.zipIdx = (us.zipIdx 0).toArray := by simp
  rw [e, List.foldl_toArray]
  obtain ⟨h4, h5⟩ := foldl_set us 0 off vs.toArray
  refine Array.ext_getElem? fun i => ?_
  rw [h5]
  simp only [Nat.add_zero, List.size_toArray, List.getElem?_toArray]
  rw [h3]
  by_cases hc : off ≤ i ∧ i < off + us.length
  · rw [if_pos hc, if_pos ⟨hc.1, hc.2, by rcases h2 with rfl | h2; (simp at hc; omega); omega⟩]
  · rw [if_neg hc, if_neg (by omega)]

section
variable {P : Program} {T : TT} {E : Env} {cx : Cx} {γ : Nat → Value} {s : St} {a : Act} {w : World}

theorem cellsD_m {ok : Nat → Prop} {γ : Nat → Value} {v : AV} {x : Value} {ys : List D} (h : cellsD v = some ys) (hm : M w ok γ v x) : All2 (Rep w ok) ys x.cells.toList := by
  cases v with
  | d y =>
    simp only [cellsD, Option.some.injEq] at h; subst h
    have h1 := Rep.one hm
    have : x.cells = #[x] := by cases x <;> first | rfl | (simp [Value.oneCell'] at h1)
    rw [this]; exact .cons hm .nil
  | agg xs =>
    simp only [cellsD, Option.some.injEq] at h; subst h
    obtain ⟨vs, rfl, h⟩ := hm
    simpa [Value.cells] using h
  | nilsl =>
    simp only [cellsD, Option.some.injEq] at h; subst h
    have hx : x = .slice none 0 0 := hm
    subst hx
    exact .cons (.inl ⟨rfl, rfl⟩) .nil
  | _ => simp [cellsD] at h

theorem fillE_sound (h : RG cx γ s a w) {place : Nat → Option (Nat × Nat)} : ∀ {parts : List (Nat × Operand)} {ds l : List D} {vs : List Value}, fillE place s parts ds = some l → All2 (Rep w (okOf cx s γ w)) ds vs →
    ∃ m : List Value, Instr.fill place vs.toArray (parts.map fun p => (p.1, a.eval p.2)) = some m.toArray ∧ All2 (Rep w (okOf cx s γ w)) l m
  | [], ds, l, vs, h1, h2 => by simp [fillE] at h1; subst h1; exact ⟨vs, by simp [Instr.fill], h2⟩
  | (i, x) :: r, ds, l, vs, h1, h2 => by
    simp only [fillE] at h1
    cases hp : place i with
    | none => simp [hp] at h1
    | some p =>
      obtain ⟨off, size⟩ := p
      cases hc : cellsD (ev s x) with
      | none => simp [hp, hc] at h1
      | some ys =>
        simp only [hp, hc] at h1
        cases hb : (Nat.beq ys.length size && Nat.ble (off + size) ds.length) with
        | false => simp [hb] at h1
        | true =>
          simp only [hb, cond_true] at h1
          simp only [Bool.and_eq_true] at hb
          have hlen := Nat.eq_of_beq_eq_true hb.1
          have hfit := Nat.le_of_ble_eq_true hb.2
          cases hs : setRange ds off ys with
          | none => simp [hs] at h1
          | some ds' =>
            simp only [hs] at h1
            have hm := cellsD_m hc (ev_m h x).1
            obtain ⟨vs', h3, h4⟩ := setRange_all2 h2 hm hs
            obtain ⟨m, h5, h6⟩ := fillE_sound h h1 h4
            refine ⟨m, ?_, h6⟩
            have hsz : (a.eval x).cells.size = size := by rw [← Array.length_toList, ← hm.length, hlen]
            have hst := fill_step h3
            rw [Array.toArray_toList] at hst
            have hle : ¬ (off + size > vs.toArray.size) := by have := h2.length; simp; omega
            simp only [List.map_cons, Instr.fill, hp, hsz, ne_eq, not_true_eq_false, decide_false, Bool.false_or, decide_eq_true_eq, hle, if_false]
            exact (congrArg (fun z => Instr.fill place z (r.map fun p => (p.1, a.eval p.2))) hst).trans h5

theorem intBin_sound {op : BinOp} {k k' : IntKind} {x y : Int} (hk : isShift op = true ∨ k = k') {K : AV → Prop} (hl : intBin op k x y fun r => K (.d r)) : Yd P cx γ s w (binOp op 0 (.int k x) (.int k' y)) K := by
  cases op <;> simp only [intBin] at hl
  case shl =>
    refine .of (v := .d (.int k (k.wrap (x * 2 ^ (min y.toNat k.bits))))) (x := .int k (k.wrap (x * 2 ^ (min y.toNat k.bits)))) ?_ rfl (fun j hj => by simp [AV.refs] at hj) hl.2
    simp [binOp, Op.shift, show ¬ y < 0 by omega]
  case shr =>
    refine .of (v := .d (.int k (x.fdiv (2 ^ (min y.toNat k.bits))))) (x := .int k (x.fdiv (2 ^ (min y.toNat k.bits)))) ?_ rfl (fun j hj => by simp [AV.refs] at hj) hl.2
    simp [binOp, Op.shift, show ¬ y < 0 by omega]
  all_goals
    have hkk : k = k' := hk.resolve_left (by simp [isShift])
    subst hkk
  case add => exact .of (v := .d (.int k (x + y))) (x := .int k (x + y)) (by simp [binOp, Op.intArith, wrap_inR hl.1]) rfl (fun j hj => by simp [AV.refs] at hj) hl.2
  case sub => exact .of (v := .d (.int k (x - y))) (x := .int k (x - y)) (by simp [binOp, Op.intArith, wrap_inR hl.1]) rfl (fun j hj => by simp [AV.refs] at hj) hl.2
  case mul => exact .of (v := .d (.int k (x * y))) (x := .int k (x * y)) (by simp [binOp, Op.intArith, wrap_inR hl.1]) rfl (fun j hj => by simp [AV.refs] at hj) hl.2
  case quo => exact .of (v := .d (.int k (x.tdiv y))) (x := .int k (x.tdiv y)) (by simp [binOp, Op.intDiv, hl.1.1, wrap_inR hl.1.2]) rfl (fun j hj => by simp [AV.refs] at hj) hl.2
  case rem => exact .of (v := .d (.int k (x.tmod y))) (x := .int k (x.tmod y)) (by simp [binOp, Op.intDiv, hl.1]) rfl (fun j hj => by simp [AV.refs] at hj) hl.2
  case eql => exact .of (v := .d (.bool (x == y))) (x := .bool (x == y)) (by simp [binOp, Op.intCmp]) rfl (fun j hj => by simp [AV.refs] at hj) hl
  case neq => exact .of (v := .d (.bool (x != y))) (x := .bool (x != y)) (by simp [binOp, Op.intCmp]) rfl (fun j hj => by simp [AV.refs] at hj) hl
  case lss => exact .of (v := .d (.bool (decide (x < y)))) (x := .bool (decide (x < y))) (by simp [binOp, Op.intCmp]) rfl (fun j hj => by simp [AV.refs] at hj) hl
  case leq => exact .of (v := .d (.bool (decide (x ≤ y)))) (x := .bool (decide (x ≤ y))) (by simp [binOp, Op.intCmp]) rfl (fun j hj => by simp [AV.refs] at hj) hl
  case gtr => exact .of (v := .d (.bool (decide (y < x)))) (x := .bool (decide (y < x))) (by simp [binOp, Op.intCmp]) rfl (fun j hj => by simp [AV.refs] at hj) hl
  case geq => exact .of (v := .d (.bool (decide (y ≤ x)))) (x := .bool (decide (y ≤ x))) (by simp [binOp, Op.intCmp]) rfl (fun j hj => by simp [AV.refs] at hj) hl
  case and => exact .of (v := .d (.int k (k.wrap (BitVec.ofInt k.bits x &&& BitVec.ofInt k.bits y).toNat))) (x := .int k (k.wrap (BitVec.ofInt k.bits x &&& BitVec.ofInt k.bits y).toNat)) (by unfold binOp; simp only [ne_eq, not_true_eq_false, if_false]; rfl) rfl (fun j hj => by simp [AV.refs] at hj) hl
  case or => exact .of (v := .d (.int k (k.wrap (BitVec.ofInt k.bits x ||| BitVec.ofInt k.bits y).toNat))) (x := .int k (k.wrap (BitVec.ofInt k.bits x ||| BitVec.ofInt k.bits y).toNat)) (by unfold binOp; simp only [ne_eq, not_true_eq_false, if_false]; rfl) rfl (fun j hj => by simp [AV.refs] at hj) hl
  case xor => exact .of (v := .d (.int k (k.wrap (BitVec.ofInt k.bits x ^^^ BitVec.ofInt k.bits y).toNat))) (x := .int k (k.wrap (BitVec.ofInt k.bits x ^^^ BitVec.ofInt k.bits y).toNat)) (by unfold binOp; simp only [ne_eq, not_true_eq_false, if_false]; rfl) rfl (fun j hj => by simp [AV.refs] at hj) hl
  case andNot => exact .of (v := .d (.int k (k.wrap (BitVec.ofInt k.bits x &&& ~~~ BitVec.ofInt k.bits y).toNat))) (x := .int k (k.wrap (BitVec.ofInt k.bits x &&& ~~~ BitVec.ofInt k.bits y).toNat)) (by unfold binOp; simp only [ne_eq, not_true_eq_false, if_false]; rfl) rfl (fun j hj => by simp [AV.refs] at hj) hl

theorem eqGuard_plain {op : BinOp} {t : TypeId} {x y : Operand} {u v : Value} (h : (∀ cs, u ≠ .agg cs) ∧ u ≠ .nilIface) : (eqGuard op t x y u v).run P w = .ok () w := by
  unfold eqGuard
  cases u <;> first | exact absurd rfl (h.1 _) | exact absurd rfl h.2 | (split <;> simp)

variable (hT : ∀ t i, T t = some i → TI.of P t = some i) (hE : ∀ t, E.eq t = true → EqFact P t)
include hT hE
theorem binE_sound {op : BinOp} {t : Nat} {v u : AV} {x y : Value} {ox oy : Operand} (hm : M w (okOf cx s γ w) γ v x) (hu : M w (okOf cx s γ w) γ u y) {K : AV → Prop} (hl : binE T E op t v u K) :
    Yd P cx γ s w (do eqGuard op t ox oy x y; binOp op t x y) K := by
  cases v with
  | d p =>
    cases p with
    | int k n =>
      cases u with
      | d q =>
        cases q with
        | int k' m =>
          simp only [binE] at hl
          have hx : x = .int k n := hm
          have hy : y = .int k' m := hu
          subst hx; subst hy
          cases hb : (isShift op || kbeq k k') with
          | false => simp [hb] at hl
          | true =>
            simp only [hb, cond_true] at hl
            obtain ⟨v, x, h1, h2, h3, h4⟩ := intBin_sound (P := P) (cx := cx) (γ := γ) (s := s) (w := w) (k' := k') (by simp only [Bool.or_eq_true] at hb; exact hb.imp id kbeq_eq) hl
            refine ⟨v, x, ?_, h2, h3, h4⟩
            simp only [Sem.run_bind, eqGuard_plain (⟨fun _ => by simp, by simp⟩ : (∀ cs, Value.int k n ≠ .agg cs) ∧ Value.int k n ≠ .nilIface), Result.andThen_ok]
            have : binOp op t (.int k n) (.int k' m) = binOp op 0 (.int k n) (.int k' m) := by cases op <;> rfl
            rw [this]; exact h1
        | _ => simp [binE] at hl
      | _ => simp [binE] at hl
    | bool b =>
      cases u with
      | d q =>
        cases q with
        | bool c =>
          have hx : x = .bool b := hm
          have hy : y = .bool c := hu
          subst hx; subst hy
          simp only [binE] at hl
          cases hb : isBoolT T t with
          | false => simp [hb] at hl
          | true =>
            unfold isBoolT at hb
            cases ht : T t with
            | none => simp [ht] at hb
            | some ti =>
              obtain ⟨size, ag, bytes, zero, kind⟩ := ti
              cases kind with
              | bool =>
                obtain ⟨info, d, z, _, hd, _, _, _, _, _, hk⟩ := ti_facts (hT t _ ht)
                have hds := TK.of_bool hk
                subst hds
                have hg := fun op => eqGuard_plain (P := P) (w := w) (op := op) (t := t) (x := ox) (y := oy) (v := .bool c) (⟨fun _ => by simp, by simp⟩ : (∀ cs, Value.bool b ≠ .agg cs) ∧ Value.bool b ≠ .nilIface)
                have hq : (Op.equal t (.bool b) (.bool c)).run P w = .ok (b == c) w := by
                  exact run_equalIn_bool' w 9999 t b c hd
                have hb' : isBoolT T t = true := by unfold isBoolT; simp [ht]
                simp only [hb'] at hl
                cases op <;> simp only at hl
                case eql => exact .of (v := .d (.bool (b == c))) (x := .bool (b == c)) (by simp [hg, binOp, hq]) rfl (fun j hj => by simp [AV.refs] at hj) hl
                case neq => exact .of (v := .d (.bool (!(b == c)))) (x := .bool (!(b == c))) (by simp [hg, binOp, hq]) rfl (fun j hj => by simp [AV.refs] at hj) hl
              | _ => simp [ht] at hb
        | _ => simp [binE] at hl
      | _ => simp [binE] at hl
    | _ => cases u <;> simp [binE] at hl
  | agg xs =>
    cases u with
    | agg ys =>
      simp only [binE] at hl
      cases ht : E.eq t with
      | false => simp [ht] at hl
      | true =>
        cases hti : T t with
        | none => simp [ht, hti] at hl
        | some ti =>
        cases hd : eqDs xs ys with
        | none => simp [ht, hti, hd] at hl
        | some b =>
          simp only [ht, hti, hd] at hl
          cases hln : Nat.beq xs.length ti.size with
          | false => simp [hln] at hl
          | true =>
          simp only [hln, cond_true] at hl
          obtain ⟨vs, rfl, hvs⟩ := hm
          obtain ⟨us, rfl, hus⟩ := hu
          obtain ⟨h1, h2⟩ := hE t ht w (okOf cx s γ w) xs ys vs us b ox oy ⟨ti, hT t ti hti, Nat.eq_of_beq_eq_true hln⟩ hd hvs hus
          cases op <;> simp only at hl
          case eql => exact .of (v := .d (.bool b)) (x := .bool b) h1 rfl (fun j hj => by simp [AV.refs] at hj) hl
          case neq => exact .of (v := .d (.bool !b)) (x := .bool !b) h2 rfl (fun j hj => by simp [AV.refs] at hj) hl
    | _ => simp [binE] at hl
  | _ => cases u <;> simp [binE] at hl
end
end Go.Pg
