/-
  The seat's facts for the evaluator; how data are written; calls by contract.
-/
import Derived.Test.YtlmljmgappiehaaPgQ
import Derived.Test.YtlmljmgappiehaaPgT
set_option linter.all false
namespace Go.Pg
open Go.Proofs Go.RowKit
noncomputable abbrev PP : Program := Try.prog
theorem hT : ∀ t i, TTab t = some i → TI.of PP t = some i := fun t i h => by
  have h' : look tl t = some i := h
  have := tl_ok (t, i) (look_mem h')
  exact this
theorem hM : PP.follows .mixedOrders = true := by kernel_rfl

/-! ### Structs of integers -/
/-- The fields from offset i on are integers. -/
def intF (P : Program) : Nat → List Field → Bool
  | _, [] => true
  | i, f :: fs => !(f.name == "_") && Nat.beq f.offset i && (match P.underlying f.type with | some (.int _) => true | _ => false) && intF P (i + 1) fs
theorem eqF_ok {P : Program} {w : World} {d : Nat} : ∀ (fs : List Field) (i : Nat) (xs ys : List D) (vs us : List Value) (ok : Nat → Prop) (b : Bool), intF P i fs = true → xs.length = i + fs.length →
    eqDs (xs.drop i) (ys.drop i) = some b → All2 (Rep w ok) xs vs → All2 (Rep w ok) ys us → (Op.eqFields (d + 1) vs.toArray us.toArray fs).run P w = .ok b w
  | [], i, xs, ys, vs, us, ok, b, _, hl, he, h1, h2 => by
    have h3 : xs.drop i = [] := List.drop_eq_nil_of_le (by simp at hl; omega)
    rw [h3] at he
    cases hy : ys.drop i with
    | nil => rw [hy] at he; simp [eqDs] at he; subst he; simp [Op.eqFields]
    | cons y r => rw [hy] at he; simp [eqDs] at he
  | f :: fs, i, xs, ys, vs, us, ok, b, hf, hl, he, h1, h2 => by
    simp only [intF, Bool.and_eq_true, Bool.not_eq_true'] at hf
    obtain ⟨⟨⟨hn, ho⟩, ht⟩, hr⟩ := hf
    have ho := Nat.eq_of_beq_eq_true ho
    have hi : i < xs.length := by rw [hl]; simp
    cases hy : ys.drop i with
    | nil =>
      rw [hy, List.drop_eq_getElem_cons hi] at he
      simp [eqDs] at he
    | cons y r =>
      have hj : i < ys.length := by
        rcases Nat.lt_or_ge i ys.length with h | h
        · exact h
        · rw [List.drop_eq_nil_of_le h] at hy; cases hy
      rw [List.drop_eq_getElem_cons hj] at hy
      simp only [List.cons.injEq] at hy
      obtain ⟨rfl, rfl⟩ := hy
      rw [List.drop_eq_getElem_cons hi, List.drop_eq_getElem_cons hj] at he
      simp only [eqDs] at he
      cases hq : eqD xs[i] ys[i] with
      | none => simp [hq] at he
      | some q =>
        cases hqs : eqDs (xs.drop (i + 1)) (ys.drop (i + 1)) with
        | none => simp [hq, hqs] at he
        | some q' =>
          simp only [hq, hqs, Option.some.injEq] at he
          have hb : b = (q && q') := he.symm
          obtain ⟨v, hv, hrv⟩ := h1.get i xs[i] (by simp [hi])
          obtain ⟨u, hu, hru⟩ := h2.get i ys[i] (by simp [hj])
          cases hund : P.underlying f.type with
          | none => simp [hund] at ht
          | some td =>
            cases td with
            | int k0 =>
              have hag : (isAgg f.type).run P w = .ok false w := by simp [isAgg, run_underlying hund]
              have hp1 : (part f.type vs.toArray f.offset).run P w = .ok v w := by simp [part, hag, ho, hv]
              have hp2 : (part f.type us.toArray f.offset).run P w = .ok u w := by simp [part, hag, ho, hu]
              have hn' : f.name ≠ "_" := by simpa using hn
              have heq : (Op.equalIn (d + 1) f.type v u).run P w = .ok q w := by
                cases hx : xs[i] with
                | int k a =>
                  rw [hx] at hq hrv
                  cases hz : ys[i] with
                  | int k' c =>
                    rw [hz] at hq hru
                    have hv' : v = .int k a := hrv
                    have hu' : u = .int k' c := hru
                    simp only [eqD] at hq
                    cases hk : kbeq k k' with
                    | false => simp [hk] at hq
                    | true =>
                      have := kbeq_eq hk
                      subst this
                      simp only [hk, cond_true, Option.some.injEq] at hq
                      subst hq; subst hv'; subst hu'
                      exact run_equalIn_int w d f.type k k0 a c hund
                  | _ => rw [hz] at hq; simp [eqD] at hq
                | _ => rw [hx] at hq; simp [eqD] at hq
              simp only [Op.eqFields, hn', ne_eq, not_false_eq_true, if_true, Sem.run_bind, hp1, hp2, heq, Result.andThen_ok]
              cases q with
              | false => simp [hb]
              | true =>
                simp only [Bool.not_true, Bool.false_eq_true, if_false]
                rw [hb, Bool.true_and]
                exact eqF_ok fs (i + 1) xs ys vs us ok q' hr (by rw [hl]; simp; omega) hqs h1 h2
            | _ => simp [hund] at ht
/-- A struct type all of whose fields are integers. -/
def intS (P : Program) (t : TypeId) : Bool :=
  (match P.underlying t with | some (.struct fs) => intF P 0 fs.toList && (match P.info? t with | some i => Nat.beq i.size fs.size | none => false) | _ => false) && !P.stoodInHeld t && !P.eqGuardType P.depth t
theorem eqFact_ints {P : Program} {t : TypeId} (h : intS P t = true) : EqFact P t := by
  intro w ok xs ys vs us b x y ⟨ti, hti, hlen⟩ hb hv hu
  obtain ⟨info, d, z, g1, g2, g3, g4, g5, g6, g7, g8⟩ := ti_facts hti
  unfold intS at h
  rw [g2] at h
  cases d with
  | struct fs =>
    simp only [g1, Bool.and_eq_true, Bool.not_eq_true'] at h
    obtain ⟨⟨⟨h1, h2⟩, h3⟩, h4⟩ := h
    have h2 := Nat.eq_of_beq_eq_true h2
    have hfo : P.fieldsOf t = fs := by simp [Program.fieldsOf, g2]
    have ht : P.underlying t = some (.struct (P.fieldsOf t)) := by rw [hfo]; exact g2
    have hq : (Op.equalIn 10000 t (.agg vs.toArray) (.agg us.toArray)).run P w = .ok b w := by
      rw [run_equalIn_struct w 9999 t _ _ ht h3, hfo]
      exact eqF_ok fs.toList 0 xs ys vs us ok b h1 (by rw [hlen, ← g4, h2]; simp) (by simpa using hb) hv hu
    constructor
    · simp only [Sem.run_bind, run_eqGuard_agg w _ t x y _ _ h4, Result.andThen_ok, run_eql_struct, hq]
    · simp only [Sem.run_bind, run_eqGuard_agg w _ t x y _ _ h4, Result.andThen_ok, run_neq_struct, hq]
  | _ => simp at h

def eqTs : List Nat := [24, 26, 43, 50, 41, 62]
def ET (t : Nat) : Bool := eqTs.any (Nat.beq t)
theorem eqTs_ok : eqTs.all (intS PP) = true := by kernel_rfl
theorem hE : ∀ t, ET t = true → EqFact PP t := fun t h => by
  obtain ⟨u, hu, he⟩ := List.any_eq_true.1 h
  have := Nat.eq_of_beq_eq_true he
  subst this
  exact eqFact_ints (List.all_eq_true.1 eqTs_ok _ hu)

/-! ### Contracts out of the evaluator -/
def EN : Env := ⟨ET, false, 0, fun _ _ => False, false⟩
def ED : Env := ⟨ET, true, 0, fun _ _ => False, false⟩
theorem spec_at {f : FuncId} {fn : Func} {c : Code} (hf : PP.funcs[f]? = some fn) (hb : fn.body = some c) (hq : ((fn.name == "runtime.NumGoroutine") || !(codeN fn.ntmps c && Nat.ble fn.ntmps 4294967296)) = false)
    {args res : List V1} (hsz : Nat.ble args.length fn.ntmps = true) (h : awp PP TTab EN c (St.of (argSlots 0 args) []) (retK TTab fn.results.toList res)) : Spec PP f args res := by
  simp only [Bool.or_eq_false_iff, Bool.not_eq_false', Bool.and_eq_true] at hq
  exact spec_of (E := EN) hT hE hM hf hb hq.1 hq.2.1 (Nat.le_of_ble_eq_true hsz) (Nat.le_of_ble_eq_true hq.2.2) h
theorem specO_at {f : FuncId} {fn : Func} {c : Code} (hf : PP.funcs[f]? = some fn) (hb : fn.body = some c) (hq : ((fn.name == "runtime.NumGoroutine") || !(codeN fn.ntmps c && Nat.ble fn.ntmps 4294967296)) = false)
    {args : List V1} {e k n : Nat} {g : Nat → Nat → D} (hsz : Nat.ble args.length fn.ntmps = true) (h : awp PP TTab EN c (St.of (argSlots 0 args) []) (retKO fn.results.toList e k n g)) : SpecO PP f args e k n g := by
  simp only [Bool.or_eq_false_iff, Bool.not_eq_false', Bool.and_eq_true] at hq
  exact specO_of (E := EN) hT hE hM hf hb hq.1 hq.2.1 (Nat.le_of_ble_eq_true hsz) (Nat.le_of_ble_eq_true hq.2.2) h

theorem specD_at {f : FuncId} {fn : Func} {c : Code} (hf : PP.funcs[f]? = some fn) (hb : fn.body = some c) (hq : ((fn.name == "runtime.NumGoroutine") || !(codeN fn.ntmps c && Nat.ble fn.ntmps 4294967296)) = false)
    {args res : List V1} (hsz : Nat.ble args.length fn.ntmps = true) (h : awp PP TTab ED c (St.of (argSlots 0 args) []) (retK TTab fn.results.toList res)) : SpecD PP f args res := by
  simp only [Bool.or_eq_false_iff, Bool.not_eq_false', Bool.and_eq_true] at hq
  exact spec_of (E := ED) hT hE hM hf hb hq.1 hq.2.1 (Nat.le_of_ble_eq_true hsz) (Nat.le_of_ble_eq_true hq.2.2) h
/-! ### Arguments may be written in another way -/
def V1.eqv : V1 → V1 → Prop
  | .d x, .d y => D.eqv x y
  | .agg xs, .agg ys => eqvs xs ys
  | _, _ => False
def eqV1s : List V1 → List V1 → Prop
  | [], [] => True
  | x :: xs, y :: ys => V1.eqv x y ∧ eqV1s xs ys
  | _, _ => False
theorem rep1_eqv {w : World} {ok : Nat → Prop} {x y : V1} {v : Value} (h : Rep1 w ok x v) (he : V1.eqv x y) : Rep1 w ok y v := by
  cases x with
  | d x => cases y with
    | d y => exact Rep.eqv h he
    | agg _ => exact he.elim
  | agg xs => cases y with
    | d y => exact he.elim
    | agg ys => obtain ⟨vs, h1, h2⟩ := h; exact ⟨vs, h1, eqvs_all2 he h2⟩
theorem rep1s_eqv {w : World} {ok : Nat → Prop} : ∀ {xs ys : List V1} {vs : List Value}, eqV1s xs ys → All2 (Rep1 w ok) xs vs → All2 (Rep1 w ok) ys vs
  | [], [], _, _, h => h
  | x :: xs, y :: ys, _, he, .cons h1 h2 => .cons (rep1_eqv h1 he.1) (rep1s_eqv he.2 h2)
  | [], _ :: _, _, he, _ => he.elim
  | _ :: _, [], _, he, _ => he.elim
theorem SpecG.eqv {d : Bool} {P : Program} {f : FuncId} {xs ys res : List V1} (h : SpecG d P f ys res) (he : eqV1s xs ys) : SpecG d P f xs res :=
  ⟨h.1, fun w ok vs hok hr => h.2 w ok vs hok (rep1s_eqv he hr)⟩
theorem SpecOG.eqv {d : Bool} {P : Program} {f : FuncId} {xs ys : List V1} {e k n : Nat} {g : Nat → Nat → D} (h : SpecOG d P f ys e k n g) (he : eqV1s xs ys) : SpecOG d P f xs e k n g :=
  ⟨h.1, fun w ok vs hok hr => h.2 w ok vs hok (rep1s_eqv he hr)⟩

section
variable {P : Program} {s : St} {o : Oper} {fo : Operand} {f : FuncId} {args : List Operand} {K : St → Prop}
variable {dr : Bool} {E : Env}
/-- In a region that draws its order. -/
theorem CallOb.pure {s : St} {args : List AV} {K : AV → Prop} {xs res : List V1} (h : SpecG dr P f xs res) (hx : toV1s s args = some xs) (hr : res.all V1.flat = true) (hk : K (resAV res)) : CallOb dr P s f args K := ⟨xs, res, hx, h, .inl hr, hk⟩
theorem CallOb.pureE {s : St} {args : List AV} {K : AV → Prop} {xs ys res : List V1} (h : SpecG dr P f ys res) (hx : toV1s s args = some xs) (he : eqV1s xs ys) (hr : res.all V1.flat = true) (hk : K (resAV res)) : CallOb dr P s f args K := ⟨xs, res, hx, h.eqv he, .inl hr, hk⟩
theorem CallOb.ro {s : St} {args : List AV} {K : AV → Prop} {xs res : List V1} (h : SpecG dr P f xs res) (hx : toV1s s args = some xs) (hr : args.all (fun v => !v.isOwn) = true) (hk : K (resAV res)) : CallOb dr P s f args K := ⟨xs, res, hx, h, .inr hr, hk⟩
/-- What is called, with what. -/
def toV1c (s : St) (fo : Operand) (args : List Operand) : Option (FuncId × List V1) :=
  match callee (ev s fo) with
  | some (f, ex) => match toV1s s (args.map (ev s) ++ ex) with
    | some xs => some (f, xs)
    | none => none
  | none => none
def noOwn (s : St) (args : List Operand) : Bool := args.all fun x => !(ev s x).isOwn
theorem toV1c_some {xs : List V1} (h : toV1c s fo args = some (f, xs)) : ∃ ex, callee (ev s fo) = some (f, ex) ∧ toV1s s (args.map (ev s) ++ ex) = some xs := by
  unfold toV1c at h
  cases hc : callee (ev s fo) with
  | none => simp [hc] at h
  | some p =>
    obtain ⟨g, ex⟩ := p
    simp only [hc] at h
    cases hx : toV1s s (args.map (ev s) ++ ex) with
    | none => simp [hx] at h
    | some ys =>
      simp only [hx, Option.some.injEq, Prod.mk.injEq] at h
      obtain ⟨rfl, rfl⟩ := h
      exact ⟨ex, rfl, hx⟩
theorem callee_noOwn {v : AV} {ex : List AV} (h : callee v = some (f, ex)) : ex.all (fun v => !v.isOwn) = true := by
  unfold callee at h
  split at h
  · cases h; rfl
  · cases h; simp [AV.isOwn]
  · split at h
    · cases h; simp [AV.isOwn]
    · cases h
  · cases h
theorem noOwn_all {ex : List AV} (h : noOwn s args = true) (he : ex.all (fun v => !v.isOwn) = true) : (args.map (ev s) ++ ex).all (fun v => !v.isOwn) = true := by
  rw [List.all_append, he, Bool.and_true, List.all_map]; exact h
/-- The same, the arguments written in another way. -/
theorem CallSt.pureE {xs ys res : List V1} (h : SpecG E.dr P f ys res) (hx : toV1c s fo args = some (f, xs)) (he : eqV1s xs ys) (hr : res.all V1.flat = true) (hk : K (s.putO o.dst (resAV res))) : CallSt E P s o fo args K := by
  obtain ⟨ex, h1, h2⟩ := toV1c_some hx
  rw [CallSt_iff]; exact .inl ⟨[], f, ex, h1, by rw [CallOb_iff]; exact ⟨xs, res, h2, h.eqv he, .inl hr, hk⟩⟩
/-- A call whose result is numbers. -/
theorem CallSt.pure {xs res : List V1} (h : SpecG E.dr P f xs res) (hx : toV1c s fo args = some (f, xs)) (hr : res.all V1.flat = true) (hk : K (s.putO o.dst (resAV res))) : CallSt E P s o fo args K := by
  obtain ⟨ex, h1, h2⟩ := toV1c_some hx
  rw [CallSt_iff]; exact .inl ⟨[], f, ex, h1, by rw [CallOb_iff]; exact ⟨xs, res, h2, h, .inl hr, hk⟩⟩
/-- A call, none of whose arguments is a row of the caller's own. -/
theorem CallSt.ro {xs res : List V1} (h : SpecG E.dr P f xs res) (hx : toV1c s fo args = some (f, xs)) (hr : noOwn s args = true) (hk : K (s.putO o.dst (resAV res))) : CallSt E P s o fo args K := by
  obtain ⟨ex, h1, h2⟩ := toV1c_some hx
  rw [CallSt_iff]; exact .inl ⟨[], f, ex, h1, by rw [CallOb_iff]; exact ⟨xs, res, h2, h, .inr (noOwn_all hr (callee_noOwn h1)), hk⟩⟩
/-- A call ahead of which some own objects are from now on plain data. -/
theorem CallSt.fz (ids : List Nat) {xs res : List V1} (h : SpecG E.dr P f xs res) (hx : toV1c (s.freezes ids) fo args = some (f, xs)) (hr : noOwn (s.freezes ids) args = true) (hk : K ((s.freezes ids).putO o.dst (resAV res))) : CallSt E P s o fo args K := by
  obtain ⟨ex, h1, h2⟩ := toV1c_some hx
  rw [CallSt_iff]; exact .inl ⟨ids, f, ex, h1, by rw [CallOb_iff]; exact ⟨xs, res, h2, h, .inr (noOwn_all hr (callee_noOwn h1)), hk⟩⟩
/-- The same, the arguments written in another way. -/
theorem CallSt.fzE (ids : List Nat) {xs ys res : List V1} (h : SpecG E.dr P f ys res) (hx : toV1c (s.freezes ids) fo args = some (f, xs)) (he : eqV1s xs ys) (hr : noOwn (s.freezes ids) args = true) (hk : K ((s.freezes ids).putO o.dst (resAV res))) : CallSt E P s o fo args K := by
  obtain ⟨ex, h1, h2⟩ := toV1c_some hx
  rw [CallSt_iff]; exact .inl ⟨ids, f, ex, h1, by rw [CallOb_iff]; exact ⟨xs, res, h2, h.eqv he, .inr (noOwn_all hr (callee_noOwn h1)), hk⟩⟩
/-- Numbers alone come back: own rows stay what they are; some objects are plain data from now on. -/
theorem CallSt.fzP (ids : List Nat) {xs ys res : List V1} (h : SpecG E.dr P f ys res) (hx : toV1c (s.freezes ids) fo args = some (f, xs)) (he : eqV1s xs ys) (hr : res.all V1.flat = true) (hk : K ((s.freezes ids).putO o.dst (resAV res))) : CallSt E P s o fo args K := by
  obtain ⟨ex, h1, h2⟩ := toV1c_some hx
  rw [CallSt_iff]; exact .inl ⟨ids, f, ex, h1, by rw [CallOb_iff]; exact ⟨xs, res, h2, h.eqv he, .inl hr, hk⟩⟩
theorem CallSt.own {xs : List V1} {d e k n : Nat} {g : Nat → Nat → D} (h : SpecOG E.dr P f xs e k n g) (hx : toV1c s fo args = some (f, xs)) (hd : o.dst = some d) (hg : ∀ m j, m < n → j < k → (g m j).flat = true) (hk : K (Go.Pg.mk s d (.row e k n g) (.own d))) : CallSt E P s o fo args K := by
  obtain ⟨ex, h1, h2⟩ := toV1c_some hx
  rw [CallSt_iff]; exact .inr (.inl ⟨[], f, ex, d, h1, hd, by rw [CallOwn_iff]; exact ⟨xs, e, k, n, g, h2, h, hg, hk⟩⟩)
theorem CallSt.ownE {xs ys : List V1} {d e k n : Nat} {g : Nat → Nat → D} (h : SpecOG E.dr P f ys e k n g) (hx : toV1c s fo args = some (f, xs)) (he : eqV1s xs ys) (hd : o.dst = some d) (hg : ∀ m j, m < n → j < k → (g m j).flat = true) (hk : K (Go.Pg.mk s d (.row e k n g) (.own d))) : CallSt E P s o fo args K := by
  obtain ⟨ex, h1, h2⟩ := toV1c_some hx
  rw [CallSt_iff]; exact .inr (.inl ⟨[], f, ex, d, h1, hd, by rw [CallOwn_iff]; exact ⟨xs, e, k, n, g, h2, h.eqv he, hg, hk⟩⟩)
theorem CallSt.cu (s' : St) (h : Custom E.dr P s o s') (hk : K s') : CallSt E P s o fo args K := by
  rw [CallSt_iff]; exact .inr (.inr (.inl ⟨s', h, hk⟩))
end

/-! ### Data -/
abbrev I (n : Int) : D := .int .i64 n
structure Half where
  A : Int
  B : Int
  C : Int
  deriving DecidableEq, Inhabited
structure Corner where
  X : Int
  Y : Int
  Den : Int
  deriving DecidableEq, Inhabited
structure Place where
  X : Int
  Y : Int
  deriving DecidableEq, Inhabited
structure Frac where
  Num : Int
  Den : Int
  deriving DecidableEq, Inhabited
structure Use where
  H : Int
  T : Int
  deriving DecidableEq, Inhabited
abbrev Half.v (h : Half) : V1 := .agg [I h.A, I h.B, I h.C]
abbrev Corner.v (h : Corner) : V1 := .agg [I h.X, I h.Y, I h.Den]
abbrev Place.v (h : Place) : V1 := .agg [I h.X, I h.Y]
abbrev Frac.v (h : Frac) : V1 := .agg [I h.Num, I h.Den]
abbrev Use.v (h : Use) : V1 := .agg [I h.H, I h.T]
abbrev B (b : Bool) : V1 := .d (.bool b)
abbrev N (n : Int) : V1 := .d (I n)
structure Num where
  n : Int
  h : Half
  deriving DecidableEq, Inhabited
def Num.at (x : Num) : Nat → D
  | 0 => I x.n
  | 1 => I x.h.A
  | 2 => I x.h.B
  | _ => I x.h.C
def Half.at (h : Half) : Nat → D
  | 0 => I h.A
  | 1 => I h.B
  | _ => I h.C
def Corner.at (h : Corner) : Nat → D
  | 0 => I h.X
  | 1 => I h.Y
  | _ => I h.Den
def Place.at (h : Place) : Nat → D
  | 0 => I h.X
  | _ => I h.Y
def Use.at (h : Use) : Nat → D
  | 0 => I h.H
  | _ => I h.T
abbrev slH (l : List Half) : V1 := .d (.slc 3 l.length fun i => (l.getD i default).at)
abbrev slC (l : List Corner) : V1 := .d (.slc 3 l.length fun i => (l.getD i default).at)
abbrev slP (l : List Place) : V1 := .d (.slc 2 l.length fun i => (l.getD i default).at)
abbrev slU (l : List Use) : V1 := .d (.slc 2 l.length fun i => (l.getD i default).at)
abbrev slN (l : List Num) : V1 := .d (.slc 4 l.length fun i => (l.getD i default).at)
abbrev slI (l : List Int) : V1 := .d (.slc 1 l.length fun i _ => I (l.getD i 0))
end Go.Pg
