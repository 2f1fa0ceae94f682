/-
  Regions that draw their order: one walk in the order of the text serves every order. For every program.
-/
import Derived.Test.YtlmljmgappiehaaPgN
set_option linter.all false
namespace Go.Pg
open Go.RowKit
section
variable {P : Program} {T : TT} {E : Env} {cx : Cx} {γ : Nat → Value} {s s' : St} {a : Act} {w : World} {F : Fence} {n : Nat}

/-! ### What an evaluation asks is one value, and what becomes of it -/
def Spl (f : (AV → Prop) → Prop) : Prop := ∀ K, f K ↔ ∃ v, f (fun u => u = v) ∧ K v
theorem Spl.k (v : AV) : Spl fun K => K v := fun K => ⟨fun h => ⟨v, rfl, h⟩, fun ⟨u, h, hk⟩ => by rw [show v = u from h]; exact hk⟩
theorem Spl.false : Spl fun _ => False := fun K => ⟨fun h => h.elim, fun ⟨_, h, _⟩ => h⟩
theorem Spl.and {p : Prop} {f : (AV → Prop) → Prop} (h : Spl f) : Spl fun K => p ∧ f K := fun K =>
  ⟨fun ⟨hp, hf⟩ => let ⟨v, h1, h2⟩ := (h K).1 hf; ⟨v, ⟨hp, h1⟩, h2⟩, fun ⟨v, ⟨hp, h1⟩, h2⟩ => ⟨hp, (h K).2 ⟨v, h1, h2⟩⟩⟩
theorem Spl.cond {b : Bool} {f g : (AV → Prop) → Prop} (h1 : Spl f) (h2 : Spl g) : Spl fun K => bif b then f K else g K := by
  cases b
  · exact h2
  · exact h1
theorem Spl.split {b : Bool} {f : (AV → Prop) → Bool → Prop} (h : Spl fun K => f K b) : Spl fun K => Split b (f K) := fun K =>
  ⟨fun hs => let ⟨v, h1, h2⟩ := (h K).1 hs.out; ⟨v, .of h1, h2⟩, fun ⟨v, h1, h2⟩ => .of ((h K).2 ⟨v, h1.out, h2⟩)⟩

theorem loadP_spl (s : St) (ti : TI) (v : AV) : Spl (loadP s ti v) := by
  unfold loadP
  split
  · split
    · split
      · split
        · exact .cond (.k _) .false
        · exact .false
      · split
        · exact .k _
        · exact .false
    · exact .false
  · split
    · exact .cond (.k _) .false
    · exact .cond (.k _) .false
  · split
    · split
      · exact .cond (.and (.k _)) .false
      · exact .cond (.and (.k _)) .false
    · exact .false
  · exact .false
theorem loadE_spl (s : St) (ti : TI) (v : AV) : Spl (loadE s ti v) := loadP_spl s ti v.asPtr
theorem fieldAddrE_spl (T : TT) (st fld : Nat) (v : AV) : Spl (fieldAddrE T st fld v) := by
  unfold fieldAddrE
  split
  · split
    · split
      · exact .cond .false (.k _)
      · exact .false
    · exact .false
  · exact .false
theorem indexAddrP_spl (T : TT) (s : St) (t : Nat) (x ix : AV) : Spl (indexAddrP T s t x ix) := by
  unfold indexAddrP
  split
  · split
    · exact .and (.k _)
    · split
      · exact .and (.cond (.k _) .false)
      · exact .false
    · exact .and (.cond (.k _) .false)
    · exact .false
  · split
    · exact .and (.k _)
    · exact .and (.cond (.k _) .false)
    · exact .false
  · exact .false
theorem indexAddrE_spl (T : TT) (s : St) (t : Nat) (x ix : AV) : Spl (indexAddrE T s t x ix) := indexAddrP_spl T s t x.asPtr ix
theorem partE_spl (ti : TI) (xs : List D) (off : Nat) : Spl (partE ti xs off) := by
  unfold partE
  split
  · exact .cond (.k _) .false
  · split
    · exact .k _
    · exact .false
theorem fieldE_spl (T : TT) (st fld : Nat) (v : AV) : Spl (fieldE T st fld v) := by
  unfold fieldE
  split
  · split
    · split
      · exact partE_spl _ _ _
      · exact .false
    · exact .false
  · exact .false
theorem indexE_spl (T : TT) (t : Nat) (x ix : AV) : Spl (indexE T t x ix) := by
  unfold indexE
  split
  · split
    · exact .and (partE_spl _ _ _)
    · exact .false
  · exact .false
theorem intBin_spl (op : BinOp) (k : IntKind) (a b : Int) : Spl fun K => intBin op k a b fun r => K (.d r) := by
  unfold intBin
  cases op <;> first | exact .and (.k _) | exact .k _
theorem binE_spl (T : TT) (E : Env) (op : BinOp) (t : Nat) (x y : AV) : Spl (binE T E op t x y) := by
  unfold binE
  split
  · exact .cond (intBin_spl _ _ _ _) .false
  · split <;> first | exact .k _ | exact .false
  · split
    · refine .cond ?_ .false
      split <;> first | exact .k _ | exact .false
    · exact .false
  · exact .false
theorem unE_spl (op : UnOp) (x : AV) : Spl (unE op x) := by
  unfold unE
  split <;> first | exact .and (.k _) | exact .k _ | exact .false
theorem buildE_spl (T : TT) (s : St) (t : Nat) (parts : List (Nat × Operand)) : Spl (buildE T s t parts) := by
  unfold buildE
  split
  · split
    · split <;> first | exact .k _ | exact .false
    · exact .false
  · split
    · split <;> first | exact .k _ | exact .false
    · exact .false
  · exact .false
theorem buildSliceE_spl (T : TT) (s : St) (t len : Nat) (parts : List (Nat × Operand)) : Spl fun K => buildSliceE T s t len parts fun _ ei f => K (.d (.slc ei.size len f)) := by
  unfold buildSliceE
  split
  · split
    · split
      · split
        · exact .cond (.k _) .false
        · exact .false
      · exact .false
    · exact .false
  · exact .false
theorem sliceE_spl (T : TT) (s : St) (t : Nat) (x : AV) (lo hi : Option AV) : Spl (sliceE T s t x lo hi) := by
  unfold sliceE
  split
  · split
    · split <;> first | exact .and (.k _) | exact .false
    · exact .false
  · split
    · split <;> first | exact .and (.k _) | exact .false
    · exact .false
  · exact .false
theorem extractE_spl (v : AV) (i : Nat) : Spl (extractE v i) := by
  unfold extractE
  split
  · split <;> first | exact .k _ | exact .false
  · exact .false
theorem lenE_spl (T : TT) (t : Nat) (s : St) (v : AV) : Spl (lenE T t s v) := by
  unfold lenE
  split
  · exact .cond (.k _) .false
  · exact .cond (.k _) .false
  · exact .cond (.k _) .false
  · split
    · exact .cond (.k _) .false
    · exact .false
  · exact .cond (.k _) .false
  · exact .false
theorem maxE_spl (mx : Bool) : ∀ (r : List AV) (v : AV), Spl (maxE mx v r)
  | [], v => by
    have : maxE mx v [] = fun K => K v := by funext K; cases v <;> rfl
    rw [this]; exact .k _
  | u :: r, v => by
    have no : (∀ K, ¬ maxE mx v (u :: r) K) → Spl (maxE mx v (u :: r)) := fun h => by
      have : maxE mx v (u :: r) = fun _ => False := by funext K; exact eq_false (h K)
      rw [this]; exact .false
    cases v with
    | d p =>
      cases p with
      | int k a =>
        cases u with
        | d q =>
          cases q with
          | int k' b => exact maxE_spl mx r _
          | _ => exact no fun K h => by simp [maxE] at h
        | _ => exact no fun K h => by simp [maxE] at h
      | _ => exact no fun K h => by cases u <;> simp [maxE] at h
    | _ => exact no fun K h => by simp [maxE] at h
theorem callOb_spl (d : Bool) (P : Program) (s : St) (f : FuncId) (args : List AV) : Spl (CallOb d P s f args) := fun K => by
  rw [CallOb_iff]
  exact ⟨fun ⟨xs, res, h1, h2, h3, h4⟩ => ⟨_, ⟨xs, res, h1, h2, h3, rfl⟩, h4⟩, fun ⟨v, ⟨xs, res, h1, h2, h3, h4⟩, h5⟩ => ⟨xs, res, h1, h2, h3, by rw [h4]; exact h5⟩⟩
theorem opE_spl (P : Program) (T : TT) (E : Env) (s : St) (op : Op) : Spl (opE P T E s op) := by
  unfold opE
  split
  · exact .k _
  · exact .k _
  · split
    · exact .split (.k _)
    · exact .false
  · split
    · exact loadE_spl _ _ _
    · exact .false
  · exact fieldAddrE_spl _ _ _ _
  · exact indexAddrE_spl _ _ _ _ _
  · exact fieldE_spl _ _ _ _
  · exact indexE_spl _ _ _ _
  · exact binE_spl _ _ _ _ _ _
  · exact unE_spl _ _
  · split <;> first | exact .k _ | exact .false
  · exact buildE_spl _ _ _ _
  · exact sliceE_spl _ _ _ _ _ _
  · exact extractE_spl _ _
  · split <;> first | exact .k _ | exact .false
  · split
    · exact lenE_spl _ _ _ _
    · exact .false
  · split
    · exact maxE_spl _ _ _
    · exact .false
  · split
    · exact maxE_spl _ _ _
    · exact .false
  · split
    · exact callOb_spl _ _ _ _ _
    · exact .false
  · exact .false
theorem valD_spl (P : Program) (T : TT) (E : Env) (s : St) (op : Op) : Spl (valD P T E s op) := by
  unfold valD
  split
  · exact buildSliceE_spl _ _ _ _ _
  · exact opE_spl _ _ _ _ _

/-! ### An evaluation looks at its operands, and at the objects that they refer to -/
/-- s' knows all objects of s. -/
def More (s s' : St) : Prop := ∀ i o, s.ob i = some o → s'.ob i = some o
theorem loadP_more {s s' : St} (h : More s s') {ti : TI} {v : AV} {K : AV → Prop} (hl : loadP s ti v K) : loadP s' ti v K := by
  cases v with
  | box i off =>
    simp only [loadP] at *
    cases ho : s.ob i with
    | none => simp [ho] at hl
    | some o => rw [h i o ho]; rw [ho] at hl; exact hl
  | elt i k n c =>
    simp only [loadP] at *
    cases ho : s.ob i with
    | none => simp [ho] at hl
    | some o => rw [h i o ho]; rw [ho] at hl; exact hl
  | _ => exact hl
theorem loadE_more {s s' : St} (h : More s s') {ti : TI} {v : AV} {K : AV → Prop} (hl : loadE s ti v K) : loadE s' ti v K := loadP_more h hl
theorem sliceE_more {s s' : St} (h : More s s') {T : TT} {t : Nat} {x : AV} {lo hi : Option AV} {K : AV → Prop} (hl : sliceE T s t x lo hi K) : sliceE T s' t x lo hi K := by
  cases ht : T t with
  | none => simp [sliceE, ht] at hl
  | some ti =>
    obtain ⟨size, ag, bytes, zero, kind⟩ := ti
    cases kind with
    | slice e =>
      cases x with
      | own id =>
        simp only [sliceE, ht] at *
        cases ho : s.ob id with
        | none => simp [ho] at hl
        | some o => rw [h id o ho]; rw [ho] at hl; exact hl
      | d y => cases y <;> first | exact (by simpa only [sliceE, ht] using hl) | (simp [sliceE, ht] at hl; done)
      | _ => simp [sliceE, ht] at hl
    | _ => simp [sliceE, ht] at hl
theorem indexAddrP_more {s s' : St} (h : More s s') {T : TT} {t : Nat} {x ix : AV} {K : AV → Prop} (hl : indexAddrP T s t x ix K) : indexAddrP T s' t x ix K := by
  cases ht : T t with
  | none => simp [indexAddrP, ht] at hl
  | some ti =>
    obtain ⟨size, ag, bytes, zero, kind⟩ := ti
    cases kind with
    | slice e =>
      cases ix with
      | d y =>
        cases y with
        | int k i =>
          simp only [indexAddrP, ht] at *
          cases he : T e with
          | none => simp [he] at hl
          | some ei =>
            cases x with
            | own id =>
              simp only [he] at *
              cases ho : s.ob id with
              | none => simp [ho] at hl
              | some o => rw [h id o ho]; rw [ho] at hl; exact hl
            | d p => cases p <;> first | (simp only [he] at *; exact hl) | (simp [he] at hl; done)
            | sub id k' lo n => simp only [he] at *; exact hl
            | _ => simp [he] at hl
        | _ => simp [indexAddrP, ht] at hl
      | _ => simp [indexAddrP, ht] at hl
    | array n e =>
      cases ix with
      | d y =>
        cases y with
        | int k i => simp only [indexAddrP, ht] at *; exact hl
        | _ => simp [indexAddrP, ht] at hl
      | _ => simp [indexAddrP, ht] at hl
    | _ => simp [indexAddrP, ht] at hl
theorem indexAddrE_more {s s' : St} (h : More s s') {T : TT} {t : Nat} {x ix : AV} {K : AV → Prop} (hl : indexAddrE T s t x ix K) : indexAddrE T s' t x ix K := indexAddrP_more h hl
theorem lenE_more {s s' : St} (h : More s s') {T : TT} {t : Nat} {v : AV} {K : AV → Prop} (hl : lenE T t s v K) : lenE T t s' v K := by
  cases v with
  | own i =>
    simp only [lenE] at *
    cases ho : s.ob i with
    | none => simp [ho] at hl
    | some o => rw [h i o ho]; rw [ho] at hl; exact hl
  | d p => cases p <;> exact hl
  | _ => exact hl
theorem toV1_more {s s' : St} (h : More s s') {v : AV} {y : V1} (hv : toV1 s v = some y) : toV1 s' v = some y := by
  cases v with
  | own i =>
    simp only [toV1] at *
    cases ho : s.ob i with
    | none => simp [ho] at hv
    | some o => rw [h i o ho]; rw [ho] at hv; exact hv
  | _ => exact hv
theorem toV1s_more {s s' : St} (h : More s s') : ∀ {vs : List AV} {ys : List V1}, toV1s s vs = some ys → toV1s s' vs = some ys
  | [], _, hv => hv
  | v :: vs, ys, hv => by
    simp only [toV1s] at *
    cases ha : toV1 s v with
    | none => simp [ha] at hv
    | some y =>
      cases hb : toV1s s vs with
      | none => simp [ha, hb] at hv
      | some l => rw [toV1_more h ha, toV1s_more h hb]; rw [ha, hb] at hv; exact hv
theorem fillE_congr {s s' : St} {place : Nat → Option (Nat × Nat)} : ∀ {parts : List (Nat × Operand)} {l : List D}, (∀ p ∈ parts, ev s' p.2 = ev s p.2) → fillE place s' parts l = fillE place s parts l
  | [], l, _ => rfl
  | (i, x) :: r, l, h => by
    have h1 := h (i, x) (by simp)
    have ih := fun l => fillE_congr (s := s) (s' := s') (place := place) (parts := r) (l := l) fun p hp => h p (by simp [hp])
    simp only at h1
    simp only [fillE, h1, ih]
/-- Both states show the same of an operation's operands. -/
def SameOn (s s' : St) (op : Op) : Prop := ∀ x ∈ op.operands, ev s' x = ev s x
theorem opE_more {s s' : St} (h : More s s') {op : Op} (hs : SameOn s s' op) {K : AV → Prop} (hl : opE P T E s op K) : opE P T E s' op K := by
  unfold SameOn at hs
  cases op with
  | move x => have := hs x (by simp [Op.operands]); simp only [opE, this] at *; exact hl
  | assign x => have := hs x (by simp [Op.operands]); simp only [opE, this] at *; exact hl
  | pick c a b =>
    have h1 := hs c (by simp [Op.operands])
    have h2 := hs a (by simp [Op.operands])
    have h3 := hs b (by simp [Op.operands])
    simp only [opE, h1, h2, h3] at *; exact hl
  | load t x =>
    have := hs x (by simp [Op.operands])
    simp only [opE, this] at *
    cases ht : T t with
    | none => simp [ht] at hl
    | some ti => simp only [ht] at *; exact loadE_more h hl
  | fieldAddr st x f => have := hs x (by simp [Op.operands]); simp only [opE, this] at *; exact hl
  | indexAddr t x i =>
    have h1 := hs x (by simp [Op.operands])
    have h2 := hs i (by simp [Op.operands])
    simp only [opE, h1, h2] at *; exact indexAddrE_more h hl
  | field st x f => have := hs x (by simp [Op.operands]); simp only [opE, this] at *; exact hl
  | index t x i =>
    have h1 := hs x (by simp [Op.operands])
    have h2 := hs i (by simp [Op.operands])
    simp only [opE, h1, h2] at *; exact hl
  | binOp op t x y yt =>
    have h1 := hs x (by simp [Op.operands])
    have h2 := hs y (by simp [Op.operands])
    simp only [opE, h1, h2] at *; exact hl
  | unOp op t x => have := hs x (by simp [Op.operands]); simp only [opE, this] at *; exact hl
  | convert src dst x => have := hs x (by simp [Op.operands]); simp only [opE, this] at *; exact hl
  | build t parts =>
    have hp : ∀ p ∈ parts.toList, ev s' p.2 = ev s p.2 := fun p hp => hs p.2 (by simp only [Op.operands, List.mem_toArray, List.mem_map]; exact ⟨p, hp, rfl⟩)
    have e : ∀ place l, fillE place s' parts.toList l = fillE place s parts.toList l := fun _ _ => fillE_congr hp
    simp only [opE, buildE, e] at *; exact hl
  | slice t x lo hi mx =>
    cases mx with
    | some m => exact hl
    | none =>
      have h1 := hs x (by simp [Op.operands])
      have h2 : lo.map (ev s') = lo.map (ev s) := by
        cases lo with
        | none => rfl
        | some l => simp only [Option.map_some]; rw [hs l (by simp [Op.operands])]
      have h3 : hi.map (ev s') = hi.map (ev s) := by
        cases hi with
        | none => rfl
        | some l => simp only [Option.map_some]; rw [hs l (by simp [Op.operands])]
      simp only [opE, h1, h2, h3] at *; exact sliceE_more h hl
  | extract x i => have := hs x (by simp [Op.operands]); simp only [opE, this] at *; exact hl
  | makeFunc fn first caps =>
    cases fn with
    | func f =>
      have h1 : caps.toList.map (ev s') = caps.toList.map (ev s) := List.map_congr_left fun x hx => hs x (by simp only [Op.operands, Array.mem_append]; exact .inr (by simpa using hx))
      simp only [opE, h1] at *; exact hl
    | _ => exact hl
  | call c =>
    obtain ⟨callee, args, argTypes⟩ := c
    have hargs : args.toList.map (ev s') = args.toList.map (ev s) := List.map_congr_left fun x hx => hs x (by simp only [Op.operands, Call.operands, Array.mem_append]; exact .inr (by simpa using hx))
    cases callee with
    | value f =>
      have h1 := hs f (by simp [Op.operands, Call.operands])
      simp only [opE, h1, hargs] at *
      split at hl
      · simp only [CallOb_iff] at *
        obtain ⟨xs, res, h2, h3, h4, h5⟩ := hl
        exact ⟨xs, res, toV1s_more h h2, h3, h4, h5⟩
      · exact hl.elim
    | invoke r m => exact hl
    | builtin b =>
      cases b <;> try exact hl
      case len =>
        simp only [opE] at *
        cases ha : args.toList with
        | nil => simp [ha] at hl
        | cons x r =>
          cases r with
          | cons y r => simp [ha] at hl
          | nil =>
            rw [ha] at hargs
            simp only [List.map_cons, List.map_nil, List.cons.injEq, and_true] at hargs
            cases hat : argTypes.toList with
            | nil => simp [ha, hat] at hl
            | cons t r' =>
              cases r' with
              | cons y r => simp [ha, hat] at hl
              | nil => simp only [ha, hat, hargs] at *; exact lenE_more h hl
      case max =>
        simp only [opE] at *
        cases ha : args.toList with
        | nil => simp [ha] at hl
        | cons x r =>
          rw [ha] at hargs
          simp only [List.map_cons, List.cons.injEq] at hargs
          simp only [ha, hargs.1, hargs.2] at *; exact hl
      case min =>
        simp only [opE] at *
        cases ha : args.toList with
        | nil => simp [ha] at hl
        | cons x r =>
          rw [ha] at hargs
          simp only [List.map_cons, List.cons.injEq] at hargs
          simp only [ha, hargs.1, hargs.2] at *; exact hl
  | _ => exact hl
theorem valD_more {s s' : St} (h : More s s') {op : Op} (hs : SameOn s s' op) {K : AV → Prop} (hl : valD P T E s op K) : valD P T E s' op K := by
  cases op with
  | buildSlice t len parts =>
    have hp : ∀ p ∈ parts.toList, ev s' p.2 = ev s p.2 := fun p hp => hs p.2 (by simp only [Op.operands, List.mem_toArray, List.mem_map]; exact ⟨p, hp, rfl⟩)
    have e : ∀ place l, fillE place s' parts.toList l = fillE place s parts.toList l := fun _ _ => fillE_congr hp
    simp only [valD, buildSliceE, e] at *; exact hl
  | _ => exact opE_more (P := P) (T := T) (E := E) (K := K) h hs hl
theorem valD_pure {s s' : St} {op : Op} (hp : isPu op = true) (hs : SameOn s s' op) {K : AV → Prop} (hl : valD P T E s op K) : valD P T E s' op K := by
  unfold SameOn at hs
  cases op with
  | move x => have := hs x (by simp [Op.operands]); simp only [valD, opE, this] at *; exact hl
  | pick c a b =>
    have h1 := hs c (by simp [Op.operands])
    have h2 := hs a (by simp [Op.operands])
    have h3 := hs b (by simp [Op.operands])
    simp only [valD, opE, h1, h2, h3] at *; exact hl
  | fieldAddr st x f => have := hs x (by simp [Op.operands]); simp only [valD, opE, this] at *; exact hl
  | field st x f => have := hs x (by simp [Op.operands]); simp only [valD, opE, this] at *; exact hl
  | index t x i =>
    have h1 := hs x (by simp [Op.operands])
    have h2 := hs i (by simp [Op.operands])
    simp only [valD, opE, h1, h2] at *; exact hl
  | binOp op t x y yt =>
    have h1 := hs x (by simp [Op.operands])
    have h2 := hs y (by simp [Op.operands])
    simp only [valD, opE, h1, h2] at *; exact hl
  | unOp op t x => have := hs x (by simp [Op.operands]); simp only [valD, opE, this] at *; exact hl
  | convert src dst x => have := hs x (by simp [Op.operands]); simp only [valD, opE, this] at *; exact hl
  | extract x i => have := hs x (by simp [Op.operands]); simp only [valD, opE, this] at *; exact hl
  | _ => cases hp
end
end Go.Pg
