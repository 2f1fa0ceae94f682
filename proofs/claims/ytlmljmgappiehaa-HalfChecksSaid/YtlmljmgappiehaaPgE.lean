/-
  The evaluator, second part: operations that make or change objects; regions; code. Definitions, and how a standing word is met.
-/
import Derived.Test.YtlmljmgappiehaaPgD
set_option linter.all false
namespace Go.Pg
open Go.RowKit

/-- An operation, carried out in this frame and world, comes to its end, and behind it Post holds. -/
def OpOK (P : Program) (o : Oper) (a : Act) (w : World) (Post : Act → World → Prop) : Prop :=
  match (execOp a.eval o).run P w with
  | .ok (.value v) w' => Post (a.put o.dst v) w'
  | .ok .skip w' => Post (a.put o.dst undef) w'
  | .ok (.enter f args) w' => Calls P f args w' fun e w'' => ∃ v, e = .returned v ∧ Post (a.put o.dst v) w''
  | .ok (.round l fn tmps asg body) w' => RoundIn Fence.wide 0 P l fn tmps asg body w' fun e w'' => ∃ v, e = .returned v ∧ Post (a.put o.dst v) w''
  | _ => False
/-- An operation turns state s into s', whatever frame and world. -/
structure Custom (d : Bool) (P : Program) (s : St) (o : Oper) (s' : St) : Prop where
  out :
    ∀ cx a w, (cx.dr = true → d = true) → (∀ d, o.dst = some d → d < cx.N) → R cx s a w → OpOK P o a w fun a' w' => R cx s' a' w'
theorem Custom_iff (d : Bool) (P : Program) (s : St) (o : Oper) (s' : St) : Custom d P s o s' ↔ (
  ∀ cx a w, (cx.dr = true → d = true) → (∀ d, o.dst = some d → d < cx.N) → R cx s a w → OpOK P o a w fun a' w' => R cx s' a' w') := ⟨fun h => h.out, fun h => ⟨h⟩⟩

/-- Object d is made (anew), and slot d refers to it. -/
def mk (s : St) (d : Nat) (o : Ob) (v : AV) : St :=
  match s.ob d with
  | none => (s.setOb d (some o)).put d v
  | some _ => ((s.drop d).setOb d (some o)).put d v
/-- Row i is made anew; slot t holds it. -/
def remk (s : St) (i : Nat) (o : Ob) (t : Option Nat) : St := ((s.drop i).setOb i (some o)).putO t (.own i)
/-- Object i is from now on plain data. -/
inductive Fz where
  | row (x : D)
  | box (xs : List D)
def fzCap (i : Nat) (xs : List D) : Cap → Cap
  | .own j => bif Nat.beq j i then .dat (.ptr xs.length (getD' xs)) else .own j
  | c => c
def fz (i : Nat) (z : Fz) (v : AV) : AV := match z, v with
  | .row x, .own j => bif Nat.beq j i then .d x else v
  | .box xs, .box j o => bif Nat.beq j i then .roe (xs.length - o) (fun q => getD' xs (o + q)) else v
  | .box xs, .clo f caps => .clo f (caps.map (fzCap i xs))
  | _, v => v.purge i
def fzO (i : Nat) (z : Fz) : Ob → Ob
  | .box cs => .box (cs.map (fz i z))
  | o => o
def fzAll (s : St) (i : Nat) (z : Fz) : St := ⟨fun t => fz i z (s.sl t), upd (fun j => (s.ob j).map (fzO i z)) i none⟩
def St.freeze (s : St) (i : Nat) : St := match s.ob i with
  | some (.row _ k n f) => fzAll s i (.row (.slc k n f))
  | some (.box cs) => match allD cs with
    | some xs => fzAll s i (.box xs)
    | none => s
  | none => s
def St.freezes (s : St) : List Nat → St
  | [] => s
  | i :: r => (s.freeze i).freezes r
def ownIds : List AV → List Nat
  | [] => []
  | .own i :: r => i :: ownIds r
  | _ :: r => ownIds r

/-- What is a number stays one whatever becomes of memory. -/
def AV.still : AV → AV
  | .d x => match x.flat with | true => .d x | false => .any
  | .agg xs => match xs.all D.flat with | true => .agg xs | false => .any
  | .undef => .undef
  | _ => .any
def stillS : List (Nat × AV) → List (Nat × AV)
  | [] => []
  | (t, v) :: r => (t, v.still) :: stillS r
/-- A call of yield: the n-th round's values; it goes on, or has said no more. -/
structure YieldOb (E : Env) (s : St) (o : Oper) (fo : Operand) (args : List Operand) (K : St → Prop) : Prop where
  out : ∃ n d sl vs, o.dst = some d ∧ ev s fo = .yl E.l ∧ s.sl G = .gho (some n) ∧ look sl G = none ∧ Weak s sl [] ∧ toV1s s (args.map (ev s)) = some vs ∧ (args.map (ev s)).all (fun v => !v.isOwn) = true ∧ E.yd n vs ∧
    K ((St.of ((G, .gho (some (n + 1))) :: sl) []).put d (.d (.bool true))) ∧ K ((St.of ((G, .gho none) :: stillS sl) []).put d (.d (.bool false)))
structure CallSt (E : Env) (P : Program) (s : St) (o : Oper) (fo : Operand) (args : List Operand) (K : St → Prop) : Prop where
  out :
    (∃ ids f ex, callee (ev (s.freezes ids) fo) = some (f, ex) ∧ CallOb E.dr P (s.freezes ids) f (args.map (ev (s.freezes ids)) ++ ex) fun v => K ((s.freezes ids).putO o.dst v)) ∨
    (∃ ids f ex d, callee (ev (s.freezes ids) fo) = some (f, ex) ∧ o.dst = some d ∧ CallOwn E.dr P (s.freezes ids) f (args.map (ev (s.freezes ids)) ++ ex) fun ob => K (mk (s.freezes ids) d ob (.own d))) ∨
    (∃ s', Custom E.dr P s o s' ∧ K s') ∨ YieldOb E s o fo args K
theorem CallSt_iff (E : Env) (P : Program) (s : St) (o : Oper) (fo : Operand) (args : List Operand) (K : St → Prop) : CallSt E P s o fo args K ↔ (
  (∃ ids f ex, callee (ev (s.freezes ids) fo) = some (f, ex) ∧ CallOb E.dr P (s.freezes ids) f (args.map (ev (s.freezes ids)) ++ ex) fun v => K ((s.freezes ids).putO o.dst v)) ∨
  (∃ ids f ex d, callee (ev (s.freezes ids) fo) = some (f, ex) ∧ o.dst = some d ∧ CallOwn E.dr P (s.freezes ids) f (args.map (ev (s.freezes ids)) ++ ex) fun ob => K (mk (s.freezes ids) d ob (.own d))) ∨
  (∃ s', Custom E.dr P s o s' ∧ K s') ∨ YieldOb E s o fo args K) := ⟨fun h => h.out, fun h => ⟨h⟩⟩

def storeRow (f : Nat → Nat → D) (n c : Nat) (ys : List D) : Nat → Nat → D :=
  fun m j => if m = n ∧ c ≤ j ∧ j < c + ys.length then getD' ys (j - c) else f m j
def storeE (T : TT) (s : St) (t : Nat) (a x : AV) (K : St → Prop) : Prop :=
  match T t, a with
  | some ti, .box i off =>
    match s.ob i, cellsA x with
    | some (.box cs), some ys => bif Nat.beq ys.length ti.size then (match setRange cs off ys with | some cs' => K (s.setOb i (some (.box cs'))) | none => False) else False
    | _, _ => False
  | some ti, .elt i k n c =>
    match s.ob i, cellsD x with
    | some (.row e k' N f), some ys => bif Nat.beq k k' && Nat.beq ys.length ti.size && Nat.ble (c + ti.size) k then n < N ∧ K (s.setOb i (some (.row e k' N (storeRow f n c ys)))) else False
    | _, _ => False
  | _, _ => False
def appRow (n : Nat) (f g : Nat → Nat → D) : Nat → Nat → D := fun i j => if i < n then f i j else g (i - n) j
/-- The elements that an append adds. -/
def srcE (s : St) (x : AV) (K : Nat → Nat → (Nat → Nat → D) → Prop) : Prop :=
  match x with
  | .d (.slc k m g) => K k m g
  | .nilsl => K 0 0 fun _ _ => dflt
  | .own j => match s.ob j with
    | some (.row _ k m g) => K k m g
    | _ => False
  | _ => False
def appendE (T : TT) (s : St) (dst : Option Nat) (t : Nat) (a x : AV) (K : St → Prop) : Prop :=
  match T t, dst with
  | some { kind := .slice e, .. }, some d =>
    match T e with
    | some ei =>
      srcE s x fun k m g =>
      match a with
      | .own i => match s.ob i with
        | some (.row e' k' n f) => bif Nat.beq e e' && Nat.beq k' ei.size && Nat.ble 1 ei.size && Nat.beq ei.zero.length ei.size then ((m = 0 ∨ k = ei.size) ∧ n + m ≤ maxLen ∧ (n + m) * ei.bytes ≤ 140737488355328) ∧ K (remk s i (.row e k' (n + m) (appRow n f g)) dst) else False
        | _ => False
      | .nilsl => bif Nat.ble 1 ei.size && Nat.beq ei.zero.length ei.size then ((m = 0 ∨ k = ei.size) ∧ m ≤ maxLen ∧ m * ei.bytes ≤ 140737488355328) ∧ K (mk s d (.row e ei.size m g) (.own d)) else False
      | _ => False
    | none => False
  | _, _ => False
def isNil : Value → Bool
  | .slice none l c => Nat.beq l 0 && Nat.beq c 0
  | _ => false
def isNilOp : Operand → Bool
  | .const v => isNil v
  | _ => false

def hasEl (T : TT) (t : Nat) : Bool := match T t with | some { kind := .slice e, .. } => (match T e with | some _ => true | none => false) | _ => false
def clrRow (f : Nat → Nat → D) (lo n : Nat) (zs : List D) : Nat → Nat → D := fun m j => if lo ≤ m ∧ m < lo + n then getD' zs j else f m j
def clearE (T : TT) (s : St) (t : Nat) (v : AV) (K : St → Prop) : Prop :=
  match T t, v with
  | some { kind := .slice e, .. }, .sub i k lo n =>
    match T e, s.ob i with
    | some ei, some (.row e' k' N f) => match cds ei.zero with
      | some zs => bif Nat.beq k k' && Nat.beq ei.size k && Nat.beq ei.zero.length k && Nat.ble 1 k then lo + n ≤ N ∧ K (s.setOb i (some (.row e' k' N (clrRow f lo n zs)))) else False
      | none => False
    | _, _ => False
  | _, _ => False
/-- A slice against nil: what is the answer if it is nil, and how long is it? -/
def nilQ (T : TT) (op : BinOp) (t : Nat) (x y : AV) : Option (Bool × Nat) :=
  match isSl T t, op, x, y with
  | true, .eql, .d (.slc _ n _), .nilsl => some (true, n)
  | true, .neq, .d (.slc _ n _), .nilsl => some (false, n)
  | _, _, _, _ => none
/-- One operation. -/
def stE (P : Program) (T : TT) (E : Env) (s : St) (o : Oper) (K : St → Prop) : Prop :=
  match o.op with
  | .alloc t => match o.dst, T t with
    | some d, some ti => bif ti.zero.all (·.oneCell') then K (mk s d (.box (ti.zero.map cv)) (.box d 0)) else False
    | _, _ => False
  | .box t x => match o.dst, T t, cellsA (ev s x) with
    | some d, some ti, some cs => bif Nat.beq cs.length ti.size && cs.all (fun c => c.refs.isEmpty) then K (mk s d (.box cs) (.box d 0)) else False
    | _, _, _ => False
  | .store t a x => match o.dst with
    | none => storeE T s t (ev s a) (ev s x) K
    | some _ => False
  | .buildSlice t len parts => match o.dst with
    | some d => buildSliceE T s t len parts.toList fun e ei f => K (mk s d (.row e ei.size len f) (.own d))
    | none => False
  | .assign x => match isNilOp x, o.dst, isSl T o.type with
    | true, some d, true => match T o.type with
      | some { kind := .slice e, .. } => match T e with
        | some ei => K (mk s d (.row e ei.size 0 fun _ _ => dflt) (.own d))
        | none => False
      | _ => False
    | _, _, _ => K (s.putO o.dst (ev s x))
  | .slice t x none (some h) none => match ev s x, ev s h with
    | .own i, .d (.int _ h) => match s.ob i, hasEl T t with
      | some (.row e k n f), true => (0 ≤ h ∧ h ≤ n) ∧ K (remk s i (.row e k h.toNat f) o.dst)
      | _, _ => False
    | _, _ => opE P T E s o.op fun v => K (s.putO o.dst v)
  | .build t parts =>
    opE P T E (s.freezes (ownIds (parts.toList.map fun p => ev s p.2))) o.op fun v => K ((s.freezes (ownIds (parts.toList.map fun p => ev s p.2))).putO o.dst v)
  | .call { callee := .builtin .append, args, argTypes } => match args.toList, argTypes.toList with
    | [a, x], [t, t'] => bif Nat.beq t t' then appendE T s o.dst t (ev s a) (ev s x) K else False
    | _, _ => False
  | .call { callee := .value f, args, .. } => CallSt E P s o f args.toList K
  | .call { callee := .builtin .len, .. } => opE P T E s o.op fun v => K (s.putO o.dst v)
  | .call { callee := .builtin .max, .. } => opE P T E s o.op fun v => K (s.putO o.dst v)
  | .call { callee := .builtin .min, .. } => opE P T E s o.op fun v => K (s.putO o.dst v)
  | .call { callee := .builtin .clear, args, argTypes } => match args.toList, argTypes.toList, o.dst with
    | [x], [t], none => clearE T s t (ev s x) K
    | _, _, _ => False
  | .call _ => ∃ s', Custom E.dr P s o s' ∧ K s'
  | .binOp op t x y _ => match nilQ T op t (ev s x) (ev s y) with
    | some (u, n) => ∀ b : Bool, (b = u → n = 0) → K (s.putO o.dst (.d (.bool b)))
    | none => opE P T E s o.op fun v => K (s.putO o.dst v)
  | _ => opE P T E s o.op fun v => K (s.putO o.dst v)

/-! ### Regions -/
def dstOf (ops : List Oper) (j : Nat) : Option Nat := match nth ops j with | some o => o.dst | none => none
def guardUsed (ops : List Oper) (i : Nat) : Bool := ops.any fun o => match o.guard with | some (j, _) => Nat.beq j i | none => false
def gval (s : St) (ops : List Oper) (j : Nat) : AV := match dstOf ops j with | some t => s.sl t | none => .any
/-- Behind an operation that guards others: the two ways are taken apart. -/
def splitAt (ops : List Oper) (i : Nat) (d : Option Nat) (s : St) (K : St → Prop) : Prop :=
  match guardUsed ops i, d with
  | true, some t => match s.sl t with
    | .d (.bool b) => Split b fun b => K (s.put t (.d (.bool b)))
    | _ => K s
  | _, _ => K s
/-! ### Values are worked out as they are put down (else they would be worked out again at each use) -/
def D.force (x : D) (K : D → Prop) : Prop := match x with
  | .int k n => K (.int k n)
  | .bool b => K (.bool b)
  | .str s => K (.str s)
  | .fn f => K (.fn f)
  | .slc k n f => K (.slc k n f)
  | .ptr m h => K (.ptr m h)
  | .clo f m g => K (.clo f m g)
def forceDs : List D → (List D → Prop) → Prop
  | [], K => K []
  | x :: r, K => x.force fun x => forceDs r fun r => K (x :: r)
def V1.force (x : V1) (K : V1 → Prop) : Prop := match x with
  | .d x => x.force fun x => K (.d x)
  | .agg xs => forceDs xs fun xs => K (.agg xs)
def forceVs : List V1 → (List V1 → Prop) → Prop
  | [], K => K []
  | x :: r, K => x.force fun x => forceVs r fun r => K (x :: r)
def AV.force (v : AV) (K : AV → Prop) : Prop := match v with
  | .d x => x.force fun x => K (.d x)
  | .agg xs => forceDs xs fun xs => K (.agg xs)
  | .tup l => forceVs l fun l => K (.tup l)
  | .box i o => K (.box i o)
  | .own i => K (.own i)
  | .elt i k n c => K (.elt i k n c)
  | .sub i k lo n => K (.sub i k lo n)
  | .roe m h => K (.roe m h)
  | .clo f l => K (.clo f l)
  | .any => K .any
  | .nilsl => K .nilsl
  | .undef => K .undef
  | .pin i u => K (.pin i u)
  | .pbox i u => K (.pbox i u)
  | .gho m => K (.gho m)
  | .yl l => K (.yl l)
def forceAs : List AV → (List AV → Prop) → Prop
  | [], K => K []
  | x :: r, K => x.force fun x => forceAs r fun r => K (x :: r)
def forceSlot (t : Nat) (s : St) (K : St → Prop) : Prop := (s.sl t).force fun v => K (s.put t v)
def forceBox (i : Nat) (s : St) (K : St → Prop) : Prop := match s.ob i with
  | some (.box cs) => forceAs cs fun cs => K (s.setOb i (some (.box cs)))
  | _ => K s
/-- The box that an operation has written. -/
def touched (s : St) (o : Oper) : Option Nat := match o.op with
  | .box .. => o.dst
  | .store _ a _ => match ev s a with
    | .box i _ => some i
    | _ => none
  | _ => none
def fin (o : Oper) (s : St) (K : St → Prop) : Prop :=
  match o.dst, touched s o with
  | some t, some i => forceSlot t s fun s => forceBox i s K
  | some t, none => forceSlot t s K
  | none, some i => forceBox i s K
  | none, none => K s
theorem D.force_eq (x : D) (K : D → Prop) : x.force K = K x := by cases x <;> rfl
theorem forceDs_eq : ∀ (l : List D) (K : List D → Prop), forceDs l K = K l
  | [], K => rfl
  | x :: r, K => by simp only [forceDs, D.force_eq, forceDs_eq r]
theorem V1.force_eq (x : V1) (K : V1 → Prop) : x.force K = K x := by cases x <;> simp [V1.force, D.force_eq, forceDs_eq]
theorem forceVs_eq : ∀ (l : List V1) (K : List V1 → Prop), forceVs l K = K l
  | [], K => rfl
  | x :: r, K => by simp only [forceVs, V1.force_eq, forceVs_eq r]
theorem AV.force_eq (x : AV) (K : AV → Prop) : x.force K = K x := by cases x <;> simp [AV.force, D.force_eq, forceDs_eq, forceVs_eq]
theorem forceAs_eq : ∀ (l : List AV) (K : List AV → Prop), forceAs l K = K l
  | [], K => rfl
  | x :: r, K => by simp only [forceAs, AV.force_eq, forceAs_eq r]
theorem put_self (s : St) (t : Nat) : s.put t (s.sl t) = s := by
  cases s with
  | mk sl ob =>
    unfold St.put
    congr 1
    funext u
    rw [upd_eq]; split
    · rename_i e; rw [e]
    · rfl
theorem setOb_self {s : St} {i : Nat} {o : Option Ob} (h : s.ob i = o) : s.setOb i o = s := by
  cases s with
  | mk sl ob =>
    unfold St.setOb
    congr 1
    funext u
    rw [upd_eq]; split
    · rename_i e; rw [e]; exact h.symm
    · rfl
theorem forceSlot_eq (t : Nat) (s : St) (K : St → Prop) : forceSlot t s K = K s := by
  unfold forceSlot; rw [AV.force_eq, put_self]
theorem forceBox_eq (i : Nat) (s : St) (K : St → Prop) : forceBox i s K = K s := by
  unfold forceBox
  split
  · rename_i cs h; rw [forceAs_eq, setOb_self h]
  · rfl
theorem fin_eq (o : Oper) (s : St) (K : St → Prop) : fin o s K = K s := by
  unfold fin
  split
  · rw [forceSlot_eq, forceBox_eq]
  · rw [forceSlot_eq]
  · rw [forceBox_eq]
  · rfl
theorem fin_fun (o : Oper) (K : St → Prop) : (fun s => fin o s K) = K := funext fun s => fin_eq o s K
/-- The same as storeE, opE, stE, with values worked out ahead of being put down. -/
def storeF (T : TT) (s : St) (t : Nat) (a x : AV) (K : St → Prop) : Prop :=
  match T t, a with
  | some ti, .box i off =>
    match s.ob i, cellsA x with
    | some (.box cs), some ys => bif Nat.beq ys.length ti.size then (match setRange cs off ys with | some cs' => forceAs cs' fun cs' => K (s.setOb i (some (.box cs'))) | none => False) else False
    | _, _ => False
  | some ti, .elt i k n c =>
    match s.ob i, cellsD x with
    | some (.row e k' N f), some ys => bif Nat.beq k k' && Nat.beq ys.length ti.size && Nat.ble (c + ti.size) k then n < N ∧ K (s.setOb i (some (.row e k' N (storeRow f n c ys)))) else False
    | _, _ => False
  | _, _ => False
theorem storeF_eq (T : TT) (s : St) (t : Nat) (a x : AV) (K : St → Prop) : storeF T s t a x K = storeE T s t a x K := by
  unfold storeF storeE
  simp only [forceAs_eq]
def opF (P : Program) (T : TT) (E : Env) (s : St) (o : Oper) (K : St → Prop) : Prop := opE P T E s o.op fun v => v.force fun v => K (s.putO o.dst v)
theorem opF_eq (P : Program) (T : TT) (E : Env) (s : St) (o : Oper) (K : St → Prop) : opF P T E s o K = opE P T E s o.op fun v => K (s.putO o.dst v) := by
  unfold opF; simp only [AV.force_eq]
def stF (P : Program) (T : TT) (E : Env) (s : St) (o : Oper) (K : St → Prop) : Prop :=
  match o.op with
  | .move _ => opF P T E s o K
  | .pick .. => opF P T E s o K
  | .load .. => opF P T E s o K
  | .fieldAddr .. => opF P T E s o K
  | .indexAddr .. => opF P T E s o K
  | .field .. => opF P T E s o K
  | .index .. => opF P T E s o K
  | .unOp .. => opF P T E s o K
  | .convert .. => opF P T E s o K
  | .extract .. => opF P T E s o K
  | .makeFunc .. => opF P T E s o K
  | .binOp op t x y _ => match nilQ T op t (ev s x) (ev s y) with
    | some (u, n) => ∀ b : Bool, (b = u → n = 0) → K (s.putO o.dst (.d (.bool b)))
    | none => opF P T E s o K
  | .assign x => match isNilOp x, o.dst, isSl T o.type with
    | true, some d, true => match T o.type with
      | some { kind := .slice e, .. } => match T e with
        | some ei => K (mk s d (.row e ei.size 0 fun _ _ => dflt) (.own d))
        | none => False
      | _ => False
    | _, _, _ => (ev s x).force fun v => K (s.putO o.dst v)
  | .store t a x => match o.dst with
    | none => storeF T s t (ev s a) (ev s x) K
    | some _ => False
  | .build t parts => match ownIds (parts.toList.map fun p => ev s p.2) with
    | [] => opF P T E s o K
    | _ => stE P T E s o fun s' => fin o s' K
  | .call { callee := .builtin .len, .. } => opF P T E s o K
  | .call { callee := .builtin .max, .. } => opF P T E s o K
  | .call { callee := .builtin .min, .. } => opF P T E s o K
  | _ => stE P T E s o fun s' => fin o s' K
theorem stF_out {P : Program} {T : TT} {E : Env} {s : St} {o : Oper} {K : St → Prop} (h : stF P T E s o K) : stE P T E s o K := by
  obtain ⟨dst, op, type, pos, after, guard⟩ := o
  cases op with
  | call c =>
    obtain ⟨callee, args, argTypes⟩ := c
    cases callee with
    | builtin b =>
      cases b
      case len => simp only [stF, opF_eq] at h; exact h
      case max => simp only [stF, opF_eq] at h; exact h
      case min => simp only [stF, opF_eq] at h; exact h
      all_goals (simp only [stF, fin_fun] at h; exact h)
    | _ => simp only [stF, fin_fun] at h; exact h
  | build t parts =>
    simp only [stF, fin_fun, opF_eq] at h
    split at h
    · rename_i h0
      simp only [stE, h0]
      exact h
    · exact h
  | store t a x => simp only [stF, storeF_eq] at h; exact h
  | assign x => simp only [stF, AV.force_eq] at h; exact h
  | binOp op t x y yt => simp only [stF, opF_eq] at h; exact h
  | _ => simp only [stF, opF_eq, fin_fun] at h; exact h
/-- (By the recursor itself: so the elaborator and the kernel unfold it in one way, and what is left of the code is one and the same term for both.) -/
noncomputable def runOps (P : Program) (T : TT) (E : Env) (ops : List Oper) (i : Nat) (l : List Oper) (s : St) (K : St → Prop) : Prop :=
  @List.rec Oper (fun _ => Nat → St → (St → Prop) → Prop)
    (fun _ s K => K s)
    (fun o _ ih i s K =>
      match o.guard with
      | none => stF P T E s o fun s' => splitAt ops i o.dst s' fun s' => ih (i + 1) s' K
      | some (j, want) =>
        match gval s ops j with
        | .d (.bool b) =>
          match b == want with
          | true => stF P T E s o fun s' => splitAt ops i o.dst s' fun s' => ih (i + 1) s' K
          | false => ih (i + 1) (s.putO o.dst .undef) K
        | .undef => ih (i + 1) (s.putO o.dst .undef) K
        | _ => False) l i s K
section
variable {P : Program} {T : TT} {E : Env} {ops : List Oper} {i : Nat} {o : Oper} {r : List Oper} {s : St} {K : St → Prop}
theorem runOps_nil : runOps P T E ops i [] s K = K s := rfl
theorem runOps_cons : runOps P T E ops i (o :: r) s K = match o.guard with
    | none => stF P T E s o fun s' => splitAt ops i o.dst s' fun s' => runOps P T E ops (i + 1) r s' K
    | some (j, want) =>
      match gval s ops j with
      | .d (.bool b) =>
        match b == want with
        | true => stF P T E s o fun s' => splitAt ops i o.dst s' fun s' => runOps P T E ops (i + 1) r s' K
        | false => runOps P T E ops (i + 1) r (s.putO o.dst .undef) K
      | .undef => runOps P T E ops (i + 1) r (s.putO o.dst .undef) K
      | _ => False := rfl
end

/-- The kinds of operation that may come up in any order. -/
def isB : Op → Bool
  | .assign _ => true
  | .move _ => true
  | .pick .. => true
  | .load .. => true
  | .fieldAddr .. => true
  | .field .. => true
  | .indexAddr .. => true
  | .index .. => true
  | .binOp .. => true
  | .unOp .. => true
  | .convert .. => true
  | .build .. => true
  | .buildSlice .. => true
  | .slice .. => true
  | .extract .. => true
  | .makeFunc .. => true
  | .call { callee := .builtin .len, .. } => true
  | .call { callee := .builtin .max, .. } => true
  | .call { callee := .builtin .min, .. } => true
  | .call { callee := .value _, .. } => true
  | _ => false
def isAl : Op → Bool
  | .alloc _ => true
  | _ => false
/-- The operations whose value is told by their operands alone, whatever lies in memory. -/
def isPu : Op → Bool
  | .move _ => true
  | .pick .. => true
  | .fieldAddr .. => true
  | .field .. => true
  | .index .. => true
  | .binOp .. => true
  | .unOp .. => true
  | .convert .. => true
  | .extract .. => true
  | _ => false
def isSt : Op → Bool
  | .store .. => true
  | _ => false
/-- Slices that are written out are plain data there. -/
def valD (P : Program) (T : TT) (E : Env) (s : St) (op : Op) (K : AV → Prop) : Prop :=
  match op with
  | .buildSlice t len parts => buildSliceE T s t len parts.toList fun _ ei f => K (.d (.slc ei.size len f))
  | op => opE P T E s op K
def stD (P : Program) (T : TT) (E : Env) (s : St) (o : Oper) (K : St → Prop) : Prop :=
  match isB o.op with
  | true => valD P T E s o.op fun v => K (s.putO o.dst v)
  | false => match isAl o.op, o.dst with
    | true, some d => match s.ob d with
      | none => stE P T E s o K
      | some _ => False
    | _, _ => stE P T E s o K
def stDF (P : Program) (T : TT) (E : Env) (s : St) (o : Oper) (K : St → Prop) : Prop :=
  match isB o.op with
  | true => valD P T E s o.op fun v => v.force fun v => K (s.putO o.dst v)
  | false => match isAl o.op, o.dst with
    | true, some d => match s.ob d with
      | none => stF P T E s o K
      | some _ => False
    | _, _ => stF P T E s o K
theorem stDF_out {P : Program} {T : TT} {E : Env} {s : St} {o : Oper} {K : St → Prop} (h : stDF P T E s o K) : stD P T E s o K := by
  unfold stDF at h
  unfold stD
  cases hb : isB o.op with
  | true => simp only [hb, AV.force_eq] at h; exact h
  | false =>
    simp only [hb] at h
    dsimp only
    split at h
    · split at h
      · exact stF_out h
      · exact h.elim
    · exact stF_out h
noncomputable def runD (P : Program) (T : TT) (E : Env) (ops : List Oper) (l : List Nat) (s : St) (K : St → Prop) : Prop :=
  @List.rec Nat (fun _ => St → (St → Prop) → Prop)
    (fun s K => K s)
    (fun i _ ih s K =>
      match nth ops i with
      | none => False
      | some o =>
      match o.guard with
      | none => stDF P T E s o fun s' => splitAt ops i o.dst s' fun s' => ih s' K
      | some (j, want) =>
        match gval s ops j with
        | .d (.bool b) =>
          match b == want with
          | true => stDF P T E s o fun s' => splitAt ops i o.dst s' fun s' => ih s' K
          | false => ih (s.putO o.dst .undef) K
        | .undef => ih (s.putO o.dst .undef) K
        | _ => False) l s K
theorem runD_cons {P : Program} {T : TT} {E : Env} {ops : List Oper} {i : Nat} {r : List Nat} {s : St} {K : St → Prop} : runD P T E ops (i :: r) s K = match nth ops i with
    | none => False
    | some o =>
    match o.guard with
    | none => stDF P T E s o fun s' => splitAt ops i o.dst s' fun s' => runD P T E ops r s' K
    | some (j, want) =>
      match gval s ops j with
      | .d (.bool b) =>
        match b == want with
        | true => stDF P T E s o fun s' => splitAt ops i o.dst s' fun s' => runD P T E ops r s' K
        | false => runD P T E ops r (s.putO o.dst .undef) K
      | .undef => runD P T E ops r (s.putO o.dst .undef) K
      | _ => False := rfl
/-- May operation i be taken now? It may come up in any order, and whatever else may come up does not touch it; or it is the only one. -/
def okNow (ops : Array Oper) (listed : Array Bool) (i : Nat) : Bool :=
  match ops[i]? with
  | none => false
  | some oi =>
    (Region.ready .any ops listed).contains i &&
    ((isB oi.op && (List.range ops.size).all fun j => Nat.beq j i || listed.getD j true || match ops[j]? with
      | some oj => oj.after.any (fun e => Region.binds .any e && e.on == i) || (oi.apart ops oj && (isB oj.op || isAl oj.op || (isPu oi.op && isSt oj.op)))
      | none => true) ||
     (Region.ready .any ops listed).all fun j => Nat.beq j i)
def drawFrom (ops : Array Oper) : List Nat → Array Bool → Bool
  | [], listed => (Region.ready .any ops listed).isEmpty
  | k :: r, listed => okNow ops listed k && drawFrom ops r (listed.setIfInBounds k true)
/-- In a region that draws its order, one walk in the order ord serves every order. -/
def drawB (ops : Array Oper) (ord : List Nat) : Bool := Nat.beq ord.length ops.size && drawFrom ops ord (Array.replicate ops.size false)

/-! ### Code -/
def KK : Type := Exit → St → Prop
structure LoopOb (body : St → KK → Prop) (s : St) (K : KK) : Prop where
  out :
    ∃ (σ : Type) (S : σ → List (Nat × AV) × List (Nat × Ob)) (Inv : σ → Prop) (μ : σ → Nat) (x0 : σ), Weak s (S x0).1 (S x0).2 ∧ Inv x0 ∧
      ∀ x, Inv x → body (St.of (S x).1 (S x).2) fun e s' => match e with
        | .normal => ∃ x', Weak s' (S x').1 (S x').2 ∧ Inv x' ∧ μ x' < μ x
        | e => K e s'
theorem LoopOb_iff (body : St → KK → Prop) (s : St) (K : KK) : LoopOb body s K ↔ (
  ∃ (σ : Type) (S : σ → List (Nat × AV) × List (Nat × Ob)) (Inv : σ → Prop) (μ : σ → Nat) (x0 : σ), Weak s (S x0).1 (S x0).2 ∧ Inv x0 ∧
    ∀ x, Inv x → body (St.of (S x).1 (S x).2) fun e s' => match e with
      | .normal => ∃ x', Weak s' (S x').1 (S x').2 ∧ Inv x' ∧ μ x' < μ x
      | e => K e s') := ⟨fun h => h.out, fun h => ⟨h⟩⟩
/-- Every slot that a region writes lies in the frame. -/
def dstsOK (N : Nat) (ops : List Oper) : Bool := ops.all fun o => match o.dst with | some d => Nat.blt d N | none => true
/-- Every slot that a code writes lies in the frame. -/
def codeN (N : Nat) : Code → Bool
  | .region _ ops _ => dstsOK N ops.toList
  | .seq a b => codeN N a && codeN N b
  | .cond _ x y => codeN N x && codeN N y
  | .block _ c => codeN N c
  | .loop c => codeN N c
  | .rangeFunc _ ps as body => ps.toList.all (fun d => Nat.blt d N) && (codeN N as && codeN N body)
  | .scope c => codeN N c
  | _ => true
/-- Ahead of a region that draws its order some objects become plain data. -/
structure FzOb (s : St) (K : St → Prop) : Prop where
  out : ∃ ids, K (s.freezes ids)
theorem FzOb.no {s : St} {K : St → Prop} (h : K s) : FzOb s K := ⟨[], h⟩
theorem FzOb.fz (ids : List Nat) {s : St} {K : St → Prop} (h : K (s.freezes ids)) : FzOb s K := ⟨ids, h⟩
/-- The frames in which code is walked: a function's own, or a round's of a range over a function. -/
def FWc (cx : Cx) (F : Fence) : Prop := F = Fence.wide ∨ ∃ l r, F = Fence.wide.inRound l ∧ cx.hold l (.loop r)
/-- A code, from state s, ends in a way that K allows. (For code that the evaluator does not walk.) -/
structure CodeOb (d it : Bool) (P : Program) (c : Code) (s : St) (K : KK) : Prop where
  out :
    ∀ cx (F : Fence) (n : Nat) a w, (cx.dr = true → d = true) → (cx.nod = true → it = true) → FWc cx F → codeN cx.N c = true → R cx s a w → c.wpIn F n P (fun e a' w' => ∃ s', R cx s' a' w' ∧ K e s') a w
theorem CodeOb_iff (d it : Bool) (P : Program) (c : Code) (s : St) (K : KK) : CodeOb d it P c s K ↔ (
  ∀ cx (F : Fence) (n : Nat) a w, (cx.dr = true → d = true) → (cx.nod = true → it = true) → FWc cx F → codeN cx.N c = true → R cx s a w → c.wpIn F n P (fun e a' w' => ∃ s', R cx s' a' w' ∧ K e s') a w) := ⟨fun h => h.out, fun h => ⟨h⟩⟩

noncomputable def awp (P : Program) (T : TT) (E : Env) (c : Code) (s : St) (K : KK) : Prop :=
  @Code.rec (fun _ => St → KK → Prop)
    (fun s K => K .normal s)
    (fun _ ops draw s K => match draw with
      | false => runOps P T E ops.toList 0 ops.toList s (K .normal)
      | true => ∃ ord, drawB ops ord = true ∧ FzOb s fun s => runD P T E ops.toList ord s (K .normal))
    (fun _ _ a b s K => a s fun e s' => match e with
      | .normal => b s' K
      | e => K e s')
    (fun c _ _ x y s K => match ev s c with
      | .d (.bool b) => Split b fun b => match b with
        | true => x s K
        | false => y s K
      | _ => False)
    (fun id _ c s K => c s fun e s' => match e with
      | .exit j => match Nat.beq j id with
        | true => K .normal s'
        | false => K (.exit j) s'
      | e => K e s')
    (fun _ c s K => LoopOb (fun s K => c s K) s K)
    (fun f ps as body _ _ s K => CodeOb E.dr E.it P (.rangeFunc f ps as body) s K)
    (fun id s K => K (.exit id) s)
    (fun _ c s K => c s fun e s' => match e with
      | .goto _ => False
      | e => K e s')
    (fun _ s K => K .normal s)
    (fun l s K => CodeOb E.dr E.it P (.goto l) s K)
    (fun s K => K .ret s)
    (fun _ _ _ => False) c s K
theorem awp_cond {P : Program} {T : TT} {E : Env} {c : Operand} {x y : Code} {s : St} {K : KK} : awp P T E (.cond c x y) s K = match ev s c with
    | .d (.bool b) => Split b fun b => match b with
      | true => awp P T E x s K
      | false => awp P T E y s K
    | _ => False := rfl

/-! ### Functions -/
def avOf : V1 → AV
  | .d (.ptr m h) => .roe m h
  | .d x => .d x
  | .agg xs => .agg xs
def argSlots : Nat → List V1 → List (Nat × AV)
  | _, [] => []
  | i, v :: r => (i, avOf v) :: argSlots (i + 1) r
/-- A slot's value at the end is this datum. -/
def RetAV (s : St) : AV → V1 → Prop
  | .d x, .d y => D.eqv x y
  | .agg xs, .agg ys => eqvs xs ys
  | .nilsl, .d (.slc _ n _) => n = 0
  | .own i, .d y => ∃ e k n f, s.ob i = some (.row e k n f) ∧ D.eqv (.slc k n f) y
  | .roe m h, .d y => D.eqv (.ptr m h) y
  | .clo f l, .d (.clo f' m g) => f = f' ∧ l.length = m ∧ ∀ j, j < m → ∃ c, l[j]? = some c ∧ caple s (fun _ => none) c (.dat (g j))
  | _, _ => False
/-- A box's cells at the end are this datum. -/
def RetBox : List AV → V1 → Prop
  | [.d x], .d y => D.eqv x y
  | cs, .agg ys => (match allD cs with | some xs => eqvs xs ys | none => False)
  | _, _ => False
def RetCell (T : TT) (s : St) (t : Nat) (v : AV) (x : V1) : Prop :=
  match v, T t with
  | .box i 0, some ti => match s.ob i with
    | some (.box cs) => Nat.beq cs.length ti.size = true ∧ (match ti.agg, x with | true, .agg _ => True | false, .d _ => True | _, _ => False) ∧ RetBox cs x
    | _ => False
  | _, _ => False
def RetAll (T : TT) (s : St) : List ResultVar → List V1 → Prop
  | [], [] => True
  | .tmp t :: r, x :: xs => RetAV s (s.sl t) x ∧ RetAll T s r xs
  | .cell a t :: r, x :: xs => RetCell T s t (s.sl a) x ∧ RetAll T s r xs
  | _, _ => False
def retK (T : TT) (rs : List ResultVar) (res : List V1) : KK := fun e s => match e with
  | .normal => RetAll T s rs res
  | .ret => RetAll T s rs res
  | _ => False
def retKO (rs : List ResultVar) (e k n : Nat) (g : Nat → Nat → D) : KK := fun x s =>
  let fin : Prop := match rs with
    | [.tmp t] => match s.sl t with
      | .own i => match s.ob i with
        | some (.row e' k' n' f) => e' = e ∧ k' = k ∧ n' = n ∧ ∀ i, i < n → ∀ j, j < k → D.eqv (f i j) (g i j)
        | _ => False
      | _ => False
    | _ => False
  match x with
  | .normal => fin
  | .ret => fin
  | _ => False
end Go.Pg
