/-
  The evaluator: what an operation, a region, a code asks of an abstract state, by recursion over the code. Definitions only.
-/
import Derived.Test.YtlmljmgappiehaaPgC
set_option linter.all false
namespace Go.Pg
open Go.RowKit

/-! ### Types, as far as the evaluator looks at them -/
inductive TK where
  | other
  | slice (e : Nat)
  | struct (fs : List (Nat × Nat))
  | array (n e : Nat)
  | int (k : IntKind)
  | bool
  | str
structure TI where
  size : Nat
  agg : Bool
  bytes : Nat
  zero : List Value
  kind : TK

def TK.of : TypeDesc → TK
  | .slice e => .slice e
  | .struct fs => .struct (fs.toList.map fun f => (f.offset, f.type))
  | .array n e => .array n e
  | .int k => .int k
  | .bool => .bool
  | .string => .str
  | _ => .other
def TK.isAgg : TypeDesc → Bool
  | .struct _ => true
  | .array .. => true
  | _ => false
def TI.of (P : Program) (t : TypeId) : Option TI :=
  match P.info? t, P.underlying t with
  | some i, some d =>
    match i.zero with
    | some z => some { size := i.size, agg := TK.isAgg d, bytes := i.bytes, zero := z.cells.toList, kind := TK.of d }
    | none => none
  | _, _ => none
abbrev TT := Nat → Option TI
/-- What the evaluator goes by besides: the struct types whose '==' is field by field; whether it minds the count of draws. -/
structure Env where
  eq : Nat → Bool
  dr : Bool
  l : Nat
  yd : Nat → List V1 → Prop
  it : Bool

/-! ### Contracts -/
def ResRep (w : World) (ok : Nat → Prop) : List V1 → Value → Prop
  | [x], v => Rep1 w ok x v
  | l, v => ∃ vs : List Value, v = .tuple vs.toArray ∧ All2 (Rep1 w ok) l vs
/-- Function f has a body of its own text. -/
def Ent (P : Program) (f : FuncId) : Prop := ∃ fn : Func, P.funcs[f]? = some fn ∧ (fn.name == "runtime.NumGoroutine") = false ∧ fn.body.isNone = false
/-- Function f, called with these data, returns these data; nothing that lay in memory has changed. -/
def SpecG (d : Bool) (P : Program) (f : FuncId) (args res : List V1) : Prop :=
  Ent P f ∧ ∀ (w : World) (ok : Nat → Prop) (vs : List Value), (∀ b, ok b → b < w.heap.size) → All2 (Rep1 w ok) args vs →
    Calls P f vs.toArray w fun e w' => ∃ v, e = .returned v ∧ (Below w.heap.size w w' ∧ (d = true → w.drawn ≤ w'.drawn)) ∧ ResRep w' (fun b => ok b ∨ (w.heap.size ≤ b ∧ b < w'.heap.size)) res v
abbrev Spec := SpecG false
abbrev SpecD := SpecG true
theorem SpecG.of {d : Bool} {P : Program} {f : FuncId} {args res : List V1} (h : SpecG true P f args res) : SpecG d P f args res :=
  ⟨h.1, fun w ok vs h1 h2 => (h.2 w ok vs h1 h2).mono fun _ _ ⟨v, h3, h4, h5⟩ => ⟨v, h3, ⟨h4.1, fun _ => h4.2 rfl⟩, h5⟩⟩
/-- The same; the result is a slice that is the caller's own. -/
def SpecOG (d : Bool) (P : Program) (f : FuncId) (args : List V1) (e k n : Nat) (g : Nat → Nat → D) : Prop :=
  Ent P f ∧ ∀ (w : World) (ok : Nat → Prop) (vs : List Value), (∀ b, ok b → b < w.heap.size) → All2 (Rep1 w ok) args vs →
    Calls P f vs.toArray w fun en w' => ∃ v, en = .returned v ∧ (Below w.heap.size w w' ∧ (d = true → w.drawn ≤ w'.drawn)) ∧ ∃ xs, w'.ownsRow w.heap.size e k v n xs ∧ (∀ u ∈ xs, u.oneCell' = true) ∧
      ∀ m, m < n → ∀ j, j < k → ∃ u, xs[m * k + j]? = some u ∧ Rep w' (fun b => ok b ∨ (w.heap.size ≤ b ∧ b < w'.heap.size ∧ blk v ≠ some b)) (g m j) u

abbrev SpecO := SpecOG false
/-! ### Values of operands -/
def cd : Value → Option D
  | .int k n => some (.int k n)
  | .bool b => some (.bool b)
  | .string s => some (.str s)
  | .slice none l c => bif Nat.beq l 0 && Nat.beq c 0 then some (.slc 0 0 fun _ _ => dflt) else none
  | _ => none
def cds : List Value → Option (List D)
  | [] => some []
  | v :: r => match cd v, cds r with
    | some x, some xs => some (x :: xs)
    | _, _ => none
def cv : Value → AV
  | .slice none l c => bif Nat.beq l 0 && Nat.beq c 0 then .nilsl else .any
  | .agg cs => match cds cs.toList with
    | some xs => .agg xs
    | none => .any
  | v => match cd v with
    | some x => .d x
    | none => .any
def AV.unpin : AV → AV
  | .pin i _ => .own i
  | .pbox i _ => .box i 0
  | v => v
def ev (s : St) : Operand → AV
  | .tmp t => (s.sl t).unpin
  | .const v => cv v
  | .func f => .d (.fn f)
  | .global _ => .any

def kbeq : IntKind → IntKind → Bool
  | .i64, .i64 => true
  | .u64, .u64 => true
  | .u8, .u8 => true
  | .i32, .i32 => true
  | .u32, .u32 => true
  | .i8, .i8 => true
  | .i16, .i16 => true
  | .u16, .u16 => true
  | _, _ => false
/-- The cells of a value, as data. -/
def cellsD : AV → Option (List D)
  | .d x => some [x]
  | .agg xs => some xs
  | .nilsl => some [.slc 0 0 fun _ _ => dflt]
  | _ => none
/-- The cells of a value, for a variable in memory. -/
def cellsA : AV → Option (List AV)
  | .d x => some [.d x]
  | .agg xs => some (xs.map .d)
  | .nilsl => some [.nilsl]
  | .own i => some [.own i]
  | .box i o => some [.box i o]
  | .clo f l => some [.clo f l]
  | .roe m h => some [.d (.ptr m h)]
  | _ => none
/-- A value as a whole datum; slices of the call's own are read as they are. -/
def toV1 (s : St) : AV → Option V1
  | .agg xs => some (.agg xs)
  | .own i => match s.ob i with
    | some (.row _ k n f) => some (.d (.slc k n f))
    | _ => none
  | v => match avD v with
    | some x => some (.d x)
    | none => none
def toV1s (s : St) : List AV → Option (List V1)
  | [] => some []
  | v :: r => match toV1 s v, toV1s s r with
    | some x, some xs => some (x :: xs)
    | _, _ => none
def D.flat : D → Bool
  | .slc .. => false
  | .ptr .. => false
  | .clo .. => false
  | _ => true
/-- What is called, and what it has captured. -/
def callee : AV → Option (FuncId × List AV)
  | .d (.fn f) => some (f, [])
  | .d (.clo f m g) => some (f, (List.range m).map fun j => .d (g j))
  | .clo f caps => match capsDat caps with
    | some xs => some (f, xs.map .d)
    | none => none
  | _ => none
/-- A pointer that is a cell's datum, as a pointer. -/
def AV.asPtr : AV → AV
  | .d (.ptr m h) => .roe m h
  | v => v
def V1.flat : V1 → Bool
  | .d x => x.flat
  | .agg xs => xs.all D.flat
def AV.isOwn : AV → Bool
  | .own _ => true
  | _ => false
def resAV : List V1 → AV
  | [.d x] => .d x
  | [.agg xs] => .agg xs
  | l => .tup l

/-! ### Splitting on a Bool: a word that stands still -/
structure Split (b : Bool) (K : Bool → Prop) : Prop where
  out : K b
theorem Split.of {b : Bool} {K : Bool → Prop} (h : K b) : Split b K := ⟨h⟩
theorem Split.tt {K : Bool → Prop} (h : K true) : Split true K := .of h
theorem Split.ff {K : Bool → Prop} (h : K false) : Split false K := .of h
theorem Split.by {b : Bool} {K : Bool → Prop} (h1 : b = true → K true) (h2 : b = false → K false) : Split b K := by
  cases b
  · exact .of (h2 rfl)
  · exact .of (h1 rfl)

/-- A call: by a contract; the data of the arguments are read at the call. -/
structure CallOb (d : Bool) (P : Program) (s : St) (f : FuncId) (args : List AV) (K : AV → Prop) : Prop where
  out :
    ∃ xs res, toV1s s args = some xs ∧ SpecG d P f xs res ∧ (res.all V1.flat = true ∨ args.all (fun v => !v.isOwn) = true) ∧ K (resAV res)
theorem CallOb_iff (d : Bool) (P : Program) (s : St) (f : FuncId) (args : List AV) (K : AV → Prop) : CallOb d P s f args K ↔ (
  ∃ xs res, toV1s s args = some xs ∧ SpecG d P f xs res ∧ (res.all V1.flat = true ∨ args.all (fun v => !v.isOwn) = true) ∧ K (resAV res)) := ⟨fun h => h.out, fun h => ⟨h⟩⟩
/-- A call whose result is a slice of the caller's own. -/
structure CallOwn (d : Bool) (P : Program) (s : St) (f : FuncId) (args : List AV) (K : Ob → Prop) : Prop where
  out :
    ∃ xs e k n g, toV1s s args = some xs ∧ SpecOG d P f xs e k n g ∧ (∀ m j, m < n → j < k → (g m j).flat = true) ∧ K (.row e k n g)
theorem CallOwn_iff (d : Bool) (P : Program) (s : St) (f : FuncId) (args : List AV) (K : Ob → Prop) : CallOwn d P s f args K ↔ (
  ∃ xs e k n g, toV1s s args = some xs ∧ SpecOG d P f xs e k n g ∧ (∀ m j, m < n → j < k → (g m j).flat = true) ∧ K (.row e k n g)) := ⟨fun h => h.out, fun h => ⟨h⟩⟩

/-! ### Operations that make and change nothing -/
def inR (k : IntKind) (n : Int) : Prop := k.min ≤ n ∧ n ≤ k.max

def intBin (op : BinOp) (k : IntKind) (a b : Int) (K : D → Prop) : Prop :=
  match op with
  | .add => inR k (a + b) ∧ K (.int k (a + b))
  | .sub => inR k (a - b) ∧ K (.int k (a - b))
  | .mul => inR k (a * b) ∧ K (.int k (a * b))
  | .quo => (b ≠ 0 ∧ inR k (a.tdiv b)) ∧ K (.int k (a.tdiv b))
  | .rem => b ≠ 0 ∧ K (.int k (a.tmod b))
  | .eql => K (.bool (a == b))
  | .neq => K (.bool (a != b))
  | .lss => K (.bool (decide (a < b)))
  | .leq => K (.bool (decide (a ≤ b)))
  | .gtr => K (.bool (decide (b < a)))
  | .geq => K (.bool (decide (b ≤ a)))
  | .and => K (.int k (k.wrap (BitVec.ofInt k.bits a &&& BitVec.ofInt k.bits b).toNat))
  | .or => K (.int k (k.wrap (BitVec.ofInt k.bits a ||| BitVec.ofInt k.bits b).toNat))
  | .xor => K (.int k (k.wrap (BitVec.ofInt k.bits a ^^^ BitVec.ofInt k.bits b).toNat))
  | .andNot => K (.int k (k.wrap (BitVec.ofInt k.bits a &&& ~~~ BitVec.ofInt k.bits b).toNat))
  | .shl => 0 ≤ b ∧ K (.int k (k.wrap (a * 2 ^ (min b.toNat k.bits))))
  | .shr => 0 ≤ b ∧ K (.int k (a.fdiv (2 ^ (min b.toNat k.bits))))
def isShift : BinOp → Bool
  | .shl => true
  | .shr => true
  | _ => false
/-- Are two structs of plain cells equal? -/
def eqD : D → D → Option Bool
  | .int k a, .int k' b => bif kbeq k k' then some (a == b) else none
  | _, _ => none
def eqDs : List D → List D → Option Bool
  | [], [] => some true
  | x :: xs, y :: ys => match eqD x y, eqDs xs ys with
    | some a, some b => some (a && b)
    | _, _ => none
  | _, _ => none
def isBoolT (T : TT) (t : Nat) : Bool := match T t with | some { kind := .bool, .. } => true | _ => false
def binE (T : TT) (E : Env) (op : BinOp) (t : Nat) (x y : AV) (K : AV → Prop) : Prop :=
  match x, y with
  | .d (.int k a), .d (.int k' b) => bif isShift op || kbeq k k' then intBin op k a b fun r => K (.d r) else False
  | .d (.bool a), .d (.bool b) =>
    match isBoolT T t, op with
    | true, .eql => K (.d (.bool (a == b)))
    | true, .neq => K (.d (.bool (!(a == b))))
    | _, _ => False
  | .agg xs, .agg ys =>
    match E.eq t, T t, eqDs xs ys with
    | true, some ti, some b =>
      bif Nat.beq xs.length ti.size then
        match op with
        | .eql => K (.d (.bool b))
        | .neq => K (.d (.bool (!b)))
        | _ => False
      else False
    | _, _, _ => False
  | _, _ => False
def unE (op : UnOp) (x : AV) (K : AV → Prop) : Prop :=
  match op, x with
  | .neg, .d (.int k n) => inR k (-n) ∧ K (.d (.int k (-n)))
  | .not, .d (.bool b) => K (.d (.bool (!b)))
  | .xor, .d (.int k n) => K (.d (.int k (k.wrap (BitVec.ofInt k.bits (if k.signed then -1 else k.max) ^^^ BitVec.ofInt k.bits n).toNat)))
  | _, _ => False

def rangeD (m : Nat) (h : Nat → D) : List D := (List.range m).map h
def loadP (s : St) (ti : TI) (v : AV) (K : AV → Prop) : Prop :=
  match v with
  | .box i off =>
    match s.ob i with
    | some (.box cs) =>
      match ti.agg with
      | true => match allD ((cs.drop off).take ti.size) with
        | some xs => bif Nat.beq xs.length ti.size then K (.agg xs) else False
        | none => False
      | false => match nth cs off with
        | some c => K c
        | none => False
    | _ => False
  | .roe m h =>
    match ti.agg with
    | true => bif Nat.ble ti.size m then K (.agg (rangeD ti.size h)) else False
    | false => bif Nat.ble 1 m then K (.d (h 0)) else False
  | .elt i k n c =>
    match s.ob i with
    | some (.row _ k' N f) =>
      match ti.agg with
      | true => bif Nat.beq k k' && Nat.ble (c + ti.size) k then n < N ∧ K (.agg (rangeD ti.size fun j => f n (c + j))) else False
      | false => bif Nat.beq k k' && Nat.ble (c + 1) k then n < N ∧ K (.d (f n c)) else False
    | _ => False
  | _ => False
def loadE (s : St) (ti : TI) (v : AV) (K : AV → Prop) : Prop := loadP s ti v.asPtr K
def addOffP (off : Nat) : AV → Option AV
  | .box i o => some (.box i (o + off))
  | .roe m h => bif Nat.ble off m then some (.roe (m - off) fun j => h (off + j)) else none
  | .elt i k n c => some (.elt i k n (c + off))
  | _ => none
def addOff (off : Nat) (v : AV) : Option AV := addOffP off v.asPtr
def fieldAddrE (T : TT) (st fld : Nat) (v : AV) (K : AV → Prop) : Prop :=
  match T st with
  | some { kind := .struct fs, .. } =>
    match nth fs fld with
    | some (off, ft) =>
      match T ft, addOff off v with
      | some fi, some v' => bif Nat.beq fi.size 0 then False else K v'
      | _, _ => False
    | none => False
  | _ => False
def indexAddrP (T : TT) (s : St) (t : Nat) (x ix : AV) (K : AV → Prop) : Prop :=
  match T t, ix with
  | some { kind := .slice e, .. }, .d (.int _ i) =>
    match T e, x with
    | some ei, .d (.slc k n f) => (ei.size = k ∧ 0 ≤ i ∧ i < n) ∧ K (.roe ei.size (f i.toNat))
    | some ei, .own id =>
      match s.ob id with
      | some (.row _ k n _) => (0 ≤ i ∧ i < n) ∧ (bif Nat.beq ei.size k then K (.elt id k i.toNat 0) else False)
      | _ => False
    | some ei, .sub id k lo n => (0 ≤ i ∧ i < n) ∧ (bif Nat.beq ei.size k then K (.elt id k (lo + i.toNat) 0) else False)
    | _, _ => False
  | some { kind := .array len e, .. }, .d (.int _ i) =>
    match T e, x with
    | some ei, .box id off => (0 ≤ i ∧ i < len) ∧ K (.box id (off + i.toNat * ei.size))
    | some ei, .roe m h => (0 ≤ i ∧ i < len) ∧ (bif Nat.ble (len * ei.size) m then K (.roe ei.size fun j => h (i.toNat * ei.size + j)) else False)
    | _, _ => False
  | _, _ => False
def indexAddrE (T : TT) (s : St) (t : Nat) (x ix : AV) (K : AV → Prop) : Prop := indexAddrP T s t x.asPtr ix K
def partE (ti : TI) (xs : List D) (off : Nat) (K : AV → Prop) : Prop :=
  match ti.agg with
  | true => bif Nat.ble (off + ti.size) xs.length then K (.agg ((xs.drop off).take ti.size)) else False
  | false => match nth xs off with
    | some x => K (.d x)
    | none => False
def fieldE (T : TT) (st fld : Nat) (v : AV) (K : AV → Prop) : Prop :=
  match T st, v with
  | some { kind := .struct fs, .. }, .agg xs =>
    match nth fs fld with
    | some (off, ft) => match T ft with
      | some fi => partE fi xs off K
      | none => False
    | none => False
  | _, _ => False
def indexE (T : TT) (t : Nat) (x ix : AV) (K : AV → Prop) : Prop :=
  match T t, x, ix with
  | some { kind := .array len e, .. }, .agg xs, .d (.int _ i) =>
    match T e with
    | some ei => (0 ≤ i ∧ i < len) ∧ partE ei xs (i.toNat * ei.size) K
    | none => False
  | _, _, _ => False
def setRange {α : Type} : List α → Nat → List α → Option (List α)
  | l, _, [] => some l
  | [], _, _ :: _ => none
  | _ :: l, 0, y :: ys => match setRange l 0 ys with | some r => some (y :: r) | none => none
  | x :: l, n + 1, ys => match setRange l n ys with | some r => some (x :: r) | none => none
def fillE (place : Nat → Option (Nat × Nat)) (s : St) : List (Nat × Operand) → List D → Option (List D)
  | [], l => some l
  | (i, x) :: r, l =>
    match place i, cellsD (ev s x) with
    | some (off, size), some ys => bif Nat.beq ys.length size && Nat.ble (off + size) l.length then (match setRange l off ys with | some l' => fillE place s r l' | none => none) else none
    | _, _ => none
def placesS (T : TT) : List (Nat × Nat) → Option (List (Nat × Nat))
  | [] => some []
  | (off, ft) :: r => match T ft, placesS T r with
    | some fi, some l => some ((off, fi.size) :: l)
    | _, _ => none
def placesA (ei : TI) (i : Nat) : Option (Nat × Nat) := some (i * ei.size, ei.size)
def buildE (T : TT) (s : St) (t : Nat) (parts : List (Nat × Operand)) (K : AV → Prop) : Prop :=
  match T t with
  | some { kind := .struct fs, zero := z, .. } =>
    match cds z, placesS T fs with
    | some zs, some ps => match fillE (nth ps) s parts zs with
      | some l => K (.agg l)
      | none => False
    | _, _ => False
  | some { kind := .array _ e, zero := z, .. } =>
    match T e, cds z with
    | some ei, some zs => match fillE (placesA ei) s parts zs with
      | some l => K (.agg l)
      | none => False
    | _, _ => False
  | _ => False
def repD : Nat → List D → List D
  | 0, _ => []
  | n + 1, z => z ++ repD n z
def rowOf (size : Nat) (l : List D) : Nat → Nat → D := fun m j => getD' l (m * size + j)
def buildSliceE (T : TT) (s : St) (t len : Nat) (parts : List (Nat × Operand)) (K : Nat → TI → (Nat → Nat → D) → Prop) : Prop :=
  match T t with
  | some { kind := .slice e, .. } =>
    match T e with
    | some ei =>
      match cds ei.zero with
      | some zs => match fillE (placesA ei) s parts (repD len zs) with
        | some l => bif Nat.ble 1 ei.size && Nat.beq ei.zero.length ei.size && Nat.ble (len * ei.size) 16777216 then K e ei (rowOf ei.size l) else False
        | none => False
      | none => False
    | none => False
  | _ => False
def sliceE (T : TT) (s : St) (t : Nat) (x : AV) (lo hi : Option AV) (K : AV → Prop) : Prop :=
  match T t, x with
  | some { kind := .slice e, .. }, .d (.slc k n f) =>
    match T e with
    | some ei =>
      match lo, hi with
      | none, none => (n = 0 ∨ k = ei.size) ∧ K (.d (.slc k n f))
      | none, some (.d (.int _ h)) => ((n = 0 ∨ k = ei.size) ∧ 0 ≤ h ∧ h ≤ n) ∧ K (.d (.slc k h.toNat f))
      | some (.d (.int _ l)), none => ((n = 0 ∨ k = ei.size) ∧ 0 ≤ l ∧ l ≤ n) ∧ K (.d (.slc k (n - l.toNat) fun i => f (l.toNat + i)))
      | some (.d (.int _ l)), some (.d (.int _ h)) => ((n = 0 ∨ k = ei.size) ∧ 0 ≤ l ∧ l ≤ h ∧ h ≤ n) ∧ K (.d (.slc k (h.toNat - l.toNat) fun i => f (l.toNat + i)))
      | _, _ => False
    | none => False
  | some { kind := .slice e, .. }, .own id =>
    match T e, s.ob id with
    | some ei, some (.row _ k n _) =>
      match lo, hi with
      | some (.d (.int _ l)), none => (k = ei.size ∧ 0 ≤ l ∧ l ≤ n) ∧ K (.sub id k l.toNat (n - l.toNat))
      | _, _ => False
    | _, _ => False
  | _, _ => False
def extractE (v : AV) (i : Nat) (K : AV → Prop) : Prop :=
  match v with
  | .tup l => match nth l i with
    | some (.d x) => K (.d x)
    | some (.agg xs) => K (.agg xs)
    | none => False
  | _ => False
def isSl (T : TT) (t : Nat) : Bool := match T t with | some { kind := .slice _, .. } => true | _ => false
def isStrT (T : TT) (t : Nat) : Bool := match T t with | some { kind := .str, .. } => true | _ => false
def lenE (T : TT) (t : Nat) (s : St) (v : AV) (K : AV → Prop) : Prop :=
  match v with
  | .d (.slc _ n _) => bif isSl T t then K (.d (.int .i64 n)) else False
  | .nilsl => bif isSl T t then K (.d (.int .i64 0)) else False
  | .sub _ _ _ n => bif isSl T t then K (.d (.int .i64 n)) else False
  | .own i => match s.ob i with
    | some (.row _ _ n _) => bif isSl T t then K (.d (.int .i64 n)) else False
    | _ => False
  | .d (.str x) => bif isStrT T t then K (.d (.int .i64 x.size)) else False
  | _ => False
def maxE (mx : Bool) : AV → List AV → (AV → Prop) → Prop
  | v, [], K => K v
  | .d (.int k a), .d (.int _ b) :: r, K => maxE mx (.d (.int k (match mx with | true => max a b | false => min a b))) r K
  | _, _ :: _, _ => False
def capOf : AV → Option Cap
  | .box i 0 => some (.own i)
  | .roe m h => some (.dat (.ptr m h))
  | .d x => some (.dat x)
  | _ => none
def capsOf : List AV → Option (List Cap)
  | [] => some []
  | v :: r => match capOf v, capsOf r with
    | some c, some l => some (c :: l)
    | _, _ => none

/-- The operations that make no object and change none. -/
def opE (P : Program) (T : TT) (E : Env) (s : St) (op : Op) (K : AV → Prop) : Prop :=
  match op with
  | .move x => K (ev s x)
  | .assign x => K (ev s x)
  | .pick c a b => match ev s c with
    | .d (.bool c) => Split c fun c => K (match c with | true => ev s a | false => ev s b)
    | _ => False
  | .load t a => match T t with
    | some ti => loadE s ti (ev s a) K
    | none => False
  | .fieldAddr st x f => fieldAddrE T st f (ev s x) K
  | .indexAddr t x i => indexAddrE T s t (ev s x) (ev s i) K
  | .field st x f => fieldE T st f (ev s x) K
  | .index t x i => indexE T t (ev s x) (ev s i) K
  | .binOp op t x y _ => binE T E op t (ev s x) (ev s y) K
  | .unOp op _ x => unE op (ev s x) K
  | .convert src dst x => match T src, T dst, ev s x with
    | some _, some { kind := .int k, .. }, .d (.int _ n) => K (.d (.int k (k.wrap n)))
    | _, _, _ => False
  | .build t parts => buildE T s t parts.toList K
  | .slice t x lo hi none => sliceE T s t (ev s x) (lo.map (ev s)) (hi.map (ev s)) K
  | .extract x i => extractE (ev s x) i K
  | .makeFunc (.func f) first caps =>
    match first.toList, capsOf (caps.toList.map (ev s)) with
    | [], some [] => K (.d (.fn f))
    | [], some l => K (.clo f l)
    | _, _ => False
  | .call { callee := .builtin .len, args, argTypes } => match args.toList, argTypes.toList with
    | [x], [t] => lenE T t s (ev s x) K
    | _, _ => False
  | .call { callee := .builtin .max, args, .. } => match args.toList with
    | x :: r => maxE true (ev s x) (r.map (ev s)) K
    | _ => False
  | .call { callee := .builtin .min, args, .. } => match args.toList with
    | x :: r => maxE false (ev s x) (r.map (ev s)) K
    | _ => False
  | .call { callee := .value f, args, .. } => match callee (ev s f) with
    | some (f, ex) => CallOb E.dr P s f (args.toList.map (ev s) ++ ex) K
    | none => False
  | _ => False
end Go.Pg
