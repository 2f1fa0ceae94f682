/-
  A value-level calculus over the kit's rules for code: data, abstract states, and what they say of a frame and a world. Plain definitions and first lemmas. No program in sight.
-/
import Derived.Below
import Derived.CallsIn
import Derived.OrdersIn
import Derived.Laws.OwnMore
import Derived.Deep.Draws
import Derived.RangeFuncNested
import Derived.RangeFuncLeaves
set_option linter.all false
namespace Go.Pg
open Go.RowKit

/-- One cell's datum. A slice is its number of cells an element, its length, and its elements' cells; a pointer: the cells that it points to; a function value with what it has captured. -/
inductive D where
  | int (k : IntKind) (n : Int)
  | bool (b : Bool)
  | str (s : ByteArray)
  | fn (f : FuncId)
  | slc (k n : Nat) (f : Nat → Nat → D)
  | ptr (m : Nat) (h : Nat → D)
  | clo (f : FuncId) (m : Nat) (g : Nat → D)

/-- What a function value has captured: a variable of the call's own, or a datum. -/
inductive Cap where
  | own (i : Nat)
  | dat (x : D)

/-- A whole datum: one cell, or a struct's (an array's) cells. -/
inductive V1 where
  | d (x : D)
  | agg (xs : List D)

/-- What is known of a slot. -/
inductive AV where
  | any
  | d (x : D)
  | agg (xs : List D)
  | tup (l : List V1)
  | nilsl
  | box (i off : Nat)
  | own (i : Nat)
  | elt (i k n c : Nat)
  | sub (i k lo n : Nat)
  | roe (m : Nat) (h : Nat → D)
  | clo (f : FuncId) (caps : List Cap)
  | pin (i : Nat) (v : Value)
  | pbox (i : Nat) (v : Value)
  | gho (m : Option Nat)
  | yl (l : Nat)
  | undef

/-- An object of the call's own: a variable in memory, or a slice that grows. -/
inductive Ob where
  | box (cs : List AV)
  | row (e k n : Nat) (f : Nat → Nat → D)

structure St where
  sl : Nat → AV
  ob : Nat → Option Ob

def upd {α : Type} (s : Nat → α) (t : Nat) (v : α) : Nat → α := fun u => bif Nat.beq u t then v else s u
def St.put (s : St) (t : Nat) (v : AV) : St := ⟨upd s.sl t v, s.ob⟩
def St.putO (s : St) (t : Option Nat) (v : AV) : St := match t with | some t => s.put t v | none => s
def St.setOb (s : St) (i : Nat) (o : Option Ob) : St := ⟨s.sl, upd s.ob i o⟩

def capRefs : List Cap → List Nat
  | [] => []
  | .own i :: r => i :: capRefs r
  | .dat _ :: r => capRefs r
def AV.refs : AV → List Nat
  | .box i _ => [i]
  | .own i => [i]
  | .elt i _ _ _ => [i]
  | .sub i _ _ _ => [i]
  | .clo _ caps => capRefs caps
  | .pin i _ => [i]
  | .pbox i _ => [i]
  | _ => []
def AV.hasRef (i : Nat) (v : AV) : Bool := v.refs.any (Nat.beq i)
def AV.purge (i : Nat) (v : AV) : AV := match v.hasRef i with | true => .any | false => v
def Ob.purge (i : Nat) : Ob → Ob
  | .box cs => .box (cs.map (AV.purge i))
  | o => o
/-- No slot and no cell refers to object i any more, and it is gone. -/
def St.drop (s : St) (i : Nat) : St := ⟨fun t => (s.sl t).purge i, upd (fun j => (s.ob j).map (Ob.purge i)) i none⟩

theorem beq_ne {u t : Nat} (h : u ≠ t) : Nat.beq u t = false := Bool.eq_false_iff.2 fun e => h (Nat.eq_of_beq_eq_true e)
theorem beq_self (u : Nat) : Nat.beq u u = true := by induction u <;> simp_all [Nat.beq]
@[simp] theorem upd_same {α : Type} (s : Nat → α) (t : Nat) (v : α) : upd s t v t = v := by simp [upd, beq_self]
theorem upd_ne {α : Type} (s : Nat → α) {t u : Nat} (v : α) (h : u ≠ t) : upd s t v u = s u := by simp [upd, beq_ne h]
theorem upd_eq {α : Type} (s : Nat → α) (t : Nat) (v : α) (u : Nat) : upd s t v u = if u = t then v else s u := by
  by_cases h : u = t
  · subst h; simp
  · rw [upd_ne s v h, if_neg h]

/-! ### What a datum says of a value in a world. 'ok': the blocks that it may read. -/
def Rep (w : World) (ok : Nat → Prop) : D → Value → Prop
  | .int k n, v => v = .int k n
  | .bool b, v => v = .bool b
  | .str s, v => v = .string s
  | .fn f, v => v = .func (.func f) #[] #[]
  | .slc k n f, v => (v = .slice none 0 0 ∧ n = 0) ∨
      ∃ (a : Addr) (cap : Nat), v = .slice (some a) n cap ∧ n ≤ cap ∧ cap ≤ maxLen ∧ ∀ i, i < n → ∀ j, j < k → ok a.block ∧ ∃ u, w.cell? (a.add (i * k + j)) = some u ∧ Rep w ok (f i j) u
  | .ptr m h, v => ∃ a : Addr, v = .pointer (some a) ∧ ∀ j, j < m → ok a.block ∧ ∃ u, w.cell? (a.add j) = some u ∧ Rep w ok (h j) u
  | .clo f m g, v => ∃ vs : List Value, v = .func (.func f) #[] vs.toArray ∧ vs.length = m ∧ ∀ j, j < m → ∃ u, vs[j]? = some u ∧ Rep w ok (g j) u

inductive All2 {α β : Type} (r : α → β → Prop) : List α → List β → Prop
  | nil : All2 r [] []
  | cons {x y xs ys} : r x y → All2 r xs ys → All2 r (x :: xs) (y :: ys)

def Rep1 (w : World) (ok : Nat → Prop) : V1 → Value → Prop
  | .d x, v => Rep w ok x v
  | .agg xs, v => ∃ vs : List Value, v = .agg vs.toArray ∧ All2 (Rep w ok) xs vs

def CapM (w : World) (ok : Nat → Prop) (γ : Nat → Value) : Cap → Value → Prop
  | .own i, u => u = γ i
  | .dat x, u => Rep w ok x u

def M (w : World) (ok : Nat → Prop) (γ : Nat → Value) : AV → Value → Prop
  | .any, _ => True
  | .d x, v => Rep w ok x v
  | .agg xs, v => ∃ vs : List Value, v = .agg vs.toArray ∧ All2 (Rep w ok) xs vs
  | .tup l, v => ∃ vs : List Value, v = .tuple vs.toArray ∧ All2 (Rep1 w ok) l vs
  | .nilsl, v => v = .slice none 0 0
  | .box i off, v => ∃ b, γ i = .pointer (some ⟨b, 0, none⟩) ∧ v = .pointer (some ⟨b, off, none⟩)
  | .own i, v => v = γ i
  | .elt i k n c, v => ∃ g len cap, γ i = .slice (some ⟨g, 0, none⟩) len cap ∧ v = .pointer (some ⟨g, n * k + c, none⟩)
  | .sub i k lo n, v => (n = 0 ∧ ∃ ad c, v = .slice ad 0 c) ∨ ∃ g len cap cap', γ i = .slice (some ⟨g, 0, none⟩) len cap ∧ v = .slice (some ⟨g, lo * k, none⟩) n cap'
  | .roe m h, v => ∃ a : Addr, v = .pointer (some a) ∧ ∀ j, j < m → ok a.block ∧ ∃ u, w.cell? (a.add j) = some u ∧ Rep w ok (h j) u
  | .clo f caps, v => ∃ vs : List Value, v = .func (.func f) #[] vs.toArray ∧ All2 (CapM w ok γ) caps vs
  | .pin i u, v => v = γ i ∧ v = u
  | .pbox i u, v => (∃ b, γ i = .pointer (some ⟨b, 0, none⟩) ∧ v = .pointer (some ⟨b, 0, none⟩)) ∧ v = u
  | .gho _, v => v = Go.undef
  | .yl l, v => v = .func (.yield l) #[] #[]
  | .undef, v => v = Go.undef

/-- The block of an object's value. -/
def blk : Value → Option Nat
  | .pointer (some a) => some a.block
  | .slice (some a) _ _ => some a.block
  | _ => none

/-- O: the blocks that the call may write. -/
def Holds (w : World) (O : Nat → Prop) (ok : Nat → Prop) (γ : Nat → Value) (i : Nat) : Ob → Prop
  | .box cs => ∃ (b : Nat) (vs : List Value) (T : TypeId), γ i = .pointer (some ⟨b, 0, none⟩) ∧ O b ∧ w.heap[b]? = some (.cells vs.toArray T (0, 0)) ∧
      All2 (fun c v => M w ok γ c v ∧ v.oneCell' = true) cs vs
  | .row e k n f => ∃ xs : List Value, w.ownsRow 0 e k (γ i) n xs ∧ (∀ b, blk (γ i) = some b → O b) ∧ (∀ u ∈ xs, u.oneCell' = true) ∧ ∀ m, m < n → ∀ j, j < k → ∃ u, xs[m * k + j]? = some u ∧ Rep w ok (f m j) u

/-- The call's frame: the world at its beginning, the blocks that its arguments may read, how many slots it has; what was lent to it (it may write there); what it must leave as it lies; how many blocks there are at least. -/
structure Cx where
  w0 : World
  okA : Nat → Prop
  N : Nat
  lent : Nat → Prop
  hold : Nat → Obj → Prop
  least : Nat
  dr : Bool
  gn : Option Nat
  nod : Bool

/-- The ghost slot. -/
abbrev G : Nat := 4294967296
def Cx.O (cx : Cx) (b : Nat) : Prop := cx.w0.heap.size ≤ b ∨ cx.lent b
def okOf (cx : Cx) (s : St) (γ : Nat → Value) (w : World) (b : Nat) : Prop :=
  cx.okA b ∨ (cx.O b ∧ b < w.heap.size ∧ ∀ i o, s.ob i = some o → blk (γ i) ≠ some b)

def mark (D : Nat) : Deferred := { target := .collected D, args := #[] }
/-- The marks of ranges over functions that are over. -/
def Marks (cx : Cx) (w : World) (ds : List Deferred) : Prop := (cx.nod = true → ds = []) ∧ ∃ ms : List Nat, ds = ms.map mark ∧ ms.Nodup ∧ ∀ D ∈ ms, cx.w0.heap.size ≤ D ∧ w.heap[D]? = some (.deferred (some []))
/-- What lay at the beginning, and was not lent, is as it was. -/
structure Bel (cx : Cx) (w : World) : Prop where
  os : w.os = cx.w0.os
  tape : w.tape = cx.w0.tape
  output : w.output = cx.w0.output
  drawn : cx.dr = true → cx.w0.drawn ≤ w.drawn
  size : cx.w0.heap.size ≤ w.heap.size
  block : ∀ k, k < cx.w0.heap.size → ¬ cx.lent k → w.heap[k]? = cx.w0.heap[k]?
structure RG (cx : Cx) (γ : Nat → Value) (s : St) (a : Act) (w : World) : Prop where
  defers : Marks cx w a.defers
  size : a.tmps.size = cx.N
  okA : ∀ b, cx.okA b → b < cx.w0.heap.size ∧ ¬ cx.lent b
  lent : ∀ b, cx.lent b → b < cx.w0.heap.size
  below : Bel cx w
  hold : ∀ k o, cx.hold k o → w.heap[k]? = some o ∧ ∀ i p, s.ob i = some p → blk (γ i) ≠ some k
  least : cx.least ≤ w.heap.size
  objs : ∀ i o, s.ob i = some o → Holds w cx.O (okOf cx s γ w) γ i o
  refs : ∀ i cs, s.ob i = some (.box cs) → ∀ c ∈ cs, ∀ j ∈ c.refs, (s.ob j).isSome = true
  sep : ∀ i j o o', s.ob i = some o → s.ob j = some o' → i ≠ j → ∀ b, blk (γ i) = some b → blk (γ j) ≠ some b
  slots : ∀ t, M w (okOf cx s γ w) γ (s.sl t) (a.tmps.getD t undef)
  srefs : ∀ t, ∀ j ∈ (s.sl t).refs, (s.ob j).isSome = true
  gho : ∀ m, s.sl G = .gho m → cx.gn = m
  ng : cx.N ≤ G

def R (cx : Cx) (s : St) (a : Act) (w : World) : Prop := ∃ γ, RG cx γ s a w
/-- In a family of frames. -/
def RF (Fm : Cx → Prop) (s : St) (a : Act) (w : World) : Prop := ∃ cx, Fm cx ∧ R cx s a w

/-! ### What is carried out takes no draw back -/
theorem viewStore_drawn {p : Program} {w : World} {at_ : Addr} {u : TypeId} {k : Addr} {v : Value} {at' : Bool} {r : World × List Addr} (h : w.viewStore p at_ u k v at' = .ok r) : r.1.drawn = w.drawn := by
  unfold World.viewStore at h
  simp only [bind, Except.bind, pure, Except.pure] at h
  repeat' split at h
  all_goals first
    | cases h; rfl
    | cases h
theorem farStore_drawn {p : Program} {w : World} {a : Addr} {v : Value} {at' : Bool} {r : World × List Addr} (h : w.farStore p a v at' = .ok r) : r.1.drawn = w.drawn := by
  unfold World.farStore at h
  split at h
  · split at h
    · rename_i h1; cases h; exact viewStore_drawn h1
    · cases h
  · cases h
theorem ask_drawn {α : Type} : ∀ (q : Ask α) (w : World), w.drawn ≤ (w.ask q).2.drawn
  | .done a, w => Nat.le_refl _
  | .ask what range k, w => by
    unfold World.ask
    simp only
    split
    · exact ask_drawn (k 0) w
    · exact Nat.le_trans (Nat.le_succ _) (ask_drawn (k _) { w with drawn := w.drawn + 1 })
theorem sys_drawn (w : World) (c : Sys) : w.drawn ≤ (w.sys c).2.drawn := by
  unfold World.sys
  have := ask_drawn (Kernel.perform c w.os) w
  split
  · exact Nat.le_refl _
  · rename_i h; rw [h] at this; exact this
theorem run_drawn {P : Program} {α : Type} : ∀ (e : Sem α) {w : World} {x : α} {w' : World}, e.run P w = .ok x w' → w.drawn ≤ w'.drawn := by
  intro e
  induction e with
  | pure a => intro w x w' h; simp [Sem.run] at h; rw [h.2]; exact Nat.le_refl _
  | load m a k ih =>
    intro w x w' h
    simp only [Sem.run] at h
    split at h
    · exact ih _ h
    · split at h
      · exact ih _ h
      · cases h
  | store m a v k ih =>
    intro w x w' h
    cases v <;> simp only [Sem.run] at h <;> first
      | (cases h; done)
      | (split at h
         · split at h
           · cases h
           · exact ih (w := w.setCell _ _) h
         · split at h
           · rename_i h1; have h2 := farStore_drawn h1; have h3 := ih h; simp only at h2; omega
           · cases h)
  | new o k ih => intro w x w' h; exact ih _ (w := { w with heap := w.heap.push o }) h
  | shape r k ih => intro w x w' h; exact ih _ h
  | freeze a n k ih =>
    intro w x w' h
    have := ih (w := w.freeze a n) h
    have e : (w.freeze a n).drawn = w.drawn := by unfold World.freeze; split <;> rfl
    omega
  | frozen a k ih => intro w x w' h; exact ih _ h
  | getObj r k ih =>
    intro w x w' h
    simp only [Sem.run] at h
    split at h
    · cases h
    · exact ih _ h
    · cases h
  | setObj r o k ih =>
    intro w x w' h
    simp only [Sem.run] at h
    split at h
    · cases h
    · exact ih (w := { w with heap := w.heap.setIfInBounds r o }) h
    · cases h
  | choose q k ih =>
    intro w x w' h
    simp only [Sem.run] at h
    split at h
    · exact ih _ h
    · exact Nat.le_trans (Nat.le_succ _) (ih _ (w := { w with drawn := w.drawn + 1 }) h)
  | sys c k ih => intro w x w' h; exact Nat.le_trans (sys_drawn w c) (ih _ h)
  | program k ih => intro w x w' h; exact ih _ h
  | mark m k ih => intro w x w' h; exact ih h
  | halt h => intro w x w' h; cases h
/-! ### First lemmas -/
section
variable {w w' : World} {ok ok' : Nat → Prop} {γ γ' : Nat → Value}

theorem All2.imp {α β : Type} {r r' : α → β → Prop} {xs : List α} {ys : List β} (h : All2 r xs ys) (hr : ∀ x y, x ∈ xs → r x y → r' x y) : All2 r' xs ys := by
  induction h with
  | nil => exact .nil
  | cons h1 _ ih => exact .cons (hr _ _ (by simp) h1) (ih fun x y hx => hr x y (by simp [hx]))
theorem All2.length {α β : Type} {r : α → β → Prop} {xs : List α} {ys : List β} (h : All2 r xs ys) : xs.length = ys.length := by
  induction h <;> simp_all
theorem All2.get {α β : Type} {r : α → β → Prop} {xs : List α} {ys : List β} (h : All2 r xs ys) : ∀ (j : Nat) (x : α), xs[j]? = some x → ∃ y, ys[j]? = some y ∧ r x y := by
  induction h with
  | nil => intro j x h; simp at h
  | cons h1 _ ih =>
    intro j x hx
    cases j with
    | zero => simp at hx; subst hx; exact ⟨_, rfl, h1⟩
    | succ j => simpa using ih j x (by simpa using hx)
theorem All2.of_get {α β : Type} {r : α → β → Prop} : ∀ {xs : List α} {ys : List β}, xs.length = ys.length → (∀ (j : Nat) (x : α) (y : β), xs[j]? = some x → ys[j]? = some y → r x y) → All2 r xs ys
  | [], [], _, _ => .nil
  | x :: xs, y :: ys, hl, h => .cons (h 0 x y rfl rfl) (All2.of_get (by simpa using hl) fun j a b ha hb => h (j + 1) a b (by simpa using ha) (by simpa using hb))
  | [], _ :: _, hl, _ => by simp at hl
  | _ :: _, [], hl, _ => by simp at hl

/-- Whatever could be read in block b can be read still. -/
def Kpt (w w' : World) (b : Nat) : Prop := ∀ (ad : Addr) (u : Value), ad.block = b → w.cell? ad = some u → w'.cell? ad = some u
theorem kpt_of {b : Nat} (h : w'.heap[b]? = w.heap[b]?) : Kpt w w' b := fun ad u hb hc => by
  subst hb
  rw [World.cell?_of_block (w := w) h]; exact hc
theorem add_block (a : Addr) (n : Nat) : (a.add n).block = a.block := by unfold Addr.add; split <;> rfl
theorem add_add' (a : Addr) (i j : Nat) : (a.add i).add j = a.add (i + j) := by
  unfold Addr.add
  by_cases hi : i = 0 <;> by_cases hj : j = 0 <;> simp [hi, hj, Nat.add_assoc]
theorem add_lit' (g o n : Nat) : (⟨g, o, none⟩ : Addr).add n = ⟨g, o + n, none⟩ := by unfold Addr.add; split <;> simp_all

/-- A datum stays what it is where the blocks that it may read can be read as before. -/
theorem Rep.keep0 (hk : ∀ b, ok b → ok' b ∧ Kpt w w' b) : ∀ {x : D} {v : Value}, Rep w ok x v → Rep w' ok' x v := by
  intro x
  induction x with
  | int k n => exact fun h => h
  | bool b => exact fun h => h
  | str s => exact fun h => h
  | fn f => exact fun h => h
  | slc k n f ih =>
    intro v h
    rcases h with h | ⟨a, cap, hv, h1, h2, h3⟩
    · exact .inl h
    · refine .inr ⟨a, cap, hv, h1, h2, fun i hi j hj => ?_⟩
      obtain ⟨h4, u, hu, hr⟩ := h3 i hi j hj
      exact ⟨(hk _ h4).1, u, (hk _ h4).2 _ _ (add_block _ _) hu, ih i j hr⟩
  | ptr m g ih =>
    intro v h
    obtain ⟨a, hv, h3⟩ := h
    refine ⟨a, hv, fun j hj => ?_⟩
    obtain ⟨h4, u, hu, hr⟩ := h3 j hj
    exact ⟨(hk _ h4).1, u, (hk _ h4).2 _ _ (add_block _ _) hu, ih j hr⟩
  | clo f m g ih =>
    intro v h
    obtain ⟨vs, hv, hl, h3⟩ := h
    refine ⟨vs, hv, hl, fun j hj => ?_⟩
    obtain ⟨u, hu, hr⟩ := h3 j hj
    exact ⟨u, hu, ih j hr⟩
theorem Rep1.keep0 (hk : ∀ b, ok b → ok' b ∧ Kpt w w' b) {x : V1} {v : Value} (h : Rep1 w ok x v) : Rep1 w' ok' x v := by
  cases x with
  | d x => exact Rep.keep0 hk h
  | agg xs => obtain ⟨vs, hv, h⟩ := h; exact ⟨vs, hv, h.imp fun _ _ _ => Rep.keep0 hk⟩
theorem CapM.keep0 (hk : ∀ b, ok b → ok' b ∧ Kpt w w' b) {c : Cap} {v : Value} (hγ : ∀ i ∈ capRefs [c], γ' i = γ i) (h : CapM w ok γ c v) : CapM w' ok' γ' c v := by
  cases c with
  | own i => exact Eq.trans h (hγ i (by simp [capRefs])).symm
  | dat x => exact Rep.keep0 hk h
theorem capRefs_mem {c : Cap} {l : List Cap} (h : c ∈ l) {i : Nat} (hi : i ∈ capRefs [c]) : i ∈ capRefs l := by
  induction l with
  | nil => cases h
  | cons d r ih =>
    rcases List.mem_cons.1 h with rfl | h'
    · cases c with
      | own j => simp [capRefs] at hi ⊢; exact .inl hi
      | dat x => simp [capRefs] at hi
    · cases d with
      | own j => simp [capRefs]; exact .inr (ih h')
      | dat x => simp [capRefs]; exact ih h'
theorem M.keep0 (hk : ∀ b, ok b → ok' b ∧ Kpt w w' b) {x : AV} {v : Value} (hγ : ∀ i ∈ x.refs, γ' i = γ i) (h : M w ok γ x v) : M w' ok' γ' x v := by
  cases x with
  | any => exact trivial
  | d x => exact Rep.keep0 hk h
  | agg xs => obtain ⟨vs, hv, h⟩ := h; exact ⟨vs, hv, h.imp fun _ _ _ => Rep.keep0 hk⟩
  | tup l => obtain ⟨vs, hv, h⟩ := h; exact ⟨vs, hv, h.imp fun _ _ _ => Rep1.keep0 hk⟩
  | nilsl => exact h
  | box i off => obtain ⟨b, h1, h2⟩ := h; exact ⟨b, by rw [hγ i (by simp [AV.refs])]; exact h1, h2⟩
  | own i => exact Eq.trans h (hγ i (by simp [AV.refs])).symm
  | pin i u => exact ⟨Eq.trans h.1 (hγ i (by simp [AV.refs])).symm, h.2⟩
  | pbox i u => obtain ⟨⟨b, h1, h2⟩, h3⟩ := h; exact ⟨⟨b, by rw [hγ i (by simp [AV.refs])]; exact h1, h2⟩, h3⟩
  | gho m => exact h
  | yl l => exact h
  | elt i k n c => obtain ⟨g, len, cap, h1, h2⟩ := h; exact ⟨g, len, cap, by rw [hγ i (by simp [AV.refs])]; exact h1, h2⟩
  | sub i k lo n =>
    rcases h with h | ⟨g, len, cap, cap', h1, h2⟩
    · exact .inl h
    · exact .inr ⟨g, len, cap, cap', by rw [hγ i (by simp [AV.refs])]; exact h1, h2⟩
  | roe m f =>
    obtain ⟨a, hv, h⟩ := h
    refine ⟨a, hv, fun j hj => ?_⟩
    obtain ⟨h4, u, hu, hr⟩ := h j hj
    exact ⟨(hk _ h4).1, u, (hk _ h4).2 _ _ (add_block _ _) hu, Rep.keep0 hk hr⟩
  | clo f caps =>
    obtain ⟨vs, hv, h⟩ := h
    exact ⟨vs, hv, h.imp fun c u hc h => h.keep0 hk fun i hi => hγ i (capRefs_mem hc hi)⟩
  | undef => exact h
theorem kpts (hk : ∀ b, ok b → ok' b ∧ w'.heap[b]? = w.heap[b]?) : ∀ b, ok b → ok' b ∧ Kpt w w' b := fun b hb => ⟨(hk b hb).1, kpt_of (hk b hb).2⟩
theorem Rep.keep (hk : ∀ b, ok b → ok' b ∧ w'.heap[b]? = w.heap[b]?) {x : D} {v : Value} (h : Rep w ok x v) : Rep w' ok' x v := Rep.keep0 (kpts hk) h
theorem Rep1.keep (hk : ∀ b, ok b → ok' b ∧ w'.heap[b]? = w.heap[b]?) {x : V1} {v : Value} (h : Rep1 w ok x v) : Rep1 w' ok' x v := Rep1.keep0 (kpts hk) h
theorem M.keep (hk : ∀ b, ok b → ok' b ∧ w'.heap[b]? = w.heap[b]?) {x : AV} {v : Value} (hγ : ∀ i ∈ x.refs, γ' i = γ i) (h : M w ok γ x v) : M w' ok' γ' x v := M.keep0 (kpts hk) hγ h
end
end Go.Pg
