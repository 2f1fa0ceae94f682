/-
  Contracts: the smallest functions of half and of its specification.
-/
import Derived.Test.YtlmljmgappiehaaPgU
set_option linter.all false
set_option maxRecDepth 100000
namespace Go.Pg
open Go.Proofs Go.RowKit

/-! ### Small words -/
theorem LoopOb.of {body : St → KK → Prop} {s : St} {K : KK} {σ : Type} (S : σ → List (Nat × AV) × List (Nat × Ob)) (Inv : σ → Prop) (μ : σ → Nat) (x0 : σ) (hw : Weak s (S x0).1 (S x0).2) (hi : Inv x0)
    (hr : ∀ x, Inv x → body (St.of (S x).1 (S x).2) fun e s' => match e with
      | .normal => ∃ x', Weak s' (S x').1 (S x').2 ∧ Inv x' ∧ μ x' < μ x
      | e => K e s') : LoopOb body s K := by rw [LoopOb_iff]; exact ⟨σ, S, Inv, μ, x0, hw, hi, hr⟩
section
variable {s : St} {ob : Nat → Option Ob} {v : AV}
theorem avI {k : IntKind} {a b : Int} (h : v = .d (.int k a)) (e : a = b) : AVle s ob v (.d (.int k b)) := by subst h; exact ⟨rfl, e⟩
theorem avE {x y : D} (h : v = .d x) (e : D.eqv x y) : AVle s ob v (.d y) := by subst h; exact e
theorem avR (x : D) (h : v = .d x) : AVle s ob v (.d x) := by subst h; exact D.eqv_refl x
theorem avA {xs ys : List D} (h : v = .agg xs) (e : eqvs xs ys) : AVle s ob v (.agg ys) := by subst h; exact e
theorem avles_refl (xs : List D) : avles s ob (xs.map AV.d) (xs.map AV.d) := by
  induction xs with
  | nil => trivial
  | cons x r ih => exact ⟨D.eqv_refl x, ih⟩
/-- A box of data is as it was. -/
theorem obD (xs : List D) {o : Option Ob} (h : o = some (.box (xs.map AV.d))) : Oble s ob o (.box (xs.map AV.d)) := by subst h; exact avles_refl xs
theorem obR {e k n n' : Nat} {f f' : Nat → Nat → D} {o : Option Ob} (h : o = some (.row e k n f)) (hq : D.eqv (.slc k n f) (.slc k n' f')) : Oble s ob o (.row e k n' f') := by subst h; exact ⟨rfl, hq, rfl⟩
theorem rtI {k : IntKind} {a b : Int} (h : v = .d (.int k a)) (e : a = b) : RetAV s v (.d (.int k b)) := by subst h; exact ⟨rfl, e⟩
theorem rtB {a b : Bool} (h : v = .d (.bool a)) (e : a = b) : RetAV s v (.d (.bool b)) := by subst h; exact e
theorem rtA {xs ys : List D} (h : v = .agg xs) (e : eqvs xs ys) : RetAV s v (.agg ys) := by subst h; exact e
end
section
variable {T : TT} {s : St} {t : Nat}
theorem r1B {a b : Bool} (h : s.sl t = .d (.bool a)) (e : a = b) : RetAll T s [.tmp t] [.d (.bool b)] := ⟨rtB h e, trivial⟩
theorem r1I {k : IntKind} {a b : Int} (h : s.sl t = .d (.int k a)) (e : a = b) : RetAll T s [.tmp t] [.d (.int k b)] := ⟨rtI h e, trivial⟩
theorem r1A {xs ys : List D} (h : s.sl t = .agg xs) (e : eqvs xs ys) : RetAll T s [.tmp t] [.agg ys] := ⟨rtA h e, trivial⟩
end
theorem rtC {T : TT} {s : St} {a t i : Nat} {ti : TI} {cs : List AV} {xs ys : List D} {v : AV} (h1 : v = .box i 0) (h2 : T t = some ti) (h3 : s.ob i = some (.box cs)) (h4 : Nat.beq cs.length ti.size = true) (h5 : ti.agg = true) (h6 : allD cs = some xs) (he : eqvs xs ys) :
    RetCell T s t v (.agg ys) := by
  subst h1
  unfold RetCell
  simp only [h2, h3, h4, h5, true_and]
  have : RetBox cs (.agg ys) ↔ (match allD cs with | some xs => eqvs xs ys | none => False) := by
    rcases cs with _ | ⟨c, _ | ⟨c', r⟩⟩ <;> first | exact Iff.rfl | (cases c <;> exact Iff.rfl)
  rw [this, h6]
  exact he
section
variable {T : TT} {s : St} {a t i u : Nat} {ti : TI} {cs : List AV} {xs ys : List D}
theorem r1C (h1 : s.sl a = .box i 0) (h2 : T t = some ti) (h3 : s.ob i = some (.box cs)) (h4 : Nat.beq cs.length ti.size = true) (h5 : ti.agg = true) (h6 : allD cs = some xs) (he : eqvs xs ys) :
    RetAll T s [.cell a t] [.agg ys] := ⟨rtC (a := a) h1 h2 h3 h4 h5 h6 he, trivial⟩
theorem r2CI (h1 : s.sl a = .box i 0) (h2 : T t = some ti) (h3 : s.ob i = some (.box cs)) (h4 : Nat.beq cs.length ti.size = true) (h5 : ti.agg = true) (h6 : allD cs = some xs) {k : IntKind} {m n : Int} (h7 : s.sl u = .d (.int k m)) (he : eqvs xs ys) (e : m = n) :
    RetAll T s [.cell a t, .tmp u] [.agg ys, .d (.int k n)] := ⟨rtC (a := a) h1 h2 h3 h4 h5 h6 he, rtI h7 e, trivial⟩
theorem r2II {t u : Nat} {k k' : IntKind} {m n m' n' : Int} (h : s.sl t = .d (.int k m)) (h' : s.sl u = .d (.int k' m')) (e : m = n) (e' : m' = n') :
    RetAll T s [.tmp t, .tmp u] [.d (.int k n), .d (.int k' n')] := ⟨rtI h e, rtI h' e', trivial⟩
theorem r2IB {t u : Nat} {k : IntKind} {m n : Int} {b c : Bool} (h : s.sl t = .d (.int k m)) (h' : s.sl u = .d (.bool b)) (e : m = n) (e' : b = c) :
    RetAll T s [.tmp t, .tmp u] [.d (.int k n), .d (.bool c)] := ⟨rtI h e, rtB h' e', trivial⟩
end
theorem dT {p : Prop} [Decidable p] (h : decide p = true) : p := of_decide_eq_true h
theorem dF {p : Prop} [Decidable p] (h : decide p = false) : ¬ p := of_decide_eq_false h
theorem eqvs2 {k k' : IntKind} {a b a' b' : Int} (h1 : a = a') (h2 : b = b') : eqvs [.int k a, .int k' b] [.int k a', .int k' b'] := ⟨⟨rfl, h1⟩, ⟨rfl, h2⟩, trivial⟩
theorem eqvs3 {k k' k'' : IntKind} {a b c a' b' c' : Int} (h1 : a = a') (h2 : b = b') (h3 : c = c') : eqvs [.int k a, .int k' b, .int k'' c] [.int k a', .int k' b', .int k'' c'] := ⟨⟨rfl, h1⟩, ⟨rfl, h2⟩, ⟨rfl, h3⟩, trivial⟩
theorem inI64 {n : Int} (h1 : -9223372036854775808 ≤ n) (h2 : n ≤ 9223372036854775807) : inR .i64 n := ⟨h1, h2⟩
theorem inI30 {n : Int} (h : -1073741824 ≤ n ∧ n ≤ 1073741824) : inR .i64 n := inI64 (by omega) (by omega)
theorem gd1 {α : Type} {l : List α} {i : Nat} (h : i < l.length) (d : α) : l.getD i d ∈ l := by
  rw [List.getD_eq_getElem?_getD, List.getElem?_eq_getElem h]; exact List.getElem_mem h
theorem take1 {α : Type} {l : List α} {i : Nat} (h : i < l.length) (d : α) : l.take (i + 1) = l.take i ++ [l.getD i d] := by
  rw [List.take_succ_eq_append_getElem h, List.getD_eq_getElem?_getD, List.getElem?_eq_getElem h]; rfl

@[irreducible] def within (n lo hi : Int) : Bool := decide (lo ≤ n) && decide (n ≤ hi)
theorem d_within (n lo hi : Int) : SpecD PP 49 [N n, N lo, N hi] [B (within n lo hi)] := by
  refine specD_at Try.func49 rfl (by kernel_rfl) rfl ?_
  unfold within
  refine Split.by (fun h1 => ?_) (fun h1 => ?_)
  · refine Split.tt ?_
    exact r1B rfl (by rw [h1, Bool.true_and])
  · refine Split.ff ?_
    exact r1B rfl (by rw [h1, Bool.false_and])

theorem s_within (n lo hi : Int) : Spec PP 49 [N n, N lo, N hi] [B (within n lo hi)] := (d_within n lo hi).of
@[irreducible] def slope (a b : Int) : Bool := within a (-1000) 1000 && within b (-1000) 1000
theorem s_slope (a b : Int) : Spec PP 67 [N a, N b] [B (slope a b)] := by
  refine spec_at Try.func67 rfl (by kernel_rfl) rfl ?_
  unfold slope
  refine CallSt.pure (s_within a (-1000) 1000) rfl rfl ?_
  refine Split.by (fun h1 => ?_) (fun h1 => ?_)
  · refine CallSt.pure (s_within b (-1000) 1000) rfl rfl ?_
    refine Split.tt ?_
    exact r1B rfl (by rw [h1, Bool.true_and])
  · refine Split.ff ?_
    exact r1B rfl (by rw [h1, Bool.false_and])
end Go.Pg
