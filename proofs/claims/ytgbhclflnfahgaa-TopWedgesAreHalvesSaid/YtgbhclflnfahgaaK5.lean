/-
  Contracts: the smallest functions of half and of its specification.
-/
import Derived.Test.YtgbhclflnfahgaaK4
import Derived.Test.YtgbhclflnfahgaaK3
set_option linter.all false
set_option maxRecDepth 100000
namespace Go.Pg
open Go.Proofs Go.RowKit

/-! ### Small words -/
theorem Split.yes {b : Bool} {K : Bool → Prop} (hb : b = true) (h : K true) : Split b K := by subst hb; exact .of h
theorem Split.no {b : Bool} {K : Bool → Prop} (hb : b = false) (h : K false) : Split b K := by subst hb; exact .of h
theorem LoopOb.of {body : St → KK → Prop} {s : St} {K : KK} {σ : Type} (S : σ → List (Nat × AV) × List (Nat × Ob)) (Inv : σ → Prop) (μ : σ → Nat) (x0 : σ) (hw : Weak s (S x0).1 (S x0).2) (hi : Inv x0)
    (hr : ∀ x, Inv x → body (St.of (S x).1 (S x).2) fun e s' => match e with
      | .normal => ∃ x', Weak s' (S x').1 (S x').2 ∧ Inv x' ∧ μ x' < μ x
      | e => K e s') : LoopOb body s K := by rw [LoopOb_iff]; exact ⟨σ, S, Inv, μ, x0, hw, hi, hr⟩
section
variable {s : St} {ob : Nat → Option Ob} {v : AV}
theorem avI {k : IntKind} {a b : Int} (h : v = .d (.int k a)) (e : a = b) : AVle s ob v (.d (.int k b)) := by subst h; exact ⟨rfl, e⟩
theorem avE {x y : D} (h : v = .d x) (e : D.eqv x y) : AVle s ob v (.d y) := by subst h; exact e
theorem avR (x : D) (h : v = .d x) : AVle s ob v (.d x) := by subst h; exact D.eqv_refl x
theorem avA {xs ys : List D} (h : v = .agg xs) (e : eqvs xs ys) : AVle s ob v (.agg ys) := by subst h; exact e
theorem avles_refl (xs : List D) : avles s ob (xs.map AV.d) (xs.map AV.d) := by
  induction xs with
  | nil => trivial
  | cons x r ih => exact ⟨D.eqv_refl x, ih⟩
/-- A box of data is as it was. -/
theorem obD (xs : List D) {o : Option Ob} (h : o = some (.box (xs.map AV.d))) : Oble s ob o (.box (xs.map AV.d)) := by subst h; exact avles_refl xs
theorem obR {e k n n' : Nat} {f f' : Nat → Nat → D} {o : Option Ob} (h : o = some (.row e k n f)) (hq : D.eqv (.slc k n f) (.slc k n' f')) : Oble s ob o (.row e k n' f') := by subst h; exact ⟨rfl, hq, rfl⟩
theorem rtI {k : IntKind} {a b : Int} (h : v = .d (.int k a)) (e : a = b) : RetAV s v (.d (.int k b)) := by subst h; exact ⟨rfl, e⟩
theorem rtB {a b : Bool} (h : v = .d (.bool a)) (e : a = b) : RetAV s v (.d (.bool b)) := by subst h; exact e
theorem rtA {xs ys : List D} (h : v = .agg xs) (e : eqvs xs ys) : RetAV s v (.agg ys) := by subst h; exact e
end
section
variable {T : TT} {s : St} {t : Nat}
theorem r1B {a b : Bool} (h : s.sl t = .d (.bool a)) (e : a = b) : RetAll T s [.tmp t] [.d (.bool b)] := ⟨rtB h e, trivial⟩
theorem r1I {k : IntKind} {a b : Int} (h : s.sl t = .d (.int k a)) (e : a = b) : RetAll T s [.tmp t] [.d (.int k b)] := ⟨rtI h e, trivial⟩
theorem r1A {xs ys : List D} (h : s.sl t = .agg xs) (e : eqvs xs ys) : RetAll T s [.tmp t] [.agg ys] := ⟨rtA h e, trivial⟩
end
theorem rtC {T : TT} {s : St} {a t i : Nat} {ti : TI} {cs : List AV} {xs ys : List D} {v : AV} (h1 : v = .box i 0) (h2 : T t = some ti) (h3 : s.ob i = some (.box cs)) (h4 : Nat.beq cs.length ti.size = true) (h5 : ti.agg = true) (h6 : allD cs = some xs) (he : eqvs xs ys) :
    RetCell T s t v (.agg ys) := by
  subst h1
  unfold RetCell
  simp only [h2, h3, h4, h5, true_and]
  have : RetBox cs (.agg ys) ↔ (match allD cs with | some xs => eqvs xs ys | none => False) := by
    rcases cs with _ | ⟨c, _ | ⟨c', r⟩⟩ <;> first | exact Iff.rfl | (cases c <;> exact Iff.rfl)
  rw [this, h6]
  exact he
section
variable {T : TT} {s : St} {a t i u : Nat} {ti : TI} {cs : List AV} {xs ys : List D}
theorem r1C (h1 : s.sl a = .box i 0) (h2 : T t = some ti) (h3 : s.ob i = some (.box cs)) (h4 : Nat.beq cs.length ti.size = true) (h5 : ti.agg = true) (h6 : allD cs = some xs) (he : eqvs xs ys) :
    RetAll T s [.cell a t] [.agg ys] := ⟨rtC (a := a) h1 h2 h3 h4 h5 h6 he, trivial⟩
theorem r2CI (h1 : s.sl a = .box i 0) (h2 : T t = some ti) (h3 : s.ob i = some (.box cs)) (h4 : Nat.beq cs.length ti.size = true) (h5 : ti.agg = true) (h6 : allD cs = some xs) {k : IntKind} {m n : Int} (h7 : s.sl u = .d (.int k m)) (he : eqvs xs ys) (e : m = n) :
    RetAll T s [.cell a t, .tmp u] [.agg ys, .d (.int k n)] := ⟨rtC (a := a) h1 h2 h3 h4 h5 h6 he, rtI h7 e, trivial⟩
theorem r2II {t u : Nat} {k k' : IntKind} {m n m' n' : Int} (h : s.sl t = .d (.int k m)) (h' : s.sl u = .d (.int k' m')) (e : m = n) (e' : m' = n') :
    RetAll T s [.tmp t, .tmp u] [.d (.int k n), .d (.int k' n')] := ⟨rtI h e, rtI h' e', trivial⟩
theorem r2IB {t u : Nat} {k : IntKind} {m n : Int} {b c : Bool} (h : s.sl t = .d (.int k m)) (h' : s.sl u = .d (.bool b)) (e : m = n) (e' : b = c) :
    RetAll T s [.tmp t, .tmp u] [.d (.int k n), .d (.bool c)] := ⟨rtI h e, rtB h' e', trivial⟩
end
theorem dT {p : Prop} [Decidable p] (h : decide p = true) : p := of_decide_eq_true h
theorem dF {p : Prop} [Decidable p] (h : decide p = false) : ¬ p := of_decide_eq_false h
theorem eqvs2 {k k' : IntKind} {a b a' b' : Int} (h1 : a = a') (h2 : b = b') : eqvs [.int k a, .int k' b] [.int k a', .int k' b'] := ⟨⟨rfl, h1⟩, ⟨rfl, h2⟩, trivial⟩
theorem eqvs3 {k k' k'' : IntKind} {a b c a' b' c' : Int} (h1 : a = a') (h2 : b = b') (h3 : c = c') : eqvs [.int k a, .int k' b, .int k'' c] [.int k a', .int k' b', .int k'' c'] := ⟨⟨rfl, h1⟩, ⟨rfl, h2⟩, ⟨rfl, h3⟩, trivial⟩
theorem inI64 {n : Int} (h1 : -9223372036854775808 ≤ n) (h2 : n ≤ 9223372036854775807) : inR .i64 n := ⟨h1, h2⟩
theorem inI30 {n : Int} (h : -1073741824 ≤ n ∧ n ≤ 1073741824) : inR .i64 n := inI64 (by omega) (by omega)
theorem gd1 {α : Type} {l : List α} {i : Nat} (h : i < l.length) (d : α) : l.getD i d ∈ l := by
  rw [List.getD_eq_getElem?_getD, List.getElem?_eq_getElem h]; exact List.getElem_mem h
theorem take1 {α : Type} {l : List α} {i : Nat} (h : i < l.length) (d : α) : l.take (i + 1) = l.take i ++ [l.getD i d] := by
  rw [List.take_succ_eq_append_getElem h, List.getD_eq_getElem?_getD, List.getElem?_eq_getElem h]; rfl

@[irreducible] def within (n lo hi : Int) : Bool := decide (lo ≤ n) && decide (n ≤ hi)
theorem d_within (n lo hi : Int) : SpecD PP 42 [N n, N lo, N hi] [B (within n lo hi)] := by
  refine specD_at Try.func42 rfl (by kernel_rfl) rfl ?_
  unfold within
  refine Split.by (fun h1 => ?_) (fun h1 => ?_)
  · refine Split.tt ?_
    exact r1B rfl (by rw [h1, Bool.true_and])
  · refine Split.ff ?_
    exact r1B rfl (by rw [h1, Bool.false_and])

theorem s_within (n lo hi : Int) : Spec PP 42 [N n, N lo, N hi] [B (within n lo hi)] := (d_within n lo hi).of
@[irreducible] def slope (a b : Int) : Bool := within a (-1000) 1000 && within b (-1000) 1000
theorem s_slope (a b : Int) : Spec PP 21 [N a, N b] [B (slope a b)] := by
  refine spec_at Try.func21 rfl (by kernel_rfl) rfl ?_
  unfold slope
  refine CallSt.pure (s_within a (-1000) 1000) rfl rfl ?_
  refine Split.by (fun h1 => ?_) (fun h1 => ?_)
  · refine CallSt.pure (s_within b (-1000) 1000) rfl rfl ?_
    refine Split.tt ?_
    exact r1B rfl (by rw [h1, Bool.true_and])
  · refine Split.ff ?_
    exact r1B rfl (by rw [h1, Bool.false_and])
end Go.Pg
/-
  Contracts: layer 3's first functions (Check, Valid, Of and what they call), of half and of its specification.
-/
set_option linter.all false
set_option maxRecDepth 100000
namespace Go.Pg
open Go.Proofs Go.RowKit
def gcdL (l : List Int) : Nat := l.foldl (fun g n => Nat.gcd g n.natAbs) 0
theorem d_gcd (l : List Int) (hl : ∀ n ∈ l, -9223372036854775807 ≤ n ∧ n ≤ 9223372036854775807) (hn : l.length ≤ 1000000) : SpecD PP 45 [slI l] [N (gcdL l)] := by
  refine specD_at Try.func45 rfl (by kernel_rfl) rfl ?_
  refine LoopOb.of (σ := Nat) (fun i => ([(3, .d (I (gcdL (l.take i)))), (6, avOf (slI l)), (7, .d (I l.length)), (8, .d (I i))], [])) (fun i => i ≤ l.length) (fun i => l.length - i) 0 ⟨rfl, trivial, avR _ rfl, avR _ rfl, avR _ rfl, avR _ rfl, trivial⟩ (Nat.zero_le _) fun i hi => ?_
  refine Split.by (fun h1 => ?_) (fun h1 => ?_)
  · have h1 : i < l.length := by simpa using h1
    have hb := hl _ (gd1 h1 0)
    refine ⟨⟨rfl, by omega, by omega⟩, ?_⟩
    refine ⟨inI64 (by show _ ≤ -l.getD i 0; omega) (by show -l.getD i 0 ≤ _; omega), ?_⟩
    refine LoopOb.of (σ := Nat × Nat) (fun x => ([(3, .d (I x.1)), (5, .d (I x.2)), (6, avOf (slI l)), (7, .d (I l.length)), (8, .d (I i))], [])) (fun x => Nat.gcd x.1 x.2 = gcdL (l.take (i + 1))) (fun x => x.2) (gcdL (l.take i), (l.getD i 0).natAbs) ⟨rfl, trivial, avR _ rfl, avI rfl ?_, avR _ rfl, avR _ rfl, avR _ rfl, trivial⟩ ?_ fun x hx => ?_
    · show max (l.getD i 0) (-l.getD i 0) = ((l.getD i 0).natAbs : Int)
      omega
    · rw [take1 h1 0]
      simp [gcdL]
    refine Split.by (fun h2 => ?_) (fun h2 => ?_)
    · have h2 : 0 < x.2 := by simpa using h2
      refine ⟨List.range 6, by kernel_rfl, FzOb.no ?_⟩
      refine ⟨by omega, ?_⟩
      refine ⟨(x.2, x.1 % x.2), ⟨rfl, trivial, avR _ rfl, avI rfl ?_, avR _ rfl, avR _ rfl, avR _ rfl, trivial⟩, ?_, ?_⟩
      · exact (Int.ofNat_tmod x.1 x.2).symm
      · show Nat.gcd x.2 (x.1 % x.2) = _
        rw [← hx, Nat.gcd_comm x.2, ← Nat.gcd_rec, Nat.gcd_comm]
      · exact Nat.mod_lt _ h2
    · have h2 : x.2 = 0 := by
        have : ¬ (0 < x.2) := by simpa using h2
        omega
      refine ⟨inI64 (by omega) (by omega), ?_⟩
      refine ⟨i + 1, ⟨rfl, trivial, avI rfl ?_, avR _ rfl, avR _ rfl, avR _ rfl, trivial⟩, h1, ?_⟩
      · rw [← hx, h2, Nat.gcd_zero_right]
      · show l.length - (i + 1) < l.length - i
        omega
  · have h1 : i = l.length := by
      have : ¬ i < l.length := by simpa using h1
      omega
    refine r1I rfl ?_
    rw [h1, List.take_length]

theorem s_gcd (l : List Int) (hl : ∀ n ∈ l, -9223372036854775807 ≤ n ∧ n ≤ 9223372036854775807) (hn : l.length ≤ 1000000) : Spec PP 45 [slI l] [N (gcdL l)] := (d_gcd l hl hn).of
/-! ### half: Check, Valid, Of -/
@[irreducible] def fit (h : Half) : Bool := slope h.A h.B && (h.A != 0 || h.B != 0) && within h.C (-262144) 262144
theorem s_fit (h : Half) : Spec PP 33 [h.v] [B (fit h)] := by
  refine spec_at Try.func33 rfl (by kernel_rfl) rfl ?_
  repeat' first
    | refine Split.tt ?_
    | refine Split.ff ?_
    | refine Split.by (fun _ => ?_) (fun _ => ?_)
    | refine CallSt.pure (s_slope _ _) rfl rfl ?_
    | refine CallSt.pure (s_within _ _ _) rfl rfl ?_
    | refine r1B rfl ?_
  all_goals (unfold fit; simp_all)
def checkL (l : List Half) : Int := if 40 < l.length then 2 else if l.all fit then 0 else 1
theorem s_Check (l : List Half) : Spec PP 15 [slH l] [N (checkL l)] := by
  refine spec_at Try.func15 rfl (by kernel_rfl) rfl ?_
  refine Split.by (fun h1 => ?_) (fun h1 => ?_)
  · have h1 : 40 < l.length := by have := dT h1; omega
    refine r1I rfl ?_
    simp [checkL, h1]
  · have h1 : ¬ 40 < l.length := by have := dF h1; omega
    refine LoopOb.of (σ := Nat) (fun i => ([(8, avOf (slH l)), (9, .d (I l.length)), (10, .d (I i))], [])) (fun i => i ≤ l.length ∧ (l.take i).all fit = true) (fun i => l.length - i) 0 ⟨rfl, trivial, avR _ rfl, avR _ rfl, avR _ rfl, trivial⟩ ⟨Nat.zero_le _, rfl⟩ fun i hi => ?_
    obtain ⟨hi, ha⟩ := hi
    refine Split.by (fun h2 => ?_) (fun h2 => ?_)
    · have h2 : i < l.length := by simpa using h2
      refine ⟨⟨rfl, by omega, by omega⟩, ?_⟩
      refine CallSt.pure (s_fit (l.getD i default)) rfl rfl ?_
      refine Split.by (fun h3 => ?_) (fun h3 => ?_)
      · refine r1I rfl ?_
        have h3 : fit (l.getD i default) = false := by simpa using h3
        have : l.all fit = false := by
          rw [List.all_eq_false]; exact ⟨_, gd1 h2 default, by rw [h3]; simp⟩
        simp [checkL, h1, this]
      · have h3 : fit (l.getD i default) = true := by simpa using h3
        refine ⟨inI64 (by omega) (by omega), ?_⟩
        refine ⟨i + 1, ⟨rfl, trivial, avR _ rfl, avR _ rfl, avR _ rfl, trivial⟩, ⟨h2, ?_⟩, ?_⟩
        · rw [take1 h2 default, List.all_append, ha]; simp only [List.all_cons, h3]; rfl
        · show l.length - (i + 1) < l.length - i
          omega
    · have h2 : i = l.length := by
        have : ¬ i < l.length := by simpa using h2
        omega
      refine r1I rfl ?_
      rw [h2, List.take_length] at ha
      simp only [checkL, h1, ha, if_false, if_true]
theorem within_spec {n lo hi : Int} : within n lo hi = true ↔ lo ≤ n ∧ n ≤ hi := by unfold within; simp
theorem eqv_slI3 {f : Nat → Nat → D} {a b c : Int} (h0 : f 0 0 = I a) (h1 : f 1 0 = I b) (h2 : f 2 0 = I c) : eqV1s [.d (.slc 1 3 f)] [slI [a, b, c]] := by
  refine ⟨⟨rfl, .inr ⟨rfl, fun i hi j hj => ?_⟩⟩, trivial⟩
  obtain rfl : j = 0 := by omega
  match i, hi with
  | 0, _ => rw [h0]; exact ⟨rfl, rfl⟩
  | 1, _ => rw [h1]; exact ⟨rfl, rfl⟩
  | 2, _ => rw [h2]; exact ⟨rfl, rfl⟩
theorem eqv_slI2 {f : Nat → Nat → D} {a b : Int} (h0 : f 0 0 = I a) (h1 : f 1 0 = I b) : eqV1s [.d (.slc 1 2 f)] [slI [a, b]] := by
  refine ⟨⟨rfl, .inr ⟨rfl, fun i hi j hj => ?_⟩⟩, trivial⟩
  obtain rfl : j = 0 := by omega
  match i, hi with
  | 0, _ => rw [h0]; exact ⟨rfl, rfl⟩
  | 1, _ => rw [h1]; exact ⟨rfl, rfl⟩
@[irreducible] def valid (p : Corner) : Bool := within p.Den 1 2097152 && within p.X (-1073741824) 1073741824 && within p.Y (-1073741824) 1073741824 && ((gcdL [p.X, p.Y, p.Den] : Int) == 1)
theorem d_Valid (p : Corner) : SpecD PP 57 [p.v] [B (valid p)] := by
  refine specD_at Try.func57 rfl (by kernel_rfl) rfl ?_
  repeat' first
    | refine Split.tt ?_
    | refine Split.ff ?_
    | refine Split.by (fun _ => ?_) (fun _ => ?_)
    | refine CallSt.pure (d_within _ _ _) rfl rfl ?_
    | refine CallSt.pureE (d_gcd [p.X, p.Y, p.Den] ?_ ?_) rfl (eqv_slI3 rfl rfl rfl) rfl ?_
    | refine r1B rfl ?_
  · intro n hn
    simp only [within_spec] at *
    simp only [List.mem_cons, List.not_mem_nil, or_false] at hn
    omega
  · exact Nat.le_of_ble_eq_true rfl
  all_goals (unfold valid; simp_all)
theorem s_Valid (p : Corner) : Spec PP 57 [p.v] [B (valid p)] := (d_Valid p).of
@[irreducible] def on (p : Place) : Bool := within p.X 0 48 && within p.Y 0 48
@[irreducible] def ofP (p : Place) : Corner := if on p = true then ⟨p.X, p.Y, 1⟩ else ⟨0, 0, 0⟩
/-! ### The specification's -/
theorem gcd_perm (a b c : Nat) : Nat.gcd (Nat.gcd a c) b = Nat.gcd (Nat.gcd (Nat.gcd 0 a) b) c := by
  rw [Nat.gcd_zero_left, Nat.gcd_assoc, Nat.gcd_assoc, Nat.gcd_comm c b]
end Go.Pg
/-
  Contracts: layer 3's comparisons.
-/
set_option linter.all false
set_option maxRecDepth 100000
namespace Go.Pg
open Go.Proofs Go.RowKit

theorem mulB {a b x y : Int} (ha : -x ≤ a ∧ a ≤ x) (hb : -y ≤ b ∧ b ≤ y) : -(x * y) ≤ a * b ∧ a * b ≤ x * y := by
  have h : (a * b).natAbs ≤ x.natAbs * y.natAbs := by rw [Int.natAbs_mul]; exact Nat.mul_le_mul (by omega) (by omega)
  have e : ((x.natAbs * y.natAbs : Nat) : Int) = x * y := by rw [Int.natCast_mul, Int.natAbs_of_nonneg (by omega), Int.natAbs_of_nonneg (by omega)]
  omega
/-- A half-plane, a corner within the limits. -/
structure okH (h : Half) : Prop where
  a : -1000 ≤ h.A ∧ h.A ≤ 1000
  b : -1000 ≤ h.B ∧ h.B ≤ 1000
  c : -262144 ≤ h.C ∧ h.C ≤ 262144
structure okC (p : Corner) : Prop where
  x : -1073741824 ≤ p.X ∧ p.X ≤ 1073741824
  y : -1073741824 ≤ p.Y ∧ p.Y ≤ 1073741824
  d : 1 ≤ p.Den ∧ p.Den ≤ 2097152
theorem okH_of {h : Half} (hf : fit h = true) : okH h := by
  unfold fit slope at hf
  simp only [Bool.and_eq_true, within_spec] at hf
  exact ⟨hf.1.1.1, hf.1.1.2, hf.2⟩
theorem okC_of {p : Corner} (hf : valid p = true) : okC p := by
  unfold valid at hf
  simp only [Bool.and_eq_true, within_spec] at hf
  exact ⟨hf.1.1.2, hf.1.2, hf.1.1.1⟩
/-- The value of a half-plane's form at a corner is small. -/
theorem okHC {h : Half} {p : Corner} (hh : okH h) (hp : okC p) : (-1073741824000 ≤ h.A * p.X ∧ h.A * p.X ≤ 1073741824000) ∧ (-1073741824000 ≤ h.B * p.Y ∧ h.B * p.Y ≤ 1073741824000) ∧ (-549755813888 ≤ h.C * p.Den ∧ h.C * p.Den ≤ 549755813888) := by
  have h1 := mulB hh.a hp.x
  have h2 := mulB hh.b hp.y
  have h3 := mulB hh.c (b := p.Den) (y := 2097152) (by have := hp.d; omega)
  omega
@[irreducible] def lies (h : Half) (p : Corner) : Bool := decide (h.A * p.X + h.B * p.Y ≤ h.C * p.Den)
@[irreducible] def tight (h : Half) (p : Corner) : Bool := h.A * p.X + h.B * p.Y == h.C * p.Den
theorem s_lies (h : Half) (p : Corner) (hh : okH h) (hp : okC p) : Spec PP 40 [h.v, p.v] [B (lies h p)] := by
  obtain ⟨h1, h2, h3⟩ := okHC hh hp
  refine spec_at Try.func40 rfl (by kernel_rfl) rfl ?_
  refine ⟨inI64 (by omega) (by omega), ⟨inI64 (by omega) (by omega), ⟨inI64 (by omega) (by omega), ⟨inI64 (by omega) (by omega), ?_⟩⟩⟩⟩
  refine r1B rfl ?_
  unfold lies; rfl
theorem s_tight (h : Half) (p : Corner) (hh : okH h) (hp : okC p) : Spec PP 25 [h.v, p.v] [B (tight h p)] := by
  obtain ⟨h1, h2, h3⟩ := okHC hh hp
  refine spec_at Try.func25 rfl (by kernel_rfl) rfl ?_
  refine ⟨inI64 (by omega) (by omega), ⟨inI64 (by omega) (by omega), ⟨inI64 (by omega) (by omega), ⟨inI64 (by omega) (by omega), ?_⟩⟩⟩⟩
  refine r1B rfl ?_
  unfold tight; rfl
/-- -1, 0 or 1. -/
@[irreducible] def ord (a b : Int) : Int := if a < b then -1 else if b < a then 1 else 0
theorem d_isNaN (a : Int) : SpecD PP 77 [N a] [B false] := by
  refine specD_at Try.func77 rfl (by kernel_rfl) rfl ?_
  refine r1B rfl ?_
  simp
theorem s_isNaN (a : Int) : Spec PP 77 [N a] [B false] := (d_isNaN a).of
theorem d_cmp (a b : Int) : SpecD PP 63 [N a, N b] [N (ord a b)] := by
  refine specD_at Try.func63 rfl (by kernel_rfl) rfl ?_
  repeat' first
    | refine Split.tt ?_
    | refine Split.ff ?_
    | refine Split.by (fun _ => ?_) (fun _ => ?_)
    | refine CallSt.pure (d_isNaN _) rfl rfl ?_
    | refine r1I rfl ?_
  all_goals (unfold ord; simp_all)
  all_goals omega
theorem s_cmp (a b : Int) : Spec PP 63 [N a, N b] [N (ord a b)] := (d_cmp a b).of
theorem d_order (a b : Int) : SpecD PP 44 [N a, N b] [N (ord a b)] := by
  refine specD_at Try.func44 rfl (by kernel_rfl) rfl ?_
  refine CallSt.pure (d_cmp a b) rfl rfl ?_
  exact r1I rfl rfl
theorem s_order (a b : Int) : Spec PP 44 [N a, N b] [N (ord a b)] := (d_order a b).of
def orL : List Int → Int
  | [] => 0
  | x :: r => if x = 0 then orL r else x
theorem d_or (l : List Int) (hn : l.length ≤ 1000000) : SpecD PP 58 [slI l] [N (orL l)] := by
  refine specD_at Try.func58 rfl (by kernel_rfl) rfl ?_
  refine LoopOb.of (σ := Nat) (fun i => ([(3, .d (I 0)), (6, avOf (slI l)), (7, .d (I l.length)), (8, .d (I i))], [])) (fun i => i ≤ l.length ∧ orL (l.drop i) = orL l) (fun i => l.length - i) 0 ⟨rfl, trivial, avR _ rfl, avR _ rfl, avR _ rfl, avR _ rfl, trivial⟩ ⟨Nat.zero_le _, rfl⟩ fun i hi => ?_
  obtain ⟨hi, ho⟩ := hi
  refine Split.by (fun h1 => ?_) (fun h1 => ?_)
  · have h1 : i < l.length := by simpa using h1
    have hd : l.drop i = l.getD i 0 :: l.drop (i + 1) := by
      rw [List.drop_eq_getElem_cons h1, List.getD_eq_getElem?_getD, List.getElem?_eq_getElem h1]; rfl
    rw [hd] at ho
    refine ⟨⟨rfl, by omega, by omega⟩, ?_⟩
    refine Split.by (fun h2 => ?_) (fun h2 => ?_)
    · have h2 : l.getD i 0 ≠ 0 := by simpa using h2
      refine r1I rfl ?_
      rw [← ho]; simp only [orL, h2, if_false]; rfl
    · have h2 : l.getD i 0 = 0 := by simpa using h2
      refine ⟨inI64 (by omega) (by omega), ?_⟩
      refine ⟨i + 1, ⟨rfl, trivial, avR _ rfl, avR _ rfl, avR _ rfl, avR _ rfl, trivial⟩, ⟨h1, ?_⟩, ?_⟩
      · rw [← ho]; simp only [orL, h2, if_true]
      · show l.length - (i + 1) < l.length - i
        omega
  · have h1 : i = l.length := by
      have : ¬ i < l.length := by simpa using h1
      omega
    refine r1I rfl ?_
    rw [← ho, h1, List.drop_length]; rfl
theorem s_or (l : List Int) (hn : l.length ≤ 1000000) : Spec PP 58 [slI l] [N (orL l)] := (d_or l hn).of
end Go.Pg
/-
  Contracts: layer 3's points.
-/
set_option linter.all false
set_option maxRecDepth 100000
namespace Go.Pg
open Go.Proofs Go.RowKit

@[irreducible] def fraction (f : Frac) : Bool := within f.Den 1 2097152 && within f.Num (-2199023255552) 2199023255552 && ((gcdL [f.Num, f.Den] : Int) == 1)
theorem s_fraction (f : Frac) : Spec PP 43 [f.v] [B (fraction f)] := by
  refine spec_at Try.func43 rfl (by kernel_rfl) rfl ?_
  repeat' first
    | refine Split.tt ?_
    | refine Split.ff ?_
    | refine Split.by (fun _ => ?_) (fun _ => ?_)
    | refine CallSt.pure (s_within _ _ _) rfl rfl ?_
    | refine CallSt.pureE (s_gcd [f.Num, f.Den] ?_ ?_) rfl (eqv_slI2 rfl rfl) rfl ?_
    | refine r1B rfl ?_
  · intro n hn
    simp only [within_spec] at *
    simp only [List.mem_cons, List.not_mem_nil, or_false] at hn
    omega
  · exact Nat.le_of_ble_eq_true rfl
  all_goals (unfold fraction; simp_all)
@[irreducible] def cmpC (p q : Corner) : Int := if valid p = true ∧ valid q = true then orL [ord (p.X * q.Den) (q.X * p.Den), ord (p.Y * q.Den) (q.Y * p.Den)] else 0
theorem d_Compare (p q : Corner) : SpecD PP 36 [p.v, q.v] [N (cmpC p q)] := by
  refine specD_at Try.func36 rfl (by kernel_rfl) rfl ?_
  by_cases hp : valid p = true
  · by_cases hq : valid q = true
    · have gp := okC_of hp
      have gq := okC_of hq
      have h1 := mulB gp.x (b := q.Den) (y := 2097152) (by have := gq.d; omega)
      have h2 := mulB gq.x (b := p.Den) (y := 2097152) (by have := gp.d; omega)
      have h3 := mulB gp.y (b := q.Den) (y := 2097152) (by have := gq.d; omega)
      have h4 := mulB gq.y (b := p.Den) (y := 2097152) (by have := gp.d; omega)
      refine CallSt.pure (d_Valid p) rfl rfl ?_
      rw [hp]
      refine Split.ff ?_
      refine CallSt.pure (d_Valid q) rfl rfl ?_
      rw [hq]
      refine Split.ff (Split.ff ?_)
      refine Exists.intro (List.range 25) (And.intro (by kernel_rfl) (FzOb.no ?_))
      refine ⟨inI64 (by omega) (by omega), ⟨inI64 (by omega) (by omega), ?_⟩⟩
      refine CallOb.pure (d_order _ _) rfl rfl ?_
      refine ⟨inI64 (by omega) (by omega), ⟨inI64 (by omega) (by omega), ?_⟩⟩
      refine CallOb.pure (d_order _ _) rfl rfl ?_
      refine CallOb.pureE (d_or [_, _] ?_) rfl (eqv_slI2 rfl rfl) rfl ?_
      · exact Nat.le_of_ble_eq_true rfl
      refine r1I rfl ?_
      unfold cmpC
      rw [if_pos ⟨hp, hq⟩]
    · refine CallSt.pure (d_Valid p) rfl rfl ?_
      rw [hp]
      refine Split.ff ?_
      refine CallSt.pure (d_Valid q) rfl rfl ?_
      rw [Bool.eq_false_iff.2 hq]
      refine Split.ff (Split.tt (r1I rfl ?_))
      unfold cmpC
      rw [if_neg fun h => hq h.2]
  · refine CallSt.pure (d_Valid p) rfl rfl ?_
    rw [Bool.eq_false_iff.2 hp]
    refine Split.tt (Split.tt (Split.tt (r1I rfl ?_)))
    unfold cmpC
    rw [if_neg fun h => hp h.1]
theorem s_Compare (p q : Corner) : Spec PP 36 [p.v, q.v] [N (cmpC p q)] := (d_Compare p q).of
@[irreducible] def less (a b : Frac) : Int := if fraction a = true ∧ fraction b = true then ord (a.Num * b.Den) (b.Num * a.Den) else 0
theorem fraction_bd {f : Frac} (h : fraction f = true) : (1 ≤ f.Den ∧ f.Den ≤ 2097152) ∧ (-2199023255552 ≤ f.Num ∧ f.Num ≤ 2199023255552) := by
  unfold fraction at h
  simp only [Bool.and_eq_true, within_spec] at h
  exact h.1
theorem s_Less (a b : Frac) : Spec PP 22 [a.v, b.v] [N (less a b)] := by
  refine spec_at Try.func22 rfl (by kernel_rfl) rfl ?_
  by_cases hp : fraction a = true
  · by_cases hq : fraction b = true
    · have ga := fraction_bd hp
      have gb := fraction_bd hq
      have h1 := mulB ga.2 (b := b.Den) (y := 2097152) (by omega)
      have h2 := mulB gb.2 (b := a.Den) (y := 2097152) (by omega)
      refine CallSt.pure (s_fraction a) rfl rfl ?_
      rw [hp]
      refine Split.ff ?_
      refine CallSt.pure (s_fraction b) rfl rfl ?_
      rw [hq]
      refine Split.ff (Split.ff ?_)
      refine ⟨inI64 (by omega) (by omega), ⟨inI64 (by omega) (by omega), ?_⟩⟩
      refine CallSt.pure (s_order _ _) rfl rfl ?_
      refine r1I rfl ?_
      unfold less
      rw [if_pos ⟨hp, hq⟩]
    · refine CallSt.pure (s_fraction a) rfl rfl ?_
      rw [hp]
      refine Split.ff ?_
      refine CallSt.pure (s_fraction b) rfl rfl ?_
      rw [Bool.eq_false_iff.2 hq]
      refine Split.ff (Split.tt (r1I rfl ?_))
      unfold less
      rw [if_neg fun h => hq h.2]
  · refine CallSt.pure (s_fraction a) rfl rfl ?_
    rw [Bool.eq_false_iff.2 hp]
    refine Split.tt (Split.tt (Split.tt (r1I rfl ?_)))
    unfold less
    rw [if_neg fun h => hp h.1]
@[irreducible] def det (g h : Half) : Int := g.A * h.B - h.A * g.B
theorem det_bd {g h : Half} (hg : okH g) (hh : okH h) : -2000000 ≤ det g h ∧ det g h ≤ 2000000 := by
  have h1 := mulB hg.a hh.b
  have h2 := mulB hh.a hg.b
  unfold det
  omega
theorem s_det (g h : Half) (hg : okH g) (hh : okH h) : Spec PP 26 [g.v, h.v] [N (det g h)] := by
  have h1 := mulB hg.a hh.b
  have h2 := mulB hh.a hg.b
  refine spec_at Try.func26 rfl (by kernel_rfl) rfl ?_
  refine ⟨inI64 (by omega) (by omega), ⟨inI64 (by omega) (by omega), ⟨inI64 (by omega) (by omega), ?_⟩⟩⟩
  refine r1I rfl ?_
  unfold det; rfl
/-- The point with some numbers, in lowest terms. -/
@[irreducible] def lowest (x y d : Int) : Corner := let g : Int := if d < 0 then -gcdL [x, y, d] else gcdL [x, y, d]; ⟨x.tdiv g, y.tdiv g, d.tdiv g⟩
theorem tdiv_bd {a g b : Int} (ha : -b ≤ a ∧ a ≤ b) : -b ≤ a.tdiv g ∧ a.tdiv g ≤ b := by
  have h : (a.tdiv g).natAbs ≤ a.natAbs := by rw [Int.natAbs_tdiv]; exact Nat.div_le_self _ _
  omega
theorem s_corner (x y d : Int) (hx : -1073741824 ≤ x ∧ x ≤ 1073741824) (hy : -1073741824 ≤ y ∧ y ≤ 1073741824) (hd : -1073741824 ≤ d ∧ d ≤ 1073741824) (h0 : d ≠ 0) :
    Spec PP 54 [.agg [I x, I y, I d]] [(lowest x y d).v] := by
  have hg : 0 < gcdL [x, y, d] := by
    simp only [gcdL, List.foldl_cons, List.foldl_nil]
    exact Nat.gcd_pos_of_pos_right _ (by omega)
  have hg' : gcdL [x, y, d] ≤ 1073741824 := by
    have : gcdL [x, y, d] ≤ d.natAbs := by
      simp only [gcdL, List.foldl_cons, List.foldl_nil]
      exact Nat.gcd_le_right _ (by omega)
    omega
  have b1 := fun g => tdiv_bd (g := g) hx
  have b2 := fun g => tdiv_bd (g := g) hy
  have b3 := fun g => tdiv_bd (g := g) hd
  refine spec_at Try.func54 rfl (by kernel_rfl) rfl ?_
  refine ⟨⟨by decide, by decide⟩, ⟨⟨by decide, by decide⟩, ⟨⟨by decide, by decide⟩, ?_⟩⟩⟩
  refine CallSt.pureE (s_gcd [x, y, d] ?_ ?_) rfl (eqv_slI3 rfl rfl rfl) rfl ?_
  · intro n hn
    simp only [List.mem_cons, List.not_mem_nil, or_false] at hn
    omega
  · exact Nat.le_of_ble_eq_true rfl
  refine ⟨⟨by decide, by decide⟩, ?_⟩
  refine Split.by (fun h1 => ?_) (fun h1 => ?_)
  · have h1 : d < 0 := dT h1
    refine ⟨inI64 (by omega) (by omega), ?_⟩
    refine Exists.intro (List.range 14) (And.intro (by kernel_rfl) (FzOb.no ?_))
    refine ⟨⟨by decide, by decide⟩, ⟨⟨by omega, inI30 (b1 _)⟩, ⟨⟨by decide, by decide⟩, ⟨⟨by omega, inI30 (b2 _)⟩, ⟨⟨by decide, by decide⟩, ⟨⟨by omega, inI30 (b3 _)⟩, ?_⟩⟩⟩⟩⟩⟩
    refine r1C rfl rfl rfl rfl rfl rfl (eqvs3 ?_ ?_ ?_) <;> (unfold lowest; simp only [if_pos h1])
  · have h1 : ¬ d < 0 := dF h1
    refine Exists.intro (List.range 14) (And.intro (by kernel_rfl) (FzOb.no ?_))
    refine ⟨⟨by decide, by decide⟩, ⟨⟨by omega, inI30 (b1 _)⟩, ⟨⟨by decide, by decide⟩, ⟨⟨by omega, inI30 (b2 _)⟩, ⟨⟨by decide, by decide⟩, ⟨⟨by omega, inI30 (b3 _)⟩, ?_⟩⟩⟩⟩⟩⟩
    refine r1C rfl rfl rfl rfl rfl rfl (eqvs3 ?_ ?_ ?_) <;> (unfold lowest; simp only [if_neg h1])
@[irreducible] def crossing (g h : Half) : Corner := lowest (g.C * h.B - h.C * g.B) (g.A * h.C - h.A * g.C) (det g h)
theorem s_crossing (g h : Half) (hg : okH g) (hh : okH h) (hd : det g h ≠ 0) : Spec PP 34 [g.v, h.v] [(crossing g h).v] := by
  have h1 := mulB hg.c hh.b
  have h2 := mulB hh.c hg.b
  have h3 := mulB hg.a hh.c
  have h4 := mulB hh.a hg.c
  have h5 := det_bd hg hh
  refine spec_at Try.func34 rfl (by kernel_rfl) rfl ?_
  refine Exists.intro (List.range 28) (And.intro (by kernel_rfl) (FzOb.no ?_))
  refine ⟨inI64 (by omega) (by omega), ⟨inI64 (by omega) (by omega), ⟨inI64 (by omega) (by omega), ⟨inI64 (by omega) (by omega), ⟨inI64 (by omega) (by omega), ⟨inI64 (by omega) (by omega), ?_⟩⟩⟩⟩⟩⟩
  refine CallOb.pure (s_det g h hg hh) rfl rfl ?_
  refine CallOb.pure (s_corner (g.C * h.B - h.C * g.B) (g.A * h.C - h.A * g.C) (det g h) (by omega) (by omega) (by omega) hd) rfl rfl ?_
  refine r1C rfl rfl rfl rfl rfl rfl (eqvs3 ?_ ?_ ?_) <;> (unfold crossing; rfl)
@[irreducible] def cross (g h : Half) : Corner × Int := if fit g = true ∧ fit h = true then if det g h = 0 then (⟨0, 0, 0⟩, 5) else (crossing g h, 0) else (⟨0, 0, 0⟩, 1)
end Go.Pg
/-
  At the seat: functions that change a row of the caller's own, iterators, loops over them; the sort of corners.
-/
set_option linter.all false
set_option maxRecDepth 100000
namespace Go.Pg
open Go.Proofs Go.RowKit Go.Sort Go.Shelf

theorem hEN : ∀ t, EN.eq t = true → EqFact PP t := hE
theorem specR_at {f : FuncId} {fn : Func} {c : Code} (hf : PP.funcs[f]? = some fn) (hb : fn.body = some c) (hq : ((fn.name == "runtime.NumGoroutine") || !(codeN fn.ntmps c && Nat.ble fn.ntmps 4294967296)) = false)
    {pre post res : List V1} {e k n : Nat} {g g' : Nat → Nat → D} (hfl : ∀ i, i < n → ∀ j, j < k → (g' i j).flat = true) (hrf : res.all V1.flat = true) (hsz : Nat.ble (pre.length + 1 + post.length) fn.ntmps = true)
    (h : ∀ v, awp PP TTab EN c (St.of (rowSlots pre post v) [(pre.length, .row e k n g)]) (retR TTab fn.results.toList pre.length v e k n g' res)) : SpecR PP f pre post e k n g g' res := by
  simp only [Bool.or_eq_false_iff, Bool.not_eq_false', Bool.and_eq_true] at hq
  exact specR_of hT hEN hM hf hb hq.1 hq.2.1 hfl hrf (Nat.le_of_ble_eq_true hsz) (Nat.le_of_ble_eq_true hq.2.2) h
theorem specT_at {f : FuncId} {fn : Func} {c : Code} (hf : PP.funcs[f]? = some fn) (hb : fn.body = some c) (hq : ((fn.name == "runtime.NumGoroutine") || !(codeN fn.ntmps c && Nat.ble fn.ntmps 4294967296)) = false)
    {pre post : List V1} {e k n n' : Nat} {g g' : Nat → Nat → D} (hfl : ∀ i, i < n' → ∀ j, j < k → (g' i j).flat = true) (hsz : Nat.ble (pre.length + 1 + post.length) fn.ntmps = true)
    (h : ∀ v, awp PP TTab EN c (St.of (rowSlots pre post v) [(pre.length, .row e k n g)]) (retKO fn.results.toList e k n' g')) : SpecT PP f pre post e k n g n' g' := by
  simp only [Bool.or_eq_false_iff, Bool.not_eq_false', Bool.and_eq_true] at hq
  exact specT_of hT hEN hM hf hb hq.1 hq.2.1 hfl (Nat.le_of_ble_eq_true hsz) (Nat.le_of_ble_eq_true hq.2.2) h
/-- The evaluator's word for the walk of an iterator. -/
def EY {τ : Type} (xs : List τ) (enc : τ → List V1) (l : Nat) : Env := ⟨ET, false, l, fun n vs => ∃ x, xs[n]? = some x ∧ vs = enc x, true, fun _ => false⟩
theorem seqC_at {f : FuncId} {fn : Func} {c : Code} (hf : PP.funcs[f]? = some fn) (hb : fn.body = some c) (hq : ((fn.name == "runtime.NumGoroutine") || !(codeN fn.ntmps c && Nat.ble fn.ntmps 4294967296)) = false) (hres : fn.results.toList = [])
    {m : Nat} {cap : Nat → D} (hsz : Nat.ble (m + 1) fn.ntmps = true) {τ : Type} (enc : τ → List V1) {encV : τ → List Value} (henc : ∀ x (w : World) ok us, All2 (Rep1 w ok) (enc x) us → us = encV x) (xs : List τ)
    (h : ∀ l, awp PP TTab (EY xs enc l) c (St.of ((G, .gho (some 0)) :: (0, .yl l) :: argSlots 1 ((List.range m).map fun j => .d (cap j))) []) (retY xs.length)) : SeqC PP f m cap encV xs := by
  simp only [Bool.or_eq_false_iff, Bool.not_eq_false', Bool.and_eq_true] at hq
  exact seqC_of hT (eq := ET) hE hM hf hb hq.1 hq.2.1 hres (Nat.le_of_ble_eq_true hq.2.2) (Nat.le_of_ble_eq_true hsz) enc henc xs h
theorem CodeOb.rangeAt {K : KK} {s : St} {fo : Operand} {ps : Array Tmp} {asg body : Code} {g m : Nat} {cap : Nat → D} {τ : Type} {encV : τ → List Value} {xs : List τ} (hseq : SeqC PP g m cap encV xs) (hc : callee (ev s fo) = some (g, (List.range m).map fun j => AV.d (cap j)))
    (enc : τ → List V1) (henc : ∀ x (w : World) ok, All2 (Rep1 w ok) (enc x) (encV x)) (hps : ∀ x, (enc x).length = ps.size) (hnd : ps.toList.Nodup)
    (sl : List (Nat × AV)) (rc : List (Nat × Nat)) (ob : List τ → List (Nat × Ob)) (hsl : okSl sl = true) (hob : ∀ pre, okOb sl rc (ob pre) = true) (hw : Weak s sl (ob []))
    {Iv : List τ → Prop} (hI0 : Iv [])
    (hbody : ∀ (v : Nat → Value) pre x, pre ++ [x] <+: xs → Iv pre → awp PP TTab EN asg (St.of (psl ps.toList (enc x) ++ pinS v sl) (ob pre)) (Ka PP TTab EN K sl rc v ob Iv body pre x))
    (hend : Iv xs → K .normal (St.of sl (ob xs))) : CodeOb EN.dr EN.it PP (.rangeFunc fo ps asg body) s K :=
  CodeOb.range hT hEN hM hseq hc enc henc hps hnd sl rc ob hsl hob hw hI0 hbody hend
section
variable {s : St} {o : Oper} {fo : Operand} {f : FuncId} {K : St → Prop} {args : List Operand}
/-- A call of yield, at the n-th value. -/
theorem CallSt.yd {τ : Type} {xs : List τ} {enc : τ → List V1} {l : Nat} {d n : Nat} {x : τ} (sl : List (Nat × AV)) (hd : o.dst = some d) (hf : ev s fo = .yl l) (hg : s.sl G = .gho (some n)) (hG : look sl G = none) (hw : Weak s sl []) (hx : xs[n]? = some x) (hv : toV1s s (args.map (ev s)) = some (enc x))
    (hno : (args.map (ev s)).all (fun v => !v.isOwn) = true) (k1 : K ((St.of ((G, .gho (some (n + 1))) :: sl) []).put d (.d (.bool true)))) (k2 : K ((St.of ((G, .gho none) :: stillS sl) []).put d (.d (.bool false)))) : CallSt (EY xs enc l) PP s o fo args K := by
  rw [CallSt_iff]
  exact .inr (.inr (.inr ⟨⟨n, d, sl, _, hd, hf, hg, hG, hw, hv, hno, ⟨x, hx, rfl⟩, k1, k2⟩⟩))
/-- A call that changes an own row in place. -/
theorem CallSt.rw' {args : Array Operand} {at' : Array TypeId} (hop : o.op = .call { callee := .value fo, args, argTypes := at' }) {pre post res : List V1} {i e k n : Nat} {g g' : Nat → Nat → D} (h : SpecR PP f pre post e k n g g' res)
    (ha : RowArgs s fo args.toList f pre i post) (hi : s.ob i = some (.row e k n g)) (hk : K ((s.setOb i (some (.row e k n g'))).putO o.dst (resAV res))) : CallSt EN PP s o fo args.toList K := CallSt.row rfl hop h ha hi hk
theorem CallSt.tk {args : Array Operand} {at' : Array TypeId} (hop : o.op = .call { callee := .value fo, args, argTypes := at' }) {pre post : List V1} {i e k n n' : Nat} {g g' : Nat → Nat → D} (h : SpecT PP f pre post e k n g n' g')
    (ha : RowArgs s fo args.toList f pre i post) (hi : s.ob i = some (.row e k n g)) (hk : K (remk s i (.row e k n' g') o.dst)) : CallSt EN PP s o fo args.toList K := CallSt.take rfl hop h ha hi hk
end

/-! ### Small words -/
section
variable {s : St} {ob : Nat → Option Ob} {v : AV}
theorem avQ {x : AV} (h : v = x) : AVle s ob v x := by subst h; exact AVle_refl s ob v
theorem avG {m m' : Nat} (h : v = .gho (some m)) (e : m = m') : AVle s ob v (.gho (some m')) := by subst h; subst e; exact AVle_refl s ob _
theorem avRo {m m' : Nat} {h h' : Nat → D} (e : v = .roe m h) (q : D.eqv (.ptr m h) (.ptr m' h')) : AVle s ob v (.roe m' h') := by subst e; exact q
theorem avBx {i m : Nat} {h : Nat → D} {cs : List AV} {xs : List D} (e : v = .box i 0) (h1 : s.ob i = some (.box cs)) (h2 : allD cs = some xs) (h3 : ob i = none) (q : D.eqv (.ptr (xs.length - 0) fun j => getD' xs (0 + j)) (.ptr m h)) : AVle s ob v (.roe m h) := by
  subst e; exact ⟨h3, cs, xs, h1, h2, q⟩
theorem avOw {i e k n : Nat} {f : Nat → Nat → D} {y : D} (h0 : v = .own i) (h1 : s.ob i = some (.row e k n f)) (h2 : ob i = none) (q : D.eqv (.slc k n f) y) : AVle s ob v (.d y) := by subst h0; exact ⟨h2, e, k, n, f, h1, q⟩
end
theorem eqv4 {m : Nat} {x0 x1 x2 x3 : D} {h : Nat → D} (hm : m = 4) (h0 : D.eqv x0 (h 0)) (h1 : D.eqv x1 (h 1)) (h2 : D.eqv x2 (h 2)) (h3 : D.eqv x3 (h 3)) : D.eqv (.ptr ([x0, x1, x2, x3].length - 0) fun j => getD' [x0, x1, x2, x3] (0 + j)) (.ptr m h) := by
  subst hm
  refine ⟨rfl, fun j hj => ?_⟩
  match j, hj with
  | 0, _ => exact h0
  | 1, _ => exact h1
  | 2, _ => exact h2
  | 3, _ => exact h3
/-! ### The order of corners -/
theorem ord_spec (a b : Int) : (ord a b = -1 ∧ a < b) ∨ (ord a b = 1 ∧ b < a) ∨ (ord a b = 0 ∧ a = b) := by
  unfold ord
  by_cases h1 : a < b
  · exact .inl ⟨if_pos h1, h1⟩
  · by_cases h2 : b < a
    · exact .inr (.inl ⟨by rw [if_neg h1, if_pos h2], h2⟩)
    · exact .inr (.inr ⟨by rw [if_neg h1, if_neg h2], by omega⟩)
/-- Corner p lies ahead of q. -/
def ltC (p q : Corner) : Prop := p.X * q.Den < q.X * p.Den ∨ (p.X * q.Den = q.X * p.Den ∧ p.Y * q.Den < q.Y * p.Den)
instance (p q : Corner) : Decidable (ltC p q) := by unfold ltC; infer_instance
theorem cmpC_lt {p q : Corner} (hp : valid p = true) (hq : valid q = true) : cmpC p q < 0 ↔ ltC p q := by
  unfold cmpC ltC
  rw [if_pos ⟨hp, hq⟩]
  simp only [orL]
  rcases ord_spec (p.X * q.Den) (q.X * p.Den) with ⟨e, h⟩ | ⟨e, h⟩ | ⟨e, h⟩ <;> rcases ord_spec (p.Y * q.Den) (q.Y * p.Den) with ⟨e', h'⟩ | ⟨e', h'⟩ | ⟨e', h'⟩ <;> rw [e, e'] <;> simp <;> omega
/-- A fraction's order goes on. -/
theorem frac_trans {a b c x y z : Int} (hy : 0 < y) (hx : 0 < x) (hz : 0 < z) (h1 : a * y ≤ b * x) (h2 : b * z ≤ c * y) : a * z ≤ c * x := by
  have e1 : a * y * z ≤ b * x * z := Int.mul_le_mul_of_nonneg_right h1 (by omega)
  have e2 : b * z * x ≤ c * y * x := Int.mul_le_mul_of_nonneg_right h2 (by omega)
  have e3 : (a * z) * y ≤ (c * x) * y := by
    have q1 : a * y * z = a * z * y := by rw [Int.mul_assoc, Int.mul_comm y z, ← Int.mul_assoc]
    have q2 : b * x * z = b * z * x := by rw [Int.mul_assoc, Int.mul_comm x z, ← Int.mul_assoc]
    have q3 : c * y * x = c * x * y := by rw [Int.mul_assoc, Int.mul_comm y x, ← Int.mul_assoc]
    omega
  exact Int.le_of_mul_le_mul_right e3 hy
theorem frac_eq {a b c x y z : Int} (hy : 0 < y) (hx : 0 < x) (hz : 0 < z) (h1 : a * y = b * x) (h2 : b * z = c * y) : a * z = c * x :=
  Int.le_antisymm (frac_trans hy hx hz (Int.le_of_eq h1) (Int.le_of_eq h2)) (frac_trans hy hz hx (Int.le_of_eq h2.symm) (Int.le_of_eq h1.symm))
/-- p is at most q. -/
def leC (p q : Corner) : Prop := p.X * q.Den < q.X * p.Den ∨ (p.X * q.Den = q.X * p.Den ∧ p.Y * q.Den ≤ q.Y * p.Den)
theorem not_ltC {p q : Corner} : ¬ ltC p q ↔ leC q p := by unfold ltC leC; omega
theorem leC_trans {p q r : Corner} (hp : 0 < p.Den) (hq : 0 < q.Den) (hr : 0 < r.Den) (h1 : leC p q) (h2 : leC q r) : leC p r := by
  have hx := frac_trans (a := p.X) (b := q.X) (c := r.X) hq hp hr (by unfold leC at h1; omega) (by unfold leC at h2; omega)
  unfold leC at *
  by_cases hlt : p.X * r.Den < r.X * p.Den
  · exact .inl hlt
  · have hE : p.X * r.Den = r.X * p.Den := by omega
    -- both are equalities
    have e1 : p.X * q.Den = q.X * p.Den := by
      have := frac_trans (a := q.X) (b := r.X) (c := p.X) hr hq hp (by omega) (by omega)
      omega
    have e2 : q.X * r.Den = r.X * q.Den := by
      have := frac_trans (a := r.X) (b := p.X) (c := q.X) hp hr hq (by omega) (by omega)
      omega
    have y1 : p.Y * q.Den ≤ q.Y * p.Den := by omega
    have y2 : q.Y * r.Den ≤ r.Y * q.Den := by omega
    exact .inr ⟨hE, frac_trans hq hp hr y1 y2⟩
theorem leC_total (p q : Corner) : leC p q ∨ leC q p := by unfold leC; omega
theorem valid_gcd {p : Corner} (h : valid p = true) : Nat.gcd (Nat.gcd p.X.natAbs p.Y.natAbs) p.Den.natAbs = 1 := by
  unfold valid at h
  simp only [Bool.and_eq_true, beq_iff_eq] at h
  have := h.2
  simp only [gcdL, List.foldl_cons, List.foldl_nil, Nat.gcd_zero_left] at this
  exact_mod_cast this
/-- Corners that are neither ahead of each other are one. -/
theorem leC_antisymm {p q : Corner} (hp : valid p = true) (hq : valid q = true) (h1 : leC p q) (h2 : leC q p) : p = q := by
  have dp := (okC_of hp).d
  have dq := (okC_of hq).d
  have ex : p.X * q.Den = q.X * p.Den := by unfold leC at *; omega
  have ey : p.Y * q.Den = q.Y * p.Den := by unfold leC at *; omega
  have nx : p.X.natAbs * q.Den.natAbs = q.X.natAbs * p.Den.natAbs := by rw [← Int.natAbs_mul, ← Int.natAbs_mul, ex]
  have ny : p.Y.natAbs * q.Den.natAbs = q.Y.natAbs * p.Den.natAbs := by rw [← Int.natAbs_mul, ← Int.natAbs_mul, ey]
  have g1 : Nat.gcd (Nat.gcd (p.X.natAbs * q.Den.natAbs) (p.Y.natAbs * q.Den.natAbs)) (p.Den.natAbs * q.Den.natAbs) = q.Den.natAbs := by
    rw [Nat.gcd_mul_right, Nat.gcd_mul_right, valid_gcd hp, Nat.one_mul]
  have g2 : Nat.gcd (Nat.gcd (q.X.natAbs * p.Den.natAbs) (q.Y.natAbs * p.Den.natAbs)) (q.Den.natAbs * p.Den.natAbs) = p.Den.natAbs := by
    rw [Nat.gcd_mul_right, Nat.gcd_mul_right, valid_gcd hq, Nat.one_mul]
  rw [nx, ny, Nat.mul_comm p.Den.natAbs, g2] at g1
  have ed : p.Den = q.Den := by omega
  have hx : p.X = q.X := by
    rw [ed] at ex
    exact Int.eq_of_mul_eq_mul_right (by omega) ex
  have hy : p.Y = q.Y := by
    rw [ed] at ey
    exact Int.eq_of_mul_eq_mul_right (by omega) ey
  cases p; cases q; simp_all
/-- A corner within the limits, in lowest terms. -/
abbrev VC := { p : Corner // valid p = true }
instance : Inhabited VC := ⟨⟨⟨0, 0, 1⟩, by unfold valid within; decide⟩⟩
def VI : Ints VC 3 where
  lst p := [p.1.X, p.1.Y, p.1.Den]
  len _ := rfl
  at_ p := p.1.at
  hat p j hj := by
    match j, hj with
    | 0, _ => rfl
    | 1, _ => rfl
    | 2, _ => rfl
def cmpV (p q : VC) : Int := cmpC p.1 q.1
theorem cmpV_lt (p q : VC) : ltOf cmpV p q = decide (ltC p.1 q.1) := by
  unfold ltOf cmpV
  exact decide_eq_decide.2 (cmpC_lt p.2 q.2)
theorem VC.den (p : VC) : 0 < p.1.Den := by have := (okC_of p.2).d; omega
theorem swoV : SWO (ltOf cmpV) where
  irrefl x := by rw [cmpV_lt]; simp [ltC]
  trans x y z h1 h2 := by
    rw [cmpV_lt] at *
    simp only [decide_eq_true_eq] at *
    refine Classical.not_not.1 fun hn => ?_
    rw [not_ltC] at hn
    -- z ≤ x < y: then z ≤ y fails with y < z
    have h3 : leC x.1 y.1 := by unfold ltC at h1; unfold leC; omega
    exact (not_ltC.2 (leC_trans z.den x.den y.den hn h3)) h2
  ntrans x y z h1 h2 := by
    rw [cmpV_lt] at *
    simp only [decide_eq_false_iff_not] at *
    rw [not_ltC] at *
    exact leC_trans z.den y.den x.den h2 h1
theorem totV (x y : VC) (h1 : ltOf cmpV x y = false) (h2 : ltOf cmpV y x = false) : x = y := by
  rw [cmpV_lt] at *
  simp only [decide_eq_false_iff_not] at *
  rw [not_ltC] at *
  exact Subtype.ext (leC_antisymm x.2 y.2 h2 h1)
theorem aggC : ∀ w, (isAgg (Try.sortC_ren.t 24)).run PP w = .ok true w := fun _ => by kernel_rfl
theorem sizC : ∀ w, (Go.sizeOf (Try.sortC_ren.t 24)).run PP w = .ok 3 w := fun _ => by kernel_rfl
theorem r_sortV (l : List VC) (hn : l.length ≤ 1000000) : SpecR PP 35 [] [.d (.fn 36)] 48 3 l.length (VI.row l) (VI.row (l.mergeSort fun x y => !(ltOf cmpV) y x)) [] :=
  specR_sort VI Try.sortC ⟨_, Try.func35, by kernel_rfl, by kernel_rfl⟩ aggC sizC cmpV swoV totV 36 (fun x y => d_Compare x.1 y.1) 48 l hn
end Go.Pg
/-
  Contracts: layer 3's values of forms; Back.
-/
set_option linter.all false
set_option maxRecDepth 100000
namespace Go.Pg
open Go.Proofs Go.RowKit

/-- A form. -/
abbrev Form := Place
structure okF (f : Form) : Prop where
  x : -1000 ≤ f.X ∧ f.X ≤ 1000
  y : -1000 ≤ f.Y ∧ f.Y ≤ 1000
theorem okF_of {f : Form} (h : slope f.X f.Y = true) : okF f := by
  unfold slope at h
  simp only [Bool.and_eq_true, within_spec] at h
  exact ⟨h.1, h.2⟩
@[irreducible] def value (f : Form) (p : Corner) : Frac := let n := f.X * p.X + f.Y * p.Y; let g : Int := gcdL [n, p.Den]; ⟨n.tdiv g, p.Den.tdiv g⟩
theorem s_value (f : Form) (p : Corner) (hf : okF f) (hp : okC p) : Spec PP 23 [f.v, p.v] [(value f p).v] := by
  have h1 := mulB hf.x hp.x
  have h2 := mulB hf.y hp.y
  have hd := hp.d
  have hg : 0 < gcdL [f.X * p.X + f.Y * p.Y, p.Den] := by
    simp only [gcdL, List.foldl_cons, List.foldl_nil]
    exact Nat.gcd_pos_of_pos_right _ (by omega)
  have b1 := fun g => tdiv_bd (g := g) (a := f.X * p.X + f.Y * p.Y) (b := 2147483648000) (by omega)
  have b2 := fun g => tdiv_bd (g := g) (a := p.Den) (b := 1073741824) (by omega)
  refine spec_at Try.func23 rfl (by kernel_rfl) rfl ?_
  refine ⟨inI64 (by omega) (by omega), ⟨inI64 (by omega) (by omega), ⟨inI64 (by omega) (by omega), ?_⟩⟩⟩
  refine CallSt.pureE (s_gcd [f.X * p.X + f.Y * p.Y, p.Den] ?_ ?_) rfl (eqv_slI2 rfl rfl) rfl ?_
  · intro n hn
    simp only [List.mem_cons, List.not_mem_nil, or_false] at hn
    rcases hn with rfl | rfl <;> omega
  · exact Nat.le_of_ble_eq_true rfl
  refine Exists.intro (List.range 9) (And.intro (by kernel_rfl) (FzOb.no ?_))
  refine ⟨⟨by omega, inI64 (by have := b1 (gcdL [f.X * p.X + f.Y * p.Y, p.Den]); omega) (by have := b1 (gcdL [f.X * p.X + f.Y * p.Y, p.Den]); omega)⟩, ⟨⟨by omega, inI30 (b2 _)⟩, ?_⟩⟩
  refine r1C rfl rfl rfl rfl rfl rfl (eqvs2 ?_ ?_) <;> (unfold value; rfl)
@[irreducible] def valueE (f : Form) (p : Corner) : Frac × Int := if slope f.X f.Y = true ∧ valid p = true then (value f p, 0) else (⟨0, 0⟩, 1)
@[irreducible] def back (h : Half) : Half × Int := if fit h = true then (⟨-h.A, -h.B, -h.C⟩, 0) else (⟨0, 0, 0⟩, 1)
end Go.Pg
/-
  Contracts: the half-planes of a system with the sides of the map; Allows.
-/
set_option linter.all false
set_option maxRecDepth 100000
namespace Go.Pg
open Go.Proofs Go.RowKit

theorem s_sides : Spec PP 39 [] [.agg [I (-1), I 0, I 0, I 1, I 0, I 48, I 0, I (-1), I 0, I 0, I 1, I 48]] := by
  refine spec_at Try.func39 rfl (by kernel_rfl) rfl ?_
  refine r1C rfl rfl rfl rfl rfl rfl ?_
  exact eqvs_refl _
def sidesL : List Half := [⟨-1, 0, 0⟩, ⟨1, 0, 48⟩, ⟨0, -1, 0⟩, ⟨0, 1, 48⟩]
def outsideL : List Num → Corner → Int
  | [], _ => -5
  | x :: r, p => if lies x.h p = true then outsideL r p else x.n
theorem s_outside (l : List Num) (p : Corner) (hl : ∀ x ∈ l, okH x.h) (hp : okC p) (hn : l.length ≤ 1000000) : Spec PP 18 [slN l, p.v] [N (outsideL l p)] := by
  refine spec_at Try.func18 rfl (by kernel_rfl) rfl ?_
  refine LoopOb.of (σ := Nat) (fun i => ([(3, .box 3 0), (7, avOf (slN l)), (8, .d (I l.length)), (9, .d (I i))], [(3, .box [.d (I p.X), .d (I p.Y), .d (I p.Den)])])) (fun i => i ≤ l.length ∧ outsideL (l.drop i) p = outsideL l p) (fun i => l.length - i) 0 ⟨rfl, ⟨obD [I p.X, I p.Y, I p.Den] rfl, trivial⟩, ⟨rfl, rfl⟩, avR _ rfl, avR _ rfl, avR _ rfl, trivial⟩ ⟨Nat.zero_le _, rfl⟩ fun i hi => ?_
  obtain ⟨hi, ho⟩ := hi
  refine Split.by (fun h1 => ?_) (fun h1 => ?_)
  · have h1 : i < l.length := by simpa using h1
    have hd : l.drop i = l.getD i default :: l.drop (i + 1) := by
      rw [List.drop_eq_getElem_cons h1, List.getD_eq_getElem?_getD, List.getElem?_eq_getElem h1]; rfl
    rw [hd] at ho
    refine ⟨⟨rfl, by omega, by omega⟩, ?_⟩
    refine CallSt.pure (s_lies (l.getD i default).h p (hl _ (gd1 h1 default)) hp) rfl rfl ?_
    refine Split.by (fun h2 => ?_) (fun h2 => ?_)
    · have h2 : lies (l.getD i default).h p = false := by simpa using h2
      refine r1I rfl ?_
      rw [← ho]; simp only [outsideL, h2]; rfl
    · have h2 : lies (l.getD i default).h p = true := by simpa using h2
      refine ⟨inI64 (by omega) (by omega), ?_⟩
      refine ⟨i + 1, ⟨rfl, ⟨obD [I p.X, I p.Y, I p.Den] rfl, trivial⟩, ⟨rfl, rfl⟩, avR _ rfl, avR _ rfl, avR _ rfl, trivial⟩, ⟨h1, ?_⟩, ?_⟩
      · rw [← ho]; simp only [outsideL, h2, if_true]
      · show l.length - (i + 1) < l.length - i
        omega
  · have h1 : i = l.length := by
      have : ¬ i < l.length := by simpa using h1
      omega
    refine r1I rfl ?_
    rw [← ho, h1, List.drop_length]; rfl
end Go.Pg
/-
  Contracts: all half-planes of a system, with the sides of the map.
-/
set_option linter.all false
set_option maxRecDepth 100000
namespace Go.Pg
open Go.Proofs Go.RowKit

def allAt (l : List Half) (i : Nat) : Num := if i < l.length then ⟨i, l.getD i default⟩ else ⟨-1 - ((i : Int) - l.length), sidesL.getD (i - l.length) default⟩
def allL (l : List Half) : List Num := (List.range (l.length + 4)).map (allAt l)
theorem allAt_side (l : List Half) (i : Nat) : allAt l (l.length + i) = ⟨-1 - (i : Int), sidesL.getD i default⟩ := by
  unfold allAt
  rw [if_neg (by omega), Nat.add_sub_cancel_left]
  congr 1
  omega
theorem allL_len (l : List Half) : (allL l).length = l.length + 4 := by simp [allL]
theorem allL_at (l : List Half) {i : Nat} (h : i < l.length + 4) : (allL l).getD i default = allAt l i := by
  unfold allL
  rw [List.getD_eq_getElem?_getD, List.getElem?_map, List.getElem?_range h]
  rfl
/-- An own row to which one element has been added. -/
theorem app1 {k n : Nat} {f f' g : Nat → Nat → D} (hf : ∀ i, i < n → ∀ j, j < k → D.eqv (f i j) (f' i j)) (hg : ∀ j, j < k → D.eqv (g 0 j) (f' n j)) : D.eqv (.slc k (n + 1) (appRow n f g)) (.slc k (n + 1) f') := by
  refine ⟨rfl, .inr ⟨rfl, fun i hi j hj => ?_⟩⟩
  unfold appRow
  by_cases h : i < n
  · rw [if_pos h]; exact hf i h j hj
  · obtain rfl : i = n := by omega
    rw [if_neg h, Nat.sub_self]; exact hg j hj
theorem s_all (l : List Half) (hn : l.length ≤ 1000000) : Spec PP 17 [slH l] [slN (allL l)] := by
  refine spec_at Try.func17 rfl (by kernel_rfl) rfl ?_
  refine LoopOb.of (σ := Nat) (fun i => ([(3, .own 3), (8, avOf (slH l)), (9, .d (I l.length)), (10, .d (I i))], [(3, .row 75 4 i fun m => (allAt l m).at)])) (fun i => i ≤ l.length) (fun i => l.length - i) 0 ⟨rfl, ⟨obR rfl ⟨rfl, .inl rfl⟩, trivial⟩, rfl, avR _ rfl, avR _ rfl, avR _ rfl, trivial⟩ (Nat.zero_le _) fun i hi => ?_
  refine Split.by (fun h1 => ?_) (fun h1 => ?_)
  · have h1 : i < l.length := by simpa using h1
    refine ⟨⟨rfl, by omega, by omega⟩, ?_⟩
    refine ⟨⟨.inr rfl, by unfold maxLen; omega, by show (i + 1) * 32 ≤ 140737488355328; omega⟩, ?_⟩
    refine ⟨inI64 (by omega) (by omega), ?_⟩
    have e : allAt l i = ⟨i, l.getD i default⟩ := if_pos h1
    refine ⟨i + 1, ⟨rfl, ⟨obR rfl (app1 (fun _ _ _ _ => D.eqv_refl _) fun j hj => ?_), trivial⟩, rfl, avR _ rfl, avR _ rfl, avR _ rfl, trivial⟩, h1, ?_⟩
    · rw [e]
      match j, hj with
      | 0, _ => exact ⟨rfl, rfl⟩
      | 1, _ => exact ⟨rfl, rfl⟩
      | 2, _ => exact ⟨rfl, rfl⟩
      | 3, _ => exact ⟨rfl, rfl⟩
    · show l.length - (i + 1) < l.length - i
      omega
  · have h1 : i = l.length := by
      have : ¬ i < l.length := by simpa using h1
      omega
    subst h1
    refine CallSt.pure s_sides rfl rfl ?_
    refine LoopOb.of (σ := Nat) (fun i => ([(3, .own 3), (22, .agg [I (-1), I 0, I 0, I 1, I 0, I 48, I 0, I (-1), I 0, I 0, I 1, I 48]), (23, .d (I i))], [(3, .row 75 4 (l.length + i) fun m => (allAt l m).at)])) (fun i => i ≤ 4) (fun i => 4 - i) 0 ⟨rfl, ⟨obR rfl (D.eqv_refl _), trivial⟩, rfl, avA rfl (eqvs_refl _), avR _ rfl, trivial⟩ (Nat.zero_le _) fun i hi => ?_
    refine Split.by (fun h1 => ?_) (fun h1 => ?_)
    · have h1 : i < 4 := by have := dT h1; omega
      obtain rfl | rfl | rfl | rfl : i = 0 ∨ i = 1 ∨ i = 2 ∨ i = 3 := by omega
      · refine ⟨⟨by decide, by decide⟩, ?_⟩
        refine ⟨inI64 (by decide) (by decide), ?_⟩
        refine ⟨⟨.inr rfl, by unfold maxLen; omega, by show (l.length + 0 + 1) * 32 ≤ 140737488355328; omega⟩, ?_⟩
        refine ⟨inI64 (by decide) (by decide), ?_⟩
        have e : allAt l l.length = _ := allAt_side l 0
        refine ⟨0 + 1, ⟨rfl, ⟨obR rfl (app1 (fun _ _ _ _ => D.eqv_refl _) fun j hj => ?_), trivial⟩, rfl, avA rfl (eqvs_refl _), avI rfl rfl, trivial⟩, by decide, by decide⟩
        rw [e]
        match j, hj with
        | 0, _ => exact ⟨rfl, rfl⟩
        | 1, _ => exact ⟨rfl, rfl⟩
        | 2, _ => exact ⟨rfl, rfl⟩
        | 3, _ => exact ⟨rfl, rfl⟩
      · refine ⟨⟨by decide, by decide⟩, ?_⟩
        refine ⟨inI64 (by decide) (by decide), ?_⟩
        refine ⟨⟨.inr rfl, by unfold maxLen; omega, by show (l.length + 1 + 1) * 32 ≤ 140737488355328; omega⟩, ?_⟩
        refine ⟨inI64 (by decide) (by decide), ?_⟩
        have e := allAt_side l 1
        refine ⟨1 + 1, ⟨rfl, ⟨obR rfl (app1 (fun _ _ _ _ => D.eqv_refl _) fun j hj => ?_), trivial⟩, rfl, avA rfl (eqvs_refl _), avI rfl rfl, trivial⟩, by decide, by decide⟩
        rw [e]
        match j, hj with
        | 0, _ => exact ⟨rfl, rfl⟩
        | 1, _ => exact ⟨rfl, rfl⟩
        | 2, _ => exact ⟨rfl, rfl⟩
        | 3, _ => exact ⟨rfl, rfl⟩
      · refine ⟨⟨by decide, by decide⟩, ?_⟩
        refine ⟨inI64 (by decide) (by decide), ?_⟩
        refine ⟨⟨.inr rfl, by unfold maxLen; omega, by show (l.length + 2 + 1) * 32 ≤ 140737488355328; omega⟩, ?_⟩
        refine ⟨inI64 (by decide) (by decide), ?_⟩
        have e := allAt_side l 2
        refine ⟨2 + 1, ⟨rfl, ⟨obR rfl (app1 (fun _ _ _ _ => D.eqv_refl _) fun j hj => ?_), trivial⟩, rfl, avA rfl (eqvs_refl _), avI rfl rfl, trivial⟩, by decide, by decide⟩
        rw [e]
        match j, hj with
        | 0, _ => exact ⟨rfl, rfl⟩
        | 1, _ => exact ⟨rfl, rfl⟩
        | 2, _ => exact ⟨rfl, rfl⟩
        | 3, _ => exact ⟨rfl, rfl⟩
      · refine ⟨⟨by decide, by decide⟩, ?_⟩
        refine ⟨inI64 (by decide) (by decide), ?_⟩
        refine ⟨⟨.inr rfl, by unfold maxLen; omega, by show (l.length + 3 + 1) * 32 ≤ 140737488355328; omega⟩, ?_⟩
        refine ⟨inI64 (by decide) (by decide), ?_⟩
        have e := allAt_side l 3
        refine ⟨3 + 1, ⟨rfl, ⟨obR rfl (app1 (fun _ _ _ _ => D.eqv_refl _) fun j hj => ?_), trivial⟩, rfl, avA rfl (eqvs_refl _), avI rfl rfl, trivial⟩, by decide, by decide⟩
        rw [e]
        match j, hj with
        | 0, _ => exact ⟨rfl, rfl⟩
        | 1, _ => exact ⟨rfl, rfl⟩
        | 2, _ => exact ⟨rfl, rfl⟩
        | 3, _ => exact ⟨rfl, rfl⟩
    · have h1 : i = 4 := by have := dF h1; omega
      subst h1
      refine ⟨?_, trivial⟩
      refine ⟨_, _, _, _, rfl, ?_⟩
      refine ⟨(allL_len l).symm, .inr ⟨rfl, fun i hi j hj => ?_⟩⟩
      show D.eqv ((allAt l i).at j) (((allL l).getD i default).at j)
      rw [allL_at l hi]
      exact D.eqv_refl _
end Go.Pg
/-
  Contracts: the pairs of half-planes whose edges cross, in order (an iterator).
-/
set_option linter.all false
set_option maxRecDepth 100000
namespace Go.Pg
open Go.Proofs Go.RowKit

abbrev Num.v (x : Num) : V1 := .agg [I x.n, I x.h.A, I x.h.B, I x.h.C]
def Num.val (x : Num) : Value := .agg #[.int .i64 x.n, .int .i64 x.h.A, .int .i64 x.h.B, .int .i64 x.h.C]
def rowP (l : List Num) (i k : Nat) : List (Num × Num) := (List.range k).filterMap fun k => if det (l.getD k default).h (l.getD i default).h = 0 then none else some (l.getD k default, l.getD i default)
def upP (l : List Num) (i : Nat) : List (Num × Num) := (List.range i).flatMap fun i => rowP l i i
def pairsL (l : List Num) : List (Num × Num) := upP l l.length
theorem rowP_succ (l : List Num) (i k : Nat) : rowP l i (k + 1) = rowP l i k ++ (if det (l.getD k default).h (l.getD i default).h = 0 then [] else [(l.getD k default, l.getD i default)]) := by
  unfold rowP
  rw [List.range_succ, List.filterMap_append]
  congr 1
  by_cases h : det (l.getD k default).h (l.getD i default).h = 0
  · rw [if_pos h, List.filterMap_cons_none (by rw [if_pos h])]; rfl
  · rw [if_neg h, List.filterMap_cons_some (by rw [if_neg h])]; rfl
theorem upP_succ (l : List Num) (i : Nat) : upP l (i + 1) = upP l i ++ rowP l i i := by
  unfold upP
  rw [List.range_succ, List.flatMap_append]
  simp
theorem rowP_pre (l : List Num) (i : Nat) : ∀ {k m : Nat}, k ≤ m → rowP l i k <+: rowP l i m := fun {k m} h => by
  obtain ⟨d, rfl⟩ := Nat.exists_eq_add_of_le h
  induction d with
  | zero => exact List.prefix_rfl
  | succ d ih => exact (ih (by omega)).trans (by rw [← Nat.add_assoc, rowP_succ]; exact List.prefix_append _ _)
theorem upP_pre (l : List Num) : ∀ {k m : Nat}, k ≤ m → upP l k <+: upP l m := fun {k m} h => by
  obtain ⟨d, rfl⟩ := Nat.exists_eq_add_of_le h
  induction d with
  | zero => exact List.prefix_rfl
  | succ d ih => exact (ih (by omega)).trans (by rw [← Nat.add_assoc, upP_succ]; exact List.prefix_append _ _)
theorem pairs_get (l : List Num) {i k : Nat} (hi : i < l.length) (hk : k < i) (hd : det (l.getD k default).h (l.getD i default).h ≠ 0) : (pairsL l)[(upP l i).length + (rowP l i k).length]? = some (l.getD k default, l.getD i default) := by
  have h1 : rowP l i (k + 1) <+: rowP l i i := rowP_pre l i hk
  have h2 : upP l (i + 1) <+: pairsL l := upP_pre l hi
  rw [rowP_succ, if_neg hd] at h1
  rw [upP_succ] at h2
  obtain ⟨r1, h1⟩ := h1
  obtain ⟨r2, h2⟩ := h2
  rw [← h2, ← h1]
  simp
def Num.sl (l : List Num) : D := .slc 4 l.length fun i => (l.getD i default).at
def pairsEnc (x : Num × Num) : List V1 := [x.1.v, x.2.v]
def pairsVal (x : Num × Num) : List Value := [x.1.val, x.2.val]
theorem num_val {x : Num} {w : World} {ok : Nat → Prop} {u : Value} (h : Rep1 w ok x.v u) : u = x.val := by
  obtain ⟨vs, rfl, h⟩ := h
  cases h with
  | cons h1 h => cases h with
    | cons h2 h => cases h with
      | cons h3 h => cases h with
        | cons h4 h =>
          cases h
          rw [show _ = _ from h1, show _ = _ from h2, show _ = _ from h3, show _ = _ from h4]
          rfl
theorem val_num (x : Num) (w : World) (ok : Nat → Prop) : Rep1 w ok x.v x.val := ⟨_, rfl, .cons rfl (.cons rfl (.cons rfl (.cons rfl .nil)))⟩
theorem s_pairs1 (l : List Num) (hl : ∀ x ∈ l, okH x.h) (hn : l.length ≤ 1000000) : SeqC PP 46 1 (fun _ => .ptr 1 fun _ => Num.sl l) pairsVal (pairsL l) := by
  refine seqC_at Try.func46 rfl (by kernel_rfl) rfl rfl pairsEnc (fun x w ok us h => ?_) _ fun y => ?_
  · cases h with
    | cons h1 h => cases h with
      | cons h2 h => cases h; rw [num_val h1, num_val h2]; rfl
  refine LoopOb.of (σ := Nat) (fun i => ([(G, .gho (some (upP l i).length)), (0, .yl y), (1, .roe 1 fun _ => Num.sl l), (7, avOf (slN l)), (8, .d (I l.length)), (9, .d (I i))], [])) (fun i => i ≤ l.length) (fun i => l.length - i) 0 ⟨rfl, trivial, avQ rfl, avQ rfl, avQ rfl, avQ rfl, avQ rfl, avQ rfl, trivial⟩ (Nat.zero_le _) fun i hi => ?_
  refine Split.by (fun h1 => ?_) (fun h1 => ?_)
  · have h1 : i < l.length := by simpa using h1
    refine ⟨⟨rfl, by omega, by omega⟩, ?_⟩
    refine ⟨⟨.inr rfl, by omega, by omega⟩, ?_⟩
    refine LoopOb.of (σ := Nat) (fun k => ([(G, .gho (some ((upP l i).length + (rowP l i k).length))), (0, .yl y), (1, .roe 1 fun _ => Num.sl l), (4, .roe 4 (l.getD i default).at), (7, avOf (slN l)), (8, .d (I l.length)), (9, .d (I i)), (16, .d (.slc 4 i fun i => (l.getD i default).at)), (17, .d (I i)), (18, .d (I k))], [])) (fun k => k ≤ i) (fun k => i - k) 0 ⟨rfl, trivial, avQ rfl, avQ rfl, avQ rfl, avBx rfl rfl rfl rfl (eqv4 rfl (D.eqv_refl _) (D.eqv_refl _) (D.eqv_refl _) (D.eqv_refl _)), avQ rfl, avQ rfl, avQ rfl, avE rfl ⟨by omega, .inr ⟨rfl, fun _ _ _ _ => D.eqv_refl _⟩⟩, avI rfl (by omega), avQ rfl, trivial⟩ (Nat.zero_le _) fun k hk => ?_
    refine Split.by (fun h2 => ?_) (fun h2 => ?_)
    · have h2 : k < i := by simpa using h2
      have hok1 := hl _ (gd1 (show k < l.length by omega) default)
      have hok2 := hl _ (gd1 h1 default)
      refine ⟨⟨rfl, by omega, by omega⟩, ?_⟩
      refine CallSt.pure (s_det (l.getD k default).h (l.getD i default).h hok1 hok2) rfl rfl ?_
      refine Split.by (fun h3 => ?_) (fun h3 => ?_)
      · have h3 : det (l.getD k default).h (l.getD i default).h ≠ 0 := by simpa using h3
        refine CallSt.yd (d := 32) [(0, .yl y), (1, .roe 1 fun _ => Num.sl l), (4, .roe 4 (l.getD i default).at), (7, avOf (slN l)), (8, .d (I l.length)), (9, .d (I i)), (16, .d (.slc 4 i fun i => (l.getD i default).at)), (17, .d (I i)), (18, .d (I k)), (28, .d (.bool true))] rfl rfl rfl rfl ⟨rfl, trivial, avQ rfl, avQ rfl, avQ rfl, avQ rfl, avQ rfl, avQ rfl, avQ rfl, avQ rfl, avQ rfl, avQ rfl, trivial⟩ (pairs_get l h1 h2 h3) rfl rfl ?_ ?_
        · refine Split.tt ?_
          refine Split.ff ?_
          refine ⟨inI64 (by omega) (by omega), ?_⟩
          refine ⟨k + 1, ⟨rfl, trivial, avG rfl ?_, avQ rfl, avQ rfl, avQ rfl, avQ rfl, avQ rfl, avQ rfl, avQ rfl, avQ rfl, avQ rfl, trivial⟩, h2, ?_⟩
          · rw [rowP_succ, if_neg h3]; simp; omega
          · show i - (k + 1) < i - k
            omega
        · refine Split.tt ?_
          refine Split.tt ?_
          exact .inr rfl
      · have h3 : det (l.getD k default).h (l.getD i default).h = 0 := by simpa using h3
        refine Split.ff ?_
        refine Split.ff ?_
        refine ⟨inI64 (by omega) (by omega), ?_⟩
        refine ⟨k + 1, ⟨rfl, trivial, avG rfl ?_, avQ rfl, avQ rfl, avQ rfl, avQ rfl, avQ rfl, avQ rfl, avQ rfl, avQ rfl, avQ rfl, trivial⟩, h2, ?_⟩
        · rw [rowP_succ, if_pos h3]; simp
        · show i - (k + 1) < i - k
          omega
    · have h2 : k = i := by
        have : ¬ k < i := by simpa using h2
        omega
      subst h2
      refine ⟨inI64 (by omega) (by omega), ?_⟩
      refine ⟨k + 1, ⟨rfl, trivial, avG rfl ?_, avQ rfl, avQ rfl, avQ rfl, avQ rfl, avQ rfl, trivial⟩, h1, ?_⟩
      · rw [upP_succ]; simp
      · show l.length - (k + 1) < l.length - k
        omega
  · have h1 : i = l.length := by
      have : ¬ i < l.length := by simpa using h1
      omega
    subst h1
    exact .inl rfl
/-- pairs returns the iterator, bound to its list. -/
abbrev pairsClo (l : List Num) : D := .clo 46 1 fun _ => .ptr 1 fun _ => Num.sl l
theorem s_pairs (l : List Num) : Spec PP 24 [slN l] [.d (pairsClo l)] := by
  refine spec_at Try.func24 rfl (by kernel_rfl) rfl ?_
  refine ⟨⟨rfl, rfl, fun j hj => ?_⟩, trivial⟩
  obtain rfl : j = 0 := by omega
  exact ⟨_, rfl, rfl, _, _, rfl, rfl, rfl, fun j hj => (by
    cases Nat.lt_one_iff.1 hj
    exact D.eqv_refl _)⟩
end Go.Pg
/-
  Contracts: products in two words; on which side of a line a corner lies.
-/
set_option linter.all false
set_option maxRecDepth 100000
namespace Go.Pg
open Go.Proofs Go.RowKit

abbrev U (n : Int) : D := .int .u64 n
abbrev NU (n : Int) : V1 := .d (U n)
theorem d_isNaNU (a : Int) : SpecD PP 87 [NU a] [B false] := by
  refine specD_at Try.func87 rfl (by kernel_rfl) rfl ?_
  refine r1B rfl ?_
  simp
theorem d_cmpU (a b : Int) : SpecD PP 86 [NU a, NU b] [N (ord a b)] := by
  refine specD_at Try.func86 rfl (by kernel_rfl) rfl ?_
  repeat' first
    | refine Split.tt ?_
    | refine Split.ff ?_
    | refine Split.by (fun _ => ?_) (fun _ => ?_)
    | refine CallSt.pure (d_isNaNU _) rfl rfl ?_
    | refine r1I rfl ?_
  all_goals (unfold ord; simp_all)
  all_goals omega
theorem d_orderU (a b : Int) : SpecD PP 84 [NU a, NU b] [N (ord a b)] := by
  refine specD_at Try.func84 rfl (by kernel_rfl) rfl ?_
  refine CallSt.pure (d_cmpU a b) rfl rfl ?_
  exact r1I rfl rfl
theorem s_orderU (a b : Int) : Spec PP 84 [NU a, NU b] [N (ord a b)] := (d_orderU a b).of
theorem d_Mul64 (x y : Nat) (hx : x < 18446744073709551616) (hy : y < 18446744073709551616) : SpecD PP 83 [NU x, NU y] [NU ((x * y / 18446744073709551616 : Nat) : Int), NU ((x * y % 18446744073709551616 : Nat) : Int)] :=
  specD_mul64 Try.mul64 ⟨_, Try.func83, by kernel_rfl, by kernel_rfl⟩ x y hx hy
/-- A product's sign, and its size in two words. -/
def hiW (n : Int) : Int := ((n.natAbs / 18446744073709551616 : Nat) : Int)
def loW (n : Int) : Int := ((n.natAbs % 18446744073709551616 : Nat) : Int)
abbrev wide (n : Int) : V1 := .agg [I (ord n 0), U (hiW n), U (loW n)]
theorem ord_mul (a b : Int) : ord a 0 * ord b 0 = ord (a * b) 0 := by
  unfold ord
  rcases Int.lt_trichotomy a 0 with h | h | h <;> rcases Int.lt_trichotomy b 0 with g | g | g
  · have := Int.mul_pos_of_neg_of_neg h g; rw [if_pos h, if_pos g, if_neg (by omega), if_pos this]; rfl
  · subst g; simp
  · have := Int.mul_neg_of_neg_of_pos h g; rw [if_pos h, if_neg (by omega), if_pos g, if_pos this]; rfl
  · subst h; simp
  · subst h; simp
  · subst h; simp
  · have := Int.mul_neg_of_pos_of_neg h g; rw [if_neg (by omega), if_pos h, if_pos g, if_pos this]; rfl
  · subst g; simp
  · have := Int.mul_pos h g; rw [if_neg (by omega), if_pos h, if_neg (by omega), if_pos g, if_neg (by omega), if_pos this]; rfl
theorem absW {a : Int} (h : -9223372036854775807 ≤ a ∧ a ≤ 9223372036854775807) : IntKind.u64.wrap (max a (-a)) = (a.natAbs : Int) := by
  have e : max a (-a) = (a.natAbs : Int) := by omega
  rw [e]
  show ((a.natAbs : Int) % 2 ^ 64) = _
  omega
theorem ord_bd (a b : Int) : -1 ≤ ord a b ∧ ord a b ≤ 1 := by
  unfold ord; split
  · omega
  · split <;> omega
theorem s_times (a b : Int) (ha : -9223372036854775807 ≤ a ∧ a ≤ 9223372036854775807) (hb : -9223372036854775807 ≤ b ∧ b ≤ 9223372036854775807) : Spec PP 75 [N a, N b] [wide (a * b)] := by
  refine spec_at Try.func75 rfl (by kernel_rfl) rfl ?_
  refine ⟨inI64 (by omega) (by omega), ⟨inI64 (by omega) (by omega), ?_⟩⟩
  refine CallSt.pureE (d_Mul64 a.natAbs b.natAbs (by omega) (by omega)).of rfl ⟨⟨rfl, absW ha⟩, ⟨rfl, absW hb⟩, trivial⟩ rfl ?_
  refine CallSt.pure (s_order a 0) rfl rfl ?_
  refine CallSt.pure (s_order b 0) rfl rfl ?_
  have h1 := ord_bd a 0
  have h2 := ord_bd b 0
  have h3 := mulB h1 h2
  refine ⟨inI64 (by omega) (by omega), ?_⟩
  refine r1C rfl rfl rfl rfl rfl rfl (eqvs3 (ord_mul a b) ?_ ?_)
  · unfold hiW; rw [Int.natAbs_mul]
  · unfold loW; rw [Int.natAbs_mul]
theorem ord_lex (a b c d : Nat) (hb : b < 18446744073709551616) (hd : d < 18446744073709551616) : orL [ord a c, ord b d] = ord (18446744073709551616 * a + b) (18446744073709551616 * c + d) := by
  simp only [orL]
  unfold ord
  rcases Nat.lt_trichotomy a c with h | h | h
  · rw [if_pos (show (a : Int) < c by omega), if_neg (by decide), if_pos (by omega)]
  · subst h
    rw [if_neg (show ¬ (a : Int) < a by omega), if_neg (show ¬ (a : Int) < a by omega), if_pos rfl]
    rcases Nat.lt_trichotomy b d with g | g | g
    · rw [if_pos (show (b : Int) < d by omega), if_neg (by decide), if_pos (by omega)]
    · subst g; simp
    · rw [if_neg (show ¬ (b : Int) < d by omega), if_pos (show (d : Int) < b by omega), if_neg (by decide), if_neg (by omega), if_pos (by omega)]
  · rw [if_neg (show ¬ (a : Int) < c by omega), if_pos (show (c : Int) < a by omega), if_neg (by decide), if_neg (by omega), if_pos (by omega)]
theorem ord_abs (m n : Int) : orL [ord (hiW m) (hiW n), ord (loW m) (loW n)] = ord m.natAbs n.natAbs := by
  have h1 := Nat.div_add_mod m.natAbs 18446744073709551616
  have h2 := Nat.div_add_mod n.natAbs 18446744073709551616
  unfold hiW loW
  rw [ord_lex _ _ _ _ (Nat.mod_lt _ (by decide)) (Nat.mod_lt _ (by decide))]
  congr 1 <;> omega
theorem ord_wide (m n : Int) : (if ord m 0 = ord n 0 then ord m 0 * orL [ord (hiW m) (hiW n), ord (loW m) (loW n)] else ord (ord m 0) (ord n 0)) = ord m n := by
  rw [ord_abs]
  rcases Int.lt_trichotomy m 0 with h | h | h <;> rcases Int.lt_trichotomy n 0 with g | g | g
  all_goals
    first
      | have e1 : ord m 0 = -1 := by unfold ord; rw [if_pos h]
      | have e1 : ord m 0 = 0 := by subst h; unfold ord; rfl
      | have e1 : ord m 0 = 1 := by unfold ord; rw [if_neg (by omega), if_pos h]
    first
      | have e2 : ord n 0 = -1 := by unfold ord; rw [if_pos g]
      | have e2 : ord n 0 = 0 := by subst g; unfold ord; rfl
      | have e2 : ord n 0 = 1 := by unfold ord; rw [if_neg (by omega), if_pos g]
    rw [e1, e2]
    unfold ord
    (repeat' split) <;> omega
theorem s_than (m n : Int) : Spec PP 76 [wide m, wide n] [N (ord m n)] := by
  refine spec_at Try.func76 rfl (by kernel_rfl) rfl ?_
  refine Split.by (fun h1 => ?_) (fun h1 => ?_)
  · have h1 : ord m 0 ≠ ord n 0 := by simpa using h1
    refine CallSt.pure (s_order _ _) rfl rfl ?_
    refine r1I rfl ?_
    rw [← ord_wide m n, if_neg h1]
  · have h1 : ord m 0 = ord n 0 := by simpa using h1
    refine Exists.intro (List.range 16) (And.intro (by kernel_rfl) (FzOb.no ?_))
    refine CallOb.pure (s_orderU _ _) rfl rfl ?_
    refine CallOb.pure (s_orderU _ _) rfl rfl ?_
    refine CallOb.pureE (s_or [_, _] ?_) rfl (eqv_slI2 rfl rfl) rfl ?_
    · exact Nat.le_of_ble_eq_true rfl
    have hb : ∀ x y : Int, (-1 ≤ x ∧ x ≤ 1) → (-1 ≤ y ∧ y ≤ 1) → -1 ≤ orL [x, y] ∧ orL [x, y] ≤ 1 := fun x y hx hy => by
      simp only [orL]; split
      · split <;> omega
      · omega
    have h3 := mulB (ord_bd m 0) (hb _ _ (ord_bd (hiW m) (hiW n)) (ord_bd (loW m) (loW n)))
    refine ⟨inI64 (by omega) (by omega), ?_⟩
    refine r1I rfl ?_
    rw [← ord_wide m n, if_pos h1]
/-- On which side of the line from a to b the point c lies. -/
def dX (a b : Corner) : Int := b.X * a.Den - a.X * b.Den
def dY (a b : Corner) : Int := b.Y * a.Den - a.Y * b.Den
@[irreducible] def turn (a b c : Corner) : Int := ord (dX a b * dY a c) (dY a b * dX a c)
theorem s_turn (a b c : Corner) (ha : okC a) (hb : okC b) (hc : okC c) : Spec PP 60 [a.v, b.v, c.v] [N (turn a b c)] := by
  have da := ha.d
  have db := hb.d
  have dc := hc.d
  have h1 := mulB hb.x (b := a.Den) (y := 2097152) (by omega)
  have h2 := mulB ha.x (b := b.Den) (y := 2097152) (by omega)
  have h3 := mulB hb.y (b := a.Den) (y := 2097152) (by omega)
  have h4 := mulB ha.y (b := b.Den) (y := 2097152) (by omega)
  have h5 := mulB hc.x (b := a.Den) (y := 2097152) (by omega)
  have h6 := mulB ha.x (b := c.Den) (y := 2097152) (by omega)
  have h7 := mulB hc.y (b := a.Den) (y := 2097152) (by omega)
  have h8 := mulB ha.y (b := c.Den) (y := 2097152) (by omega)
  refine spec_at Try.func60 rfl (by kernel_rfl) rfl ?_
  refine Exists.intro (List.range 24) (And.intro (by kernel_rfl) (FzOb.no ?_))
  refine ⟨inI64 (by omega) (by omega), ⟨inI64 (by omega) (by omega), ⟨inI64 (by omega) (by omega), ⟨inI64 (by omega) (by omega), ⟨inI64 (by omega) (by omega), ⟨inI64 (by omega) (by omega), ?_⟩⟩⟩⟩⟩⟩
  refine Exists.intro (List.range 24) (And.intro (by kernel_rfl) (FzOb.no ?_))
  refine ⟨inI64 (by omega) (by omega), ⟨inI64 (by omega) (by omega), ⟨inI64 (by omega) (by omega), ⟨inI64 (by omega) (by omega), ⟨inI64 (by omega) (by omega), ⟨inI64 (by omega) (by omega), ?_⟩⟩⟩⟩⟩⟩
  refine CallSt.pure (s_times (b.X * a.Den - a.X * b.Den) (c.Y * a.Den - a.Y * c.Den) (by omega) (by omega)) rfl rfl ?_
  refine CallSt.pure (s_times (b.Y * a.Den - a.Y * b.Den) (c.X * a.Den - a.X * c.Den) (by omega) (by omega)) rfl rfl ?_
  refine CallSt.pure (s_than _ _) rfl rfl ?_
  refine r1I rfl ?_
  unfold turn dX dY; rfl
end Go.Pg
/-
  Contracts: library functions on rows: slices.Clone, slices.Compact, slices.Reverse, slices.Delete.
-/
set_option linter.all false
set_option maxRecDepth 100000
namespace Go.Pg
open Go.Proofs Go.RowKit

abbrev rowC (l : List Corner) : Nat → Nat → D := fun i => (l.getD i default).at
abbrev rowI (l : List Int) : Nat → Nat → D := fun i _ => I (l.getD i 0)
theorem avS {s : St} {ob : Nat → Option Ob} {v : AV} {i k lo n lo' n' : Nat} (h : v = .sub i k lo n) (e1 : lo = lo') (e2 : n = n') : AVle s ob v (.sub i k lo' n') := by subst h; exact ⟨rfl, rfl, e1, e2⟩
theorem flatC (l : List Corner) (m j : Nat) : (rowC l m j).flat = true := by
  show ((l.getD m default).at j).flat = true
  unfold Corner.at; split <;> rfl

theorem o_cloneC (l : List Corner) (hn : l.length ≤ 1000000) : SpecO PP 61 [slC l] 48 3 l.length (rowC l) := by
  refine specO_at Try.func61 rfl (by kernel_rfl) rfl ?_
  refine fun b hb => ?_
  refine Split.by (fun h1 => ?_) (fun h1 => ?_)
  · have h0 := hb h1
    refine ⟨rfl, rfl, h0.symm, fun i hi => ?_⟩
    omega
  · refine ⟨⟨.inr rfl, by unfold maxLen; omega, by show (0 + l.length) * 24 ≤ 140737488355328; omega⟩, ?_⟩
    refine ⟨rfl, rfl, Nat.zero_add _, fun i hi j hj => ?_⟩
    exact D.eqv_refl _
/-- A list without the elements that are like the one ahead of them. -/
@[irreducible] def keepC (l : List Corner) (i : Nat) : Bool := i == 0 || !(l.getD i default == l.getD (i - 1) default)
@[irreducible] def compP (l : List Corner) (j : Nat) : List Corner := ((List.range j).filter (keepC l)).map fun i => l.getD i default
@[irreducible] def compL (l : List Corner) : List Corner := compP l l.length
theorem keepC_eq (l : List Corner) (i : Nat) : keepC l i = (i == 0 || !(l.getD i default == l.getD (i - 1) default)) := by unfold keepC; rfl
theorem keep0 (l : List Corner) {i : Nat} (h : i < 1) : keepC l i = true := by
  obtain rfl : i = 0 := by omega
  unfold keepC; rfl
theorem compP_succ (l : List Corner) (j : Nat) : compP l (j + 1) = compP l j ++ (if keepC l j = true then [l.getD j default] else []) := by
  unfold compP
  rw [List.range_succ, List.filter_append, List.map_append]
  congr 1
  by_cases h : keepC l j = true
  · rw [if_pos h]; simp [h]
  · rw [if_neg h]; simp [h]
theorem compP_len (l : List Corner) (j : Nat) : (compP l j).length ≤ j := by
  unfold compP
  rw [List.length_map]
  exact Nat.le_trans (List.length_filter_le _ _) (by simp)
theorem compP_all (l : List Corner) {j : Nat} (hj : j ≤ l.length) (h : ∀ i, i < j → keepC l i = true) : compP l j = l.take j := by
  induction j with
  | zero => simp [compP]
  | succ j ih => rw [compP_succ, if_pos (h j (by omega)), ih (by omega) fun i hi => h i (by omega), take1 (by omega) default]
theorem eqC (p q : Corner) : (p.X == q.X && (p.Y == q.Y && (p.Den == q.Den && true))) = (p == q) := by
  rw [Bool.eq_iff_iff]
  simp only [Bool.and_eq_true, beq_iff_eq, and_true]
  constructor
  · rintro ⟨h1, h2, h3⟩; cases p; cases q; simp_all
  · rintro rfl; exact ⟨rfl, rfl, rfl⟩
theorem getDl_set {α : Type} (m : List α) (k i : Nat) (p d : α) (hk : k < m.length) : (m.set k p).getD i d = if i = k then p else m.getD i d := by
  rw [List.getD_eq_getElem?_getD, List.getElem?_set, List.getD_eq_getElem?_getD]
  by_cases h : k = i
  · subst h; simp [hk]
  · rw [if_neg h, if_neg fun e => h e.symm]
/-- An element of a row of corners is written over. -/
theorem setC {m : List Corner} {n k k' : Nat} {p q : Corner} (hk : k < m.length) (e1 : k' = k) (e2 : q = p) : D.eqv (.slc 3 n (storeRow (rowC m) k' 0 [I q.X, I q.Y, I q.Den])) (.slc 3 n (rowC (m.set k p))) := by
  subst e1; subst e2
  refine ⟨rfl, .inr ⟨rfl, fun i hi j hj => ?_⟩⟩
  show D.eqv (storeRow (rowC m) k' 0 [I q.X, I q.Y, I q.Den] i j) (((m.set k' q).getD i default).at j)
  rw [getDl_set m k' i q default hk]
  unfold storeRow
  by_cases h : i = k'
  · rw [if_pos h, if_pos ⟨h, by omega, by simpa using hj⟩]
    match j, hj with
    | 0, _ => exact ⟨rfl, rfl⟩
    | 1, _ => exact ⟨rfl, rfl⟩
    | 2, _ => exact ⟨rfl, rfl⟩
  · rw [if_neg h, if_neg fun hh => h hh.1]
    exact D.eqv_refl _
theorem t_compact (l : List Corner) (hn : l.length ≤ 1000000) : SpecT PP 38 [] [] 48 3 l.length (rowC l) (compL l).length (rowC (compL l)) := by
  refine specT_at Try.func38 rfl (by kernel_rfl) (fun i _ j _ => flatC _ i j) rfl fun v => ?_
  refine Split.by (fun h1 => ?_) (fun h1 => ?_)
  · have h1 : l.length < 2 := by have := dT h1; omega
    have e : compL l = l := by
      unfold compL
      rw [compP_all l (Nat.le_refl _) fun i hi => ?_, List.take_length]
      unfold keepC
      rcases Nat.eq_zero_or_pos i with h | h
      · subst h; rfl
      · omega
    rw [e]
    exact ⟨rfl, rfl, rfl, fun i hi j hj => D.eqv_refl _⟩
  · have h1 : 2 ≤ l.length := by have := dF h1; omega
    refine LoopOb.of (σ := Nat) (fun k => ([(0, .own 0), (3, .d (I k))], [(0, .row 48 3 l.length (rowC l))])) (fun k => 1 ≤ k ∧ k ≤ l.length ∧ ∀ i, i < k → keepC l i = true) (fun k => l.length - k) 1 ⟨rfl, ⟨obR rfl (D.eqv_refl _), trivial⟩, rfl, avR _ rfl, trivial⟩ ⟨Nat.le_refl _, by omega, fun i hi => keep0 l hi⟩ fun k hk => ?_
    obtain ⟨k1, k2, k3⟩ := hk
    refine Split.by (fun h2 => ?_) (fun h2 => ?_)
    · have h2 : k < l.length := by simpa using h2
      refine Exists.intro (List.range 10) (And.intro (by kernel_rfl) (FzOb.no ?_))
      refine ⟨⟨by omega, by omega⟩, ⟨by omega, ?_⟩⟩
      refine ⟨inI64 (by omega) (by omega), ?_⟩
      refine ⟨⟨by omega, by omega⟩, ⟨by omega, ?_⟩⟩
      refine Split.by (fun h3 => ?_) (fun h3 => ?_)
      · rw [eqC, Int.toNat_natCast, show ((k : Int) - 1).toNat = k - 1 by omega] at h3
        have hnk : keepC l k = false := by simp only [keepC_eq, h3]; simp; omega
        have ck : compP l (k + 1) = l.take k := by rw [compP_succ, if_neg (by rw [hnk]; decide), List.append_nil, compP_all l k2 k3]
        refine ⟨⟨rfl, by omega, by omega⟩, ?_⟩
        refine LoopOb.of (σ := Nat × Nat × List Corner) (fun x => ([(0, .own 0), (3, .d (I x.2.1)), (4, .sub 0 3 k (l.length - k)), (5, .d (I (x.1 - k)))], [(0, .row 48 3 l.length (rowC x.2.2))]))
          (fun x => k + 1 ≤ x.1 ∧ x.1 ≤ l.length ∧ x.2.2.length = l.length ∧ x.2.1 ≤ x.1 - 1 ∧ x.2.2.take x.2.1 = compP l x.1 ∧ ∀ i, x.1 - 1 ≤ i → x.2.2.getD i default = l.getD i default) (fun x => l.length - x.1) (k + 1, k, l)
          ⟨rfl, ⟨obR rfl (D.eqv_refl _), trivial⟩, rfl, avI rfl rfl, avS rfl (Int.toNat_natCast k) (by rw [Int.toNat_natCast]), avI rfl ?_, trivial⟩ ⟨Nat.le_refl _, h2, rfl, by simp, ck.symm, fun _ _ => rfl⟩ fun x hx => ?_
        · show (1 : Int) = ((k + 1 : Nat) : Int) - k
          omega
        · obtain ⟨x1, x2, x3, x4, x5, x6⟩ := hx
          refine Split.by (fun g1 => ?_) (fun g1 => ?_)
          · have g1 : x.1 < l.length := by have := dT g1; omega
            refine Exists.intro (List.range 10) (And.intro (by kernel_rfl) (FzOb.no ?_))
            refine ⟨⟨by omega, by omega⟩, ⟨by omega, ?_⟩⟩
            refine ⟨inI64 (by omega) (by omega), ?_⟩
            refine ⟨⟨by omega, by omega⟩, ⟨by omega, ?_⟩⟩
            have e1 : k + ((x.1 : Int) - k).toNat = x.1 := by omega
            have e2 : k + ((x.1 : Int) - k - 1).toNat = x.1 - 1 := by omega
            refine Split.by (fun g2 => ?_) (fun g2 => ?_)
            · rw [eqC, e1, e2, x6 x.1 (by omega), x6 (x.1 - 1) (by omega)] at g2
              have hkj : keepC l x.1 = true := by simp only [keepC_eq]; simp only [Bool.or_eq_true]; exact .inr g2
              refine ⟨⟨by omega, by omega⟩, ⟨by omega, ?_⟩⟩
              refine ⟨⟨by omega, by omega⟩, ⟨by omega, ?_⟩⟩
              refine ⟨inI64 (by omega) (by omega), ?_⟩
              refine ⟨inI64 (by omega) (by omega), ?_⟩
              refine ⟨(x.1 + 1, x.2.1 + 1, x.2.2.set x.2.1 (l.getD x.1 default)), ⟨rfl, ⟨obR rfl (setC (by omega) (Int.toNat_natCast _) (by rw [e1, x6 _ (by omega)])), trivial⟩, rfl, avI rfl ?_, avS rfl rfl rfl, avI rfl ?_, trivial⟩, ⟨by omega, by omega, by simp; omega, (show x.2.1 + 1 ≤ x.1 + 1 - 1 by omega), ?_, fun i hi => ?_⟩, ?_⟩
              · show (x.2.1 : Int) + 1 = ((x.2.1 + 1 : Nat) : Int)
                omega
              · show (x.1 : Int) - k + 1 = ((x.1 + 1 : Nat) : Int) - k
                omega
              · show (x.2.2.set x.2.1 (l.getD x.1 default)).take (x.2.1 + 1) = compP l (x.1 + 1)
                rw [compP_succ, if_pos hkj, take1 (i := x.2.1) (by simp; omega) default, getDl_set _ _ _ _ _ (by omega), if_pos rfl, ← x5, List.take_set_of_le (Nat.le_refl _)]
              · have hi : x.1 + 1 - 1 ≤ i := hi
                show (x.2.2.set x.2.1 (l.getD x.1 default)).getD i default = _
                rw [getDl_set _ _ _ _ _ (by omega), if_neg (by omega)]
                exact x6 i (by omega)
              · show l.length - (x.1 + 1) < l.length - x.1
                omega
            · rw [eqC, e1, e2, x6 x.1 (by omega), x6 (x.1 - 1) (by omega)] at g2
              have hkj : keepC l x.1 = false := by simp only [keepC_eq]; simp only [Bool.or_eq_false_iff]; exact ⟨by simp; omega, g2⟩
              refine ⟨inI64 (by omega) (by omega), ?_⟩
              refine ⟨(x.1 + 1, x.2.1, x.2.2), ⟨rfl, ⟨obR rfl (D.eqv_refl _), trivial⟩, rfl, avI rfl rfl, avS rfl rfl rfl, avI rfl ?_, trivial⟩, ⟨by omega, by omega, x3, (show x.2.1 ≤ x.1 + 1 - 1 by omega), ?_, fun i hi => x6 i (by omega)⟩, ?_⟩
              · show (x.1 : Int) - k + 1 = ((x.1 + 1 : Nat) : Int) - k
                omega
              · show x.2.2.take x.2.1 = compP l (x.1 + 1)
                rw [compP_succ, if_neg (by rw [hkj]; decide), List.append_nil, x5]
              · show l.length - (x.1 + 1) < l.length - x.1
                omega
          · have g1 : x.1 = l.length := by have := dF g1; omega
            refine ⟨⟨rfl, by omega, by omega⟩, ?_⟩
            refine ⟨by omega, ?_⟩
            refine ⟨⟨by omega, by omega⟩, ?_⟩
            refine ⟨rfl, rfl, ?_, fun i hi j hj => ?_⟩
            · have := congrArg List.length x5
              rw [List.length_take, g1] at this
              show (x.2.1 : Int).toNat = _
              unfold compL
              omega
            · have hk' : x.2.1 = (compL l).length := by
                have := congrArg List.length x5
                rw [List.length_take, g1] at this
                unfold compL
                omega
              have e3 : (compL l).getD i default = x.2.2.getD i default := by
                unfold compL
                rw [← g1, ← x5, List.getD_eq_getElem?_getD, List.getElem?_take, if_pos (by omega), ← List.getD_eq_getElem?_getD]
              show D.eqv (clrRow (rowC x.2.2) (x.2.1 : Int).toNat (l.length - (x.2.1 : Int).toNat) _ i j) (((compL l).getD i default).at j)
              unfold clrRow
              rw [if_neg (by omega), e3]
              exact D.eqv_refl _
      · rw [eqC, Int.toNat_natCast, show ((k : Int) - 1).toNat = k - 1 by omega] at h3
        refine ⟨inI64 (by omega) (by omega), ?_⟩
        refine ⟨k + 1, ⟨rfl, ⟨obR rfl (D.eqv_refl _), trivial⟩, rfl, avI rfl (by omega), trivial⟩, ⟨by omega, by omega, fun i hi => ?_⟩, ?_⟩
        · rcases Nat.lt_or_ge i k with h | h
          · exact k3 i h
          · obtain rfl : i = k := by omega
            simp only [keepC_eq, h3]; simp
        · show l.length - (k + 1) < l.length - k
          omega
    · have h2 : k = l.length := by
        have : ¬ k < l.length := by simpa using h2
        omega
      have e : compL l = l := by
        unfold compL
        rw [compP_all l (Nat.le_refl _) fun i hi => k3 i (by omega), List.take_length]
      rw [e]
      exact ⟨rfl, rfl, rfl, fun i hi j hj => D.eqv_refl _⟩
end Go.Pg
/-
  Contracts: the convex hull of sorted points.
-/
set_option linter.all false
set_option maxRecDepth 100000
namespace Go.Pg
open Go.Proofs Go.RowKit

/-- A chain that turns left, the last corner first. -/
def popR (p : Corner) : List Corner → List Corner
  | b :: a :: r => if turn a b p ≤ 0 then popR p (a :: r) else b :: a :: r
  | s => s
def stepR (st : List Corner) (p : Corner) : List Corner := p :: popR p st
@[irreducible] def chainR (l : List Corner) : List Corner := l.foldl stepR []
@[irreducible] def halfL (l : List Corner) : List Corner := (chainR l).tail.reverse
theorem popR_mem (p : Corner) : ∀ (st : List Corner), ∀ q ∈ popR p st, q ∈ st
  | [], q, h => h
  | [b], q, h => h
  | b :: a :: r, q, h => by
    simp only [popR] at h
    split at h
    · exact List.mem_cons_of_mem _ (popR_mem p (a :: r) q h)
    · exact h
theorem popR_len (p : Corner) : ∀ (st : List Corner), (popR p st).length ≤ st.length
  | [] => Nat.le_refl _
  | [b] => Nat.le_refl _
  | b :: a :: r => by
    simp only [popR]
    split
    · have := popR_len p (a :: r); simp only [List.length_cons] at *; omega
    · exact Nat.le_refl _
theorem chainR_take (l : List Corner) {i : Nat} (h : i < l.length) : chainR (l.take (i + 1)) = stepR (chainR (l.take i)) (l.getD i default) := by
  unfold chainR
  rw [take1 h default, List.foldl_append]; rfl
theorem chainR_zero (l : List Corner) : chainR (l.take 0) = [] := by unfold chainR; simp
theorem chainR_mem (l : List Corner) : ∀ i, i ≤ l.length → (∀ q ∈ chainR (l.take i), q ∈ l) ∧ (chainR (l.take i)).length ≤ i
  | 0, _ => by rw [chainR_zero]; simp
  | i + 1, h => by
    rw [chainR_take l (by omega)]
    obtain ⟨h1, h2⟩ := chainR_mem l i (by omega)
    refine ⟨fun q hq => ?_, ?_⟩
    · rcases List.mem_cons.1 hq with rfl | hq
      · exact gd1 (by omega) default
      · exact h1 q (popR_mem _ _ q hq)
    · have := popR_len (l.getD i default) (chainR (l.take i))
      show (popR _ _).length + 1 ≤ i + 1
      omega
/-- A row of corners read from its end. -/
theorem rev_get (a : Corner) (r : List Corner) {n : Nat} (h : n = r.length) : (a :: r).reverse.getD n default = a := by
  subst h
  rw [List.getD_eq_getElem?_getD, List.reverse_cons, List.getElem?_append_right (by simp)]
  simp
theorem rev_get2 (b a : Corner) (r : List Corner) {n : Nat} (h : n = r.length) : (b :: a :: r).reverse.getD n default = a := by
  subst h
  rw [List.getD_eq_getElem?_getD, List.reverse_cons, List.getElem?_append_left (by simp), ← List.getD_eq_getElem?_getD]
  exact rev_get a r rfl
theorem rev_tail (b : Corner) (r : List Corner) {i : Nat} (h : i < r.length) : r.reverse.getD i default = (b :: r).reverse.getD i default := by
  rw [List.reverse_cons, List.getD_eq_getElem?_getD, List.getD_eq_getElem?_getD, List.getElem?_append_left (by simpa using h)]
theorem pushR {st : List Corner} {p : Corner} {n : Nat} {g : Nat → Nat → D} (hn : n = st.length) (hg : ∀ j, j < 3 → D.eqv (g 0 j) (p.at j)) : D.eqv (.slc 3 (n + 1) (appRow n (rowC st.reverse) g)) (.slc 3 (p :: st).length (rowC (p :: st).reverse)) := by
  subst hn
  refine app1 (fun i hi j hj => ?_) fun j hj => ?_
  · show D.eqv ((st.reverse.getD i default).at j) (((p :: st).reverse.getD i default).at j)
    rw [rev_tail p st hi]
    exact D.eqv_refl _
  · show D.eqv (g 0 j) (((p :: st).reverse.getD st.length default).at j)
    rw [rev_get p st rfl]
    exact hg j hj
theorem eqAt (p : Corner) : ∀ j, j < 3 → D.eqv (rowOf 3 [I p.X, I p.Y, I p.Den] 0 j) (p.at j)
  | 0, _ => ⟨rfl, rfl⟩
  | 1, _ => ⟨rfl, rfl⟩
  | 2, _ => ⟨rfl, rfl⟩
theorem o_half (l : List Corner) (hl : ∀ q ∈ l, okC q) (h0 : 1 ≤ l.length) (hn : l.length ≤ 1000000) : SpecO PP 59 [slC l] 48 3 (halfL l).length (rowC (halfL l)) := by
  refine specO_at Try.func59 rfl (by kernel_rfl) rfl ?_
  refine LoopOb.of (σ := Nat × List Corner) (fun x => ([(0, avOf (slC l)), (3, .own 3), (6, avOf (slC l)), (7, .d (I l.length)), (8, .d (I x.1))], [(3, .row 48 3 x.2.length (rowC x.2.reverse))])) (fun x => x.1 ≤ l.length ∧ x.2 = chainR (l.take x.1) ∧ (0 < x.1 → x.2 ≠ [])) (fun x => l.length - x.1) (0, [])
    ⟨rfl, ⟨obR rfl ⟨rfl, .inl rfl⟩, trivial⟩, avR _ rfl, avQ rfl, avR _ rfl, avR _ rfl, avR _ rfl, trivial⟩ ⟨Nat.zero_le _, (chainR_zero l).symm, fun h => absurd h (Nat.lt_irrefl 0)⟩ fun x hx => ?_
  obtain ⟨x1, x2, x3⟩ := hx
  obtain ⟨c1, c2⟩ := chainR_mem l x.1 x1
  refine Split.by (fun h1 => ?_) (fun h1 => ?_)
  · have h1 : x.1 < l.length := by simpa using h1
    refine ⟨⟨rfl, by omega, by omega⟩, ?_⟩
    have hp : l.getD x.1 default ∈ l := gd1 h1 default
    refine LoopOb.of (σ := List Corner) (fun st => ([(0, avOf (slC l)), (3, .own 3), (5, .box 5 0), (6, avOf (slC l)), (7, .d (I l.length)), (8, .d (I x.1))], [(3, .row 48 3 st.length (rowC st.reverse)), (5, .box [.d (I (l.getD x.1 default).X), .d (I (l.getD x.1 default).Y), .d (I (l.getD x.1 default).Den)])])) (fun st => popR (l.getD x.1 default) st = popR (l.getD x.1 default) x.2 ∧ (∀ q ∈ st, q ∈ l) ∧ st.length ≤ l.length) (fun st => st.length) x.2 ⟨rfl, ⟨obR rfl (D.eqv_refl _), obD [I (l.getD x.1 default).X, I (l.getD x.1 default).Y, I (l.getD x.1 default).Den] rfl, trivial⟩, avR _ rfl, avQ rfl, avQ rfl, avR _ rfl, avR _ rfl, avR _ rfl, trivial⟩ ⟨rfl, by rw [x2]; exact c1, by rw [x2]; omega⟩ fun st hst => ?_
    obtain ⟨s1, s2, s3⟩ := hst
    refine Exists.intro (List.range 20) (And.intro (by kernel_rfl) (FzOb.no ?_))
    refine Split.by (fun h2 => ?_) (fun h2 => ?_)
    · have h2 : 1 < st.length := by have := dT h2; omega
      refine ⟨inI64 (by omega) (by omega), ?_⟩
      refine ⟨⟨by omega, by omega⟩, ⟨by omega, ?_⟩⟩
      refine ⟨inI64 (by omega) (by omega), ?_⟩
      refine ⟨⟨by omega, by omega⟩, ⟨by omega, ?_⟩⟩
      obtain ⟨b, a, r, rfl⟩ : ∃ b a r, st = b :: a :: r := by
        match st, h2 with
        | b :: a :: r, _ => exact ⟨b, a, r, rfl⟩
      have ga : (b :: a :: r).reverse.getD (((b :: a :: r).length : Int) - 2).toNat default = a := rev_get2 b a r (by simp; omega)
      have gb : (b :: a :: r).reverse.getD (((b :: a :: r).length : Int) - 1).toNat default = b := rev_get b (a :: r) (by simp)
      refine CallOb.pure (s_turn _ _ _ ?_ ?_ ?_) rfl rfl ?_
      · rw [ga]; exact hl _ (s2 _ (by simp))
      · rw [gb]; exact hl _ (s2 _ (by simp))
      · exact hl _ hp
      refine Split.tt ?_
      refine Split.by (fun h3 => ?_) (fun h3 => ?_)
      · have h3 : turn a b (l.getD x.1 default) ≤ 0 := by rw [ga, gb] at h3; exact dT h3
        refine ⟨inI64 (by omega) (by omega), ?_⟩
        refine ⟨⟨by omega, by omega⟩, ?_⟩
        refine ⟨a :: r, ⟨rfl, ⟨obR rfl ⟨?_, .inr ⟨rfl, fun i hi j hj => ?_⟩⟩, obD [I (l.getD x.1 default).X, I (l.getD x.1 default).Y, I (l.getD x.1 default).Den] rfl, trivial⟩, avR _ rfl, avQ rfl, avQ rfl, avR _ rfl, avR _ rfl, avR _ rfl, trivial⟩, ⟨?_, fun q hq => s2 q (List.mem_cons_of_mem _ hq), by simp at s3 ⊢; omega⟩, ?_⟩
        · simp
        · show D.eqv (((b :: a :: r).reverse.getD i default).at j) (((a :: r).reverse.getD i default).at j)
          rw [rev_tail b (a :: r) (by simp at hi ⊢; omega)]
          exact D.eqv_refl _
        · rw [← s1]; simp only [popR, if_pos h3]
        · show (a :: r).length < (b :: a :: r).length
          simp
      · have h3 : ¬ turn a b (l.getD x.1 default) ≤ 0 := by rw [ga, gb] at h3; exact dF h3
        have hst : popR (l.getD x.1 default) (b :: a :: r) = b :: a :: r := by simp only [popR, if_neg h3]
        refine ⟨⟨.inr rfl, by unfold maxLen; omega, by show ((b :: a :: r).length + 1) * 24 ≤ 140737488355328; omega⟩, ?_⟩
        refine ⟨inI64 (by omega) (by omega), ?_⟩
        refine ⟨(x.1 + 1, l.getD x.1 default :: (b :: a :: r)), ⟨rfl, ⟨obR rfl (pushR rfl (eqAt _)), trivial⟩, avR _ rfl, avQ rfl, avR _ rfl, avR _ rfl, avI rfl rfl, trivial⟩, ⟨h1, ?_, fun _ => by simp⟩, ?_⟩
        · show l.getD x.1 default :: (b :: a :: r) = chainR (l.take (x.1 + 1))
          rw [chainR_take l h1, stepR, ← x2, ← s1, hst]
        · show l.length - (x.1 + 1) < l.length - x.1
          omega
    · have h2 : st.length ≤ 1 := by have := dF h2; omega
      have hst : popR (l.getD x.1 default) st = st := by
        match st, h2 with
        | [], _ => rfl
        | [b], _ => rfl
      refine Split.ff ?_
      refine Split.ff ?_
      refine ⟨⟨.inr rfl, by unfold maxLen; omega, by show (st.length + 1) * 24 ≤ 140737488355328; omega⟩, ?_⟩
      refine ⟨inI64 (by omega) (by omega), ?_⟩
      refine ⟨(x.1 + 1, l.getD x.1 default :: st), ⟨rfl, ⟨obR rfl (pushR rfl (eqAt _)), trivial⟩, avR _ rfl, avQ rfl, avR _ rfl, avR _ rfl, avI rfl rfl, trivial⟩, ⟨h1, ?_, fun _ => by simp⟩, ?_⟩
      · show l.getD x.1 default :: st = chainR (l.take (x.1 + 1))
        rw [chainR_take l h1, stepR, ← x2, ← s1, hst]
      · show l.length - (x.1 + 1) < l.length - x.1
        omega
  · have h1 : x.1 = l.length := by
      have : ¬ x.1 < l.length := by simpa using h1
      omega
    have hx2 : x.2 = chainR l := by rw [x2, h1, List.take_length]
    obtain ⟨p, st, hst⟩ : ∃ p st, x.2 = p :: st := by
      have := x3 (by omega)
      match hx : x.2, this with
      | p :: st, _ => exact ⟨p, st, rfl⟩
    have hlen : x.2.length = st.length + 1 := by rw [hst]; rfl
    have hle : x.2.length ≤ l.length := by rw [x2]; omega
    have hr : halfL l = st.reverse := by unfold halfL; rw [← hx2, hst]; rfl
    refine ⟨inI64 (by omega) (by omega), ?_⟩
    refine ⟨⟨by omega, by omega⟩, ?_⟩
    refine ⟨rfl, rfl, ?_, fun i hi j hj => ?_⟩
    · show ((x.2.length : Int) - 1).toNat = _
      rw [hr, List.length_reverse]; omega
    · rw [hr, List.length_reverse] at hi
      show D.eqv ((x.2.reverse.getD i default).at j) (((halfL l).getD i default).at j)
      rw [hr, rev_tail p st hi, hst]
      exact D.eqv_refl _
theorem halfL_len (l : List Corner) : (halfL l).length ≤ l.length := by
  have := (chainR_mem l l.length (Nat.le_refl _)).2
  rw [List.take_length] at this
  unfold halfL
  rw [List.length_reverse, List.length_tail]
  omega
@[irreducible] def hullL (l : List Corner) : List Corner := if l.length < 3 then l else halfL l ++ halfL l.reverse
def CI : Ints Corner 3 where
  lst p := [p.X, p.Y, p.Den]
  len _ := rfl
  at_ p := p.at
  hat p j hj := by
    match j, hj with
    | 0, _ => rfl
    | 1, _ => rfl
    | 2, _ => rfl
theorem r_reverseC (l : List Corner) (hn : l.length ≤ 1000000) : SpecR PP 62 [] [] 48 3 l.length (rowC l) (rowC l.reverse) [] :=
  specR_reverse CI Try.revC ⟨_, Try.func62, by kernel_rfl, by kernel_rfl⟩ (fun _ => by kernel_rfl) (fun _ => by kernel_rfl) 48 l hn
theorem s_hull (l : List Corner) (hl : ∀ q ∈ l, okC q) (hn : l.length ≤ 1000000) : Spec PP 37 [slC l] [slC (hullL l)] := by
  refine spec_at Try.func37 rfl (by kernel_rfl) rfl ?_
  refine Split.by (fun h1 => ?_) (fun h1 => ?_)
  · have h1 : l.length < 3 := by have := dT h1; omega
    have e : hullL l = l := by unfold hullL; rw [if_pos h1]
    rw [e]
    exact ⟨D.eqv_refl _, trivial⟩
  · have h1 : ¬ l.length < 3 := by have := dF h1; omega
    have e : hullL l = halfL l ++ halfL l.reverse := by unfold hullL; rw [if_neg h1]
    have n1 := halfL_len l
    have n2 := halfL_len l.reverse
    rw [List.length_reverse] at n2
    refine CallSt.own (o_half l hl (by omega) hn) rfl rfl (fun m j _ _ => flatC _ m j) ?_
    refine CallSt.own (o_cloneC (halfL l) (by omega)) rfl rfl (fun m j _ _ => flatC _ m j) ?_
    refine CallSt.own (o_cloneC l hn) rfl rfl (fun m j _ _ => flatC _ m j) ?_
    refine CallSt.rw' rfl (r_reverseC l hn) ⟨⟨[], .tmp 16, [], [], rfl, rfl, rfl, rfl, rfl, rfl, rfl⟩⟩ rfl ?_
    refine CallSt.ownE (o_half l.reverse (fun q hq => hl q (List.mem_reverse.1 hq)) (by simp; omega) (by simp; omega)) rfl ⟨?_, trivial⟩ rfl (fun m j _ _ => flatC _ m j) ?_
    · exact ⟨by simp, .inr ⟨rfl, fun _ _ _ _ => D.eqv_refl _⟩⟩
    refine ⟨⟨.inr rfl, by unfold maxLen; omega, by show ((halfL l).length + (halfL l.reverse).length) * 24 ≤ 140737488355328; omega⟩, ?_⟩
    refine ⟨⟨_, _, _, _, rfl, ?_⟩, trivial⟩
    rw [e]
    refine ⟨by simp, .inr ⟨rfl, fun i hi j hj => ?_⟩⟩
    show D.eqv (appRow (halfL l).length (rowC (halfL l)) (rowC (halfL l.reverse)) i j) (((halfL l ++ halfL l.reverse).getD i default).at j)
    unfold appRow
    by_cases h : i < (halfL l).length
    · rw [if_pos h, List.getD_eq_getElem?_getD, List.getElem?_append_left h, ← List.getD_eq_getElem?_getD]
      exact D.eqv_refl _
    · rw [if_neg h, List.getD_eq_getElem?_getD, List.getElem?_append_right (by omega), ← List.getD_eq_getElem?_getD]
      exact D.eqv_refl _
end Go.Pg
/-
  Contracts: the corners of a polygon.
-/
set_option linter.all false
set_option maxRecDepth 100000
namespace Go.Pg
open Go.Proofs Go.RowKit Go.Sort

/-! ### A crossing is a valid corner -/
theorem gcd3 (x y d : Int) : gcdL [x, y, d] = Nat.gcd (Nat.gcd x.natAbs y.natAbs) d.natAbs := by
  simp only [gcdL, List.foldl_cons, List.foldl_nil, Nat.gcd_zero_left]
theorem lowest_valid {x y d : Int} (hd : d ≠ 0) (bx : -1073741824 ≤ x ∧ x ≤ 1073741824) (by' : -1073741824 ≤ y ∧ y ≤ 1073741824) (bd : -2097152 ≤ d ∧ d ≤ 2097152) : valid (lowest x y d) = true := by
  have hg : 0 < gcdL [x, y, d] := by rw [gcd3]; exact Nat.gcd_pos_of_pos_right _ (by omega)
  have e1 := gcd3 x y d
  generalize hG : gcdL [x, y, d] = G' at *
  have d1 : G' ∣ x.natAbs := by rw [e1]; exact Nat.dvd_trans (Nat.gcd_dvd_left _ _) (Nat.gcd_dvd_left _ _)
  have d2 : G' ∣ y.natAbs := by rw [e1]; exact Nat.dvd_trans (Nat.gcd_dvd_left _ _) (Nat.gcd_dvd_right _ _)
  have d3 : G' ∣ d.natAbs := by rw [e1]; exact Nat.gcd_dvd_right _ _
  obtain ⟨s, hs, hsa⟩ : ∃ s : Int, s = (if d < 0 then -(G' : Int) else (G' : Int)) ∧ s.natAbs = G' := ⟨_, rfl, by split <;> omega⟩
  have hl : lowest x y d = ⟨x.tdiv s, y.tdiv s, d.tdiv s⟩ := by
    unfold lowest
    rw [hs, hG]
  have ax : (x.tdiv s).natAbs = x.natAbs / G' := by rw [Int.natAbs_tdiv, hsa]; rfl
  have ay : (y.tdiv s).natAbs = y.natAbs / G' := by rw [Int.natAbs_tdiv, hsa]; rfl
  have ad : (d.tdiv s).natAbs = d.natAbs / G' := by rw [Int.natAbs_tdiv, hsa]; rfl
  have hpos : 0 ≤ d.tdiv s := by
    rw [hs]
    split
    · rename_i h
      exact Int.tdiv_nonneg_of_nonpos_of_nonpos (by omega) (by omega)
    · exact Int.tdiv_nonneg (by omega) (by omega)
  have hd1 : 1 ≤ d.natAbs / G' := (Nat.one_le_div_iff hg).2 (Nat.le_of_dvd (by omega) d3)
  have b1 : x.natAbs / G' ≤ x.natAbs := Nat.div_le_self _ _
  have b2 : y.natAbs / G' ≤ y.natAbs := Nat.div_le_self _ _
  have b3 : d.natAbs / G' ≤ d.natAbs := Nat.div_le_self _ _
  rw [hl]
  unfold valid
  simp only [Bool.and_eq_true, within_spec, beq_iff_eq]
  refine ⟨⟨⟨by omega, by omega⟩, by omega⟩, ?_⟩
  rw [gcd3, ax, ay, ad, Nat.gcd_div d1 d2, Nat.gcd_div (Nat.dvd_gcd d1 d2) d3, ← e1, Nat.div_self hg]
  rfl
theorem crossing_valid {g h : Half} (hg : okH g) (hh : okH h) (hd : det g h ≠ 0) : valid (crossing g h) = true := by
  have h1 := mulB hg.c hh.b
  have h2 := mulB hh.c hg.b
  have h3 := mulB hg.a hh.c
  have h4 := mulB hh.a hg.c
  have h5 := det_bd hg hh
  unfold crossing
  exact lowest_valid hd (by omega) (by omega) (by omega)

/-! ### Pairs -/
theorem rowP_mem {l : List Num} {i k : Nat} {x : Num × Num} (hi : i < l.length) (hk : k ≤ i) (h : x ∈ rowP l i k) : x.1 ∈ l ∧ x.2 ∈ l ∧ det x.1.h x.2.h ≠ 0 := by
  unfold rowP at h
  obtain ⟨j, hj, he⟩ := List.mem_filterMap.1 h
  have hj := List.mem_range.1 hj
  split at he
  · cases he
  · rename_i hd
    cases he
    exact ⟨gd1 (by omega) default, gd1 hi default, hd⟩
theorem pairsL_mem {l : List Num} {x : Num × Num} (h : x ∈ pairsL l) : x.1 ∈ l ∧ x.2 ∈ l ∧ det x.1.h x.2.h ≠ 0 := by
  unfold pairsL upP at h
  obtain ⟨i, hi, hx⟩ := List.mem_flatMap.1 h
  exact rowP_mem (List.mem_range.1 hi) (Nat.le_refl _) hx
theorem rowP_len (l : List Num) (i k : Nat) : (rowP l i k).length ≤ k := by
  unfold rowP
  exact Nat.le_trans (List.length_filterMap_le _ _) (by simp)
theorem upP_len (l : List Num) (m : Nat) : ∀ i, i ≤ m → (upP l i).length ≤ m * i
  | 0, _ => by simp [upP]
  | i + 1, h => by
    rw [upP_succ, List.length_append, Nat.mul_succ]
    have := upP_len l m i (by omega)
    have := rowP_len l i i
    omega
theorem pairsL_len (l : List Num) : (pairsL l).length ≤ l.length * l.length := upP_len l l.length l.length (Nat.le_refl _)
theorem allL_ok {l : List Half} (h : ∀ x ∈ l, okH x) : ∀ x ∈ allL l, okH x.h := fun x hx => by
  unfold allL at hx
  obtain ⟨i, hi, rfl⟩ := List.mem_map.1 hx
  have hi := List.mem_range.1 hi
  unfold allAt
  by_cases hl : i < l.length
  · rw [if_pos hl]; exact h _ (gd1 hl default)
  · rw [if_neg hl]
    obtain h0 | h0 | h0 | h0 : i - l.length = 0 ∨ i - l.length = 1 ∨ i - l.length = 2 ∨ i - l.length = 3 := by omega
    · rw [h0]; exact (show okH (sidesL.getD 0 default) from ⟨by decide, by decide, by decide⟩)
    · rw [h0]; exact (show okH (sidesL.getD 1 default) from ⟨by decide, by decide, by decide⟩)
    · rw [h0]; exact (show okH (sidesL.getD 2 default) from ⟨by decide, by decide, by decide⟩)
    · rw [h0]; exact (show okH (sidesL.getD 3 default) from ⟨by decide, by decide, by decide⟩)

/-! ### The points in which edges cross, and that lie in the polygon -/
def ptV (l : List Half) (x : Num × Num) : Option VC := if h : valid (crossing x.1.h x.2.h) = true ∧ outsideL (allL l) (crossing x.1.h x.2.h) = -5 then some ⟨crossing x.1.h x.2.h, h.1⟩ else none
@[irreducible] def ptsV (l : List Half) (pre : List (Num × Num)) : List VC := pre.filterMap (ptV l)
theorem ptsV_nil (l : List Half) : ptsV l [] = [] := by unfold ptsV; rfl
theorem ptsV_yes {l : List Half} {pre : List (Num × Num)} {x : Num × Num} (hv : valid (crossing x.1.h x.2.h) = true) (h : outsideL (allL l) (crossing x.1.h x.2.h) = -5) : ptsV l (pre ++ [x]) = ptsV l pre ++ [⟨crossing x.1.h x.2.h, hv⟩] := by
  unfold ptsV
  rw [List.filterMap_append]
  congr 1
  rw [List.filterMap_cons_some (b := ⟨crossing x.1.h x.2.h, hv⟩) (by unfold ptV; rw [dif_pos ⟨hv, h⟩])]
  rfl
theorem ptsV_no {l : List Half} {pre : List (Num × Num)} {x : Num × Num} (h : outsideL (allL l) (crossing x.1.h x.2.h) ≠ -5) : ptsV l (pre ++ [x]) = ptsV l pre := by
  unfold ptsV
  rw [List.filterMap_append, List.filterMap_cons_none (by unfold ptV; rw [dif_neg fun hh => h hh.2])]
  simp
theorem ptsV_len (l : List Half) (pre : List (Num × Num)) : (ptsV l pre).length ≤ pre.length := by unfold ptsV; exact List.length_filterMap_le _ _
def sortV (l : List VC) : List VC := l.mergeSort fun x y => !(ltOf cmpV) y x
@[irreducible] def sortedL (l : List Half) : List Corner := (sortV (ptsV l (pairsL (allL l)))).map fun p : VC => p.1
@[irreducible] def cornersL (l : List Half) : List Corner := hullL (compL (sortedL l))
theorem SpecT.congr {P : Program} {f : FuncId} {pre post : List V1} {e k n n' : Nat} {g g0 g' : Nat → Nat → D} (h : SpecT P f pre post e k n g0 n' g') (he : ∀ m, m < n → ∀ j, j < k → g m j = g0 m j) : SpecT P f pre post e k n g n' g' :=
  ⟨h.1, fun w ok vs us v xs h1 h2 h3 hr => h.2 w ok vs us v xs h1 h2 h3 ⟨hr.own, hr.one, fun m hm j hj => by rw [← he m hm j hj]; exact hr.rep m hm j hj, hr.sep⟩⟩
theorem VI_row (l : List VC) : ∀ m, m < l.length → ∀ j, j < 3 → VI.row l m j = rowC (l.map fun p : VC => p.1) m j := fun m hm j _ => by
  show (l.getD m default).1.at j = ((l.map fun p : VC => p.1).getD m default).at j
  rw [List.getD_eq_getElem?_getD, List.getD_eq_getElem?_getD, List.getElem?_map, List.getElem?_eq_getElem hm]
  rfl
theorem t_compactV (l : List VC) (hn : l.length ≤ 1000000) : SpecT PP 38 [] [] 48 3 l.length (VI.row l) (compL (l.map fun p : VC => p.1)).length (rowC (compL (l.map fun p : VC => p.1))) := by
  have h := t_compact (l.map fun p : VC => p.1) (by rw [List.length_map]; exact hn)
  rw [List.length_map] at h
  exact h.congr (VI_row l)
theorem val_pair (x : Num × Num) (w : World) (ok : Nat → Prop) : All2 (Rep1 w ok) (pairsEnc x) (pairsVal x) := .cons (val_num x.1 w ok) (.cons (val_num x.2 w ok) .nil)
def obPts (l : List Half) (pre : List (Num × Num)) : List (Nat × Ob) := [(3, .box [.d (Num.sl (allL l))]), (4, .box [.own 26]), (26, .row 48 3 (ptsV l pre).length (VI.row (ptsV l pre)))]
theorem sortV_len (l : List VC) : (sortV l).length = l.length := List.length_mergeSort l
theorem compL_mem {l : List Corner} {q : Corner} (h : q ∈ compL l) : q ∈ l := by
  unfold compL compP at h
  obtain ⟨i, hi, rfl⟩ := List.mem_map.1 h
  have := List.mem_range.1 (List.mem_filter.1 hi).1
  exact gd1 this default
theorem compL_len (l : List Corner) : (compL l).length ≤ l.length := by unfold compL; exact compP_len l _
theorem t_compactS (l : List VC) (hn : l.length ≤ 1000000) : SpecT PP 38 [] [] 48 3 l.length (VI.row (l.mergeSort fun x y => !(ltOf cmpV) y x)) (compL ((sortV l).map fun p : VC => p.1)).length (rowC (compL ((sortV l).map fun p : VC => p.1))) := by
  have h := t_compactV (sortV l) (by rw [sortV_len]; exact hn)
  rw [sortV_len] at h
  exact h
theorem pushV {vs : List VC} {p : VC} {g : Nat → Nat → D} (hg : ∀ j, j < 3 → D.eqv (g 0 j) (p.1.at j)) : D.eqv (.slc 3 (vs.length + 1) (appRow vs.length (VI.row vs) g)) (.slc 3 (vs ++ [p]).length (VI.row (vs ++ [p]))) := by
  rw [List.length_append]
  refine app1 (fun i hi j hj => ?_) fun j hj => ?_
  · show D.eqv ((vs.getD i default).1.at j) (((vs ++ [p]).getD i default).1.at j)
    have e : (vs ++ [p]).getD i default = vs.getD i default := by rw [List.getD_eq_getElem?_getD, List.getElem?_append_left hi, ← List.getD_eq_getElem?_getD]
    rw [e]
    exact D.eqv_refl _
  · show D.eqv (g 0 j) (((vs ++ [p]).getD vs.length default).1.at j)
    rw [List.getD_eq_getElem?_getD, List.getElem?_append_right (Nat.le_refl _), Nat.sub_self]
    exact hg j hj
theorem ptsV_row0 (l : List Half) : look (obPts l []) 26 = some (.row 48 3 0 (VI.row (ptsV l []))) := by
  unfold obPts; rw [ptsV_nil]; rfl
theorem obN {s : St} {ob : Nat → Option Ob} {j e k : Nat} {f : Nat → Nat → D} {o : Option Ob} (h : o = some (.box [.nilsl])) (h1 : s.ob j = none) (h2 : ob j = some (.row e k 0 f)) : Oble s ob o (.box [.own j]) := by
  subst h; exact ⟨⟨h1, e, k, f, h2⟩, trivial⟩
theorem obO {s : St} {ob : Nat → Option Ob} {j : Nat} {o : Option Ob} (h : o = some (.box [.own j])) : Oble s ob o (.box [.own j]) := by
  subst h; exact ⟨rfl, trivial⟩
theorem obZ {s : St} {ob : Nat → Option Ob} {e k n : Nat} {f : Nat → Nat → D} {o : Option Ob} (h : o = none) (h1 : n = 0) : Oble s ob o (.row e k n f) := by
  subst h; exact h1
theorem s_corners (l : List Half) (hl : ∀ x ∈ l, okH x) (hn : l.length ≤ 60) : Spec PP 16 [slH l] [slC (cornersL l)] := by
  have hall := allL_ok hl
  have hlen := allL_len l
  have hpl : (pairsL (allL l)).length ≤ 64 * 64 := Nat.le_trans (pairsL_len _) (Nat.mul_le_mul (by omega) (by omega))
  refine spec_at Try.func16 rfl (by kernel_rfl) rfl ?_
  refine CallSt.ro (s_all l (by omega)) rfl rfl ?_
  refine CallSt.ro (s_pairs (allL l)) rfl rfl ?_
  refine CodeOb.rangeAt (s_pairs1 (allL l) hall (by omega)) rfl pairsEnc val_pair (fun _ => rfl) (by decide) [(3, .box 3 0), (4, .box 4 0)] [(4, 0)] (obPts l) rfl (fun _ => rfl) ?_ (Iv := fun _ => True) trivial (fun v pre x hx _ => ?_) (fun _ => ?_)
  · exact ⟨rfl, ⟨obD [Num.sl (allL l)] rfl, obN rfl rfl (ptsV_row0 l), obZ rfl (by rw [ptsV_nil]; rfl), trivial⟩, avQ rfl, avQ rfl, trivial⟩
  · have hxm : x ∈ pairsL (allL l) := hx.subset (by simp)
    obtain ⟨m1, m2, m3⟩ := pairsL_mem hxm
    have o1 := hall _ m1
    have o2 := hall _ m2
    have hv := crossing_valid o1 o2 m3
    have hpre : (ptsV l pre).length ≤ 64 * 64 := Nat.le_trans (ptsV_len l pre) (by have := hx.length_le; simp at this; omega)
    refine CallSt.pure (s_crossing x.1.h x.2.h o1 o2 m3) rfl rfl ?_
    refine CallSt.pure (s_outside (allL l) (crossing x.1.h x.2.h) hall (okC_of hv) (by omega)) rfl rfl ?_
    refine Split.by (fun h1 => ?_) (fun h1 => ?_)
    · have h1 : outsideL (allL l) (crossing x.1.h x.2.h) = -5 := by simpa using h1
      refine ⟨⟨.inr rfl, by unfold maxLen; omega, by show ((ptsV l pre).length + 1) * 24 ≤ 140737488355328; omega⟩, ?_⟩
      refine ⟨trivial, rfl, ⟨obD [Num.sl (allL l)] rfl, ?_, ?_, trivial⟩, avQ rfl, avQ rfl, trivial⟩
      · exact obO rfl
      · exact obR rfl (by rw [ptsV_yes hv h1]; exact pushV (eqAt _))
    · have h1 : outsideL (allL l) (crossing x.1.h x.2.h) ≠ -5 := by simpa using h1
      exact ⟨trivial, rfl, ⟨obD [Num.sl (allL l)] rfl, obO rfl, obR rfl (by rw [ptsV_no h1]; exact D.eqv_refl _), trivial⟩, avQ rfl, avQ rfl, trivial⟩
  · have hpts : (ptsV l (pairsL (allL l))).length ≤ 64 * 64 := Nat.le_trans (ptsV_len l _) hpl
    have e : cornersL l = hullL (compL ((sortV (ptsV l (pairsL (allL l)))).map fun p : VC => p.1)) := by unfold cornersL sortedL; rfl
    have hcl := compL_len ((sortV (ptsV l (pairsL (allL l)))).map fun p : VC => p.1)
    rw [List.length_map, sortV_len] at hcl
    refine CallSt.rw' rfl (r_sortV (ptsV l (pairsL (allL l))) (by omega)) ⟨⟨[], .tmp 27, [.func 36], [], rfl, rfl, rfl, rfl, rfl, rfl, rfl⟩⟩ rfl ?_
    refine CallSt.tk rfl (t_compactS (ptsV l (pairsL (allL l))) (by omega)) ⟨⟨[], .tmp 29, [], [], rfl, rfl, rfl, rfl, rfl, rfl, rfl⟩⟩ rfl ?_
    refine CallSt.fz [26] (s_hull (compL ((sortV (ptsV l (pairsL (allL l)))).map fun p : VC => p.1)) (fun q hq => ?_) (by omega)) rfl rfl ?_
    · obtain ⟨p, _, rfl⟩ := List.mem_map.1 (compL_mem hq)
      exact okC_of p.2
    rw [e]
    exact ⟨D.eqv_refl _, trivial⟩
end Go.Pg
/-
  Contracts: Corners, Places.
-/
set_option linter.all false
set_option maxRecDepth 100000
namespace Go.Pg
open Go.Proofs Go.RowKit

theorem checkL_ok {l : List Half} (h : checkL l = 0) : l.length ≤ 40 ∧ (∀ x ∈ l, fit x = true) ∧ ∀ x ∈ l, okH x := by
  unfold checkL at h
  split at h
  · cases h
  · split at h
    · rename_i h1 h2
      have h3 : ∀ x ∈ l, fit x = true := List.all_eq_true.1 h2
      exact ⟨by omega, h3, fun x hx => okH_of (h3 x hx)⟩
    · cases h
@[irreducible] def cornersE (l : List Half) : List Corner × Int := if checkL l = 0 then if cornersL l = [] then ([], 9) else (cornersL l, 0) else ([], checkL l)
theorem okC_xy {x y : Nat} (hx : x ≤ 48) (hy : y ≤ 48) : okC ⟨x, y, 1⟩ := ⟨(by show -1073741824 ≤ (x : Int) ∧ (x : Int) ≤ 1073741824; omega), (by show -1073741824 ≤ (y : Int) ∧ (y : Int) ≤ 1073741824; omega), (show (1 : Int) ≤ 1 ∧ (1 : Int) ≤ 2097152 by decide)⟩
/-- The places of a polygon, row by row. -/
def inP (L : List Num) (x y : Nat) : Bool := outsideL L ⟨x, y, 1⟩ == -5
@[irreducible] def placesRow (L : List Num) (y x : Nat) : List Place := ((List.range x).filter fun x => inP L x y).map fun x : Nat => ⟨x, y⟩
@[irreducible] def placesTo (L : List Num) (y : Nat) : List Place := (List.range y).flatMap fun y => placesRow L y 49
theorem placesRow_zero (L : List Num) (y : Nat) : placesRow L y 0 = [] := by unfold placesRow; rfl
theorem placesRow_succ (L : List Num) (y x : Nat) : placesRow L y (x + 1) = placesRow L y x ++ (if inP L x y = true then [⟨x, y⟩] else []) := by
  unfold placesRow
  rw [List.range_succ, List.filter_append, List.map_append]
  congr 1
  by_cases h : inP L x y = true
  · rw [if_pos h]; simp [h]
  · rw [if_neg h]; simp [h]
theorem placesTo_zero (L : List Num) : placesTo L 0 = [] := by unfold placesTo; rfl
theorem placesTo_succ (L : List Num) (y : Nat) : placesTo L (y + 1) = placesTo L y ++ placesRow L y 49 := by
  unfold placesTo
  rw [List.range_succ, List.flatMap_append]
  simp
theorem placesRow_len (L : List Num) (y x : Nat) : (placesRow L y x).length ≤ x := by
  unfold placesRow
  rw [List.length_map]
  exact Nat.le_trans (List.length_filter_le _ _) (by simp)
theorem placesTo_len (L : List Num) : ∀ y, (placesTo L y).length ≤ y * 49
  | 0 => by rw [placesTo_zero]; simp
  | y + 1 => by
    rw [placesTo_succ, List.length_append]
    have := placesTo_len L y
    have := placesRow_len L y 49
    omega
abbrev rowPl (l : List Place) : Nat → Nat → D := fun i => (l.getD i default).at
theorem pushPl {vs : List Place} {p : Place} {n : Nat} {g : Nat → Nat → D} (hn : n = vs.length) (hg : ∀ j, j < 2 → D.eqv (g 0 j) (p.at j)) : D.eqv (.slc 2 (n + 1) (appRow n (rowPl vs) g)) (.slc 2 (vs ++ [p]).length (rowPl (vs ++ [p]))) := by
  subst hn
  rw [List.length_append]
  refine app1 (fun i hi j hj => ?_) fun j hj => ?_
  · show D.eqv ((vs.getD i default).at j) (((vs ++ [p]).getD i default).at j)
    have e : (vs ++ [p]).getD i default = vs.getD i default := by rw [List.getD_eq_getElem?_getD, List.getElem?_append_left hi, ← List.getD_eq_getElem?_getD]
    rw [e]
    exact D.eqv_refl _
  · show D.eqv (g 0 j) (((vs ++ [p]).getD vs.length default).at j)
    rw [List.getD_eq_getElem?_getD, List.getElem?_append_right (Nat.le_refl _), Nat.sub_self]
    exact hg j hj
theorem eqPl (p : Place) : ∀ j, j < 2 → D.eqv (rowOf 2 [I p.X, I p.Y] 0 j) (p.at j)
  | 0, _ => ⟨rfl, rfl⟩
  | 1, _ => ⟨rfl, rfl⟩
@[irreducible] def placesE (l : List Half) : List Place × Int := if checkL l = 0 then if cornersL l = [] then ([], 9) else (placesTo (allL l) 49, 0) else ([], checkL l)
theorem s_Places (l : List Half) : Spec PP 6 [slH l] [slP (placesE l).1, N (placesE l).2] := by
  refine spec_at Try.func6 rfl (by kernel_rfl) rfl ?_
  refine CallSt.pure (s_Check l) rfl rfl ?_
  refine Split.by (fun h1 => ?_) (fun h1 => ?_)
  · have h1 : checkL l ≠ 0 := by simpa using h1
    have e : placesE l = ([], checkL l) := by unfold placesE; rw [if_neg h1]
    rw [e]
    exact ⟨⟨_, _, _, _, rfl, rfl, .inl rfl⟩, rtI rfl rfl, trivial⟩
  · have h1 : checkL l = 0 := by simpa using h1
    obtain ⟨n1, n2, n3⟩ := checkL_ok h1
    refine CallSt.ro (s_corners l n3 (by omega)) rfl rfl ?_
    refine Split.by (fun h2 => ?_) (fun h2 => ?_)
    · have h2 : cornersL l = [] := by
        have : (cornersL l).length = 0 := by simpa using h2
        exact List.length_eq_zero_iff.1 this
      have e : placesE l = ([], 9) := by unfold placesE; rw [if_pos h1, if_pos h2]
      rw [e]
      exact ⟨⟨_, _, _, _, rfl, rfl, .inl rfl⟩, rtI rfl rfl, trivial⟩
    · have h2 : cornersL l ≠ [] := fun hh => by rw [hh] at h2; cases h2
      have e : placesE l = (placesTo (allL l) 49, 0) := by unfold placesE; rw [if_pos h1, if_neg h2]
      have hall := allL_ok n3
      have hlen := allL_len l
      refine CallSt.ro (s_all l (by omega)) rfl rfl ?_
      refine LoopOb.of (σ := Nat) (fun y => ([(5, avOf (slN (allL l))), (6, .own 6), (20, .d (I y))], [(6, .row 29 2 (placesTo (allL l) y).length (rowPl (placesTo (allL l) y)))])) (fun y => y ≤ 49) (fun y => 49 - y) 0
        ⟨rfl, ⟨obR rfl ⟨by rw [placesTo_zero]; rfl, .inl rfl⟩, trivial⟩, avR _ rfl, avQ rfl, avR _ rfl, trivial⟩ (Nat.zero_le _) fun y hy => ?_
      refine Split.by (fun h3 => ?_) (fun h3 => ?_)
      · have h3 : y < 49 := by have := dT h3; omega
        have ht := placesTo_len (allL l) y
        refine LoopOb.of (σ := Nat) (fun x => ([(5, avOf (slN (allL l))), (6, .own 6), (7, .d (I y)), (20, .d (I y)), (23, .d (I x))], [(6, .row 29 2 (placesTo (allL l) y ++ placesRow (allL l) y x).length (rowPl (placesTo (allL l) y ++ placesRow (allL l) y x)))])) (fun x => x ≤ 49) (fun x => 49 - x) 0
          ⟨rfl, ⟨obR rfl (by rw [placesRow_zero, List.append_nil]; exact D.eqv_refl _), trivial⟩, avR _ rfl, avQ rfl, avR _ rfl, avR _ rfl, avR _ rfl, trivial⟩ (Nat.zero_le _) fun x hx => ?_
        refine Split.by (fun h4 => ?_) (fun h4 => ?_)
        · have h4 : x < 49 := by have := dT h4; omega
          have hr := placesRow_len (allL l) y x
          have hb : (placesTo (allL l) y ++ placesRow (allL l) y x).length ≤ 5000 := by rw [List.length_append]; omega
          refine CallSt.pure (s_outside (allL l) ⟨x, y, 1⟩ hall (okC_xy (by omega) (by omega)) (by omega)) rfl rfl ?_
          refine Split.by (fun h5 => ?_) (fun h5 => ?_)
          · have h5 : inP (allL l) x y = true := h5
            refine ⟨⟨.inr rfl, by unfold maxLen; omega, by show ((placesTo (allL l) y ++ placesRow (allL l) y x).length + 1) * 16 ≤ 140737488355328; omega⟩, ?_⟩
            refine ⟨inI64 (by omega) (by omega), ?_⟩
            refine ⟨x + 1, ⟨rfl, ⟨obR rfl ?_, trivial⟩, avR _ rfl, avQ rfl, avR _ rfl, avR _ rfl, avI rfl rfl, trivial⟩, h4, ?_⟩
            · rw [placesRow_succ, if_pos h5, ← List.append_assoc]
              exact pushPl rfl (eqPl ⟨x, y⟩)
            · show 49 - (x + 1) < 49 - x
              omega
          · have h5 : inP (allL l) x y = false := h5
            refine ⟨inI64 (by omega) (by omega), ?_⟩
            refine ⟨x + 1, ⟨rfl, ⟨obR rfl ?_, trivial⟩, avR _ rfl, avQ rfl, avR _ rfl, avR _ rfl, avI rfl rfl, trivial⟩, h4, ?_⟩
            · rw [placesRow_succ, if_neg (by rw [h5]; decide), List.append_nil]
              exact D.eqv_refl _
            · show 49 - (x + 1) < 49 - x
              omega
        · have h4 : x = 49 := by have := dF h4; omega
          subst h4
          refine ⟨inI64 (by omega) (by omega), ?_⟩
          refine ⟨y + 1, ⟨rfl, ⟨obR rfl ?_, trivial⟩, avR _ rfl, avQ rfl, avI rfl rfl, trivial⟩, h3, ?_⟩
          · rw [placesTo_succ]
            exact D.eqv_refl _
          · show 49 - (y + 1) < 49 - y
            omega
      · have h3 : y = 49 := by have := dF h3; omega
        subst h3
        rw [e]
        exact ⟨⟨_, _, _, _, rfl, D.eqv_refl _⟩, rtI rfl rfl, trivial⟩
end Go.Pg
