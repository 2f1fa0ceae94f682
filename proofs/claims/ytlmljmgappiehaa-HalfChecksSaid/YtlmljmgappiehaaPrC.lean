/-
  At the seat: functions that change a row of the caller's own, iterators, loops over them; the sort of corners.
-/
import Derived.Test.YtlmljmgappiehaaPgY
import Derived.Test.YtlmljmgappiehaaPgS
import Derived.Test.YtlmljmgappiehaaPrB
import Derived.Test.YtlmljmgappiehaaPgL0
set_option linter.all false
set_option maxRecDepth 100000
namespace Go.Pg
open Go.Proofs Go.RowKit Go.Sort Go.Shelf

theorem hEN : ∀ t, EN.eq t = true → EqFact PP t := hE
theorem specR_at {f : FuncId} {fn : Func} {c : Code} (hf : PP.funcs[f]? = some fn) (hb : fn.body = some c) (hq : ((fn.name == "runtime.NumGoroutine") || !(codeN fn.ntmps c && Nat.ble fn.ntmps 4294967296)) = false)
    {pre post res : List V1} {e k n : Nat} {g g' : Nat → Nat → D} (hfl : ∀ i, i < n → ∀ j, j < k → (g' i j).flat = true) (hrf : res.all V1.flat = true) (hsz : Nat.ble (pre.length + 1 + post.length) fn.ntmps = true)
    (h : ∀ v, awp PP TTab EN c (St.of (rowSlots pre post v) [(pre.length, .row e k n g)]) (retR TTab fn.results.toList pre.length v e k n g' res)) : SpecR PP f pre post e k n g g' res := by
  simp only [Bool.or_eq_false_iff, Bool.not_eq_false', Bool.and_eq_true] at hq
  exact specR_of hT hEN hM hf hb hq.1 hq.2.1 hfl hrf (Nat.le_of_ble_eq_true hsz) (Nat.le_of_ble_eq_true hq.2.2) h
theorem specT_at {f : FuncId} {fn : Func} {c : Code} (hf : PP.funcs[f]? = some fn) (hb : fn.body = some c) (hq : ((fn.name == "runtime.NumGoroutine") || !(codeN fn.ntmps c && Nat.ble fn.ntmps 4294967296)) = false)
    {pre post : List V1} {e k n n' : Nat} {g g' : Nat → Nat → D} (hfl : ∀ i, i < n' → ∀ j, j < k → (g' i j).flat = true) (hsz : Nat.ble (pre.length + 1 + post.length) fn.ntmps = true)
    (h : ∀ v, awp PP TTab EN c (St.of (rowSlots pre post v) [(pre.length, .row e k n g)]) (retKO fn.results.toList e k n' g')) : SpecT PP f pre post e k n g n' g' := by
  simp only [Bool.or_eq_false_iff, Bool.not_eq_false', Bool.and_eq_true] at hq
  exact specT_of hT hEN hM hf hb hq.1 hq.2.1 hfl (Nat.le_of_ble_eq_true hsz) (Nat.le_of_ble_eq_true hq.2.2) h
/-- The evaluator's word for the walk of an iterator. -/
def EY {τ : Type} (xs : List τ) (enc : τ → List V1) (l : Nat) : Env := ⟨ET, false, l, fun n vs => ∃ x, xs[n]? = some x ∧ vs = enc x, true⟩
theorem seqC_at {f : FuncId} {fn : Func} {c : Code} (hf : PP.funcs[f]? = some fn) (hb : fn.body = some c) (hq : ((fn.name == "runtime.NumGoroutine") || !(codeN fn.ntmps c && Nat.ble fn.ntmps 4294967296)) = false) (hres : fn.results.toList = [])
    {m : Nat} {cap : Nat → D} (hsz : Nat.ble (m + 1) fn.ntmps = true) {τ : Type} (enc : τ → List V1) {encV : τ → List Value} (henc : ∀ x (w : World) ok us, All2 (Rep1 w ok) (enc x) us → us = encV x) (xs : List τ)
    (h : ∀ l, awp PP TTab (EY xs enc l) c (St.of ((G, .gho (some 0)) :: (0, .yl l) :: argSlots 1 ((List.range m).map fun j => .d (cap j))) []) (retY xs.length)) : SeqC PP f m cap encV xs := by
  simp only [Bool.or_eq_false_iff, Bool.not_eq_false', Bool.and_eq_true] at hq
  exact seqC_of hT (eq := ET) hE hM hf hb hq.1 hq.2.1 hres (Nat.le_of_ble_eq_true hq.2.2) (Nat.le_of_ble_eq_true hsz) enc henc xs h
theorem CodeOb.rangeAt {K : KK} {s : St} {fo : Operand} {ps : Array Tmp} {asg body : Code} {g m : Nat} {cap : Nat → D} {τ : Type} {encV : τ → List Value} {xs : List τ} (hseq : SeqC PP g m cap encV xs) (hc : callee (ev s fo) = some (g, (List.range m).map fun j => AV.d (cap j)))
    (enc : τ → List V1) (henc : ∀ x (w : World) ok, All2 (Rep1 w ok) (enc x) (encV x)) (hps : ∀ x, (enc x).length = ps.size) (hnd : ps.toList.Nodup)
    (sl : List (Nat × AV)) (rc : List (Nat × Nat)) (ob : List τ → List (Nat × Ob)) (hsl : okSl sl = true) (hob : ∀ pre, okOb sl rc (ob pre) = true) (hw : Weak s sl (ob []))
    {Iv : List τ → Prop} (hI0 : Iv [])
    (hbody : ∀ (v : Nat → Value) pre x, pre ++ [x] <+: xs → Iv pre → awp PP TTab EN asg (St.of (psl ps.toList (enc x) ++ pinS v sl) (ob pre)) (Ka PP TTab EN K sl rc v ob Iv body pre x))
    (hend : Iv xs → K .normal (St.of sl (ob xs))) : CodeOb EN.dr EN.it PP (.rangeFunc fo ps asg body) s K :=
  CodeOb.range hT hEN hM hseq hc enc henc hps hnd sl rc ob hsl hob hw hI0 hbody hend
section
variable {s : St} {o : Oper} {fo : Operand} {f : FuncId} {K : St → Prop} {args : List Operand}
/-- A call of yield, at the n-th value. -/
theorem CallSt.yd {τ : Type} {xs : List τ} {enc : τ → List V1} {l : Nat} {d n : Nat} {x : τ} (sl : List (Nat × AV)) (hd : o.dst = some d) (hf : ev s fo = .yl l) (hg : s.sl G = .gho (some n)) (hG : look sl G = none) (hw : Weak s sl []) (hx : xs[n]? = some x) (hv : toV1s s (args.map (ev s)) = some (enc x))
    (hno : (args.map (ev s)).all (fun v => !v.isOwn) = true) (k1 : K ((St.of ((G, .gho (some (n + 1))) :: sl) []).put d (.d (.bool true)))) (k2 : K ((St.of ((G, .gho none) :: stillS sl) []).put d (.d (.bool false)))) : CallSt (EY xs enc l) PP s o fo args K := by
  rw [CallSt_iff]
  exact .inr (.inr (.inr ⟨⟨n, d, sl, _, hd, hf, hg, hG, hw, hv, hno, ⟨x, hx, rfl⟩, k1, k2⟩⟩))
/-- A call that changes an own row in place. -/
theorem CallSt.rw' {args : Array Operand} {at' : Array TypeId} (hop : o.op = .call { callee := .value fo, args, argTypes := at' }) {pre post res : List V1} {i e k n : Nat} {g g' : Nat → Nat → D} (h : SpecR PP f pre post e k n g g' res)
    (ha : RowArgs s fo args.toList f pre i post) (hi : s.ob i = some (.row e k n g)) (hk : K ((s.setOb i (some (.row e k n g'))).putO o.dst (resAV res))) : CallSt EN PP s o fo args.toList K := CallSt.row rfl hop h ha hi hk
theorem CallSt.tk {args : Array Operand} {at' : Array TypeId} (hop : o.op = .call { callee := .value fo, args, argTypes := at' }) {pre post : List V1} {i e k n n' : Nat} {g g' : Nat → Nat → D} (h : SpecT PP f pre post e k n g n' g')
    (ha : RowArgs s fo args.toList f pre i post) (hi : s.ob i = some (.row e k n g)) (hk : K (remk s i (.row e k n' g') o.dst)) : CallSt EN PP s o fo args.toList K := CallSt.take rfl hop h ha hi hk
end

/-! ### Small words -/
section
variable {s : St} {ob : Nat → Option Ob} {v : AV}
theorem avQ {x : AV} (h : v = x) : AVle s ob v x := by subst h; exact AVle_refl s ob v
theorem avG {m m' : Nat} (h : v = .gho (some m)) (e : m = m') : AVle s ob v (.gho (some m')) := by subst h; subst e; exact AVle_refl s ob _
theorem avRo {m m' : Nat} {h h' : Nat → D} (e : v = .roe m h) (q : D.eqv (.ptr m h) (.ptr m' h')) : AVle s ob v (.roe m' h') := by subst e; exact q
theorem avBx {i m : Nat} {h : Nat → D} {cs : List AV} {xs : List D} (e : v = .box i 0) (h1 : s.ob i = some (.box cs)) (h2 : allD cs = some xs) (h3 : ob i = none) (q : D.eqv (.ptr (xs.length - 0) fun j => getD' xs (0 + j)) (.ptr m h)) : AVle s ob v (.roe m h) := by
  subst e; exact ⟨h3, cs, xs, h1, h2, q⟩
theorem avOw {i e k n : Nat} {f : Nat → Nat → D} {y : D} (h0 : v = .own i) (h1 : s.ob i = some (.row e k n f)) (h2 : ob i = none) (q : D.eqv (.slc k n f) y) : AVle s ob v (.d y) := by subst h0; exact ⟨h2, e, k, n, f, h1, q⟩
end
theorem eqv4 {m : Nat} {x0 x1 x2 x3 : D} {h : Nat → D} (hm : m = 4) (h0 : D.eqv x0 (h 0)) (h1 : D.eqv x1 (h 1)) (h2 : D.eqv x2 (h 2)) (h3 : D.eqv x3 (h 3)) : D.eqv (.ptr ([x0, x1, x2, x3].length - 0) fun j => getD' [x0, x1, x2, x3] (0 + j)) (.ptr m h) := by
  subst hm
  refine ⟨rfl, fun j hj => ?_⟩
  match j, hj with
  | 0, _ => exact h0
  | 1, _ => exact h1
  | 2, _ => exact h2
  | 3, _ => exact h3
/-! ### The order of corners -/
theorem ord_spec (a b : Int) : (ord a b = -1 ∧ a < b) ∨ (ord a b = 1 ∧ b < a) ∨ (ord a b = 0 ∧ a = b) := by
  unfold ord
  by_cases h1 : a < b
  · exact .inl ⟨if_pos h1, h1⟩
  · by_cases h2 : b < a
    · exact .inr (.inl ⟨by rw [if_neg h1, if_pos h2], h2⟩)
    · exact .inr (.inr ⟨by rw [if_neg h1, if_neg h2], by omega⟩)
/-- Corner p lies ahead of q. -/
def ltC (p q : Corner) : Prop := p.X * q.Den < q.X * p.Den ∨ (p.X * q.Den = q.X * p.Den ∧ p.Y * q.Den < q.Y * p.Den)
instance (p q : Corner) : Decidable (ltC p q) := by unfold ltC; infer_instance
theorem cmpC_lt {p q : Corner} (hp : valid p = true) (hq : valid q = true) : cmpC p q < 0 ↔ ltC p q := by
  unfold cmpC ltC
  rw [if_pos ⟨hp, hq⟩]
  simp only [orL]
  rcases ord_spec (p.X * q.Den) (q.X * p.Den) with ⟨e, h⟩ | ⟨e, h⟩ | ⟨e, h⟩ <;> rcases ord_spec (p.Y * q.Den) (q.Y * p.Den) with ⟨e', h'⟩ | ⟨e', h'⟩ | ⟨e', h'⟩ <;> rw [e, e'] <;> simp <;> omega
/-- A fraction's order goes on. -/
theorem frac_trans {a b c x y z : Int} (hy : 0 < y) (hx : 0 < x) (hz : 0 < z) (h1 : a * y ≤ b * x) (h2 : b * z ≤ c * y) : a * z ≤ c * x := by
  have e1 : a * y * z ≤ b * x * z := Int.mul_le_mul_of_nonneg_right h1 (by omega)
  have e2 : b * z * x ≤ c * y * x := Int.mul_le_mul_of_nonneg_right h2 (by omega)
  have e3 : (a * z) * y ≤ (c * x) * y := by
    have q1 : a * y * z = a * z * y := by rw [Int.mul_assoc, Int.mul_comm y z, ← Int.mul_assoc]
    have q2 : b * x * z = b * z * x := by rw [Int.mul_assoc, Int.mul_comm x z, ← Int.mul_assoc]
    have q3 : c * y * x = c * x * y := by rw [Int.mul_assoc, Int.mul_comm y x, ← Int.mul_assoc]
    omega
  exact Int.le_of_mul_le_mul_right e3 hy
theorem frac_eq {a b c x y z : Int} (hy : 0 < y) (hx : 0 < x) (hz : 0 < z) (h1 : a * y = b * x) (h2 : b * z = c * y) : a * z = c * x :=
  Int.le_antisymm (frac_trans hy hx hz (Int.le_of_eq h1) (Int.le_of_eq h2)) (frac_trans hy hz hx (Int.le_of_eq h2.symm) (Int.le_of_eq h1.symm))
/-- p is at most q. -/
def leC (p q : Corner) : Prop := p.X * q.Den < q.X * p.Den ∨ (p.X * q.Den = q.X * p.Den ∧ p.Y * q.Den ≤ q.Y * p.Den)
theorem not_ltC {p q : Corner} : ¬ ltC p q ↔ leC q p := by unfold ltC leC; omega
theorem leC_trans {p q r : Corner} (hp : 0 < p.Den) (hq : 0 < q.Den) (hr : 0 < r.Den) (h1 : leC p q) (h2 : leC q r) : leC p r := by
  have hx := frac_trans (a := p.X) (b := q.X) (c := r.X) hq hp hr (by unfold leC at h1; omega) (by unfold leC at h2; omega)
  unfold leC at *
  by_cases hlt : p.X * r.Den < r.X * p.Den
  · exact .inl hlt
  · have hE : p.X * r.Den = r.X * p.Den := by omega
    -- both are equalities
    have e1 : p.X * q.Den = q.X * p.Den := by
      have := frac_trans (a := q.X) (b := r.X) (c := p.X) hr hq hp (by omega) (by omega)
      omega
    have e2 : q.X * r.Den = r.X * q.Den := by
      have := frac_trans (a := r.X) (b := p.X) (c := q.X) hp hr hq (by omega) (by omega)
      omega
    have y1 : p.Y * q.Den ≤ q.Y * p.Den := by omega
    have y2 : q.Y * r.Den ≤ r.Y * q.Den := by omega
    exact .inr ⟨hE, frac_trans hq hp hr y1 y2⟩
theorem leC_total (p q : Corner) : leC p q ∨ leC q p := by unfold leC; omega
theorem valid_gcd {p : Corner} (h : valid p = true) : Nat.gcd (Nat.gcd p.X.natAbs p.Y.natAbs) p.Den.natAbs = 1 := by
  unfold valid at h
  simp only [Bool.and_eq_true, beq_iff_eq] at h
  have := h.2
  simp only [gcdL, List.foldl_cons, List.foldl_nil, Nat.gcd_zero_left] at this
  exact_mod_cast this
/-- Corners that are neither ahead of each other are one. -/
theorem leC_antisymm {p q : Corner} (hp : valid p = true) (hq : valid q = true) (h1 : leC p q) (h2 : leC q p) : p = q := by
  have dp := (okC_of hp).d
  have dq := (okC_of hq).d
  have ex : p.X * q.Den = q.X * p.Den := by unfold leC at *; omega
  have ey : p.Y * q.Den = q.Y * p.Den := by unfold leC at *; omega
  have nx : p.X.natAbs * q.Den.natAbs = q.X.natAbs * p.Den.natAbs := by rw [← Int.natAbs_mul, ← Int.natAbs_mul, ex]
  have ny : p.Y.natAbs * q.Den.natAbs = q.Y.natAbs * p.Den.natAbs := by rw [← Int.natAbs_mul, ← Int.natAbs_mul, ey]
  have g1 : Nat.gcd (Nat.gcd (p.X.natAbs * q.Den.natAbs) (p.Y.natAbs * q.Den.natAbs)) (p.Den.natAbs * q.Den.natAbs) = q.Den.natAbs := by
    rw [Nat.gcd_mul_right, Nat.gcd_mul_right, valid_gcd hp, Nat.one_mul]
  have g2 : Nat.gcd (Nat.gcd (q.X.natAbs * p.Den.natAbs) (q.Y.natAbs * p.Den.natAbs)) (q.Den.natAbs * p.Den.natAbs) = p.Den.natAbs := by
    rw [Nat.gcd_mul_right, Nat.gcd_mul_right, valid_gcd hq, Nat.one_mul]
  rw [nx, ny, Nat.mul_comm p.Den.natAbs, g2] at g1
  have ed : p.Den = q.Den := by omega
  have hx : p.X = q.X := by
    rw [ed] at ex
    exact Int.eq_of_mul_eq_mul_right (by omega) ex
  have hy : p.Y = q.Y := by
    rw [ed] at ey
    exact Int.eq_of_mul_eq_mul_right (by omega) ey
  cases p; cases q; simp_all
/-- A corner within the limits, in lowest terms. -/
abbrev VC := { p : Corner // valid p = true }
instance : Inhabited VC := ⟨⟨⟨0, 0, 1⟩, by unfold valid within; decide⟩⟩
def VI : Ints VC 3 where
  lst p := [p.1.X, p.1.Y, p.1.Den]
  len _ := rfl
  at_ p := p.1.at
  hat p j hj := by
    match j, hj with
    | 0, _ => rfl
    | 1, _ => rfl
    | 2, _ => rfl
def cmpV (p q : VC) : Int := cmpC p.1 q.1
theorem cmpV_lt (p q : VC) : ltOf cmpV p q = decide (ltC p.1 q.1) := by
  unfold ltOf cmpV
  exact decide_eq_decide.2 (cmpC_lt p.2 q.2)
theorem VC.den (p : VC) : 0 < p.1.Den := by have := (okC_of p.2).d; omega
theorem swoV : SWO (ltOf cmpV) where
  irrefl x := by rw [cmpV_lt]; simp [ltC]
  trans x y z h1 h2 := by
    rw [cmpV_lt] at *
    simp only [decide_eq_true_eq] at *
    refine Classical.not_not.1 fun hn => ?_
    rw [not_ltC] at hn
    -- z ≤ x < y: then z ≤ y fails with y < z
    have h3 : leC x.1 y.1 := by unfold ltC at h1; unfold leC; omega
    exact (not_ltC.2 (leC_trans z.den x.den y.den hn h3)) h2
  ntrans x y z h1 h2 := by
    rw [cmpV_lt] at *
    simp only [decide_eq_false_iff_not] at *
    rw [not_ltC] at *
    exact leC_trans z.den y.den x.den h2 h1
theorem totV (x y : VC) (h1 : ltOf cmpV x y = false) (h2 : ltOf cmpV y x = false) : x = y := by
  rw [cmpV_lt] at *
  simp only [decide_eq_false_iff_not] at *
  rw [not_ltC] at *
  exact Subtype.ext (leC_antisymm x.2 y.2 h2 h1)
theorem aggC : ∀ w, (isAgg (Try.sortC_ren.t 24)).run PP w = .ok true w := fun _ => by kernel_rfl
theorem sizC : ∀ w, (Go.sizeOf (Try.sortC_ren.t 24)).run PP w = .ok 3 w := fun _ => by kernel_rfl
theorem r_sortV (l : List VC) (hn : l.length ≤ 1000000) : SpecR PP 55 [] [.d (.fn 56)] 24 3 l.length (VI.row l) (VI.row (l.mergeSort fun x y => !(ltOf cmpV) y x)) [] :=
  specR_sort VI Try.sortC ⟨_, Try.func55, by kernel_rfl, by kernel_rfl⟩ aggC sizC cmpV swoV totV 56 (fun x y => d_Compare x.1 y.1) 24 l hn
end Go.Pg
