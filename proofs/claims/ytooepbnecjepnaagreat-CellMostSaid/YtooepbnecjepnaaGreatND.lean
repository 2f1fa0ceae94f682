/- Texts joined and shortened by program. -/
import Derived.Test.YtooepbnecjepnaaGreatN5
import Derived.Test.YtooepbnecjepnaaGreatN4
import Derived.Test.YtooepbnecjepnaaGreatNC
set_option maxHeartbeats 4000000
set_option linter.all false
set_option maxRecDepth 100000
namespace Go.Pg
open Go.Proofs Go.RowKit
@[irreducible] def cmpC (p q : Corner) : Int := if valid p = true /\ valid q = true then orL [ord (p.X * q.Den) (q.X * p.Den), ord (p.Y * q.Den) (q.Y * p.Den)] else 0
theorem zko (p q : Corner) : SpecD PP 97 [p.v, q.v] [N (cmpC p q)] := by
 refine zaC Tryz.func97 rfl (by kernel_rfl) rfl ?_
 by_cases hp : valid p = true
 ·by_cases hq : valid q = true
  ·have gp := zcK hp
   have gq := zcK hq
   have h1 := mulB gp.x (b := q.Den) (y := 2097152) (by have := gq.d; omega)
   have h2 := mulB gq.x (b := p.Den) (y := 2097152) (by have := gp.d; omega)
   have h3 := mulB gp.y (b := q.Den) (y := 2097152) (by have := gq.d; omega)
   have h4 := mulB gq.y (b := p.Den) (y := 2097152) (by have := gp.d; omega)
   refine cP (zdC p) rfl rfl ?_
   rw [hp]
   refine sF ?_
   refine cP (zdC q) rfl rfl ?_
   rw [hq]
   refine sF (sF ?_)
   refine oL (List.range 25) (FzOb.no ?_)
   refine ⟨i6, ⟨i6, ?_⟩⟩
   refine oP (zgR _ _) rfl rfl ?_
   refine ⟨i6, ⟨i6, ?_⟩⟩
   refine oP (zgR _ _) rfl rfl ?_
   refine CallOb.pureE (d_or [_, _] ?_) rfl (zhK rfl rfl) rfl ?_
   ·exact Nat.le_of_ble_eq_true rfl
   refine r1I rfl ?_
   unfold cmpC
   rw [if_pos ⟨hp, hq⟩]
  ·refine cP (zdC p) rfl rfl ?_
   rw [hp]
   refine sF ?_
   refine cP (zdC q) rfl rfl ?_
   rw [Bool.eq_false_iff.2 hq]
   refine sF (sT (r1I rfl ?_))
   unfold cmpC
   rw [if_neg fun h => hq h.2]
 ·refine cP (zdC p) rfl rfl ?_
  rw [Bool.eq_false_iff.2 hp]
  refine sT (sT (sT (r1I rfl ?_)))
  unfold cmpC
  rw [if_neg fun h => hp h.1]
@[irreducible] def det (g h : Half) : Int := g.A * h.B - h.A * g.B
@[irreducible] def lowest (x y d : Int) : Corner := let g : Int := if d < 0 then -gcdL [x, y, d] else gcdL [x, y, d]; ⟨x.tdiv g, y.tdiv g, d.tdiv g⟩
@[irreducible] def crossing (g h : Half) : Corner := lowest (g.C * h.B - h.C * g.B) (g.A * h.C - h.A * g.C) (det g h)
abbrev Form := Place
structure okF (f : Form) : Prop where
  x : -1000 <= f.X /\ f.X <= 1000
  y : -1000 <= f.Y /\ f.Y <= 1000
@[irreducible] def value (f : Form) (p : Corner) : Frac := let n := f.X * p.X + f.Y * p.Y; let g : Int := gcdL [n, p.Den]; ⟨n.tdiv g, p.Den.tdiv g⟩
@[irreducible] def back (h : Half) : Half × Int := if fit h = true then (⟨-h.A, -h.B, -h.C⟩, 0) else (⟨0, 0, 0⟩, 1)
theorem app1 {k n : Nat} {f f' g : Nat -> Nat -> D} (hf : ∀ i, i < n -> ∀ j, j < k -> D.eqv (f i j) (f' i j)) (hg : ∀ j, j < k -> D.eqv (g 0 j) (f' n j)) : D.eqv (.slc k (n + 1) (appRow n f g)) (.slc k (n + 1) f') := by
 refine ⟨rfl, .inr ⟨rfl, fun i hi j hj => ?_⟩⟩
 unfold appRow
 by_cases h : i < n
 ·rw [if_pos h]; exact hf i h j hj
 ·obtain rfl : i = n := by omega
  rw [if_neg h, Nat.sub_self]; exact hg j hj
end Go.Pg
namespace Go.Pg
open Go.Proofs Go.RowKit Go.Sort Go.Shelf
theorem ord_spec (a b : Int) : (ord a b = -1 /\ a < b) \/ (ord a b = 1 /\ b < a) \/ (ord a b = 0 /\ a = b) := by
 unfold ord
 by_cases h1 : a < b
 ·exact .inl ⟨if_pos h1, h1⟩
 ·by_cases h2 : b < a
  ·exact .inr (.inl ⟨by rw [if_neg h1, if_pos h2], h2⟩)
  ·exact .inr (.inr ⟨by rw [if_neg h1, if_neg h2], by omega⟩)
def ltC (p q : Corner) : Prop := p.X * q.Den < q.X * p.Den \/ (p.X * q.Den = q.X * p.Den /\ p.Y * q.Den < q.Y * p.Den)
instance (p q : Corner) : Decidable (ltC p q) := by unfold ltC; infer_instance
theorem zoW {p q : Corner} (hp : valid p = true) (hq : valid q = true) : cmpC p q < 0 ↔ ltC p q := by
 unfold cmpC ltC
 rw [if_pos ⟨hp, hq⟩]
 simp only [orL]
 rcases ord_spec (p.X * q.Den) (q.X * p.Den) with ⟨e, h⟩ | ⟨e, h⟩ | ⟨e, h⟩ <;> rcases ord_spec (p.Y * q.Den) (q.Y * p.Den) with ⟨e', h'⟩ | ⟨e', h'⟩ | ⟨e', h'⟩ <;> rw [e, e'] <;> simp <;> omega
theorem zbM {a b c x y z : Int} (hy : 0 < y) (hx : 0 < x) (hz : 0 < z) (h1 : a * y <= b * x) (h2 : b * z <= c * y) : a * z <= c * x := by
 have e1 : a * y * z <= b * x * z := Int.mul_le_mul_of_nonneg_right h1 (by omega)
 have e2 : b * z * x <= c * y * x := Int.mul_le_mul_of_nonneg_right h2 (by omega)
 have e3 : (a * z) * y <= (c * x) * y := by
  have q1 : a * y * z = a * z * y := by rw [Int.mul_assoc, Int.mul_comm y z, <- Int.mul_assoc]
  have q2 : b * x * z = b * z * x := by rw [Int.mul_assoc, Int.mul_comm x z, <- Int.mul_assoc]
  have q3 : c * y * x = c * x * y := by rw [Int.mul_assoc, Int.mul_comm y x, <- Int.mul_assoc]
  omega
 exact Int.le_of_mul_le_mul_right e3 hy
def leC (p q : Corner) : Prop := p.X * q.Den < q.X * p.Den \/ (p.X * q.Den = q.X * p.Den /\ p.Y * q.Den <= q.Y * p.Den)
theorem za7 {p q : Corner} : ¬ ltC p q ↔ leC q p := by unfold ltC leC; omega
theorem zcd {p q r : Corner} (hp : 0 < p.Den) (hq : 0 < q.Den) (hr : 0 < r.Den) (h1 : leC p q) (h2 : leC q r) : leC p r := by
 have hx := zbM (a := p.X) (b := q.X) (c := r.X) hq hp hr (by unfold leC at h1; omega) (by unfold leC at h2; omega)
 unfold leC at *
 by_cases hlt : p.X * r.Den < r.X * p.Den
 ·exact .inl hlt
 ·have hE : p.X * r.Den = r.X * p.Den := by omega
  have e1 : p.X * q.Den = q.X * p.Den := by
   have := zbM (a := q.X) (b := r.X) (c := p.X) hr hq hp (by omega) (by omega)
   omega
  have e2 : q.X * r.Den = r.X * q.Den := by
   have := zbM (a := r.X) (b := p.X) (c := q.X) hp hr hq (by omega) (by omega)
   omega
  have y1 : p.Y * q.Den <= q.Y * p.Den := by omega
  have y2 : q.Y * r.Den <= r.Y * q.Den := by omega
  exact .inr ⟨hE, zbM hq hp hr y1 y2⟩
theorem zjV (p q : Corner) : leC p q \/ leC q p := by unfold leC; omega
theorem zfm {p : Corner} (h : valid p = true) : Nat.gcd (Nat.gcd p.X.natAbs p.Y.natAbs) p.Den.natAbs = 1 := by
 unfold valid at h
 simp only [Bool.and_eq_true, beq_iff_eq] at h
 have := h.2
 simp only [gcdL, List.foldl_cons, List.foldl_nil, Nat.gcd_zero_left] at this
 exact_mod_cast this
theorem zcL {p q : Corner} (hp : valid p = true) (hq : valid q = true) (h1 : leC p q) (h2 : leC q p) : p = q := by
 have dp := (zcK hp).d
 have dq := (zcK hq).d
 have ex : p.X * q.Den = q.X * p.Den := by unfold leC at *; omega
 have ey : p.Y * q.Den = q.Y * p.Den := by unfold leC at *; omega
 have nx : p.X.natAbs * q.Den.natAbs = q.X.natAbs * p.Den.natAbs := by rw [<- Int.natAbs_mul, <- Int.natAbs_mul, ex]
 have ny : p.Y.natAbs * q.Den.natAbs = q.Y.natAbs * p.Den.natAbs := by rw [<- Int.natAbs_mul, <- Int.natAbs_mul, ey]
 have g1 : Nat.gcd (Nat.gcd (p.X.natAbs * q.Den.natAbs) (p.Y.natAbs * q.Den.natAbs)) (p.Den.natAbs * q.Den.natAbs) = q.Den.natAbs := by
  rw [Nat.gcd_mul_right, Nat.gcd_mul_right, zfm hp, Nat.one_mul]
 have g2 : Nat.gcd (Nat.gcd (q.X.natAbs * p.Den.natAbs) (q.Y.natAbs * p.Den.natAbs)) (q.Den.natAbs * p.Den.natAbs) = p.Den.natAbs := by
  rw [Nat.gcd_mul_right, Nat.gcd_mul_right, zfm hq, Nat.one_mul]
 rw [nx, ny, Nat.mul_comm p.Den.natAbs, g2] at g1
 have ed : p.Den = q.Den := by omega
 have hx : p.X = q.X := by
  rw [ed] at ex
  exact Int.eq_of_mul_eq_mul_right (by omega) ex
 have hy : p.Y = q.Y := by
  rw [ed] at ey
  exact Int.eq_of_mul_eq_mul_right (by omega) ey
 cases p; cases q; simp_all
abbrev VC := { p : Corner // valid p = true }
instance : Inhabited VC := ⟨⟨⟨0, 0, 1⟩, by unfold valid within; decide⟩⟩
def VI : Ints VC 3 where
  lst p := [p.1.X, p.1.Y, p.1.Den]
  len _ := rfl
  at_ p := p.1.at
  hat p j hj := by
    match j, hj with
    | 0, _ => rfl
    | 1, _ => rfl
    | 2, _ => rfl
def cmpV (p q : VC) : Int := cmpC p.1 q.1
theorem zbD (p q : VC) : ltOf cmpV p q = decide (ltC p.1 q.1) := by
 unfold ltOf cmpV
 exact decide_eq_decide.2 (zoW p.2 q.2)
theorem VC.den (p : VC) : 0 < p.1.Den := by have := (zcK p.2).d; omega
theorem swoV : SWO (ltOf cmpV) where
  irrefl x := by rw [zbD]; simp [ltC]
  trans x y z h1 h2 := by
    rw [zbD] at *
    simp only [decide_eq_true_eq] at *
    refine Classical.not_not.1 fun hn => ?_
    rw [za7] at hn
    have h3 : leC x.1 y.1 := by unfold ltC at h1; unfold leC; omega
    exact (za7.2 (zcd z.den x.den y.den hn h3)) h2
  ntrans x y z h1 h2 := by
    rw [zbD] at *
    simp only [decide_eq_false_iff_not] at *
    rw [za7] at *
    exact zcd z.den y.den x.den h2 h1
theorem totV (x y : VC) (h1 : ltOf cmpV x y = false) (h2 : ltOf cmpV y x = false) : x = y := by
 rw [zbD] at *
 simp only [decide_eq_false_iff_not] at *
 rw [za7] at *
 exact Subtype.ext (zcL x.2 y.2 h2 h1)
theorem aggC : ∀ w, (isAgg (Tryz.sortC_ren.t 24)).run PP w = .ok true w := fun _ => by kernel_rfl
theorem sizC : ∀ w, (Go.sizeOf (Tryz.sortC_ren.t 24)).run PP w = .ok 3 w := fun _ => by kernel_rfl
theorem znW (l : List VC) (hn : l.length <= 1000000) : SpecR PP 96 [] [.d (.fn 97)] 67 3 l.length (VI.row l) (VI.row (l.mergeSort fun x y => !(ltOf cmpV) y x)) [] :=
 zd0 VI Tryz.sortC ⟨_, Tryz.func96, by kernel_rfl, by kernel_rfl⟩ aggC sizC cmpV swoV totV 97 (fun x y => zko x.1 y.1) 67 l hn
abbrev Num.v (x : Num) : V1 := .agg [I x.n, I x.h.A, I x.h.B, I x.h.C]
def Num.val (x : Num) : Value := .agg #[.int .i64 x.n, .int .i64 x.h.A, .int .i64 x.h.B, .int .i64 x.h.C]
abbrev Uh (n : Int) : D := .int .u64 n
abbrev NU (n : Int) : V1 := .d (Uh n)
theorem zmr (a : Int) : SpecD PP 292 [NU a] [B false] := by
 refine zaC Tryz.func292 rfl (by kernel_rfl) rfl ?_
 refine r1B rfl ?_
 simp
theorem zqp (a b : Int) : SpecD PP 233 [NU a, NU b] [N (ord a b)] := by
 refine zaC Tryz.func233 rfl (by kernel_rfl) rfl ?_
 repeat' first
  | refine sT ?_
  | refine sF ?_
  | refine sB (fun _ => ?_) (fun _ => ?_)
  | refine cP (zmr _) rfl rfl ?_
  | refine r1I rfl ?_
 all_goals (unfold ord; simp_all)
 all_goals omega
theorem zmq (a b : Int) : SpecD PP 174 [NU a, NU b] [N (ord a b)] := by
 refine zaC Tryz.func174 rfl (by kernel_rfl) rfl ?_
 refine cP (zqp a b) rfl rfl ?_
 exact r1I rfl rfl
theorem zhf (a b : Int) : Spec PP 174 [NU a, NU b] [N (ord a b)] := (zmq a b).of
theorem zoS (x y : Nat) (hx : x < 18446744073709551616) (hy : y < 18446744073709551616) : SpecD PP 171 [NU x, NU y] [NU ((x * y / 18446744073709551616 : Nat) : Int), NU ((x * y % 18446744073709551616 : Nat) : Int)] :=
 zgg Tryz.mul64 ⟨_, Tryz.func171, by kernel_rfl, by kernel_rfl⟩ x y hx hy
def hiW (n : Int) : Int := ((n.natAbs / 18446744073709551616 : Nat) : Int)
def loW (n : Int) : Int := ((n.natAbs % 18446744073709551616 : Nat) : Int)
abbrev wide (n : Int) : V1 := .agg [I (ord n 0), Uh (hiW n), Uh (loW n)]
theorem zol (a b : Int) : ord a 0 * ord b 0 = ord (a * b) 0 := by
 unfold ord
 rcases Int.lt_trichotomy a 0 with h | h | h <;> rcases Int.lt_trichotomy b 0 with g | g | g
 ·have := Int.mul_pos_of_neg_of_neg h g; rw [if_pos h, if_pos g, if_neg (by omega), if_pos this]; rfl
 ·subst g; simp
 ·have := Int.mul_neg_of_neg_of_pos h g; rw [if_pos h, if_neg (by omega), if_pos g, if_pos this]; rfl
 ·subst h; simp
 ·subst h; simp
 ·subst h; simp
 ·have := Int.mul_neg_of_pos_of_neg h g; rw [if_neg (by omega), if_pos h, if_pos g, if_pos this]; rfl
 ·subst g; simp
 ·have := Int.mul_pos h g; rw [if_neg (by omega), if_pos h, if_neg (by omega), if_pos g, if_neg (by omega), if_pos this]; rfl
theorem absW {a : Int} (h : -9223372036854775807 <= a /\ a <= 9223372036854775807) : IntKind.u64.wrap (max a (-a)) = (a.natAbs : Int) := by
 have e : max a (-a) = (a.natAbs : Int) := by omega
 rw [e]
 show ((a.natAbs : Int) % 2 ^ 64) = _
 omega
theorem zfB (a b : Int) : -1 <= ord a b /\ ord a b <= 1 := by
 unfold ord; split
 ·omega
 ·split <;> omega
theorem zi7 (a b : Int) (ha : -9223372036854775807 <= a /\ a <= 9223372036854775807) (hb : -9223372036854775807 <= b /\ b <= 9223372036854775807) : Spec PP 89 [N a, N b] [wide (a * b)] := by
 refine sA Tryz.func89 ?_
 refine ⟨i6, ⟨i6, ?_⟩⟩
 refine CallSt.pureE (zoS a.natAbs b.natAbs (by omega) (by omega)).of rfl ⟨⟨rfl, absW ha⟩, ⟨rfl, absW hb⟩, trivial⟩ rfl ?_
 refine cP (zgk a 0) rfl rfl ?_
 refine cP (zgk b 0) rfl rfl ?_
 have h1 := zfB a 0
 have h2 := zfB b 0
 have h3 := mulB h1 h2
 refine ⟨i6, ?_⟩
 refine r1C rfl rfl rfl rfl rfl rfl (zkk (zol a b) ?_ ?_)
 ·unfold hiW; rw [Int.natAbs_mul]
 ·unfold loW; rw [Int.natAbs_mul]
theorem zom (a b c d : Nat) (hb : b < 18446744073709551616) (hd : d < 18446744073709551616) : orL [ord a c, ord b d] = ord (18446744073709551616 * a + b) (18446744073709551616 * c + d) := by
 simp only [orL]
 unfold ord
 rcases Nat.lt_trichotomy a c with h | h | h
 ·rw [if_pos (show (a : Int) < c by omega), if_neg (by decide), if_pos (by omega)]
 ·subst h
  rw [if_neg (show ¬ (a : Int) < a by omega), if_neg (show ¬ (a : Int) < a by omega), if_pos rfl]
  rcases Nat.lt_trichotomy b d with g | g | g
  ·rw [if_pos (show (b : Int) < d by omega), if_neg (by decide), if_pos (by omega)]
  ·subst g; simp
  ·rw [if_neg (show ¬ (b : Int) < d by omega), if_pos (show (d : Int) < b by omega), if_neg (by decide), if_neg (by omega), if_pos (by omega)]
 ·rw [if_neg (show ¬ (a : Int) < c by omega), if_pos (show (c : Int) < a by omega), if_neg (by decide), if_neg (by omega), if_pos (by omega)]
theorem zon (m n : Int) : orL [ord (hiW m) (hiW n), ord (loW m) (loW n)] = ord m.natAbs n.natAbs := by
 have h1 := Nat.div_add_mod m.natAbs 18446744073709551616
 have h2 := Nat.div_add_mod n.natAbs 18446744073709551616
 unfold hiW loW
 rw [zom _ _ _ _ (Nat.mod_lt _ (by decide)) (Nat.mod_lt _ (by decide))]
 congr 1 <;> omega
theorem zhx (m n : Int) : (if ord m 0 = ord n 0 then ord m 0 * orL [ord (hiW m) (hiW n), ord (loW m) (loW n)] else ord (ord m 0) (ord n 0)) = ord m n := by
 rw [zon]
 rcases Int.lt_trichotomy m 0 with h | h | h <;> rcases Int.lt_trichotomy n 0 with g | g | g
 all_goals
  first
   | have e1 : ord m 0 = -1 := by unfold ord; rw [if_pos h]
   | have e1 : ord m 0 = 0 := by subst h; unfold ord; rfl
   | have e1 : ord m 0 = 1 := by unfold ord; rw [if_neg (by omega), if_pos h]
  first
   | have e2 : ord n 0 = -1 := by unfold ord; rw [if_pos g]
   | have e2 : ord n 0 = 0 := by subst g; unfold ord; rfl
   | have e2 : ord n 0 = 1 := by unfold ord; rw [if_neg (by omega), if_pos g]
  rw [e1, e2]
  unfold ord
  (repeat' split) <;> omega
theorem zpw (m n : Int) : Spec PP 90 [wide m, wide n] [N (ord m n)] := by
 refine sA Tryz.func90 ?_
 apply sB <;> intro h1
 ·have h1 : ord m 0 ≠ ord n 0 := by simpa using h1
  refine cP (zgk _ _) rfl rfl ?_
  refine r1I rfl ?_
  rw [<- zhx m n, if_neg h1]
 ·have h1 : ord m 0 = ord n 0 := by simpa using h1
  refine oL (List.range 16) (FzOb.no ?_)
  refine oP (zhf _ _) rfl rfl ?_
  refine oP (zhf _ _) rfl rfl ?_
  refine CallOb.pureE (s_or [_, _] ?_) rfl (zhK rfl rfl) rfl ?_
  ·exact Nat.le_of_ble_eq_true rfl
  have hb : ∀ x y : Int, (-1 <= x /\ x <= 1) -> (-1 <= y /\ y <= 1) -> -1 <= orL [x, y] /\ orL [x, y] <= 1 := fun x y hx hy => by
   simp only [orL]; split
   ·split <;> omega
   ·omega
  have h3 := mulB (zfB m 0) (hb _ _ (zfB (hiW m) (hiW n)) (zfB (loW m) (loW n)))
  refine ⟨i6, ?_⟩
  refine r1I rfl ?_
  rw [<- zhx m n, if_pos h1]
def dXh (a b : Corner) : Int := b.X * a.Den - a.X * b.Den
def dYh (a b : Corner) : Int := b.Y * a.Den - a.Y * b.Den
@[irreducible] def turn (a b c : Corner) : Int := ord (dXh a b * dYh a c) (dYh a b * dXh a c)
theorem zpv (a b c : Corner) (ha : okC a) (hb : okC b) (hc : okC c) : Spec PP 183 [a.v, b.v, c.v] [N (turn a b c)] := by
 have da := ha.d
 have db := hb.d
 have dc := hc.d
 have h1 := mulB hb.x (b := a.Den) (y := 2097152) (by omega)
 have h2 := mulB ha.x (b := b.Den) (y := 2097152) (by omega)
 have h3 := mulB hb.y (b := a.Den) (y := 2097152) (by omega)
 have h4 := mulB ha.y (b := b.Den) (y := 2097152) (by omega)
 have h5 := mulB hc.x (b := a.Den) (y := 2097152) (by omega)
 have h6 := mulB ha.x (b := c.Den) (y := 2097152) (by omega)
 have h7 := mulB hc.y (b := a.Den) (y := 2097152) (by omega)
 have h8 := mulB ha.y (b := c.Den) (y := 2097152) (by omega)
 refine sA Tryz.func183 ?_
 refine oL (List.range 24) (FzOb.no ?_)
 refine ⟨i6, ⟨i6, ⟨i6, ⟨i6, ⟨i6, ⟨i6, ?_⟩⟩⟩⟩⟩⟩
 refine oL (List.range 24) (FzOb.no ?_)
 refine ⟨i6, ⟨i6, ⟨i6, ⟨i6, ⟨i6, ⟨i6, ?_⟩⟩⟩⟩⟩⟩
 refine cP (zi7 (b.X * a.Den - a.X * b.Den) (c.Y * a.Den - a.Y * c.Den) (by omega) (by omega)) rfl rfl ?_
 refine cP (zi7 (b.Y * a.Den - a.Y * b.Den) (c.X * a.Den - a.X * c.Den) (by omega) (by omega)) rfl rfl ?_
 refine cP (zpw _ _) rfl rfl ?_
 refine r1I rfl ?_
 unfold turn dXh dYh; rfl
abbrev rowC (l : List Corner) : Nat -> Nat -> D := fun i => (l.getD i default).at
theorem avS {s : St} {ob : Nat -> Option Ob} {v : AV} {i k lo n lo' n' : Nat} (h : v = .sub i k lo n) (e1 : lo = lo') (e2 : n = n') : AVle s ob v (.sub i k lo' n') := by subst h; exact ⟨rfl, rfl, e1, e2⟩
theorem zkg (l : List Corner) (m j : Nat) : (rowC l m j).flat = true := by
 show ((l.getD m default).at j).flat = true
 unfold Corner.at; split <;> rfl
theorem zhy (l : List Corner) (hn : l.length <= 1000000) : SpecO PP 184 [slC l] 67 3 l.length (rowC l) := by
 refine zeE Tryz.func184 rfl (by kernel_rfl) rfl ?_
 refine fun b hb => ?_
 apply sB <;> intro h1
 ·have h0 := hb h1
  refine ⟨rfl, rfl, h0.symm, fun i hi => ?_⟩
  omega
 ·refine ⟨⟨.inr rfl, by unfold maxLen; omega, by show (0 + l.length) * 24 <= 140737488355328; omega⟩, ?_⟩
  refine ⟨rfl, rfl, Nat.zero_add _, fun i hi j hj => ?_⟩
  exact dE _
@[irreducible] def keepC (l : List Corner) (i : Nat) : Bool := i == 0 || !(l.getD i default == l.getD (i - 1) default)
@[irreducible] def compP (l : List Corner) (j : Nat) : List Corner := ((List.range j).filter (keepC l)).map fun i => l.getD i default
@[irreducible] def compL (l : List Corner) : List Corner := compP l l.length
theorem zbK (l : List Corner) (i : Nat) : keepC l i = (i == 0 || !(l.getD i default == l.getD (i - 1) default)) := by unfold keepC; rfl
theorem keep0 (l : List Corner) {i : Nat} (h : i < 1) : keepC l i = true := by
 obtain rfl : i = 0 := by omega
 unfold keepC; rfl
theorem zbO (l : List Corner) (j : Nat) : compP l (j + 1) = compP l j ++ (if keepC l j = true then [l.getD j default] else []) := by
 unfold compP
 rw [List.range_succ, List.filter_append, List.map_append]
 congr 1
 by_cases h : keepC l j = true
 ·rw [if_pos h]; simp [h]
 ·rw [if_neg h]; simp [h]
theorem zku (l : List Corner) (j : Nat) : (compP l j).length <= j := by
 unfold compP
 rw [List.length_map]
 exact Nat.le_trans (List.length_filter_le _ _) (by simp)
theorem zdE (l : List Corner) {j : Nat} (hj : j <= l.length) (h : ∀ i, i < j -> keepC l i = true) : compP l j = l.take j := by
 induction j with
 | zero => simp [compP]
 | succ j ih => rw [zbO, if_pos (h j (by omega)), ih (by omega) fun i hi => h i (by omega), zaB (by omega) default]
theorem eqC (p q : Corner) : (p.X == q.X && (p.Y == q.Y && (p.Den == q.Den && true))) = (p == q) := by
 rw [Bool.eq_iff_iff]
 simp only [Bool.and_eq_true, beq_iff_eq, and_true]
 constructor
 ·rintro ⟨h1, h2, h3⟩; cases p; cases q; simp_all
 ·rintro rfl; exact ⟨rfl, rfl, rfl⟩
theorem zdv {α : Type} (m : List α) (k i : Nat) (p d : α) (hk : k < m.length) : (m.set k p).getD i d = if i = k then p else m.getD i d := by
 rw [gdq, List.getElem?_set, gdq]
 by_cases h : k = i
 ·subst h; simp [hk]
 ·rw [if_neg h, if_neg fun e => h e.symm]
theorem setC {m : List Corner} {n k k' : Nat} {p q : Corner} (hk : k < m.length) (e1 : k' = k) (e2 : q = p) : D.eqv (.slc 3 n (storeRow (rowC m) k' 0 [I q.X, I q.Y, I q.Den])) (.slc 3 n (rowC (m.set k p))) := by
 subst e1; subst e2
 refine ⟨rfl, .inr ⟨rfl, fun i hi j hj => ?_⟩⟩
 show D.eqv (storeRow (rowC m) k' 0 [I q.X, I q.Y, I q.Den] i j) (((m.set k' q).getD i default).at j)
 rw [zdv m k' i q default hk]
 unfold storeRow
 by_cases h : i = k'
 ·rw [if_pos h, if_pos ⟨h, by omega, by simpa using hj⟩]
  match j, hj with
  | 0, _ => exact ⟨rfl, rfl⟩
  | 1, _ => exact ⟨rfl, rfl⟩
  | 2, _ => exact ⟨rfl, rfl⟩
 ·rw [if_neg h, if_neg fun hh => h hh.1]
  exact dE _
theorem ziU (l : List Corner) (hn : l.length <= 1000000) : SpecT PP 99 [] [] 67 3 l.length (rowC l) (compL l).length (rowC (compL l)) := by
 refine zld Tryz.func99 rfl (by kernel_rfl) (fun i _ j _ => zkg _ i j) rfl fun v => ?_
 apply sB <;> intro h1
 ·have h1 : l.length < 2 := by have := dT h1; omega
  have e : compL l = l := by
   unfold compL
   rw [zdE l (Nat.le_refl _) fun i hi => ?_, List.take_length]
   unfold keepC
   rcases Nat.eq_zero_or_pos i with h | h
   ·subst h; rfl
   ·omega
  rw [e]
  exact ⟨rfl, rfl, rfl, fun i hi j hj => dE _⟩
 ·have h1 : 2 <= l.length := by have := dF h1; omega
  refine LoopOb.of (σ := Nat) (fun k => ([(0, .own 0), (3, .d (I k))], [(0, .row 67 3 l.length (rowC l))])) (fun k => 1 <= k /\ k <= l.length /\ ∀ i, i < k -> keepC l i = true) (fun k => l.length - k) 1 ⟨rfl, ⟨obR rfl (dE _), trivial⟩, rfl, avR _ rfl, trivial⟩ ⟨Nat.le_refl _, by omega, fun i hi => keep0 l hi⟩ fun k hk => ?_
  obtain ⟨k1, k2, k3⟩ := hk
  apply sB <;> intro h2
  ·have h2 : k < l.length := by simpa using h2
   refine oL (List.range 10) (FzOb.no ?_)
   refine ⟨⟨by omega, by omega⟩, ⟨by omega, ?_⟩⟩
   refine ⟨i6, ?_⟩
   refine ⟨⟨by omega, by omega⟩, ⟨by omega, ?_⟩⟩
   apply sB <;> intro h3
   ·rw [eqC, Int.toNat_natCast, show ((k : Int) - 1).toNat = k - 1 by omega] at h3
    have hnk : keepC l k = false := by simp only [zbK, h3]; simp; omega
    have ck : compP l (k + 1) = l.take k := by rw [zbO, if_neg (by rw [hnk]; decide), List.append_nil, zdE l k2 k3]
    refine ⟨⟨rfl, by omega, by omega⟩, ?_⟩
    refine LoopOb.of (σ := Nat × Nat × List Corner) (fun x => ([(0, .own 0), (3, .d (I x.2.1)), (4, .sub 0 3 k (l.length - k)), (5, .d (I (x.1 - k)))], [(0, .row 67 3 l.length (rowC x.2.2))]))
     (fun x => k + 1 <= x.1 /\ x.1 <= l.length /\ x.2.2.length = l.length /\ x.2.1 <= x.1 - 1 /\ x.2.2.take x.2.1 = compP l x.1 /\ ∀ i, x.1 - 1 <= i -> x.2.2.getD i default = l.getD i default) (fun x => l.length - x.1) (k + 1, k, l)
     ⟨rfl, ⟨obR rfl (dE _), trivial⟩, rfl, avI rfl rfl, avS rfl (Int.toNat_natCast k) (by rw [Int.toNat_natCast]), avI rfl ?_, trivial⟩ ⟨Nat.le_refl _, h2, rfl, by simp, ck.symm, fun _ _ => rfl⟩ fun x hx => ?_
    ·show (1 : Int) = ((k + 1 : Nat) : Int) - k
     omega
    ·obtain ⟨x1, x2, x3, x4, x5, x6⟩ := hx
     apply sB <;> intro g1
     ·have g1 : x.1 < l.length := by have := dT g1; omega
      refine oL (List.range 10) (FzOb.no ?_)
      refine ⟨⟨by omega, by omega⟩, ⟨by omega, ?_⟩⟩
      refine ⟨i6, ?_⟩
      refine ⟨⟨by omega, by omega⟩, ⟨by omega, ?_⟩⟩
      have e1 : k + ((x.1 : Int) - k).toNat = x.1 := by omega
      have e2 : k + ((x.1 : Int) - k - 1).toNat = x.1 - 1 := by omega
      apply sB <;> intro g2
      ·rw [eqC, e1, e2, x6 x.1 (by omega), x6 (x.1 - 1) (by omega)] at g2
       have hkj : keepC l x.1 = true := by simp only [zbK]; simp only [Bool.or_eq_true]; exact .inr g2
       refine ⟨⟨by omega, by omega⟩, ⟨by omega, ?_⟩⟩
       refine ⟨⟨by omega, by omega⟩, ⟨by omega, ?_⟩⟩
       refine ⟨i6, ?_⟩
       refine ⟨i6, ?_⟩
       refine ⟨(x.1 + 1, x.2.1 + 1, x.2.2.set x.2.1 (l.getD x.1 default)), ⟨rfl, ⟨obR rfl (setC (by omega) (Int.toNat_natCast _) (by rw [e1, x6 _ (by omega)])), trivial⟩, rfl, avI rfl ?_, avS rfl rfl rfl, avI rfl ?_, trivial⟩, ⟨by omega, by omega, by simp; omega, (show x.2.1 + 1 <= x.1 + 1 - 1 by omega), ?_, fun i hi => ?_⟩, ?_⟩
       ·show (x.2.1 : Int) + 1 = ((x.2.1 + 1 : Nat) : Int)
        omega
       ·show (x.1 : Int) - k + 1 = ((x.1 + 1 : Nat) : Int) - k
        omega
       ·show (x.2.2.set x.2.1 (l.getD x.1 default)).take (x.2.1 + 1) = compP l (x.1 + 1)
        rw [zbO, if_pos hkj, zaB (i := x.2.1) (by simp; omega) default, zdv _ _ _ _ _ (by omega), if_pos rfl, <- x5, List.take_set_of_le (Nat.le_refl _)]
       ·have hi : x.1 + 1 - 1 <= i := hi
        show (x.2.2.set x.2.1 (l.getD x.1 default)).getD i default = _
        rw [zdv _ _ _ _ _ (by omega), if_neg (by omega)]
        exact x6 i (by omega)
       ·show l.length - (x.1 + 1) < l.length - x.1
        omega
      ·rw [eqC, e1, e2, x6 x.1 (by omega), x6 (x.1 - 1) (by omega)] at g2
       have hkj : keepC l x.1 = false := by simp only [zbK]; simp only [Bool.or_eq_false_iff]; exact ⟨by simp; omega, g2⟩
       refine ⟨i6, ?_⟩
       refine ⟨(x.1 + 1, x.2.1, x.2.2), ⟨rfl, ⟨obR rfl (dE _), trivial⟩, rfl, avI rfl rfl, avS rfl rfl rfl, avI rfl ?_, trivial⟩, ⟨by omega, by omega, x3, (show x.2.1 <= x.1 + 1 - 1 by omega), ?_, fun i hi => x6 i (by omega)⟩, ?_⟩
       ·show (x.1 : Int) - k + 1 = ((x.1 + 1 : Nat) : Int) - k
        omega
       ·show x.2.2.take x.2.1 = compP l (x.1 + 1)
        rw [zbO, if_neg (by rw [hkj]; decide), List.append_nil, x5]
       ·show l.length - (x.1 + 1) < l.length - x.1
        omega
     ·have g1 : x.1 = l.length := by have := dF g1; omega
      refine ⟨⟨rfl, by omega, by omega⟩, ?_⟩
      refine ⟨by omega, ?_⟩
      refine ⟨⟨by omega, by omega⟩, ?_⟩
      refine ⟨rfl, rfl, ?_, fun i hi j hj => ?_⟩
      ·have := congrArg List.length x5
       rw [List.length_take, g1] at this
       show (x.2.1 : Int).toNat = _
       unfold compL
       omega
      ·have hk' : x.2.1 = (compL l).length := by
        have := congrArg List.length x5
        rw [List.length_take, g1] at this
        unfold compL
        omega
       have e3 : (compL l).getD i default = x.2.2.getD i default := by
        unfold compL
        rw [<- g1, <- x5, gdq, List.getElem?_take, if_pos (by omega), <- gdq]
       show D.eqv (clrRow (rowC x.2.2) (x.2.1 : Int).toNat (l.length - (x.2.1 : Int).toNat) _ i j) (((compL l).getD i default).at j)
       unfold clrRow
       rw [if_neg (by omega), e3]
       exact dE _
   ·rw [eqC, Int.toNat_natCast, show ((k : Int) - 1).toNat = k - 1 by omega] at h3
    refine ⟨i6, ?_⟩
    refine ⟨k + 1, ⟨rfl, ⟨obR rfl (dE _), trivial⟩, rfl, avI rfl (by omega), trivial⟩, ⟨by omega, by omega, fun i hi => ?_⟩, ?_⟩
    ·rcases Nat.lt_or_ge i k with h | h
     ·exact k3 i h
     ·obtain rfl : i = k := by omega
      simp only [zbK, h3]; simp
    ·show l.length - (k + 1) < l.length - k
     omega
  ·have h2 : k = l.length := by
    have : ¬ k < l.length := by simpa using h2
    omega
   have e : compL l = l := by
    unfold compL
    rw [zdE l (Nat.le_refl _) fun i hi => k3 i (by omega), List.take_length]
   rw [e]
   exact ⟨rfl, rfl, rfl, fun i hi j hj => dE _⟩
def popR (p : Corner) : List Corner -> List Corner
 | b :: a :: r => if turn a b p <= 0 then popR p (a :: r) else b :: a :: r
 | s => s
def stepR (st : List Corner) (p : Corner) : List Corner := p :: popR p st
@[irreducible] def chainR (l : List Corner) : List Corner := l.foldl stepR []
@[irreducible] def halfL (l : List Corner) : List Corner := (chainR l).tail.reverse
theorem zeQ (p : Corner) : ∀ (st : List Corner), ∀ q ∈ popR p st, q ∈ st
 | [], q, h => h
 | [b], q, h => h
 | b :: a :: r, q, h => by
  simp only [popR] at h
  split at h
  ·exact List.mem_cons_of_mem _ (zeQ p (a :: r) q h)
  ·exact h
theorem zhq (p : Corner) : ∀ (st : List Corner), (popR p st).length <= st.length
 | [] => Nat.le_refl _
 | [b] => Nat.le_refl _
 | b :: a :: r => by
  simp only [popR]
  split
  ·have := zhq p (a :: r); simp only [List.length_cons] at *; omega
  ·exact Nat.le_refl _
theorem zby (l : List Corner) {i : Nat} (h : i < l.length) : chainR (l.take (i + 1)) = stepR (chainR (l.take i)) (l.getD i default) := by
 unfold chainR
 rw [zaB h default, List.foldl_append]; rfl
theorem zdH (l : List Corner) : chainR (l.take 0) = [] := by unfold chainR; simp
theorem zbo (l : List Corner) : ∀ i, i <= l.length -> (∀ q ∈ chainR (l.take i), q ∈ l) /\ (chainR (l.take i)).length <= i
 | 0, _ => by rw [zdH]; simp
 | i + 1, h => by
  rw [zby l (by omega)]
  obtain ⟨h1, h2⟩ := zbo l i (by omega)
  refine ⟨fun q hq => ?_, ?_⟩
  ·rcases List.mem_cons.1 hq with rfl | hq
   ·exact gd1 (by omega) default
   ·exact h1 q (zeQ _ _ q hq)
  ·have := zhq (l.getD i default) (chainR (l.take i))
   show (popR _ _).length + 1 <= i + 1
   omega
theorem zgn (a : Corner) (r : List Corner) {n : Nat} (h : n = r.length) : (a :: r).reverse.getD n default = a := by
 subst h
 rw [gdq, List.reverse_cons, List.getElem?_append_right (by simp)]
 simp
theorem zlk (b a : Corner) (r : List Corner) {n : Nat} (h : n = r.length) : (b :: a :: r).reverse.getD n default = a := by
 subst h
 rw [gdq, List.reverse_cons, List.getElem?_append_left (by simp), <- gdq]
 exact zgn a r rfl
theorem zeJ (b : Corner) (r : List Corner) {i : Nat} (h : i < r.length) : r.reverse.getD i default = (b :: r).reverse.getD i default := by
 rw [List.reverse_cons, gdq, gdq, List.getElem?_append_left (by simpa using h)]
theorem zm3 {st : List Corner} {p : Corner} {n : Nat} {g : Nat -> Nat -> D} (hn : n = st.length) (hg : ∀ j, j < 3 -> D.eqv (g 0 j) (p.at j)) : D.eqv (.slc 3 (n + 1) (appRow n (rowC st.reverse) g)) (.slc 3 (p :: st).length (rowC (p :: st).reverse)) := by
 subst hn
 refine app1 (fun i hi j hj => ?_) fun j hj => ?_
 ·show D.eqv ((st.reverse.getD i default).at j) (((p :: st).reverse.getD i default).at j)
  rw [zeJ p st hi]
  exact dE _
 ·show D.eqv (g 0 j) (((p :: st).reverse.getD st.length default).at j)
  rw [zgn p st rfl]
  exact hg j hj
theorem eqAt (p : Corner) : ∀ j, j < 3 -> D.eqv (rowOf 3 [I p.X, I p.Y, I p.Den] 0 j) (p.at j)
 | 0, _ => ⟨rfl, rfl⟩
 | 1, _ => ⟨rfl, rfl⟩
 | 2, _ => ⟨rfl, rfl⟩
theorem znb (l : List Corner) (hl : ∀ q ∈ l, okC q) (h0 : 1 <= l.length) (hn : l.length <= 1000000) : SpecO PP 182 [slC l] 67 3 (halfL l).length (rowC (halfL l)) := by
 refine zeE Tryz.func182 rfl (by kernel_rfl) rfl ?_
 refine LoopOb.of (σ := Nat × List Corner) (fun x => ([(0, avOf (slC l)), (3, .own 3), (6, avOf (slC l)), (7, .d (I l.length)), (8, .d (I x.1))], [(3, .row 67 3 x.2.length (rowC x.2.reverse))])) (fun x => x.1 <= l.length /\ x.2 = chainR (l.take x.1) /\ (0 < x.1 -> x.2 ≠ [])) (fun x => l.length - x.1) (0, [])
  ⟨rfl, ⟨obR rfl ⟨rfl, .inl rfl⟩, trivial⟩, wq rfl⟩ ⟨Nat.zero_le _, (zdH l).symm, fun h => absurd h (Nat.lt_irrefl 0)⟩ fun x hx => ?_
 obtain ⟨x1, x2, x3⟩ := hx
 obtain ⟨c1, c2⟩ := zbo l x.1 x1
 apply sB <;> intro h1
 ·have h1 : x.1 < l.length := by simpa using h1
  refine ⟨⟨rfl, by omega, by omega⟩, ?_⟩
  have hp : l.getD x.1 default ∈ l := gd1 h1 default
  refine LoopOb.of (σ := List Corner) (fun st => ([(0, avOf (slC l)), (3, .own 3), (5, .box 5 0), (6, avOf (slC l)), (7, .d (I l.length)), (8, .d (I x.1))], [(3, .row 67 3 st.length (rowC st.reverse)), (5, .box [.d (I (l.getD x.1 default).X), .d (I (l.getD x.1 default).Y), .d (I (l.getD x.1 default).Den)])])) (fun st => popR (l.getD x.1 default) st = popR (l.getD x.1 default) x.2 /\ (∀ q ∈ st, q ∈ l) /\ st.length <= l.length) (fun st => st.length) x.2 ⟨rfl, ⟨obR rfl (dE _), obD [I (l.getD x.1 default).X, I (l.getD x.1 default).Y, I (l.getD x.1 default).Den] rfl, trivial⟩, wq rfl⟩ ⟨rfl, by rw [x2]; exact c1, by rw [x2]; omega⟩ fun st hst => ?_
  obtain ⟨s1, s2, s3⟩ := hst
  refine oL (List.range 20) (FzOb.no ?_)
  apply sB <;> intro h2
  ·have h2 : 1 < st.length := by have := dT h2; omega
   refine ⟨i6, ?_⟩
   refine ⟨⟨by omega, by omega⟩, ⟨by omega, ?_⟩⟩
   refine ⟨i6, ?_⟩
   refine ⟨⟨by omega, by omega⟩, ⟨by omega, ?_⟩⟩
   obtain ⟨b, a, r, rfl⟩ : ∃ b a r, st = b :: a :: r := by
    match st, h2 with
    | b :: a :: r, _ => exact ⟨b, a, r, rfl⟩
   have ga : (b :: a :: r).reverse.getD (((b :: a :: r).length : Int) - 2).toNat default = a := zlk b a r (by simp; omega)
   have gb : (b :: a :: r).reverse.getD (((b :: a :: r).length : Int) - 1).toNat default = b := zgn b (a :: r) (by simp)
   refine oP (zpv _ _ _ ?_ ?_ ?_) rfl rfl ?_
   ·rw [ga]; exact hl _ (s2 _ (by simp))
   ·rw [gb]; exact hl _ (s2 _ (by simp))
   ·exact hl _ hp
   refine sT ?_
   apply sB <;> intro h3
   ·have h3 : turn a b (l.getD x.1 default) <= 0 := by rw [ga, gb] at h3; exact dT h3
    refine ⟨i6, ?_⟩
    refine ⟨⟨by omega, by omega⟩, ?_⟩
    refine ⟨a :: r, ⟨rfl, ⟨obR rfl ⟨?_, .inr ⟨rfl, fun i hi j hj => ?_⟩⟩, obD [I (l.getD x.1 default).X, I (l.getD x.1 default).Y, I (l.getD x.1 default).Den] rfl, trivial⟩, wq rfl⟩, ⟨?_, fun q hq => s2 q (List.mem_cons_of_mem _ hq), by simp at s3 ⊢; omega⟩, ?_⟩
    ·simp
    ·show D.eqv (((b :: a :: r).reverse.getD i default).at j) (((a :: r).reverse.getD i default).at j)
     rw [zeJ b (a :: r) (by simp at hi ⊢; omega)]
     exact dE _
    ·rw [<- s1]; simp only [popR, if_pos h3]
    ·show (a :: r).length < (b :: a :: r).length
     simp
   ·have h3 : ¬ turn a b (l.getD x.1 default) <= 0 := by rw [ga, gb] at h3; exact dF h3
    have hst : popR (l.getD x.1 default) (b :: a :: r) = b :: a :: r := by simp only [popR, if_neg h3]
    refine ⟨⟨.inr rfl, by unfold maxLen; omega, by show ((b :: a :: r).length + 1) * 24 <= 140737488355328; omega⟩, ?_⟩
    refine ⟨i6, ?_⟩
    refine ⟨(x.1 + 1, l.getD x.1 default :: (b :: a :: r)), ⟨rfl, ⟨obR rfl (zm3 rfl (eqAt _)), trivial⟩, wq rfl⟩, ⟨h1, ?_, fun _ => by simp⟩, ?_⟩
    ·show l.getD x.1 default :: (b :: a :: r) = chainR (l.take (x.1 + 1))
     rw [zby l h1, stepR, <- x2, <- s1, hst]
    ·show l.length - (x.1 + 1) < l.length - x.1
     omega
  ·have h2 : st.length <= 1 := by have := dF h2; omega
   have hst : popR (l.getD x.1 default) st = st := by
    match st, h2 with
    | [], _ => rfl
    | [b], _ => rfl
   refine sF ?_
   refine sF ?_
   refine ⟨⟨.inr rfl, by unfold maxLen; omega, by show (st.length + 1) * 24 <= 140737488355328; omega⟩, ?_⟩
   refine ⟨i6, ?_⟩
   refine ⟨(x.1 + 1, l.getD x.1 default :: st), ⟨rfl, ⟨obR rfl (zm3 rfl (eqAt _)), trivial⟩, wq rfl⟩, ⟨h1, ?_, fun _ => by simp⟩, ?_⟩
   ·show l.getD x.1 default :: st = chainR (l.take (x.1 + 1))
    rw [zby l h1, stepR, <- x2, <- s1, hst]
   ·show l.length - (x.1 + 1) < l.length - x.1
    omega
 ·have h1 : x.1 = l.length := by
   have : ¬ x.1 < l.length := by simpa using h1
   omega
  have hx2 : x.2 = chainR l := by rw [x2, h1, List.take_length]
  obtain ⟨p, st, hst⟩ : ∃ p st, x.2 = p :: st := by
   have := x3 (by omega)
   match hx : x.2, this with
   | p :: st, _ => exact ⟨p, st, rfl⟩
  have hlen : x.2.length = st.length + 1 := by rw [hst]; rfl
  have hle : x.2.length <= l.length := by rw [x2]; omega
  have hr : halfL l = st.reverse := by unfold halfL; rw [<- hx2, hst]; rfl
  refine ⟨i6, ?_⟩
  refine ⟨⟨by omega, by omega⟩, ?_⟩
  refine ⟨rfl, rfl, ?_, fun i hi j hj => ?_⟩
  ·show ((x.2.length : Int) - 1).toNat = _
   rw [hr, List.length_reverse]; omega
  ·rw [hr, List.length_reverse] at hi
   show D.eqv ((x.2.reverse.getD i default).at j) (((halfL l).getD i default).at j)
   rw [hr, zeJ p st hi, hst]
   exact dE _
theorem zch (l : List Corner) : (halfL l).length <= l.length := by
 have := (zbo l l.length (Nat.le_refl _)).2
 rw [List.take_length] at this
 unfold halfL
 rw [List.length_reverse, List.length_tail]
 omega
@[irreducible] def hullL (l : List Corner) : List Corner := if l.length < 3 then l else halfL l ++ halfL l.reverse
def CI : Ints Corner 3 where
  lst p := [p.X, p.Y, p.Den]
  len _ := rfl
  at_ p := p.at
  hat p j hj := by
    match j, hj with
    | 0, _ => rfl
    | 1, _ => rfl
    | 2, _ => rfl
theorem zh9 (l : List Corner) (hn : l.length <= 1000000) : SpecR PP 185 [] [] 67 3 l.length (rowC l) (rowC l.reverse) [] :=
 zeD CI Tryz.revC ⟨_, Tryz.func185, by kernel_rfl, by kernel_rfl⟩ (fun _ => by kernel_rfl) (fun _ => by kernel_rfl) 67 l hn
theorem zpz (l : List Corner) (hl : ∀ q ∈ l, okC q) (hn : l.length <= 1000000) : Spec PP 98 [slC l] [slC (hullL l)] := by
 refine sA Tryz.func98 ?_
 apply sB <;> intro h1
 ·have h1 : l.length < 3 := by have := dT h1; omega
  have e : hullL l = l := by unfold hullL; rw [if_pos h1]
  rw [e]
  exact ⟨dE _, trivial⟩
 ·have h1 : ¬ l.length < 3 := by have := dF h1; omega
  have e : hullL l = halfL l ++ halfL l.reverse := by unfold hullL; rw [if_neg h1]
  have n1 := zch l
  have n2 := zch l.reverse
  rw [List.length_reverse] at n2
  refine CallSt.own (znb l hl (by omega) hn) rfl rfl (fun m j _ _ => zkg _ m j) ?_
  refine CallSt.own (zhy (halfL l) (by omega)) rfl rfl (fun m j _ _ => zkg _ m j) ?_
  refine CallSt.own (zhy l hn) rfl rfl (fun m j _ _ => zkg _ m j) ?_
  refine CallSt.rw' rfl (zh9 l hn) ⟨⟨[], .tmp 16, [], [], rfl, rfl, rfl, rfl, rfl, rfl, rfl⟩⟩ rfl ?_
  refine CallSt.ownE (znb l.reverse (fun q hq => hl q (List.mem_reverse.1 hq)) (by simp; omega) (by simp; omega)) rfl ⟨?_, trivial⟩ rfl (fun m j _ _ => zkg _ m j) ?_
  ·exact ⟨by simp, .inr ⟨rfl, fun _ _ _ _ => dE _⟩⟩
  refine ⟨⟨.inr rfl, by unfold maxLen; omega, by show ((halfL l).length + (halfL l.reverse).length) * 24 <= 140737488355328; omega⟩, ?_⟩
  refine ⟨⟨_, _, _, _, rfl, ?_⟩, trivial⟩
  rw [e]
  refine ⟨by simp, .inr ⟨rfl, fun i hi j hj => ?_⟩⟩
  show D.eqv (appRow (halfL l).length (rowC (halfL l)) (rowC (halfL l.reverse)) i j) (((halfL l ++ halfL l.reverse).getD i default).at j)
  unfold appRow
  by_cases h : i < (halfL l).length
  ·rw [if_pos h, gdq, List.getElem?_append_left h, <- gdq]
   exact dE _
  ·rw [if_neg h, gdq, List.getElem?_append_right (by omega), <- gdq]
   exact dE _
theorem gcd3 (x y d : Int) : gcdL [x, y, d] = Nat.gcd (Nat.gcd x.natAbs y.natAbs) d.natAbs := by
 simp only [gcdL, List.foldl_cons, List.foldl_nil, Nat.gcd_zero_left]
def sortV (l : List VC) : List VC := l.mergeSort fun x y => !(ltOf cmpV) y x
theorem SpecT.congrh {P : Program} {f : FuncId} {pre post : List V1} {e k n n' : Nat} {g g0 g' : Nat -> Nat -> D} (h : SpecT P f pre post e k n g0 n' g') (he : ∀ m, m < n -> ∀ j, j < k -> g m j = g0 m j) : SpecT P f pre post e k n g n' g' :=
 ⟨h.1, fun w ok vs us v xs h1 h2 h3 hr => h.2 w ok vs us v xs h1 h2 h3 ⟨hr.own, hr.one, fun m hm j hj => by rw [<- he m hm j hj]; exact hr.rep m hm j hj, hr.sep⟩⟩
theorem zqP (l : List VC) : ∀ m, m < l.length -> ∀ j, j < 3 -> VI.row l m j = rowC (l.map fun p : VC => p.1) m j := fun m hm j _ => by
 show (l.getD m default).1.at j = ((l.map fun p : VC => p.1).getD m default).at j
 rw [gdq, gdq, List.getElem?_map, gqe hm]
 rfl
theorem zh4 (l : List VC) (hn : l.length <= 1000000) : SpecT PP 99 [] [] 67 3 l.length (VI.row l) (compL (l.map fun p : VC => p.1)).length (rowC (compL (l.map fun p : VC => p.1))) := by
 have h := ziU (l.map fun p : VC => p.1) (by rw [List.length_map]; exact hn)
 rw [List.length_map] at h
 exact SpecT.congrh h (zqP l)
theorem zbi (l : List VC) : (sortV l).length = l.length := List.length_mergeSort l
theorem zf0 {l : List Corner} {q : Corner} (h : q ∈ compL l) : q ∈ l := by
 unfold compL compP at h
 obtain ⟨i, hi, rfl⟩ := List.mem_map.1 h
 have := List.mem_range.1 (List.mem_filter.1 hi).1
 exact gd1 this default
theorem zdF (l : List Corner) : (compL l).length <= l.length := by unfold compL; exact zku l _
theorem zh5 (l : List VC) (hn : l.length <= 1000000) : SpecT PP 99 [] [] 67 3 l.length (VI.row (l.mergeSort fun x y => !(ltOf cmpV) y x)) (compL ((sortV l).map fun p : VC => p.1)).length (rowC (compL ((sortV l).map fun p : VC => p.1))) := by
 have h := zh4 (sortV l) (by rw [zbi]; exact hn)
 rw [zbi] at h
 exact h
theorem pushV {vs : List VC} {p : VC} {g : Nat -> Nat -> D} (hg : ∀ j, j < 3 -> D.eqv (g 0 j) (p.1.at j)) : D.eqv (.slc 3 (vs.length + 1) (appRow vs.length (VI.row vs) g)) (.slc 3 (vs ++ [p]).length (VI.row (vs ++ [p]))) := by
 rw [List.length_append]
 refine app1 (fun i hi j hj => ?_) fun j hj => ?_
 ·show D.eqv ((vs.getD i default).1.at j) (((vs ++ [p]).getD i default).1.at j)
  have e : (vs ++ [p]).getD i default = vs.getD i default := by rw [gdq, List.getElem?_append_left hi, <- gdq]
  rw [e]
  exact dE _
 ·show D.eqv (g 0 j) (((vs ++ [p]).getD vs.length default).1.at j)
  rw [gdq, List.getElem?_append_right (Nat.le_refl _), Nat.sub_self]
  exact hg j hj
theorem obZh {s : St} {ob : Nat -> Option Ob} {e k n : Nat} {f : Nat -> Nat -> D} {o : Option Ob} (h : o = none) (h1 : n = 0) : Oble s ob o (.row e k n f) := by
 subst h; exact h1
@[irreducible] def opp (g h : Half) : Bool := det g h == 0 && decide (g.A * h.A + g.B * h.B < 0)
abbrev cut (L : List Num) (i : Nat) : D := .slc 4 i fun i => (L.getD i default).at
abbrev rowU (l : List Use) : Nat -> Nat -> D := fun i => (l.getD i default).at
structure Bound where
  V : Frac
  At : Corner
  Scale : Int
  Uses : List Use
  deriving DecidableEq, Inhabited
abbrev Bound.v (b : Bound) : V1 := .agg [I b.V.Num, I b.V.Den, I b.At.X, I b.At.Y, I b.At.Den, I b.Scale, .slc 2 b.Uses.length (rowU b.Uses)]
theorem zen {s : St} {ob : Nat -> Option Ob} : ∀ cs : List AV, avles s ob cs cs
 | [] => trivial
 | c :: cs => ⟨zbp s ob c, zen cs⟩
theorem obXh {s : St} {ob : Nat -> Option Ob} {cs : List AV} {o : Option Ob} (h : o = some (.box cs)) : Oble s ob o (.box cs) := by subst h; exact zen cs
@[irreducible] def upTo (n : Nat) : List Int := (List.range n).map fun i : Nat => (i : Int)
@[irreducible] def rmLh (l : List Int) (i : Nat) : List Int := l.take i ++ l.drop (i + 1)
@[irreducible] def pickL (l : List Half) (js : List Int) : List Half := js.map fun j => l.getD j.toNat default
abbrev rowH (l : List Half) : Nat -> Nat -> D := fun i => (l.getD i default).at
theorem zoh {vs : List Half} {p : Half} {n : Nat} {g : Nat -> Nat -> D} (hn : n = vs.length) (hg : ∀ j, j < 3 -> D.eqv (g 0 j) (p.at j)) : D.eqv (.slc 3 (n + 1) (appRow n (rowH vs) g)) (.slc 3 (vs ++ [p]).length (rowH (vs ++ [p]))) := by
 subst hn
 rw [List.length_append]
 refine app1 (fun i hi j hj => ?_) fun j hj => ?_
 ·show D.eqv ((vs.getD i default).at j) (((vs ++ [p]).getD i default).at j)
  have e : (vs ++ [p]).getD i default = vs.getD i default := by rw [gdq, List.getElem?_append_left hi, <- gdq]
  rw [e]
  exact dE _
 ·show D.eqv (g 0 j) (((vs ++ [p]).getD vs.length default).at j)
  rw [gdq, List.getElem?_append_right (Nat.le_refl _), Nat.sub_self]
  exact hg j hj
theorem zoM (p : Half) : ∀ j, j < 3 -> D.eqv (rowOf 3 [I p.A, I p.B, I p.C] 0 j) (p.at j)
 | 0, _ => ⟨rfl, rfl⟩
 | 1, _ => ⟨rfl, rfl⟩
 | 2, _ => ⟨rfl, rfl⟩
@[irreducible] def edgeL (p q : Place) : Half := ⟨q.Y - p.Y, p.X - q.X, (q.Y - p.Y) * p.X + (p.X - q.X) * p.Y⟩
structure okP (p : Place) : Prop where
  x : -1073741824 <= p.X /\ p.X <= 1073741824
  y : -1073741824 <= p.Y /\ p.Y <= 1073741824
theorem zeI (p q : Place) (hp : okP p) (hq : okP q) : Spec PP 101 [p.v, q.v] [(edgeL p q).v] := by
 have p1 := hp.x
 have p2 := hp.y
 have q1 := hq.x
 have q2 := hq.y
 have b1 := mulB (a := q.Y - p.Y) (x := 2147483648) (by omega) hp.x
 have b2 := mulB (a := p.X - q.X) (x := 2147483648) (by omega) hp.y
 refine sA Tryz.func101 ?_
 refine oL (List.range 12) (FzOb.no ?_)
 refine ⟨i6, ⟨i6, ?_⟩⟩
 refine ⟨i6, ⟨i6, ⟨i6, ?_⟩⟩⟩
 refine r1C rfl rfl rfl rfl rfl rfl (zkk ?_ ?_ ?_) <;> (unfold edgeL; rfl)
@[irreducible] def atP (c : List Corner) (i : Nat) : Place := ⟨(c.getD (i % c.length) default).X, (c.getD (i % c.length) default).Y⟩
abbrev ptrC (c : List Corner) : V1 := .d (.ptr 1 fun _ => .slc 3 c.length fun i => (c.getD i default).at)
theorem s_at (c : List Corner) (i : Nat) (h0 : 0 < c.length) (hi : i <= 1000000) (hn : c.length <= 1000000) : Spec PP 100 [N i, ptrC c] [(atP c i).v] := by
 have hm : ((i : Int).tmod (c.length : Int)) = ((i % c.length : Nat) : Int) := rfl
 have hlt := Nat.mod_lt i h0
 refine sA Tryz.func100 ?_
 refine oL (List.range 18) (FzOb.no ?_)
 refine ⟨by omega, ?_⟩
 refine ⟨⟨rfl, by rw [hm]; omega, by rw [hm]; omega⟩, ?_⟩
 refine ⟨by omega, ?_⟩
 refine ⟨⟨rfl, by rw [hm]; omega, by rw [hm]; omega⟩, ?_⟩
 refine r1C rfl rfl rfl rfl rfl rfl (zbc ?_ ?_) <;> (unfold atP; rfl)
theorem zgD (p : Corner) : ∀ st : List Corner, st ≠ [] -> popR p st ≠ []
 | [b], _ => by simp [popR]
 | b :: a :: r, _ => by
  simp only [popR]
  split
  ·exact zgD p (a :: r) (by simp)
  ·simp
theorem zcC (l : List Corner) : ∀ i, i <= l.length -> min i 2 <= (chainR (l.take i)).length
 | 0, _ => by simp
 | i + 1, h => by
  rw [zby l (by omega)]
  have ih := zcC l i (by omega)
  show _ <= (popR _ _).length + 1
  rcases Nat.eq_zero_or_pos i with h0 | h0
  ·subst h0; simp
  ·have : popR (l.getD i default) (chainR (l.take i)) ≠ [] := zgD _ _ fun hh => by rw [hh] at ih; simp at ih; omega
   have := List.length_pos_iff.2 this
   omega
theorem zj8 {l : List Corner} (h : 2 <= l.length) : 0 < (halfL l).length := by
 have := zcC l l.length (Nat.le_refl _)
 rw [List.take_length] at this
 unfold halfL
 rw [List.length_reverse, List.length_tail]
 omega
theorem zcg {l : List Corner} (h : 0 < l.length) : 0 < (hullL l).length := by
 unfold hullL
 split
 ·exact h
 ·rw [List.length_append]
  have := zj8 (l := l) (by omega)
  omega
theorem zkv {l : List Corner} (h : 0 < l.length) : 0 < (compL l).length := by
 have : l.getD 0 default ∈ compL l := by
  unfold compL compP
  exact List.mem_map.2 ⟨0, List.mem_filter.2 ⟨List.mem_range.2 h, keep0 l (by omega)⟩, rfl⟩
 exact List.length_pos_of_mem this
theorem zfO {m : List Corner} {q : Corner} (h : q ∈ hullL m) : q ∈ m := by
 unfold hullL at h
 have hh : ∀ {m : List Corner} {q : Corner}, q ∈ halfL m -> q ∈ m := fun {m q} h => by
  unfold halfL at h
  have := (zbo m m.length (Nat.le_refl _)).1 q
  rw [List.take_length] at this
  exact this (List.mem_of_mem_tail (List.mem_reverse.1 h))
 split at h
 ·exact h
 ·rcases List.mem_append.1 h with h | h
  ·exact hh h
  ·exact List.mem_reverse.1 (hh h)
theorem zds (l : List Corner) : (hullL l).length <= 2 * l.length := by
 have h3 := zch l
 have h4 := zch l.reverse
 rw [List.length_reverse] at h4
 unfold hullL
 split
 ·omega
 ·rw [List.length_append]; omega
theorem zcv {p : Place} (h : on p = true) : (0 <= p.X /\ p.X <= 48) /\ (0 <= p.Y /\ p.Y <= 48) := by
 unfold on at h
 simp only [Bool.and_eq_true, zab] at h
 exact h
theorem zfD {p : Place} (h : on p = true) : valid (ofP p) = true := by
 have hb := zcv h
 have e : ofP p = ⟨p.X, p.Y, 1⟩ := by unfold ofP; rw [if_pos h]
 rw [e]
 unfold valid
 simp only [Bool.and_eq_true, zab, beq_iff_eq]
 refine ⟨⟨⟨by omega, by omega⟩, by omega⟩, ?_⟩
 rw [gcd3]
 simp
@[irreducible] def ofV (p : Place) : VC := if h : valid (ofP p) = true then ⟨ofP p, h⟩ else default
theorem zna {p : Place} (h : on p = true) : ofV p = ⟨ofP p, zfD h⟩ := by unfold ofV; rw [dif_pos (zfD h)]
@[irreducible] def ptsO (l : List Place) (i : Nat) : List VC := (l.take i).map ofV
theorem zjv (l : List Place) : ptsO l 0 = [] := by unfold ptsO; simp
theorem zeN (l : List Place) {i : Nat} (h : i <= l.length) : (ptsO l i).length = i := by unfold ptsO; simp; omega
theorem zjw (l : List Place) {i : Nat} (h : i < l.length) : ptsO l (i + 1) = ptsO l i ++ [ofV (l.getD i default)] := by unfold ptsO; rw [zaB h default, List.map_append]; rfl
@[irreducible] def cycL (l : List Place) : List Corner := hullL (compL ((sortV (ptsO l l.length)).map fun p : VC => p.1))
@[irreducible] def edges1 (p : Place) : List Half := [⟨-1, 0, -p.X⟩, ⟨1, 0, p.X⟩, ⟨0, -1, -p.Y⟩, ⟨0, 1, p.Y⟩]
@[irreducible] def edges2 (p q : Place) : List Half := [edgeL p q, edgeL q p, ⟨-(q.X - p.X), -(q.Y - p.Y), -(q.X - p.X) * p.X - (q.Y - p.Y) * p.Y⟩, ⟨q.X - p.X, q.Y - p.Y, (q.X - p.X) * q.X + (q.Y - p.Y) * q.Y⟩]
@[irreducible] def edgesTo (c : List Corner) (i : Nat) : List Half := (List.range i).map fun i => edgeL (atP c i) (atP c (i + 1))
theorem zbe (c : List Corner) : edgesTo c 0 = [] := by unfold edgesTo; rfl
theorem zaX (c : List Corner) (i : Nat) : edgesTo c (i + 1) = edgesTo c i ++ [edgeL (atP c i) (atP c (i + 1))] := by unfold edgesTo; rw [List.range_succ, List.map_append]; rfl
theorem zbW (c : List Corner) (i : Nat) : (edgesTo c i).length = i := by unfold edgesTo; simp
@[irreducible] def hullE (l : List Place) : List Half × Int :=
 if l = [] then ([], 5) else if l.all on = true then
  (if (cycL l).length = 1 then edges1 (atP (cycL l) 0) else if (cycL l).length = 2 then edges2 (atP (cycL l) 0) (atP (cycL l) 1) else edgesTo (cycL l) (cycL l).length, 0)
 else ([], 1)
theorem eqH4 {a0 a1 a2 a3 a4 a5 a6 a7 a8 a9 b0 b1 : Int} : D.eqv (.slc 3 4 (rowOf 3 [I a0, I a1, I a2, I a3, I a4, I a5, I a6, I a7, I a8, I a9, I b0, I b1])) (.slc 3 [(⟨a0, a1, a2⟩ : Half), ⟨a3, a4, a5⟩, ⟨a6, a7, a8⟩, ⟨a9, b0, b1⟩].length fun i => (([(⟨a0, a1, a2⟩ : Half), ⟨a3, a4, a5⟩, ⟨a6, a7, a8⟩, ⟨a9, b0, b1⟩]).getD i default).at) := by
 refine ⟨rfl, .inr ⟨rfl, fun i hi j hj => ?_⟩⟩
 match i, j, hi, hj with
 | 0, 0, _, _ => exact ⟨rfl, rfl⟩
 | 0, 1, _, _ => exact ⟨rfl, rfl⟩
 | 0, 2, _, _ => exact ⟨rfl, rfl⟩
 | 1, 0, _, _ => exact ⟨rfl, rfl⟩
 | 1, 1, _, _ => exact ⟨rfl, rfl⟩
 | 1, 2, _, _ => exact ⟨rfl, rfl⟩
 | 2, 0, _, _ => exact ⟨rfl, rfl⟩
 | 2, 1, _, _ => exact ⟨rfl, rfl⟩
 | 2, 2, _, _ => exact ⟨rfl, rfl⟩
 | 3, 0, _, _ => exact ⟨rfl, rfl⟩
 | 3, 1, _, _ => exact ⟨rfl, rfl⟩
 | 3, 2, _, _ => exact ⟨rfl, rfl⟩
theorem zpB (l : List Place) (hn : l.length <= 2500) : Spec PP 44 [slP l] [slH (hullE l).1, N (hullE l).2] := by
 refine sA Tryz.func44 ?_
 apply sB <;> intro h1
 ·have h1 : l = [] := by
   have : l.length = 0 := by simpa using h1
   exact List.length_eq_zero_iff.1 this
  have e : hullE l = ([], 5) := by unfold hullE; rw [if_pos h1]
  rw [e]
  exact ⟨⟨_, _, _, _, rfl, rfl, .inl rfl⟩, rtI rfl rfl, trivial⟩
 have h1 : l ≠ [] := fun hh => by rw [hh] at h1; cases h1
 have hpos := List.length_pos_iff.2 h1
 refine LoopOb.of (σ := Nat) (fun i => ([(4, .own 4), (18, avOf (slP l)), (19, .d (I l.length)), (20, .d (I i))], [(4, .row 67 3 (ptsO l i).length (VI.row (ptsO l i)))])) (fun i => i <= l.length /\ ∀ m, m < i -> on (l.getD m default) = true) (fun i => l.length - i) 0
  ⟨rfl, ⟨obR rfl ⟨by rw [zjv]; rfl, .inl rfl⟩, trivial⟩, wq rfl⟩ z0L fun i hi => ?_
 obtain ⟨i1, i2⟩ := hi
 have hl := zeN l i1
 apply sB <;> intro h2
 ·have h2 : i < l.length := by simpa using h2
  refine ⟨⟨rfl, by omega, by omega⟩, ?_⟩
  refine cP (s_on (l.getD i default)) rfl rfl ?_
  apply sB <;> intro h3
  ·have h3 : on (l.getD i default) = false := by simpa using h3
   have e : hullE l = ([], 1) := by
    unfold hullE
    rw [if_neg h1, if_neg fun hh => by rw [List.all_eq_true.1 hh _ (gd1 h2 default)] at h3; cases h3]
   rw [e]
   exact ⟨⟨_, _, _, _, rfl, rfl, .inl rfl⟩, rtI rfl rfl, trivial⟩
  ·have h3 : on (l.getD i default) = true := by simpa using h3
   refine cP (s_Of (l.getD i default)) rfl rfl ?_
   refine ⟨⟨.inr rfl, by unfold maxLen; omega, by show ((ptsO l i).length + 1) * 24 <= 140737488355328; omega⟩, ?_⟩
   refine ⟨i6, ?_⟩
   refine ⟨i + 1, ⟨rfl, ⟨obR rfl ?_, trivial⟩, wq rfl⟩, ⟨h2, fun m hm => ?_⟩, ?_⟩
   ·rw [zjw l h2, zna h3]; exact pushV (eqAt _)
   ·rcases Nat.lt_or_ge m i with h | h
    ·exact i2 m h
    ·obtain rfl : m = i := by omega
     exact h3
   ·show l.length - (i + 1) < l.length - i
    omega
 have h2 : i = l.length := by
  have : ¬ i < l.length := by simpa using h2
  omega
 subst h2
 have hall : l.all on = true := List.all_eq_true.2 fun p hp => by
  obtain ⟨m, hm, he⟩ := List.getElem_of_mem hp
  have := i2 m hm
  rw [gdq, gqe hm] at this
  rw [<- he]; exact this
 have hcl := zdF ((sortV (ptsO l l.length)).map fun p : VC => p.1)
 rw [List.length_map, zbi, hl] at hcl
 have hcp : 0 < (compL ((sortV (ptsO l l.length)).map fun p : VC => p.1)).length := zkv (by rw [List.length_map, zbi, hl]; exact hpos)
 have hcv : ∀ q ∈ (compL ((sortV (ptsO l l.length)).map fun p : VC => p.1)), valid q = true := fun q hq => by
  obtain ⟨p, _, rfl⟩ := List.mem_map.1 (zf0 hq)
  exact p.2
 have hull : Spec PP 98 [slC (compL ((sortV (ptsO l l.length)).map fun p : VC => p.1))] [slC (cycL l)] := by
  have := zpz (compL ((sortV (ptsO l l.length)).map fun p : VC => p.1)) (fun q hq => zcK (hcv q hq)) (by omega)
  unfold cycL
  exact this
 have c0 : 0 < (cycL l).length := by unfold cycL; exact zcg hcp
 have c1 : (cycL l).length <= 5000 := by
  have := zds (compL ((sortV (ptsO l l.length)).map fun p : VC => p.1))
  unfold cycL
  omega
 have c2 : ∀ i, okP (atP (cycL l) i) := fun i => by
  have hm : (cycL l).getD (i % (cycL l).length) default ∈ cycL l := gd1 (Nat.mod_lt i c0) default
  have hm' : (cycL l).getD (i % (cycL l).length) default ∈ (compL ((sortV (ptsO l l.length)).map fun p : VC => p.1)) := by
   have := hm
   unfold cycL at this ⊢
   exact zfO this
  have := zcK (hcv _ hm')
  unfold atP
  exact ⟨this.x, this.y⟩
 have e : hullE l = (if (cycL l).length = 1 then edges1 (atP (cycL l) 0) else if (cycL l).length = 2 then edges2 (atP (cycL l) 0) (atP (cycL l) 1) else edgesTo (cycL l) (cycL l).length, 0) := by
  unfold hullE; rw [if_neg h1, if_pos hall]
 rw [e]
 refine CallSt.rw' rfl (znW (ptsO l l.length) (by omega)) ⟨⟨[], .tmp 33, [.func 97], [], rfl, rfl, rfl, rfl, rfl, rfl, rfl⟩⟩ rfl ?_
 refine CallSt.tk rfl (zh5 (ptsO l l.length) (by omega)) ⟨⟨[], .tmp 35, [], [], rfl, rfl, rfl, rfl, rfl, rfl, rfl⟩⟩ rfl ?_
 refine CallSt.fz [4] hull rfl rfl ?_
 have p0 := c2 0
 have p1 := c2 1
 have x0 := p0.x
 have y0 := p0.y
 have x1 := p1.x
 have y1 := p1.y
 refine CallSt.fzE [7] (s_at (cycL l) 0 c0 (by omega) (by omega)) rfl ⟨⟨rfl, rfl⟩, ⟨rfl, fun j hj => ?_⟩, trivial⟩ rfl ?_
 ·obtain rfl : j = 0 := Nat.lt_one_iff.1 hj
  exact dE _
 refine CallSt.pureE (s_at (cycL l) 1 c0 (by omega) (by omega)) rfl ⟨⟨rfl, rfl⟩, ⟨rfl, fun j hj => ?_⟩, trivial⟩ rfl ?_
 ·obtain rfl : j = 0 := Nat.lt_one_iff.1 hj
  exact dE _
 apply sB <;> intro h3
 ·have h3 : (cycL l).length = 1 := by
   have : ((cycL l).length : Int) = 1 := by simpa using h3
   omega
  rw [if_pos h3]
  refine ⟨i6, ⟨i6, ?_⟩⟩
  refine ⟨⟨_, _, _, _, rfl, ?_⟩, rtI rfl rfl, trivial⟩
  unfold edges1
  exact eqH4
 have h3 : (cycL l).length ≠ 1 := fun hh => by rw [hh] at h3; cases h3
 rw [if_neg h3]
 apply sB <;> intro h4
 ·have h4 : (cycL l).length = 2 := by
   have : ((cycL l).length : Int) = 2 := by simpa using h4
   omega
  rw [if_pos h4]
  have b1 := mulB (a := -((atP (cycL l) 1).X - (atP (cycL l) 0).X)) (x := 2147483648) (by omega) p0.x
  have b2 := mulB (a := (atP (cycL l) 1).Y - (atP (cycL l) 0).Y) (x := 2147483648) (by omega) p0.y
  have b3 := mulB (a := (atP (cycL l) 1).X - (atP (cycL l) 0).X) (x := 2147483648) (by omega) p1.x
  have b4 := mulB (a := (atP (cycL l) 1).Y - (atP (cycL l) 0).Y) (x := 2147483648) (by omega) p1.y
  refine oL (List.range 12) (FzOb.no ?_)
  refine ⟨i6, ⟨i6, ?_⟩⟩
  refine oL (List.range 36) (FzOb.no ?_)
  refine oP (zeI (atP (cycL l) 0) (atP (cycL l) 1) p0 p1) rfl rfl ?_
  refine oP (zeI (atP (cycL l) 1) (atP (cycL l) 0) p1 p0) rfl rfl ?_
  refine ⟨i6, ⟨i6, ⟨i6, ?_⟩⟩⟩
  refine ⟨i6, ⟨i6, ⟨i6, ?_⟩⟩⟩
  refine ⟨i6, ⟨i6, ⟨i6, ?_⟩⟩⟩
  unfold edges2
  exact ⟨eqH4, rtI rfl rfl, trivial⟩
 have h4 : (cycL l).length ≠ 2 := fun hh => by rw [hh] at h4; cases h4
 rw [if_neg h4]
 refine LoopOb.of (σ := Nat) (fun i => ([(7, .roe 1 fun _ => .slc 3 (cycL l).length fun i => ((cycL l).getD i default).at), (8, .clo 100 [.dat (.ptr 1 fun _ => .slc 3 (cycL l).length fun i => ((cycL l).getD i default).at)]), (13, .own 13), (109, .d (I (cycL l).length)), (110, .d (I i))], [(13, .row 123 3 (edgesTo (cycL l) i).length fun m => ((edgesTo (cycL l) i).getD m default).at)])) (fun i => i <= (cycL l).length) (fun i => (cycL l).length - i) 0
  ⟨rfl, ⟨obR rfl ⟨by rw [zbe]; rfl, .inl rfl⟩, trivial⟩, avRo rfl ⟨rfl, fun j hj => ?_⟩, ⟨rfl, ⟨rfl, fun j hj => ?_⟩, trivial⟩, wq rfl⟩ (Nat.zero_le _) fun i hi => ?_
 ·obtain rfl : j = 0 := Nat.lt_one_iff.1 hj
  exact dE _
 ·obtain rfl : j = 0 := Nat.lt_one_iff.1 hj
  exact dE _
 have hel := zbW (cycL l) i
 apply sB <;> intro h5
 ·have h5 : i < (cycL l).length := by have := dT h5; omega
  refine cP (s_at (cycL l) i c0 (by omega) (by omega)) rfl rfl ?_
  refine ⟨i6, ?_⟩
  refine CallSt.pureE (s_at (cycL l) (i + 1) c0 (by omega) (by omega)) rfl ⟨⟨rfl, rfl⟩, dE _, trivial⟩ rfl ?_
  refine cP (zeI (atP (cycL l) i) (atP (cycL l) (i + 1)) (c2 i) (c2 (i + 1))) rfl rfl ?_
  refine ⟨⟨.inr rfl, by unfold maxLen; omega, by show ((edgesTo (cycL l) i).length + 1) * 24 <= 140737488355328; omega⟩, ?_⟩
  refine ⟨i6, ?_⟩
  refine ⟨i + 1, ⟨rfl, ⟨obR rfl ?_, trivial⟩, avRo rfl (dE _), wq rfl⟩, h5, ?_⟩
  ·rw [zaX]
   exact zoh rfl (zoM _)
  ·show (cycL l).length - (i + 1) < (cycL l).length - i
   omega
 ·have h5 : i = (cycL l).length := by
   have := dF h5
   omega
  subst h5
  exact ⟨⟨_, _, _, _, rfl, dE _⟩, rtI rfl rfl, trivial⟩
end Go.Pg
