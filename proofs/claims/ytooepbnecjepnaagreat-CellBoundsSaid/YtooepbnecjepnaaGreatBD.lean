/- Texts joined and shortened by program. -/
import Derived.Test.YtooepbnecjepnaaGreatB5
import Derived.Test.YtooepbnecjepnaaGreatB4
import Derived.Test.YtooepbnecjepnaaGreatBC
set_option maxHeartbeats 4000000
set_option linter.all false
set_option maxRecDepth 100000
namespace Go.Pg
open Go.Proofs Go.RowKit
@[irreducible] def fraction (f : Frac) : Bool := within f.Den 1 2097152 && within f.Num (-2199023255552) 2199023255552 && ((gcdL [f.Num, f.Den] : Int) == 1)
theorem za5 (f : Frac) : Spec PP 88 [f.v] [B (fraction f)] := by
 refine sA Tryz.func88 ?_
 repeat' first
  | refine sT ?_
  | refine sF ?_
  | refine bY (fun _ => ?_) (fun _ => ?_)
  | refine cP (zbh _ _ _) rfl rfl ?_
  | refine CallSt.pureE (zoN [f.Num, f.Den] ?_ ?_) rfl (zdv rfl rfl) rfl ?_
  | refine r1B rfl ?_
 ·intro n hn
  simp only [zab] at *
  simp only [List.mem_cons, List.not_mem_nil, or_false] at hn
  omega
 ·exact Nat.le_of_ble_eq_true rfl
 all_goals (unfold fraction; simp_all)
@[irreducible] def cmpC (p q : Corner) : Int := if valid p = true /\ valid q = true then orL [ord (p.X * q.Den) (q.X * p.Den), ord (p.Y * q.Den) (q.Y * p.Den)] else 0
theorem zls (p q : Corner) : SpecD PP 97 [p.v, q.v] [N (cmpC p q)] := by
 refine zaC Tryz.func97 rfl (by kernel_rfl) rfl ?_
 by_cases hp : valid p = true
 ·by_cases hq : valid q = true
  ·have gp := zas hp
   have gq := zas hq
   have h1 := mulB gp.x (b := q.Den) (y := 2097152) (by have := gq.d; omega)
   have h2 := mulB gq.x (b := p.Den) (y := 2097152) (by have := gp.d; omega)
   have h3 := mulB gp.y (b := q.Den) (y := 2097152) (by have := gq.d; omega)
   have h4 := mulB gq.y (b := p.Den) (y := 2097152) (by have := gp.d; omega)
   refine cP (zcX p) rfl rfl ?_
   rw [hp]
   refine sF ?_
   refine cP (zcX q) rfl rfl ?_
   rw [hq]
   refine sF (sF ?_)
   refine oL (List.range 25) (FzOb.no ?_)
   refine ⟨i6, ⟨i6, ?_⟩⟩
   refine oP (zhy _ _) rfl rfl ?_
   refine ⟨i6, ⟨i6, ?_⟩⟩
   refine oP (zhy _ _) rfl rfl ?_
   refine CallOb.pureE (d_or [_, _] ?_) rfl (zdv rfl rfl) rfl ?_
   ·exact Nat.le_of_ble_eq_true rfl
   refine r1I rfl ?_
   unfold cmpC
   rw [if_pos ⟨hp, hq⟩]
  ·refine cP (zcX p) rfl rfl ?_
   rw [hp]
   refine sF ?_
   refine cP (zcX q) rfl rfl ?_
   rw [Bool.eq_false_iff.2 hq]
   refine sF (sT (r1I rfl ?_))
   unfold cmpC
   rw [if_neg fun h => hq h.2]
 ·refine cP (zcX p) rfl rfl ?_
  rw [Bool.eq_false_iff.2 hp]
  refine sT (sT (sT (r1I rfl ?_)))
  unfold cmpC
  rw [if_neg fun h => hp h.1]
@[irreducible] def less (a b : Frac) : Int := if fraction a = true /\ fraction b = true then ord (a.Num * b.Den) (b.Num * a.Den) else 0
theorem zci {f : Frac} (h : fraction f = true) : (1 <= f.Den /\ f.Den <= 2097152) /\ (-2199023255552 <= f.Num /\ f.Num <= 2199023255552) := by
 unfold fraction at h
 simp only [Bool.and_eq_true, zab] at h
 exact h.1
theorem zqx (a b : Frac) : Spec PP 123 [a.v, b.v] [N (less a b)] := by
 refine sA Tryz.func123 ?_
 by_cases hp : fraction a = true
 ·by_cases hq : fraction b = true
  ·have ga := zci hp
   have gb := zci hq
   have h1 := mulB ga.2 (b := b.Den) (y := 2097152) (by omega)
   have h2 := mulB gb.2 (b := a.Den) (y := 2097152) (by omega)
   refine cP (za5 a) rfl rfl ?_
   rw [hp]
   refine sF ?_
   refine cP (za5 b) rfl rfl ?_
   rw [hq]
   refine sF (sF ?_)
   refine ⟨i6, ⟨i6, ?_⟩⟩
   refine cP (zfl _ _) rfl rfl ?_
   refine r1I rfl ?_
   unfold less
   rw [if_pos ⟨hp, hq⟩]
  ·refine cP (za5 a) rfl rfl ?_
   rw [hp]
   refine sF ?_
   refine cP (za5 b) rfl rfl ?_
   rw [Bool.eq_false_iff.2 hq]
   refine sF (sT (r1I rfl ?_))
   unfold less
   rw [if_neg fun h => hq h.2]
 ·refine cP (za5 a) rfl rfl ?_
  rw [Bool.eq_false_iff.2 hp]
  refine sT (sT (sT (r1I rfl ?_)))
  unfold less
  rw [if_neg fun h => hp h.1]
@[irreducible] def det (g h : Half) : Int := g.A * h.B - h.A * g.B
theorem zlr {g h : Half} (hg : okH g) (hh : okH h) : -2000000 <= det g h /\ det g h <= 2000000 := by
 have h1 := mulB hg.a hh.b
 have h2 := mulB hh.a hg.b
 unfold det
 omega
theorem zoO (g h : Half) (hg : okH g) (hh : okH h) : Spec PP 126 [g.v, h.v] [N (det g h)] := by
 have h1 := mulB hg.a hh.b
 have h2 := mulB hh.a hg.b
 refine sA Tryz.func126 ?_
 refine ⟨i6, ⟨i6, ⟨i6, ?_⟩⟩⟩
 refine r1I rfl ?_
 unfold det; rfl
@[irreducible] def lowest (x y d : Int) : Corner := let g : Int := if d < 0 then -gcdL [x, y, d] else gcdL [x, y, d]; ⟨x.tdiv g, y.tdiv g, d.tdiv g⟩
theorem zdE {a g b : Int} (ha : -b <= a /\ a <= b) : -b <= a.tdiv g /\ a.tdiv g <= b := by
 have h : (a.tdiv g).natAbs <= a.natAbs := by rw [Int.natAbs_tdiv]; exact Nat.div_le_self _ _
 omega
theorem zmi (x y d : Int) (hx : -1073741824 <= x /\ x <= 1073741824) (hy : -1073741824 <= y /\ y <= 1073741824) (hd : -1073741824 <= d /\ d <= 1073741824) (h0 : d ≠ 0) :
  Spec PP 231 [.agg [I x, I y, I d]] [(lowest x y d).v] := by
 have hg : 0 < gcdL [x, y, d] := by
  simp only [gcdL, List.foldl_cons, List.foldl_nil]
  exact Nat.gcd_pos_of_pos_right _ (by omega)
 have hg' : gcdL [x, y, d] <= 1073741824 := by
  have : gcdL [x, y, d] <= d.natAbs := by
   simp only [gcdL, List.foldl_cons, List.foldl_nil]
   exact Nat.gcd_le_right _ (by omega)
  omega
 have b1 := fun g => zdE (g := g) hx
 have b2 := fun g => zdE (g := g) hy
 have b3 := fun g => zdE (g := g) hd
 refine sA Tryz.func231 ?_
 refine ⟨⟨by decide, by decide⟩, ⟨⟨by decide, by decide⟩, ⟨⟨by decide, by decide⟩, ?_⟩⟩⟩
 refine CallSt.pureE (zoN [x, y, d] ?_ ?_) rfl (ziA rfl rfl rfl) rfl ?_
 ·intro n hn
  simp only [List.mem_cons, List.not_mem_nil, or_false] at hn
  omega
 ·exact Nat.le_of_ble_eq_true rfl
 refine ⟨⟨by decide, by decide⟩, ?_⟩
 apply bY <;> intro h1
 ·have h1 : d < 0 := dT h1
  refine ⟨i6, ?_⟩
  refine oL (List.range 14) (FzOb.no ?_)
  refine ⟨⟨by decide, by decide⟩, ⟨⟨by omega, zho (b1 _)⟩, ⟨⟨by decide, by decide⟩, ⟨⟨by omega, zho (b2 _)⟩, ⟨⟨by decide, by decide⟩, ⟨⟨by omega, zho (b3 _)⟩, ?_⟩⟩⟩⟩⟩⟩
  refine r1C rfl rfl rfl rfl rfl rfl (zhv ?_ ?_ ?_) <;> (unfold lowest; simp only [if_pos h1])
 ·have h1 : ¬ d < 0 := dF h1
  refine oL (List.range 14) (FzOb.no ?_)
  refine ⟨⟨by decide, by decide⟩, ⟨⟨by omega, zho (b1 _)⟩, ⟨⟨by decide, by decide⟩, ⟨⟨by omega, zho (b2 _)⟩, ⟨⟨by decide, by decide⟩, ⟨⟨by omega, zho (b3 _)⟩, ?_⟩⟩⟩⟩⟩⟩
  refine r1C rfl rfl rfl rfl rfl rfl (zhv ?_ ?_ ?_) <;> (unfold lowest; simp only [if_neg h1])
@[irreducible] def crossing (g h : Half) : Corner := lowest (g.C * h.B - h.C * g.B) (g.A * h.C - h.A * g.C) (det g h)
theorem ziZ (g h : Half) (hg : okH g) (hh : okH h) (hd : det g h ≠ 0) : Spec PP 170 [g.v, h.v] [(crossing g h).v] := by
 have h1 := mulB hg.c hh.b
 have h2 := mulB hh.c hg.b
 have h3 := mulB hg.a hh.c
 have h4 := mulB hh.a hg.c
 have h5 := zlr hg hh
 refine sA Tryz.func170 ?_
 refine oL (List.range 28) (FzOb.no ?_)
 refine ⟨i6, ⟨i6, ⟨i6, ⟨i6, ⟨i6, ⟨i6, ?_⟩⟩⟩⟩⟩⟩
 refine oP (zoO g h hg hh) rfl rfl ?_
 refine oP (zmi (g.C * h.B - h.C * g.B) (g.A * h.C - h.A * g.C) (det g h) (by omega) (by omega) (by omega) hd) rfl rfl ?_
 refine r1C rfl rfl rfl rfl rfl rfl (zhv ?_ ?_ ?_) <;> (unfold crossing; rfl)
abbrev Form := Place
structure okF (f : Form) : Prop where
  x : -1000 <= f.X /\ f.X <= 1000
  y : -1000 <= f.Y /\ f.Y <= 1000
theorem zeQ {f : Form} (h : slope f.X f.Y = true) : okF f := by
 unfold slope at h
 simp only [Bool.and_eq_true, zab] at h
 exact ⟨h.1, h.2⟩
@[irreducible] def value (f : Form) (p : Corner) : Frac := let n := f.X * p.X + f.Y * p.Y; let g : Int := gcdL [n, p.Den]; ⟨n.tdiv g, p.Den.tdiv g⟩
theorem zfj (f : Form) (p : Corner) (hf : okF f) (hp : okC p) : Spec PP 91 [f.v, p.v] [(value f p).v] := by
 have h1 := mulB hf.x hp.x
 have h2 := mulB hf.y hp.y
 have hd := hp.d
 have hg : 0 < gcdL [f.X * p.X + f.Y * p.Y, p.Den] := by
  simp only [gcdL, List.foldl_cons, List.foldl_nil]
  exact Nat.gcd_pos_of_pos_right _ (by omega)
 have b1 := fun g => zdE (g := g) (a := f.X * p.X + f.Y * p.Y) (b := 2147483648000) (by omega)
 have b2 := fun g => zdE (g := g) (a := p.Den) (b := 1073741824) (by omega)
 refine sA Tryz.func91 ?_
 refine ⟨i6, ⟨i6, ⟨i6, ?_⟩⟩⟩
 refine CallSt.pureE (zoN [f.X * p.X + f.Y * p.Y, p.Den] ?_ ?_) rfl (zdv rfl rfl) rfl ?_
 ·intro n hn
  simp only [List.mem_cons, List.not_mem_nil, or_false] at hn
  rcases hn with rfl | rfl <;> omega
 ·exact Nat.le_of_ble_eq_true rfl
 refine oL (List.range 9) (FzOb.no ?_)
 refine ⟨⟨by omega, zah (by have := b1 (gcdL [f.X * p.X + f.Y * p.Y, p.Den]); omega) (by have := b1 (gcdL [f.X * p.X + f.Y * p.Y, p.Den]); omega)⟩, ⟨⟨by omega, zho (b2 _)⟩, ?_⟩⟩
 refine r1C rfl rfl rfl rfl rfl rfl (zcW ?_ ?_) <;> (unfold value; rfl)
theorem zg0 : Spec PP 169 [] [.agg [I (-1), I 0, I 0, I 1, I 0, I 48, I 0, I (-1), I 0, I 0, I 1, I 48]] := by
 refine sA Tryz.func169 ?_
 refine r1C rfl rfl rfl rfl rfl rfl ?_
 exact zaa _
def sidesL : List Half := [⟨-1, 0, 0⟩, ⟨1, 0, 48⟩, ⟨0, -1, 0⟩, ⟨0, 1, 48⟩]
def outsideL : List Num -> Corner -> Int
 | [], _ => -5
 | x :: r, p => if lies x.h p = true then outsideL r p else x.n
theorem zdK (l : List Num) (p : Corner) (hl : ∀ x ∈ l, okH x.h) (hp : okC p) (hn : l.length <= 1000000) : Spec PP 81 [slN l, p.v] [N (outsideL l p)] := by
 refine sA Tryz.func81 ?_
 refine LoopOb.of (σ := Nat) (fun i => ([(3, .box 3 0), (7, avOf (slN l)), (8, .d (I l.length)), (9, .d (I i))], [(3, .box [.d (I p.X), .d (I p.Y), .d (I p.Den)])])) (fun i => i <= l.length /\ outsideL (l.drop i) p = outsideL l p) (fun i => l.length - i) 0 ⟨rfl, ⟨obD [I p.X, I p.Y, I p.Den] rfl, trivial⟩, ⟨rfl, rfl⟩, wq rfl⟩ ⟨Nat.zero_le _, rfl⟩ fun i hi => ?_
 obtain ⟨hi, ho⟩ := hi
 apply bY <;> intro h1
 ·have h1 : i < l.length := by simpa using h1
  have hd : l.drop i = l.getD i default :: l.drop (i + 1) := by
   rw [List.drop_eq_getElem_cons h1, gdq, gqe h1]; rfl
  rw [hd] at ho
  refine ⟨⟨rfl, by omega, by omega⟩, ?_⟩
  refine cP (zqt (l.getD i default).h p (hl _ (gd1 h1 default)) hp) rfl rfl ?_
  apply bY <;> intro h2
  ·have h2 : lies (l.getD i default).h p = false := by simpa using h2
   refine r1I rfl ?_
   rw [<- ho]; simp only [outsideL, h2]; rfl
  ·have h2 : lies (l.getD i default).h p = true := by simpa using h2
   refine ⟨i6, ?_⟩
   refine ⟨i + 1, ⟨rfl, ⟨obD [I p.X, I p.Y, I p.Den] rfl, trivial⟩, ⟨rfl, rfl⟩, wq rfl⟩, ⟨h1, ?_⟩, ?_⟩
   ·rw [<- ho]; simp only [outsideL, h2, if_true]
   ·show l.length - (i + 1) < l.length - i
    omega
 ·have h1 : i = l.length := by
   have : ¬ i < l.length := by simpa using h1
   omega
  refine r1I rfl ?_
  rw [<- ho, h1, List.drop_length]; rfl
def allAt (l : List Half) (i : Nat) : Num := if i < l.length then ⟨i, l.getD i default⟩ else ⟨-1 - ((i : Int) - l.length), sidesL.getD (i - l.length) default⟩
def allL (l : List Half) : List Num := (List.range (l.length + 4)).map (allAt l)
theorem zce (l : List Half) (i : Nat) : allAt l (l.length + i) = ⟨-1 - (i : Int), sidesL.getD i default⟩ := by
 unfold allAt
 rw [if_neg (by omega), Nat.add_sub_cancel_left]
 congr 1
 omega
theorem zcd (l : List Half) : (allL l).length = l.length + 4 := by simp [allL]
theorem zp7 (l : List Half) {i : Nat} (h : i < l.length + 4) : (allL l).getD i default = allAt l i := by
 unfold allL
 rw [gdq, List.getElem?_map, List.getElem?_range h]
 rfl
theorem app1 {k n : Nat} {f f' g : Nat -> Nat -> D} (hf : ∀ i, i < n -> ∀ j, j < k -> D.eqv (f i j) (f' i j)) (hg : ∀ j, j < k -> D.eqv (g 0 j) (f' n j)) : D.eqv (.slc k (n + 1) (appRow n f g)) (.slc k (n + 1) f') := by
 refine ⟨rfl, .inr ⟨rfl, fun i hi j hj => ?_⟩⟩
 unfold appRow
 by_cases h : i < n
 ·rw [if_pos h]; exact hf i h j hj
 ·obtain rfl : i = n := by omega
  rw [if_neg h, Nat.sub_self]; exact hg j hj
theorem zmj (l : List Half) (hn : l.length <= 1000000) : Spec PP 82 [slH l] [slN (allL l)] := by
 refine sA Tryz.func82 ?_
 refine LoopOb.of (σ := Nat) (fun i => ([(3, .own 3), (8, avOf (slH l)), (9, .d (I l.length)), (10, .d (I i))], [(3, .row 225 4 i fun m => (allAt l m).at)])) (fun i => i <= l.length) (fun i => l.length - i) 0 ⟨rfl, ⟨obR rfl ⟨rfl, .inl rfl⟩, trivial⟩, rfl, wq rfl⟩ (Nat.zero_le _) fun i hi => ?_
 apply bY <;> intro h1
 ·have h1 : i < l.length := by simpa using h1
  refine ⟨⟨rfl, by omega, by omega⟩, ?_⟩
  refine ⟨⟨.inr rfl, by unfold maxLen; omega, by show (i + 1) * 32 <= 140737488355328; omega⟩, ?_⟩
  refine ⟨i6, ?_⟩
  have e : allAt l i = ⟨i, l.getD i default⟩ := if_pos h1
  refine ⟨i + 1, ⟨rfl, ⟨obR rfl (app1 (fun _ _ _ _ => dE _) fun j hj => ?_), trivial⟩, rfl, wq rfl⟩, h1, ?_⟩
  ·rw [e]
   match j, hj with
   | 0, _ => exact ⟨rfl, rfl⟩
   | 1, _ => exact ⟨rfl, rfl⟩
   | 2, _ => exact ⟨rfl, rfl⟩
   | 3, _ => exact ⟨rfl, rfl⟩
  ·show l.length - (i + 1) < l.length - i
   omega
 ·have h1 : i = l.length := by
   have : ¬ i < l.length := by simpa using h1
   omega
  subst h1
  refine cP zg0 rfl rfl ?_
  refine LoopOb.of (σ := Nat) (fun i => ([(3, .own 3), (22, .agg [I (-1), I 0, I 0, I 1, I 0, I 48, I 0, I (-1), I 0, I 0, I 1, I 48]), (23, .d (I i))], [(3, .row 225 4 (l.length + i) fun m => (allAt l m).at)])) (fun i => i <= 4) (fun i => 4 - i) 0 ⟨rfl, ⟨obR rfl (dE _), trivial⟩, rfl, avA rfl (zaa _), avR _ rfl, trivial⟩ (Nat.zero_le _) fun i hi => ?_
  apply bY <;> intro h1
  ·have h1 : i < 4 := by have := dT h1; omega
   obtain rfl | rfl | rfl | rfl : i = 0 \/ i = 1 \/ i = 2 \/ i = 3 := by omega
   ·refine ⟨⟨by decide, by decide⟩, ?_⟩
    refine ⟨zah (by decide) (by decide), ?_⟩
    refine ⟨⟨.inr rfl, by unfold maxLen; omega, by show (l.length + 0 + 1) * 32 <= 140737488355328; omega⟩, ?_⟩
    refine ⟨zah (by decide) (by decide), ?_⟩
    have e : allAt l l.length = _ := zce l 0
    refine ⟨0 + 1, ⟨rfl, ⟨obR rfl (app1 (fun _ _ _ _ => dE _) fun j hj => ?_), trivial⟩, rfl, avA rfl (zaa _), avI rfl rfl, trivial⟩, by decide, by decide⟩
    rw [e]
    match j, hj with
    | 0, _ => exact ⟨rfl, rfl⟩
    | 1, _ => exact ⟨rfl, rfl⟩
    | 2, _ => exact ⟨rfl, rfl⟩
    | 3, _ => exact ⟨rfl, rfl⟩
   ·refine ⟨⟨by decide, by decide⟩, ?_⟩
    refine ⟨zah (by decide) (by decide), ?_⟩
    refine ⟨⟨.inr rfl, by unfold maxLen; omega, by show (l.length + 1 + 1) * 32 <= 140737488355328; omega⟩, ?_⟩
    refine ⟨zah (by decide) (by decide), ?_⟩
    have e := zce l 1
    refine ⟨1 + 1, ⟨rfl, ⟨obR rfl (app1 (fun _ _ _ _ => dE _) fun j hj => ?_), trivial⟩, rfl, avA rfl (zaa _), avI rfl rfl, trivial⟩, by decide, by decide⟩
    rw [e]
    match j, hj with
    | 0, _ => exact ⟨rfl, rfl⟩
    | 1, _ => exact ⟨rfl, rfl⟩
    | 2, _ => exact ⟨rfl, rfl⟩
    | 3, _ => exact ⟨rfl, rfl⟩
   ·refine ⟨⟨by decide, by decide⟩, ?_⟩
    refine ⟨zah (by decide) (by decide), ?_⟩
    refine ⟨⟨.inr rfl, by unfold maxLen; omega, by show (l.length + 2 + 1) * 32 <= 140737488355328; omega⟩, ?_⟩
    refine ⟨zah (by decide) (by decide), ?_⟩
    have e := zce l 2
    refine ⟨2 + 1, ⟨rfl, ⟨obR rfl (app1 (fun _ _ _ _ => dE _) fun j hj => ?_), trivial⟩, rfl, avA rfl (zaa _), avI rfl rfl, trivial⟩, by decide, by decide⟩
    rw [e]
    match j, hj with
    | 0, _ => exact ⟨rfl, rfl⟩
    | 1, _ => exact ⟨rfl, rfl⟩
    | 2, _ => exact ⟨rfl, rfl⟩
    | 3, _ => exact ⟨rfl, rfl⟩
   ·refine ⟨⟨by decide, by decide⟩, ?_⟩
    refine ⟨zah (by decide) (by decide), ?_⟩
    refine ⟨⟨.inr rfl, by unfold maxLen; omega, by show (l.length + 3 + 1) * 32 <= 140737488355328; omega⟩, ?_⟩
    refine ⟨zah (by decide) (by decide), ?_⟩
    have e := zce l 3
    refine ⟨3 + 1, ⟨rfl, ⟨obR rfl (app1 (fun _ _ _ _ => dE _) fun j hj => ?_), trivial⟩, rfl, avA rfl (zaa _), avI rfl rfl, trivial⟩, by decide, by decide⟩
    rw [e]
    match j, hj with
    | 0, _ => exact ⟨rfl, rfl⟩
    | 1, _ => exact ⟨rfl, rfl⟩
    | 2, _ => exact ⟨rfl, rfl⟩
    | 3, _ => exact ⟨rfl, rfl⟩
  ·have h1 : i = 4 := by have := dF h1; omega
   subst h1
   refine ⟨?_, trivial⟩
   refine ⟨_, _, _, _, rfl, ?_⟩
   refine ⟨(zcd l).symm, .inr ⟨rfl, fun i hi j hj => ?_⟩⟩
   show D.eqv ((allAt l i).at j) (((allL l).getD i default).at j)
   rw [zp7 l hi]
   exact dE _
end Go.Pg
namespace Go.Pg
open Go.Proofs Go.RowKit Go.Sort Go.Shelf
theorem ord_spec (a b : Int) : (ord a b = -1 /\ a < b) \/ (ord a b = 1 /\ b < a) \/ (ord a b = 0 /\ a = b) := by
 unfold ord
 by_cases h1 : a < b
 ·exact .inl ⟨if_pos h1, h1⟩
 ·by_cases h2 : b < a
  ·exact .inr (.inl ⟨by rw [if_neg h1, if_pos h2], h2⟩)
  ·exact .inr (.inr ⟨by rw [if_neg h1, if_neg h2], by omega⟩)
def ltC (p q : Corner) : Prop := p.X * q.Den < q.X * p.Den \/ (p.X * q.Den = q.X * p.Den /\ p.Y * q.Den < q.Y * p.Den)
instance (p q : Corner) : Decidable (ltC p q) := by unfold ltC; infer_instance
theorem zhE {p q : Corner} (hp : valid p = true) (hq : valid q = true) : cmpC p q < 0 ↔ ltC p q := by
 unfold cmpC ltC
 rw [if_pos ⟨hp, hq⟩]
 simp only [orL]
 rcases ord_spec (p.X * q.Den) (q.X * p.Den) with ⟨e, h⟩ | ⟨e, h⟩ | ⟨e, h⟩ <;> rcases ord_spec (p.Y * q.Den) (q.Y * p.Den) with ⟨e', h'⟩ | ⟨e', h'⟩ | ⟨e', h'⟩ <;> rw [e, e'] <;> simp <;> omega
theorem zbt {a b c x y z : Int} (hy : 0 < y) (hx : 0 < x) (hz : 0 < z) (h1 : a * y <= b * x) (h2 : b * z <= c * y) : a * z <= c * x := by
 have e1 : a * y * z <= b * x * z := Int.mul_le_mul_of_nonneg_right h1 (by omega)
 have e2 : b * z * x <= c * y * x := Int.mul_le_mul_of_nonneg_right h2 (by omega)
 have e3 : (a * z) * y <= (c * x) * y := by
  have q1 : a * y * z = a * z * y := by rw [Int.mul_assoc, Int.mul_comm y z, <- Int.mul_assoc]
  have q2 : b * x * z = b * z * x := by rw [Int.mul_assoc, Int.mul_comm x z, <- Int.mul_assoc]
  have q3 : c * y * x = c * x * y := by rw [Int.mul_assoc, Int.mul_comm y x, <- Int.mul_assoc]
  omega
 exact Int.le_of_mul_le_mul_right e3 hy
def leC (p q : Corner) : Prop := p.X * q.Den < q.X * p.Den \/ (p.X * q.Den = q.X * p.Den /\ p.Y * q.Den <= q.Y * p.Den)
theorem zaN {p q : Corner} : ¬ ltC p q ↔ leC q p := by unfold ltC leC; omega
theorem zbL {p q r : Corner} (hp : 0 < p.Den) (hq : 0 < q.Den) (hr : 0 < r.Den) (h1 : leC p q) (h2 : leC q r) : leC p r := by
 have hx := zbt (a := p.X) (b := q.X) (c := r.X) hq hp hr (by unfold leC at h1; omega) (by unfold leC at h2; omega)
 unfold leC at *
 by_cases hlt : p.X * r.Den < r.X * p.Den
 ·exact .inl hlt
 ·have hE : p.X * r.Den = r.X * p.Den := by omega
  have e1 : p.X * q.Den = q.X * p.Den := by
   have := zbt (a := q.X) (b := r.X) (c := p.X) hr hq hp (by omega) (by omega)
   omega
  have e2 : q.X * r.Den = r.X * q.Den := by
   have := zbt (a := r.X) (b := p.X) (c := q.X) hp hr hq (by omega) (by omega)
   omega
  have y1 : p.Y * q.Den <= q.Y * p.Den := by omega
  have y2 : q.Y * r.Den <= r.Y * q.Den := by omega
  exact .inr ⟨hE, zbt hq hp hr y1 y2⟩
theorem leC_total (p q : Corner) : leC p q \/ leC q p := by unfold leC; omega
theorem zfS {p : Corner} (h : valid p = true) : Nat.gcd (Nat.gcd p.X.natAbs p.Y.natAbs) p.Den.natAbs = 1 := by
 unfold valid at h
 simp only [Bool.and_eq_true, beq_iff_eq] at h
 have := h.2
 simp only [gcdL, List.foldl_cons, List.foldl_nil, Nat.gcd_zero_left] at this
 exact_mod_cast this
theorem zbM {p q : Corner} (hp : valid p = true) (hq : valid q = true) (h1 : leC p q) (h2 : leC q p) : p = q := by
 have dp := (zas hp).d
 have dq := (zas hq).d
 have ex : p.X * q.Den = q.X * p.Den := by unfold leC at *; omega
 have ey : p.Y * q.Den = q.Y * p.Den := by unfold leC at *; omega
 have nx : p.X.natAbs * q.Den.natAbs = q.X.natAbs * p.Den.natAbs := by rw [<- Int.natAbs_mul, <- Int.natAbs_mul, ex]
 have ny : p.Y.natAbs * q.Den.natAbs = q.Y.natAbs * p.Den.natAbs := by rw [<- Int.natAbs_mul, <- Int.natAbs_mul, ey]
 have g1 : Nat.gcd (Nat.gcd (p.X.natAbs * q.Den.natAbs) (p.Y.natAbs * q.Den.natAbs)) (p.Den.natAbs * q.Den.natAbs) = q.Den.natAbs := by
  rw [Nat.gcd_mul_right, Nat.gcd_mul_right, zfS hp, Nat.one_mul]
 have g2 : Nat.gcd (Nat.gcd (q.X.natAbs * p.Den.natAbs) (q.Y.natAbs * p.Den.natAbs)) (q.Den.natAbs * p.Den.natAbs) = p.Den.natAbs := by
  rw [Nat.gcd_mul_right, Nat.gcd_mul_right, zfS hq, Nat.one_mul]
 rw [nx, ny, Nat.mul_comm p.Den.natAbs, g2] at g1
 have ed : p.Den = q.Den := by omega
 have hx : p.X = q.X := by
  rw [ed] at ex
  exact Int.eq_of_mul_eq_mul_right (by omega) ex
 have hy : p.Y = q.Y := by
  rw [ed] at ey
  exact Int.eq_of_mul_eq_mul_right (by omega) ey
 cases p; cases q; simp_all
abbrev VC := { p : Corner // valid p = true }
instance : Inhabited VC := ⟨⟨⟨0, 0, 1⟩, by unfold valid within; decide⟩⟩
def VI : Ints VC 3 where
  lst p := [p.1.X, p.1.Y, p.1.Den]
  len _ := rfl
  at_ p := p.1.at
  hat p j hj := by
    match j, hj with
    | 0, _ => rfl
    | 1, _ => rfl
    | 2, _ => rfl
def cmpV (p q : VC) : Int := cmpC p.1 q.1
theorem zbS (p q : VC) : ltOf cmpV p q = decide (ltC p.1 q.1) := by
 unfold ltOf cmpV
 exact decide_eq_decide.2 (zhE p.2 q.2)
theorem VC.den (p : VC) : 0 < p.1.Den := by have := (zas p.2).d; omega
theorem swoV : SWO (ltOf cmpV) where
  irrefl x := by rw [zbS]; simp [ltC]
  trans x y z h1 h2 := by
    rw [zbS] at *
    simp only [decide_eq_true_eq] at *
    refine Classical.not_not.1 fun hn => ?_
    rw [zaN] at hn
    have h3 : leC x.1 y.1 := by unfold ltC at h1; unfold leC; omega
    exact (zaN.2 (zbL z.den x.den y.den hn h3)) h2
  ntrans x y z h1 h2 := by
    rw [zbS] at *
    simp only [decide_eq_false_iff_not] at *
    rw [zaN] at *
    exact zbL z.den y.den x.den h2 h1
theorem totV (x y : VC) (h1 : ltOf cmpV x y = false) (h2 : ltOf cmpV y x = false) : x = y := by
 rw [zbS] at *
 simp only [decide_eq_false_iff_not] at *
 rw [zaN] at *
 exact Subtype.ext (zbM x.2 y.2 h2 h1)
theorem aggC : ∀ w, (isAgg (Tryz.sortC_ren.t 24)).run PP w = .ok true w := fun _ => by kernel_rfl
theorem sizC : ∀ w, (Go.sizeOf (Tryz.sortC_ren.t 24)).run PP w = .ok 3 w := fun _ => by kernel_rfl
theorem zkh (l : List VC) (hn : l.length <= 1000000) : SpecR PP 96 [] [.d (.fn 97)] 67 3 l.length (VI.row l) (VI.row (l.mergeSort fun x y => !(ltOf cmpV) y x)) [] :=
 zeB VI Tryz.sortC ⟨_, Tryz.func96, by kernel_rfl, by kernel_rfl⟩ aggC sizC cmpV swoV totV 97 (fun x y => zls x.1 y.1) 67 l hn
abbrev Num.v (x : Num) : V1 := .agg [I x.n, I x.h.A, I x.h.B, I x.h.C]
def Num.val (x : Num) : Value := .agg #[.int .i64 x.n, .int .i64 x.h.A, .int .i64 x.h.B, .int .i64 x.h.C]
def rowPh (l : List Num) (i k : Nat) : List (Num × Num) := (List.range k).filterMap fun k => if det (l.getD k default).h (l.getD i default).h = 0 then none else some (l.getD k default, l.getD i default)
def upP (l : List Num) (i : Nat) : List (Num × Num) := (List.range i).flatMap fun i => rowPh l i i
def pairsL (l : List Num) : List (Num × Num) := upP l l.length
theorem zcv (l : List Num) (i k : Nat) : rowPh l i (k + 1) = rowPh l i k ++ (if det (l.getD k default).h (l.getD i default).h = 0 then [] else [(l.getD k default, l.getD i default)]) := by
 unfold rowPh
 rw [List.range_succ, List.filterMap_append]
 congr 1
 by_cases h : det (l.getD k default).h (l.getD i default).h = 0
 ·rw [if_pos h, List.filterMap_cons_none (by rw [if_pos h])]; rfl
 ·rw [if_neg h, List.filterMap_cons_some (by rw [if_neg h])]; rfl
theorem zdn (l : List Num) (i : Nat) : upP l (i + 1) = upP l i ++ rowPh l i i := by
 unfold upP
 rw [List.range_succ, List.flatMap_append]
 simp
theorem zmk (l : List Num) (i : Nat) : ∀ {k m : Nat}, k <= m -> rowPh l i k <+: rowPh l i m := fun {k m} h => by
 obtain ⟨d, rfl⟩ := Nat.exists_eq_add_of_le h
 induction d with
 | zero => exact List.prefix_rfl
 | succ d ih => exact (ih (by omega)).trans (by rw [<- Nat.add_assoc, zcv]; exact List.prefix_append _ _)
theorem zov (l : List Num) : ∀ {k m : Nat}, k <= m -> upP l k <+: upP l m := fun {k m} h => by
 obtain ⟨d, rfl⟩ := Nat.exists_eq_add_of_le h
 induction d with
 | zero => exact List.prefix_rfl
 | succ d ih => exact (ih (by omega)).trans (by rw [<- Nat.add_assoc, zdn]; exact List.prefix_append _ _)
theorem zdQ (l : List Num) {i k : Nat} (hi : i < l.length) (hk : k < i) (hd : det (l.getD k default).h (l.getD i default).h ≠ 0) : (pairsL l)[(upP l i).length + (rowPh l i k).length]? = some (l.getD k default, l.getD i default) := by
 have h1 : rowPh l i (k + 1) <+: rowPh l i i := zmk l i hk
 have h2 : upP l (i + 1) <+: pairsL l := zov l hi
 rw [zcv, if_neg hd] at h1
 rw [zdn] at h2
 obtain ⟨r1, h1⟩ := h1
 obtain ⟨r2, h2⟩ := h2
 rw [<- h2, <- h1]
 simp
def Num.sl (l : List Num) : D := .slc 4 l.length fun i => (l.getD i default).at
def pairsEnc (x : Num × Num) : List V1 := [x.1.v, x.2.v]
def pairsVal (x : Num × Num) : List Value := [x.1.val, x.2.val]
theorem zkD {x : Num} {w : World} {ok : Nat -> Prop} {u : Value} (h : Rep1 w ok x.v u) : u = x.val := by
 obtain ⟨vs, rfl, h⟩ := h
 cases h with
 | cons h1 h => cases h with
  | cons h2 h => cases h with
   | cons h3 h => cases h with
    | cons h4 h =>
     cases h
     rw [show _ = _ from h1, show _ = _ from h2, show _ = _ from h3, show _ = _ from h4]
     rfl
theorem zjC (x : Num) (w : World) (ok : Nat -> Prop) : Rep1 w ok x.v x.val := ⟨_, rfl, .cons rfl (.cons rfl (.cons rfl (.cons rfl .nil)))⟩
theorem zh2 (l : List Num) (hl : ∀ x ∈ l, okH x.h) (hn : l.length <= 1000000) : SeqC PP 201 1 (fun _ => .ptr 1 fun _ => Num.sl l) pairsVal (pairsL l) := by
 refine zgX Tryz.func201 rfl (by kernel_rfl) rfl rfl pairsEnc (fun x w ok us h => ?_) _ fun y => ?_
 ·cases h with
  | cons h1 h => cases h with
   | cons h2 h => cases h; rw [zkD h1, zkD h2]; rfl
 refine LoopOb.of (σ := Nat) (fun i => ([(G, .gho (some (upP l i).length)), (0, .yl y), (1, .roe 1 fun _ => Num.sl l), (7, avOf (slN l)), (8, .d (I l.length)), (9, .d (I i))], [])) (fun i => i <= l.length) (fun i => l.length - i) 0 ⟨rfl, trivial, wq rfl⟩ (Nat.zero_le _) fun i hi => ?_
 apply bY <;> intro h1
 ·have h1 : i < l.length := by simpa using h1
  refine ⟨⟨rfl, by omega, by omega⟩, ?_⟩
  refine ⟨⟨.inr rfl, by omega, by omega⟩, ?_⟩
  refine LoopOb.of (σ := Nat) (fun k => ([(G, .gho (some ((upP l i).length + (rowPh l i k).length))), (0, .yl y), (1, .roe 1 fun _ => Num.sl l), (4, .roe 4 (l.getD i default).at), (7, avOf (slN l)), (8, .d (I l.length)), (9, .d (I i)), (16, .d (.slc 4 i fun i => (l.getD i default).at)), (17, .d (I i)), (18, .d (I k))], [])) (fun k => k <= i) (fun k => i - k) 0 ⟨rfl, trivial, avQ rfl, avQ rfl, avQ rfl, avBx rfl rfl rfl rfl (eqv4 rfl (dE _) (dE _) (dE _) (dE _)), avQ rfl, avQ rfl, avQ rfl, avE rfl ⟨by omega, .inr ⟨rfl, fun _ _ _ _ => dE _⟩⟩, avI rfl (by omega), avQ rfl, trivial⟩ (Nat.zero_le _) fun k hk => ?_
  apply bY <;> intro h2
  ·have h2 : k < i := by simpa using h2
   have hok1 := hl _ (gd1 (show k < l.length by omega) default)
   have hok2 := hl _ (gd1 h1 default)
   refine ⟨⟨rfl, by omega, by omega⟩, ?_⟩
   refine cP (zoO (l.getD k default).h (l.getD i default).h hok1 hok2) rfl rfl ?_
   apply bY <;> intro h3
   ·have h3 : det (l.getD k default).h (l.getD i default).h ≠ 0 := by simpa using h3
    refine CallSt.yd (d := 32) [(0, .yl y), (1, .roe 1 fun _ => Num.sl l), (4, .roe 4 (l.getD i default).at), (7, avOf (slN l)), (8, .d (I l.length)), (9, .d (I i)), (16, .d (.slc 4 i fun i => (l.getD i default).at)), (17, .d (I i)), (18, .d (I k)), (28, .d (.bool true))] rfl rfl rfl rfl ⟨rfl, trivial, wq rfl⟩ (zdQ l h1 h2 h3) rfl rfl ?_ ?_
    ·refine sT ?_
     refine sF ?_
     refine ⟨i6, ?_⟩
     refine ⟨k + 1, ⟨rfl, trivial, avG rfl ?_, wq rfl⟩, h2, ?_⟩
     ·rw [zcv, if_neg h3]; simp; omega
     ·show i - (k + 1) < i - k
      omega
    ·refine sT ?_
     refine sT ?_
     exact .inr rfl
   ·have h3 : det (l.getD k default).h (l.getD i default).h = 0 := by simpa using h3
    refine sF ?_
    refine sF ?_
    refine ⟨i6, ?_⟩
    refine ⟨k + 1, ⟨rfl, trivial, avG rfl ?_, wq rfl⟩, h2, ?_⟩
    ·rw [zcv, if_pos h3]; simp
    ·show i - (k + 1) < i - k
     omega
  ·have h2 : k = i := by
    have : ¬ k < i := by simpa using h2
    omega
   subst h2
   refine ⟨i6, ?_⟩
   refine ⟨k + 1, ⟨rfl, trivial, avG rfl ?_, wq rfl⟩, h1, ?_⟩
   ·rw [zdn]; simp
   ·show l.length - (k + 1) < l.length - k
    omega
 ·have h1 : i = l.length := by
   have : ¬ i < l.length := by simpa using h1
   omega
  subst h1
  exact .inl rfl
abbrev pairsClo (l : List Num) : D := .clo 201 1 fun _ => .ptr 1 fun _ => Num.sl l
theorem zj5 (l : List Num) : Spec PP 124 [slN l] [.d (pairsClo l)] := by
 refine sA Tryz.func124 ?_
 refine ⟨⟨rfl, rfl, fun j hj => ?_⟩, trivial⟩
 obtain rfl : j = 0 := by omega
 exact ⟨_, rfl, rfl, _, _, rfl, rfl, rfl, fun j hj => (by
  cases Nat.lt_one_iff.1 hj
  exact dE _)⟩
abbrev Uh (n : Int) : D := .int .u64 n
abbrev NU (n : Int) : V1 := .d (Uh n)
theorem znn (a : Int) : SpecD PP 292 [NU a] [B false] := by
 refine zaC Tryz.func292 rfl (by kernel_rfl) rfl ?_
 refine r1B rfl ?_
 simp
theorem zri (a b : Int) : SpecD PP 233 [NU a, NU b] [N (ord a b)] := by
 refine zaC Tryz.func233 rfl (by kernel_rfl) rfl ?_
 repeat' first
  | refine sT ?_
  | refine sF ?_
  | refine bY (fun _ => ?_) (fun _ => ?_)
  | refine cP (znn _) rfl rfl ?_
  | refine r1I rfl ?_
 all_goals (unfold ord; simp_all)
 all_goals omega
theorem znm (a b : Int) : SpecD PP 174 [NU a, NU b] [N (ord a b)] := by
 refine zaC Tryz.func174 rfl (by kernel_rfl) rfl ?_
 refine cP (zri a b) rfl rfl ?_
 exact r1I rfl rfl
theorem zh3 (a b : Int) : Spec PP 174 [NU a, NU b] [N (ord a b)] := (znm a b).of
theorem zpK (x y : Nat) (hx : x < 18446744073709551616) (hy : y < 18446744073709551616) : SpecD PP 171 [NU x, NU y] [NU ((x * y / 18446744073709551616 : Nat) : Int), NU ((x * y % 18446744073709551616 : Nat) : Int)] :=
 zgU Tryz.mul64 ⟨_, Tryz.func171, by kernel_rfl, by kernel_rfl⟩ x y hx hy
def hiW (n : Int) : Int := ((n.natAbs / 18446744073709551616 : Nat) : Int)
def loW (n : Int) : Int := ((n.natAbs % 18446744073709551616 : Nat) : Int)
abbrev wide (n : Int) : V1 := .agg [I (ord n 0), Uh (hiW n), Uh (loW n)]
theorem zo4 (a b : Int) : ord a 0 * ord b 0 = ord (a * b) 0 := by
 unfold ord
 rcases Int.lt_trichotomy a 0 with h | h | h <;> rcases Int.lt_trichotomy b 0 with g | g | g
 ·have := Int.mul_pos_of_neg_of_neg h g; rw [if_pos h, if_pos g, if_neg (by omega), if_pos this]; rfl
 ·subst g; simp
 ·have := Int.mul_neg_of_neg_of_pos h g; rw [if_pos h, if_neg (by omega), if_pos g, if_pos this]; rfl
 ·subst h; simp
 ·subst h; simp
 ·subst h; simp
 ·have := Int.mul_neg_of_pos_of_neg h g; rw [if_neg (by omega), if_pos h, if_pos g, if_pos this]; rfl
 ·subst g; simp
 ·have := Int.mul_pos h g; rw [if_neg (by omega), if_pos h, if_neg (by omega), if_pos g, if_neg (by omega), if_pos this]; rfl
theorem absW {a : Int} (h : -9223372036854775807 <= a /\ a <= 9223372036854775807) : IntKind.u64.wrap (max a (-a)) = (a.natAbs : Int) := by
 have e : max a (-a) = (a.natAbs : Int) := by omega
 rw [e]
 show ((a.natAbs : Int) % 2 ^ 64) = _
 omega
theorem zgd (a b : Int) : -1 <= ord a b /\ ord a b <= 1 := by
 unfold ord; split
 ·omega
 ·split <;> omega
theorem zfk (a b : Int) (ha : -9223372036854775807 <= a /\ a <= 9223372036854775807) (hb : -9223372036854775807 <= b /\ b <= 9223372036854775807) : Spec PP 89 [N a, N b] [wide (a * b)] := by
 refine sA Tryz.func89 ?_
 refine ⟨i6, ⟨i6, ?_⟩⟩
 refine CallSt.pureE (zpK a.natAbs b.natAbs (by omega) (by omega)).of rfl ⟨⟨rfl, absW ha⟩, ⟨rfl, absW hb⟩, trivial⟩ rfl ?_
 refine cP (zfl a 0) rfl rfl ?_
 refine cP (zfl b 0) rfl rfl ?_
 have h1 := zgd a 0
 have h2 := zgd b 0
 have h3 := mulB h1 h2
 refine ⟨i6, ?_⟩
 refine r1C rfl rfl rfl rfl rfl rfl (zhv (zo4 a b) ?_ ?_)
 ·unfold hiW; rw [Int.natAbs_mul]
 ·unfold loW; rw [Int.natAbs_mul]
theorem zo5 (a b c d : Nat) (hb : b < 18446744073709551616) (hd : d < 18446744073709551616) : orL [ord a c, ord b d] = ord (18446744073709551616 * a + b) (18446744073709551616 * c + d) := by
 simp only [orL]
 unfold ord
 rcases Nat.lt_trichotomy a c with h | h | h
 ·rw [if_pos (show (a : Int) < c by omega), if_neg (by decide), if_pos (by omega)]
 ·subst h
  rw [if_neg (show ¬ (a : Int) < a by omega), if_neg (show ¬ (a : Int) < a by omega), if_pos rfl]
  rcases Nat.lt_trichotomy b d with g | g | g
  ·rw [if_pos (show (b : Int) < d by omega), if_neg (by decide), if_pos (by omega)]
  ·subst g; simp
  ·rw [if_neg (show ¬ (b : Int) < d by omega), if_pos (show (d : Int) < b by omega), if_neg (by decide), if_neg (by omega), if_pos (by omega)]
 ·rw [if_neg (show ¬ (a : Int) < c by omega), if_pos (show (c : Int) < a by omega), if_neg (by decide), if_neg (by omega), if_pos (by omega)]
theorem zo6 (m n : Int) : orL [ord (hiW m) (hiW n), ord (loW m) (loW n)] = ord m.natAbs n.natAbs := by
 have h1 := Nat.div_add_mod m.natAbs 18446744073709551616
 have h2 := Nat.div_add_mod n.natAbs 18446744073709551616
 unfold hiW loW
 rw [zo5 _ _ _ _ (Nat.mod_lt _ (by decide)) (Nat.mod_lt _ (by decide))]
 congr 1 <;> omega
theorem zij (m n : Int) : (if ord m 0 = ord n 0 then ord m 0 * orL [ord (hiW m) (hiW n), ord (loW m) (loW n)] else ord (ord m 0) (ord n 0)) = ord m n := by
 rw [zo6]
 rcases Int.lt_trichotomy m 0 with h | h | h <;> rcases Int.lt_trichotomy n 0 with g | g | g
 all_goals
  first
   | have e1 : ord m 0 = -1 := by unfold ord; rw [if_pos h]
   | have e1 : ord m 0 = 0 := by subst h; unfold ord; rfl
   | have e1 : ord m 0 = 1 := by unfold ord; rw [if_neg (by omega), if_pos h]
  first
   | have e2 : ord n 0 = -1 := by unfold ord; rw [if_pos g]
   | have e2 : ord n 0 = 0 := by subst g; unfold ord; rfl
   | have e2 : ord n 0 = 1 := by unfold ord; rw [if_neg (by omega), if_pos g]
  rw [e1, e2]
  unfold ord
  (repeat' split) <;> omega
theorem znQ (m n : Int) : Spec PP 90 [wide m, wide n] [N (ord m n)] := by
 refine sA Tryz.func90 ?_
 apply bY <;> intro h1
 ·have h1 : ord m 0 ≠ ord n 0 := by simpa using h1
  refine cP (zfl _ _) rfl rfl ?_
  refine r1I rfl ?_
  rw [<- zij m n, if_neg h1]
 ·have h1 : ord m 0 = ord n 0 := by simpa using h1
  refine oL (List.range 16) (FzOb.no ?_)
  refine oP (zh3 _ _) rfl rfl ?_
  refine oP (zh3 _ _) rfl rfl ?_
  refine CallOb.pureE (s_or [_, _] ?_) rfl (zdv rfl rfl) rfl ?_
  ·exact Nat.le_of_ble_eq_true rfl
  have hb : ∀ x y : Int, (-1 <= x /\ x <= 1) -> (-1 <= y /\ y <= 1) -> -1 <= orL [x, y] /\ orL [x, y] <= 1 := fun x y hx hy => by
   simp only [orL]; split
   ·split <;> omega
   ·omega
  have h3 := mulB (zgd m 0) (hb _ _ (zgd (hiW m) (hiW n)) (zgd (loW m) (loW n)))
  refine ⟨i6, ?_⟩
  refine r1I rfl ?_
  rw [<- zij m n, if_pos h1]
def dXh (a b : Corner) : Int := b.X * a.Den - a.X * b.Den
def dYh (a b : Corner) : Int := b.Y * a.Den - a.Y * b.Den
@[irreducible] def turn (a b c : Corner) : Int := ord (dXh a b * dYh a c) (dYh a b * dXh a c)
theorem zqs (a b c : Corner) (ha : okC a) (hb : okC b) (hc : okC c) : Spec PP 183 [a.v, b.v, c.v] [N (turn a b c)] := by
 have da := ha.d
 have db := hb.d
 have dc := hc.d
 have h1 := mulB hb.x (b := a.Den) (y := 2097152) (by omega)
 have h2 := mulB ha.x (b := b.Den) (y := 2097152) (by omega)
 have h3 := mulB hb.y (b := a.Den) (y := 2097152) (by omega)
 have h4 := mulB ha.y (b := b.Den) (y := 2097152) (by omega)
 have h5 := mulB hc.x (b := a.Den) (y := 2097152) (by omega)
 have h6 := mulB ha.x (b := c.Den) (y := 2097152) (by omega)
 have h7 := mulB hc.y (b := a.Den) (y := 2097152) (by omega)
 have h8 := mulB ha.y (b := c.Den) (y := 2097152) (by omega)
 refine sA Tryz.func183 ?_
 refine oL (List.range 24) (FzOb.no ?_)
 refine ⟨i6, ⟨i6, ⟨i6, ⟨i6, ⟨i6, ⟨i6, ?_⟩⟩⟩⟩⟩⟩
 refine oL (List.range 24) (FzOb.no ?_)
 refine ⟨i6, ⟨i6, ⟨i6, ⟨i6, ⟨i6, ⟨i6, ?_⟩⟩⟩⟩⟩⟩
 refine cP (zfk (b.X * a.Den - a.X * b.Den) (c.Y * a.Den - a.Y * c.Den) (by omega) (by omega)) rfl rfl ?_
 refine cP (zfk (b.Y * a.Den - a.Y * b.Den) (c.X * a.Den - a.X * c.Den) (by omega) (by omega)) rfl rfl ?_
 refine cP (znQ _ _) rfl rfl ?_
 refine r1I rfl ?_
 unfold turn dXh dYh; rfl
abbrev rowC (l : List Corner) : Nat -> Nat -> D := fun i => (l.getD i default).at
theorem avS {s : St} {ob : Nat -> Option Ob} {v : AV} {i k lo n lo' n' : Nat} (h : v = .sub i k lo n) (e1 : lo = lo') (e2 : n = n') : AVle s ob v (.sub i k lo' n') := by subst h; exact ⟨rfl, rfl, e1, e2⟩
theorem zle (l : List Corner) (m j : Nat) : (rowC l m j).flat = true := by
 show ((l.getD m default).at j).flat = true
 unfold Corner.at; split <;> rfl
theorem zil (l : List Corner) (hn : l.length <= 1000000) : SpecO PP 184 [slC l] 67 3 l.length (rowC l) := by
 refine zff Tryz.func184 rfl (by kernel_rfl) rfl ?_
 refine fun b hb => ?_
 apply bY <;> intro h1
 ·have h0 := hb h1
  refine ⟨rfl, rfl, h0.symm, fun i hi => ?_⟩
  omega
 ·refine ⟨⟨.inr rfl, by unfold maxLen; omega, by show (0 + l.length) * 24 <= 140737488355328; omega⟩, ?_⟩
  refine ⟨rfl, rfl, Nat.zero_add _, fun i hi j hj => ?_⟩
  exact dE _
@[irreducible] def keepC (l : List Corner) (i : Nat) : Bool := i == 0 || !(l.getD i default == l.getD (i - 1) default)
@[irreducible] def compP (l : List Corner) (j : Nat) : List Corner := ((List.range j).filter (keepC l)).map fun i => l.getD i default
@[irreducible] def compL (l : List Corner) : List Corner := compP l l.length
theorem zb3 (l : List Corner) (i : Nat) : keepC l i = (i == 0 || !(l.getD i default == l.getD (i - 1) default)) := by unfold keepC; rfl
theorem keep0 (l : List Corner) {i : Nat} (h : i < 1) : keepC l i = true := by
 obtain rfl : i = 0 := by omega
 unfold keepC; rfl
theorem zb7 (l : List Corner) (j : Nat) : compP l (j + 1) = compP l j ++ (if keepC l j = true then [l.getD j default] else []) := by
 unfold compP
 rw [List.range_succ, List.filter_append, List.map_append]
 congr 1
 by_cases h : keepC l j = true
 ·rw [if_pos h]; simp [h]
 ·rw [if_neg h]; simp [h]
theorem zlx (l : List Corner) (j : Nat) : (compP l j).length <= j := by
 unfold compP
 rw [List.length_map]
 exact Nat.le_trans (List.length_filter_le _ _) (by simp)
theorem zeb (l : List Corner) {j : Nat} (hj : j <= l.length) (h : ∀ i, i < j -> keepC l i = true) : compP l j = l.take j := by
 induction j with
 | zero => simp [compP]
 | succ j ih => rw [zb7, if_pos (h j (by omega)), ih (by omega) fun i hi => h i (by omega), zaz (by omega) default]
theorem eqC (p q : Corner) : (p.X == q.X && (p.Y == q.Y && (p.Den == q.Den && true))) = (p == q) := by
 rw [Bool.eq_iff_iff]
 simp only [Bool.and_eq_true, beq_iff_eq, and_true]
 constructor
 ·rintro ⟨h1, h2, h3⟩; cases p; cases q; simp_all
 ·rintro rfl; exact ⟨rfl, rfl, rfl⟩
theorem zbs {α : Type} (m : List α) (k i : Nat) (p d : α) (hk : k < m.length) : (m.set k p).getD i d = if i = k then p else m.getD i d := by
 rw [gdq, List.getElem?_set, gdq]
 by_cases h : k = i
 ·subst h; simp [hk]
 ·rw [if_neg h, if_neg fun e => h e.symm]
theorem setC {m : List Corner} {n k k' : Nat} {p q : Corner} (hk : k < m.length) (e1 : k' = k) (e2 : q = p) : D.eqv (.slc 3 n (storeRow (rowC m) k' 0 [I q.X, I q.Y, I q.Den])) (.slc 3 n (rowC (m.set k p))) := by
 subst e1; subst e2
 refine ⟨rfl, .inr ⟨rfl, fun i hi j hj => ?_⟩⟩
 show D.eqv (storeRow (rowC m) k' 0 [I q.X, I q.Y, I q.Den] i j) (((m.set k' q).getD i default).at j)
 rw [zbs m k' i q default hk]
 unfold storeRow
 by_cases h : i = k'
 ·rw [if_pos h, if_pos ⟨h, by omega, by simpa using hj⟩]
  match j, hj with
  | 0, _ => exact ⟨rfl, rfl⟩
  | 1, _ => exact ⟨rfl, rfl⟩
  | 2, _ => exact ⟨rfl, rfl⟩
 ·rw [if_neg h, if_neg fun hh => h hh.1]
  exact dE _
theorem zjP (l : List Corner) (hn : l.length <= 1000000) : SpecT PP 99 [] [] 67 3 l.length (rowC l) (compL l).length (rowC (compL l)) := by
 refine zfd Tryz.func99 rfl (by kernel_rfl) (fun i _ j _ => zle _ i j) rfl fun v => ?_
 apply bY <;> intro h1
 ·have h1 : l.length < 2 := by have := dT h1; omega
  have e : compL l = l := by
   unfold compL
   rw [zeb l (Nat.le_refl _) fun i hi => ?_, List.take_length]
   unfold keepC
   rcases Nat.eq_zero_or_pos i with h | h
   ·subst h; rfl
   ·omega
  rw [e]
  exact ⟨rfl, rfl, rfl, fun i hi j hj => dE _⟩
 ·have h1 : 2 <= l.length := by have := dF h1; omega
  refine LoopOb.of (σ := Nat) (fun k => ([(0, .own 0), (3, .d (I k))], [(0, .row 67 3 l.length (rowC l))])) (fun k => 1 <= k /\ k <= l.length /\ ∀ i, i < k -> keepC l i = true) (fun k => l.length - k) 1 ⟨rfl, ⟨obR rfl (dE _), trivial⟩, rfl, avR _ rfl, trivial⟩ ⟨Nat.le_refl _, by omega, fun i hi => keep0 l hi⟩ fun k hk => ?_
  obtain ⟨k1, k2, k3⟩ := hk
  apply bY <;> intro h2
  ·have h2 : k < l.length := by simpa using h2
   refine oL (List.range 10) (FzOb.no ?_)
   refine ⟨⟨by omega, by omega⟩, ⟨by omega, ?_⟩⟩
   refine ⟨i6, ?_⟩
   refine ⟨⟨by omega, by omega⟩, ⟨by omega, ?_⟩⟩
   apply bY <;> intro h3
   ·rw [eqC, Int.toNat_natCast, show ((k : Int) - 1).toNat = k - 1 by omega] at h3
    have hnk : keepC l k = false := by simp only [zb3, h3]; simp; omega
    have ck : compP l (k + 1) = l.take k := by rw [zb7, if_neg (by rw [hnk]; decide), List.append_nil, zeb l k2 k3]
    refine ⟨⟨rfl, by omega, by omega⟩, ?_⟩
    refine LoopOb.of (σ := Nat × Nat × List Corner) (fun x => ([(0, .own 0), (3, .d (I x.2.1)), (4, .sub 0 3 k (l.length - k)), (5, .d (I (x.1 - k)))], [(0, .row 67 3 l.length (rowC x.2.2))]))
     (fun x => k + 1 <= x.1 /\ x.1 <= l.length /\ x.2.2.length = l.length /\ x.2.1 <= x.1 - 1 /\ x.2.2.take x.2.1 = compP l x.1 /\ ∀ i, x.1 - 1 <= i -> x.2.2.getD i default = l.getD i default) (fun x => l.length - x.1) (k + 1, k, l)
     ⟨rfl, ⟨obR rfl (dE _), trivial⟩, rfl, avI rfl rfl, avS rfl (Int.toNat_natCast k) (by rw [Int.toNat_natCast]), avI rfl ?_, trivial⟩ ⟨Nat.le_refl _, h2, rfl, by simp, ck.symm, fun _ _ => rfl⟩ fun x hx => ?_
    ·show (1 : Int) = ((k + 1 : Nat) : Int) - k
     omega
    ·obtain ⟨x1, x2, x3, x4, x5, x6⟩ := hx
     apply bY <;> intro g1
     ·have g1 : x.1 < l.length := by have := dT g1; omega
      refine oL (List.range 10) (FzOb.no ?_)
      refine ⟨⟨by omega, by omega⟩, ⟨by omega, ?_⟩⟩
      refine ⟨i6, ?_⟩
      refine ⟨⟨by omega, by omega⟩, ⟨by omega, ?_⟩⟩
      have e1 : k + ((x.1 : Int) - k).toNat = x.1 := by omega
      have e2 : k + ((x.1 : Int) - k - 1).toNat = x.1 - 1 := by omega
      apply bY <;> intro g2
      ·rw [eqC, e1, e2, x6 x.1 (by omega), x6 (x.1 - 1) (by omega)] at g2
       have hkj : keepC l x.1 = true := by simp only [zb3]; simp only [Bool.or_eq_true]; exact .inr g2
       refine ⟨⟨by omega, by omega⟩, ⟨by omega, ?_⟩⟩
       refine ⟨⟨by omega, by omega⟩, ⟨by omega, ?_⟩⟩
       refine ⟨i6, ?_⟩
       refine ⟨i6, ?_⟩
       refine ⟨(x.1 + 1, x.2.1 + 1, x.2.2.set x.2.1 (l.getD x.1 default)), ⟨rfl, ⟨obR rfl (setC (by omega) (Int.toNat_natCast _) (by rw [e1, x6 _ (by omega)])), trivial⟩, rfl, avI rfl ?_, avS rfl rfl rfl, avI rfl ?_, trivial⟩, ⟨by omega, by omega, by simp; omega, (show x.2.1 + 1 <= x.1 + 1 - 1 by omega), ?_, fun i hi => ?_⟩, ?_⟩
       ·show (x.2.1 : Int) + 1 = ((x.2.1 + 1 : Nat) : Int)
        omega
       ·show (x.1 : Int) - k + 1 = ((x.1 + 1 : Nat) : Int) - k
        omega
       ·show (x.2.2.set x.2.1 (l.getD x.1 default)).take (x.2.1 + 1) = compP l (x.1 + 1)
        rw [zb7, if_pos hkj, zaz (i := x.2.1) (by simp; omega) default, zbs _ _ _ _ _ (by omega), if_pos rfl, <- x5, List.take_set_of_le (Nat.le_refl _)]
       ·have hi : x.1 + 1 - 1 <= i := hi
        show (x.2.2.set x.2.1 (l.getD x.1 default)).getD i default = _
        rw [zbs _ _ _ _ _ (by omega), if_neg (by omega)]
        exact x6 i (by omega)
       ·show l.length - (x.1 + 1) < l.length - x.1
        omega
      ·rw [eqC, e1, e2, x6 x.1 (by omega), x6 (x.1 - 1) (by omega)] at g2
       have hkj : keepC l x.1 = false := by simp only [zb3]; simp only [Bool.or_eq_false_iff]; exact ⟨by simp; omega, g2⟩
       refine ⟨i6, ?_⟩
       refine ⟨(x.1 + 1, x.2.1, x.2.2), ⟨rfl, ⟨obR rfl (dE _), trivial⟩, rfl, avI rfl rfl, avS rfl rfl rfl, avI rfl ?_, trivial⟩, ⟨by omega, by omega, x3, (show x.2.1 <= x.1 + 1 - 1 by omega), ?_, fun i hi => x6 i (by omega)⟩, ?_⟩
       ·show (x.1 : Int) - k + 1 = ((x.1 + 1 : Nat) : Int) - k
        omega
       ·show x.2.2.take x.2.1 = compP l (x.1 + 1)
        rw [zb7, if_neg (by rw [hkj]; decide), List.append_nil, x5]
       ·show l.length - (x.1 + 1) < l.length - x.1
        omega
     ·have g1 : x.1 = l.length := by have := dF g1; omega
      refine ⟨⟨rfl, by omega, by omega⟩, ?_⟩
      refine ⟨by omega, ?_⟩
      refine ⟨⟨by omega, by omega⟩, ?_⟩
      refine ⟨rfl, rfl, ?_, fun i hi j hj => ?_⟩
      ·have := congrArg List.length x5
       rw [List.length_take, g1] at this
       show (x.2.1 : Int).toNat = _
       unfold compL
       omega
      ·have hk' : x.2.1 = (compL l).length := by
        have := congrArg List.length x5
        rw [List.length_take, g1] at this
        unfold compL
        omega
       have e3 : (compL l).getD i default = x.2.2.getD i default := by
        unfold compL
        rw [<- g1, <- x5, gdq, List.getElem?_take, if_pos (by omega), <- gdq]
       show D.eqv (clrRow (rowC x.2.2) (x.2.1 : Int).toNat (l.length - (x.2.1 : Int).toNat) _ i j) (((compL l).getD i default).at j)
       unfold clrRow
       rw [if_neg (by omega), e3]
       exact dE _
   ·rw [eqC, Int.toNat_natCast, show ((k : Int) - 1).toNat = k - 1 by omega] at h3
    refine ⟨i6, ?_⟩
    refine ⟨k + 1, ⟨rfl, ⟨obR rfl (dE _), trivial⟩, rfl, avI rfl (by omega), trivial⟩, ⟨by omega, by omega, fun i hi => ?_⟩, ?_⟩
    ·rcases Nat.lt_or_ge i k with h | h
     ·exact k3 i h
     ·obtain rfl : i = k := by omega
      simp only [zb3, h3]; simp
    ·show l.length - (k + 1) < l.length - k
     omega
  ·have h2 : k = l.length := by
    have : ¬ k < l.length := by simpa using h2
    omega
   have e : compL l = l := by
    unfold compL
    rw [zeb l (Nat.le_refl _) fun i hi => k3 i (by omega), List.take_length]
   rw [e]
   exact ⟨rfl, rfl, rfl, fun i hi j hj => dE _⟩
def popR (p : Corner) : List Corner -> List Corner
 | b :: a :: r => if turn a b p <= 0 then popR p (a :: r) else b :: a :: r
 | s => s
def stepR (st : List Corner) (p : Corner) : List Corner := p :: popR p st
@[irreducible] def chainR (l : List Corner) : List Corner := l.foldl stepR []
@[irreducible] def halfL (l : List Corner) : List Corner := (chainR l).tail.reverse
theorem zfr (p : Corner) : ∀ (st : List Corner), ∀ q ∈ popR p st, q ∈ st
 | [], q, h => h
 | [b], q, h => h
 | b :: a :: r, q, h => by
  simp only [popR] at h
  split at h
  ·exact List.mem_cons_of_mem _ (zfr p (a :: r) q h)
  ·exact h
theorem zid (p : Corner) : ∀ (st : List Corner), (popR p st).length <= st.length
 | [] => Nat.le_refl _
 | [b] => Nat.le_refl _
 | b :: a :: r => by
  simp only [popR]
  split
  ·have := zid p (a :: r); simp only [List.length_cons] at *; omega
  ·exact Nat.le_refl _
theorem zbF (l : List Corner) {i : Nat} (h : i < l.length) : chainR (l.take (i + 1)) = stepR (chainR (l.take i)) (l.getD i default) := by
 unfold chainR
 rw [zaz h default, List.foldl_append]; rfl
theorem zee (l : List Corner) : chainR (l.take 0) = [] := by unfold chainR; simp
theorem za9 (l : List Corner) : ∀ i, i <= l.length -> (∀ q ∈ chainR (l.take i), q ∈ l) /\ (chainR (l.take i)).length <= i
 | 0, _ => by rw [zee]; simp
 | i + 1, h => by
  rw [zbF l (by omega)]
  obtain ⟨h1, h2⟩ := za9 l i (by omega)
  refine ⟨fun q hq => ?_, ?_⟩
  ·rcases List.mem_cons.1 hq with rfl | hq
   ·exact gd1 (by omega) default
   ·exact h1 q (zfr _ _ q hq)
  ·have := zid (l.getD i default) (chainR (l.take i))
   show (popR _ _).length + 1 <= i + 1
   omega
theorem zg5 (a : Corner) (r : List Corner) {n : Nat} (h : n = r.length) : (a :: r).reverse.getD n default = a := by
 subst h
 rw [gdq, List.reverse_cons, List.getElem?_append_right (by simp)]
 simp
theorem zmo (b a : Corner) (r : List Corner) {n : Nat} (h : n = r.length) : (b :: a :: r).reverse.getD n default = a := by
 subst h
 rw [gdq, List.reverse_cons, List.getElem?_append_left (by simp), <- gdq]
 exact zg5 a r rfl
theorem zfo (b : Corner) (r : List Corner) {i : Nat} (h : i < r.length) : r.reverse.getD i default = (b :: r).reverse.getD i default := by
 rw [List.reverse_cons, gdq, gdq, List.getElem?_append_left (by simpa using h)]
theorem znV {st : List Corner} {p : Corner} {n : Nat} {g : Nat -> Nat -> D} (hn : n = st.length) (hg : ∀ j, j < 3 -> D.eqv (g 0 j) (p.at j)) : D.eqv (.slc 3 (n + 1) (appRow n (rowC st.reverse) g)) (.slc 3 (p :: st).length (rowC (p :: st).reverse)) := by
 subst hn
 refine app1 (fun i hi j hj => ?_) fun j hj => ?_
 ·show D.eqv ((st.reverse.getD i default).at j) (((p :: st).reverse.getD i default).at j)
  rw [zfo p st hi]
  exact dE _
 ·show D.eqv (g 0 j) (((p :: st).reverse.getD st.length default).at j)
  rw [zg5 p st rfl]
  exact hg j hj
theorem eqAt (p : Corner) : ∀ j, j < 3 -> D.eqv (rowOf 3 [I p.X, I p.Y, I p.Den] 0 j) (p.at j)
 | 0, _ => ⟨rfl, rfl⟩
 | 1, _ => ⟨rfl, rfl⟩
 | 2, _ => ⟨rfl, rfl⟩
theorem zn2 (l : List Corner) (hl : ∀ q ∈ l, okC q) (h0 : 1 <= l.length) (hn : l.length <= 1000000) : SpecO PP 182 [slC l] 67 3 (halfL l).length (rowC (halfL l)) := by
 refine zff Tryz.func182 rfl (by kernel_rfl) rfl ?_
 refine LoopOb.of (σ := Nat × List Corner) (fun x => ([(0, avOf (slC l)), (3, .own 3), (6, avOf (slC l)), (7, .d (I l.length)), (8, .d (I x.1))], [(3, .row 67 3 x.2.length (rowC x.2.reverse))])) (fun x => x.1 <= l.length /\ x.2 = chainR (l.take x.1) /\ (0 < x.1 -> x.2 ≠ [])) (fun x => l.length - x.1) (0, [])
  ⟨rfl, ⟨obR rfl ⟨rfl, .inl rfl⟩, trivial⟩, wq rfl⟩ ⟨Nat.zero_le _, (zee l).symm, fun h => absurd h (Nat.lt_irrefl 0)⟩ fun x hx => ?_
 obtain ⟨x1, x2, x3⟩ := hx
 obtain ⟨c1, c2⟩ := za9 l x.1 x1
 apply bY <;> intro h1
 ·have h1 : x.1 < l.length := by simpa using h1
  refine ⟨⟨rfl, by omega, by omega⟩, ?_⟩
  have hp : l.getD x.1 default ∈ l := gd1 h1 default
  refine LoopOb.of (σ := List Corner) (fun st => ([(0, avOf (slC l)), (3, .own 3), (5, .box 5 0), (6, avOf (slC l)), (7, .d (I l.length)), (8, .d (I x.1))], [(3, .row 67 3 st.length (rowC st.reverse)), (5, .box [.d (I (l.getD x.1 default).X), .d (I (l.getD x.1 default).Y), .d (I (l.getD x.1 default).Den)])])) (fun st => popR (l.getD x.1 default) st = popR (l.getD x.1 default) x.2 /\ (∀ q ∈ st, q ∈ l) /\ st.length <= l.length) (fun st => st.length) x.2 ⟨rfl, ⟨obR rfl (dE _), obD [I (l.getD x.1 default).X, I (l.getD x.1 default).Y, I (l.getD x.1 default).Den] rfl, trivial⟩, wq rfl⟩ ⟨rfl, by rw [x2]; exact c1, by rw [x2]; omega⟩ fun st hst => ?_
  obtain ⟨s1, s2, s3⟩ := hst
  refine oL (List.range 20) (FzOb.no ?_)
  apply bY <;> intro h2
  ·have h2 : 1 < st.length := by have := dT h2; omega
   refine ⟨i6, ?_⟩
   refine ⟨⟨by omega, by omega⟩, ⟨by omega, ?_⟩⟩
   refine ⟨i6, ?_⟩
   refine ⟨⟨by omega, by omega⟩, ⟨by omega, ?_⟩⟩
   obtain ⟨b, a, r, rfl⟩ : ∃ b a r, st = b :: a :: r := by
    match st, h2 with
    | b :: a :: r, _ => exact ⟨b, a, r, rfl⟩
   have ga : (b :: a :: r).reverse.getD (((b :: a :: r).length : Int) - 2).toNat default = a := zmo b a r (by simp; omega)
   have gb : (b :: a :: r).reverse.getD (((b :: a :: r).length : Int) - 1).toNat default = b := zg5 b (a :: r) (by simp)
   refine oP (zqs _ _ _ ?_ ?_ ?_) rfl rfl ?_
   ·rw [ga]; exact hl _ (s2 _ (by simp))
   ·rw [gb]; exact hl _ (s2 _ (by simp))
   ·exact hl _ hp
   refine sT ?_
   apply bY <;> intro h3
   ·have h3 : turn a b (l.getD x.1 default) <= 0 := by rw [ga, gb] at h3; exact dT h3
    refine ⟨i6, ?_⟩
    refine ⟨⟨by omega, by omega⟩, ?_⟩
    refine ⟨a :: r, ⟨rfl, ⟨obR rfl ⟨?_, .inr ⟨rfl, fun i hi j hj => ?_⟩⟩, obD [I (l.getD x.1 default).X, I (l.getD x.1 default).Y, I (l.getD x.1 default).Den] rfl, trivial⟩, wq rfl⟩, ⟨?_, fun q hq => s2 q (List.mem_cons_of_mem _ hq), by simp at s3 ⊢; omega⟩, ?_⟩
    ·simp
    ·show D.eqv (((b :: a :: r).reverse.getD i default).at j) (((a :: r).reverse.getD i default).at j)
     rw [zfo b (a :: r) (by simp at hi ⊢; omega)]
     exact dE _
    ·rw [<- s1]; simp only [popR, if_pos h3]
    ·show (a :: r).length < (b :: a :: r).length
     simp
   ·have h3 : ¬ turn a b (l.getD x.1 default) <= 0 := by rw [ga, gb] at h3; exact dF h3
    have hst : popR (l.getD x.1 default) (b :: a :: r) = b :: a :: r := by simp only [popR, if_neg h3]
    refine ⟨⟨.inr rfl, by unfold maxLen; omega, by show ((b :: a :: r).length + 1) * 24 <= 140737488355328; omega⟩, ?_⟩
    refine ⟨i6, ?_⟩
    refine ⟨(x.1 + 1, l.getD x.1 default :: (b :: a :: r)), ⟨rfl, ⟨obR rfl (znV rfl (eqAt _)), trivial⟩, wq rfl⟩, ⟨h1, ?_, fun _ => by simp⟩, ?_⟩
    ·show l.getD x.1 default :: (b :: a :: r) = chainR (l.take (x.1 + 1))
     rw [zbF l h1, stepR, <- x2, <- s1, hst]
    ·show l.length - (x.1 + 1) < l.length - x.1
     omega
  ·have h2 : st.length <= 1 := by have := dF h2; omega
   have hst : popR (l.getD x.1 default) st = st := by
    match st, h2 with
    | [], _ => rfl
    | [b], _ => rfl
   refine sF ?_
   refine sF ?_
   refine ⟨⟨.inr rfl, by unfold maxLen; omega, by show (st.length + 1) * 24 <= 140737488355328; omega⟩, ?_⟩
   refine ⟨i6, ?_⟩
   refine ⟨(x.1 + 1, l.getD x.1 default :: st), ⟨rfl, ⟨obR rfl (znV rfl (eqAt _)), trivial⟩, wq rfl⟩, ⟨h1, ?_, fun _ => by simp⟩, ?_⟩
   ·show l.getD x.1 default :: st = chainR (l.take (x.1 + 1))
    rw [zbF l h1, stepR, <- x2, <- s1, hst]
   ·show l.length - (x.1 + 1) < l.length - x.1
    omega
 ·have h1 : x.1 = l.length := by
   have : ¬ x.1 < l.length := by simpa using h1
   omega
  have hx2 : x.2 = chainR l := by rw [x2, h1, List.take_length]
  obtain ⟨p, st, hst⟩ : ∃ p st, x.2 = p :: st := by
   have := x3 (by omega)
   match hx : x.2, this with
   | p :: st, _ => exact ⟨p, st, rfl⟩
  have hlen : x.2.length = st.length + 1 := by rw [hst]; rfl
  have hle : x.2.length <= l.length := by rw [x2]; omega
  have hr : halfL l = st.reverse := by unfold halfL; rw [<- hx2, hst]; rfl
  refine ⟨i6, ?_⟩
  refine ⟨⟨by omega, by omega⟩, ?_⟩
  refine ⟨rfl, rfl, ?_, fun i hi j hj => ?_⟩
  ·show ((x.2.length : Int) - 1).toNat = _
   rw [hr, List.length_reverse]; omega
  ·rw [hr, List.length_reverse] at hi
   show D.eqv ((x.2.reverse.getD i default).at j) (((halfL l).getD i default).at j)
   rw [hr, zfo p st hi, hst]
   exact dE _
theorem zbr (l : List Corner) : (halfL l).length <= l.length := by
 have := (za9 l l.length (Nat.le_refl _)).2
 rw [List.take_length] at this
 unfold halfL
 rw [List.length_reverse, List.length_tail]
 omega
@[irreducible] def hullL (l : List Corner) : List Corner := if l.length < 3 then l else halfL l ++ halfL l.reverse
def CI : Ints Corner 3 where
  lst p := [p.X, p.Y, p.Den]
  len _ := rfl
  at_ p := p.at
  hat p j hj := by
    match j, hj with
    | 0, _ => rfl
    | 1, _ => rfl
    | 2, _ => rfl
theorem zi0 (l : List Corner) (hn : l.length <= 1000000) : SpecR PP 185 [] [] 67 3 l.length (rowC l) (rowC l.reverse) [] :=
 zfe CI Tryz.revC ⟨_, Tryz.func185, by kernel_rfl, by kernel_rfl⟩ (fun _ => by kernel_rfl) (fun _ => by kernel_rfl) 67 l hn
theorem znS (l : List Corner) (hl : ∀ q ∈ l, okC q) (hn : l.length <= 1000000) : Spec PP 98 [slC l] [slC (hullL l)] := by
 refine sA Tryz.func98 ?_
 apply bY <;> intro h1
 ·have h1 : l.length < 3 := by have := dT h1; omega
  have e : hullL l = l := by unfold hullL; rw [if_pos h1]
  rw [e]
  exact ⟨dE _, trivial⟩
 ·have h1 : ¬ l.length < 3 := by have := dF h1; omega
  have e : hullL l = halfL l ++ halfL l.reverse := by unfold hullL; rw [if_neg h1]
  have n1 := zbr l
  have n2 := zbr l.reverse
  rw [List.length_reverse] at n2
  refine CallSt.own (zn2 l hl (by omega) hn) rfl rfl (fun m j _ _ => zle _ m j) ?_
  refine CallSt.own (zil (halfL l) (by omega)) rfl rfl (fun m j _ _ => zle _ m j) ?_
  refine CallSt.own (zil l hn) rfl rfl (fun m j _ _ => zle _ m j) ?_
  refine CallSt.rw' rfl (zi0 l hn) ⟨⟨[], .tmp 16, [], [], rfl, rfl, rfl, rfl, rfl, rfl, rfl⟩⟩ rfl ?_
  refine CallSt.ownE (zn2 l.reverse (fun q hq => hl q (List.mem_reverse.1 hq)) (by simp; omega) (by simp; omega)) rfl ⟨?_, trivial⟩ rfl (fun m j _ _ => zle _ m j) ?_
  ·exact ⟨by simp, .inr ⟨rfl, fun _ _ _ _ => dE _⟩⟩
  refine ⟨⟨.inr rfl, by unfold maxLen; omega, by show ((halfL l).length + (halfL l.reverse).length) * 24 <= 140737488355328; omega⟩, ?_⟩
  refine ⟨⟨_, _, _, _, rfl, ?_⟩, trivial⟩
  rw [e]
  refine ⟨by simp, .inr ⟨rfl, fun i hi j hj => ?_⟩⟩
  show D.eqv (appRow (halfL l).length (rowC (halfL l)) (rowC (halfL l.reverse)) i j) (((halfL l ++ halfL l.reverse).getD i default).at j)
  unfold appRow
  by_cases h : i < (halfL l).length
  ·rw [if_pos h, gdq, List.getElem?_append_left h, <- gdq]
   exact dE _
  ·rw [if_neg h, gdq, List.getElem?_append_right (by omega), <- gdq]
   exact dE _
theorem gcd3 (x y d : Int) : gcdL [x, y, d] = Nat.gcd (Nat.gcd x.natAbs y.natAbs) d.natAbs := by
 simp only [gcdL, List.foldl_cons, List.foldl_nil, Nat.gcd_zero_left]
theorem zgi {x y d : Int} (hd : d ≠ 0) (bx : -1073741824 <= x /\ x <= 1073741824) (by' : -1073741824 <= y /\ y <= 1073741824) (bd : -2097152 <= d /\ d <= 2097152) : valid (lowest x y d) = true := by
 have hg : 0 < gcdL [x, y, d] := by rw [gcd3]; exact Nat.gcd_pos_of_pos_right _ (by omega)
 have e1 := gcd3 x y d
 generalize hG : gcdL [x, y, d] = G' at *
 have d1 : G' ∣ x.natAbs := by rw [e1]; exact Nat.dvd_trans (Nat.gcd_dvd_left _ _) (Nat.gcd_dvd_left _ _)
 have d2 : G' ∣ y.natAbs := by rw [e1]; exact Nat.dvd_trans (Nat.gcd_dvd_left _ _) (Nat.gcd_dvd_right _ _)
 have d3 : G' ∣ d.natAbs := by rw [e1]; exact Nat.gcd_dvd_right _ _
 obtain ⟨s, hs, hsa⟩ : ∃ s : Int, s = (if d < 0 then -(G' : Int) else (G' : Int)) /\ s.natAbs = G' := ⟨_, rfl, by split <;> omega⟩
 have hl : lowest x y d = ⟨x.tdiv s, y.tdiv s, d.tdiv s⟩ := by
  unfold lowest
  rw [hs, hG]
 have ax : (x.tdiv s).natAbs = x.natAbs / G' := by rw [Int.natAbs_tdiv, hsa]; rfl
 have ay : (y.tdiv s).natAbs = y.natAbs / G' := by rw [Int.natAbs_tdiv, hsa]; rfl
 have ad : (d.tdiv s).natAbs = d.natAbs / G' := by rw [Int.natAbs_tdiv, hsa]; rfl
 have hpos : 0 <= d.tdiv s := by
  rw [hs]
  split
  ·rename_i h
   exact Int.tdiv_nonneg_of_nonpos_of_nonpos (by omega) (by omega)
  ·exact Int.tdiv_nonneg (by omega) (by omega)
 have hd1 : 1 <= d.natAbs / G' := (Nat.one_le_div_iff hg).2 (Nat.le_of_dvd (by omega) d3)
 have b1 : x.natAbs / G' <= x.natAbs := Nat.div_le_self _ _
 have b2 : y.natAbs / G' <= y.natAbs := Nat.div_le_self _ _
 have b3 : d.natAbs / G' <= d.natAbs := Nat.div_le_self _ _
 rw [hl]
 unfold valid
 simp only [Bool.and_eq_true, zab, beq_iff_eq]
 refine ⟨⟨⟨by omega, by omega⟩, by omega⟩, ?_⟩
 rw [gcd3, ax, ay, ad, Nat.gcd_div d1 d2, Nat.gcd_div (Nat.dvd_gcd d1 d2) d3, <- e1, Nat.div_self hg]
 rfl
theorem zan {g h : Half} (hg : okH g) (hh : okH h) (hd : det g h ≠ 0) : valid (crossing g h) = true := by
 have h1 := mulB hg.c hh.b
 have h2 := mulB hh.c hg.b
 have h3 := mulB hg.a hh.c
 have h4 := mulB hh.a hg.c
 have h5 := zlr hg hh
 unfold crossing
 exact zgi hd (by omega) (by omega) (by omega)
theorem zml {l : List Num} {i k : Nat} {x : Num × Num} (hi : i < l.length) (hk : k <= i) (h : x ∈ rowPh l i k) : x.1 ∈ l /\ x.2 ∈ l /\ det x.1.h x.2.h ≠ 0 := by
 unfold rowPh at h
 obtain ⟨j, hj, he⟩ := List.mem_filterMap.1 h
 have hj := List.mem_range.1 hj
 split at he
 ·cases he
 ·rename_i hd
  cases he
  exact ⟨gd1 (by omega) default, gd1 hi default, hd⟩
theorem zbp {l : List Num} {x : Num × Num} (h : x ∈ pairsL l) : x.1 ∈ l /\ x.2 ∈ l /\ det x.1.h x.2.h ≠ 0 := by
 unfold pairsL upP at h
 obtain ⟨i, hi, hx⟩ := List.mem_flatMap.1 h
 exact zml (List.mem_range.1 hi) (Nat.le_refl _) hx
theorem zmm (l : List Num) (i k : Nat) : (rowPh l i k).length <= k := by
 unfold rowPh
 exact Nat.le_trans (List.length_filterMap_le _ _) (by simp)
theorem zjH (l : List Num) (m : Nat) : ∀ i, i <= m -> (upP l i).length <= m * i
 | 0, _ => by simp [upP]
 | i + 1, h => by
  rw [zdn, List.length_append, Nat.mul_succ]
  have := zjH l m i (by omega)
  have := zmm l i i
  omega
theorem zeN (l : List Num) : (pairsL l).length <= l.length * l.length := zjH l l.length l.length (Nat.le_refl _)
theorem zbH {l : List Half} (h : ∀ x ∈ l, okH x) : ∀ x ∈ allL l, okH x.h := fun x hx => by
 unfold allL at hx
 obtain ⟨i, hi, rfl⟩ := List.mem_map.1 hx
 have hi := List.mem_range.1 hi
 unfold allAt
 by_cases hl : i < l.length
 ·rw [if_pos hl]; exact h _ (gd1 hl default)
 ·rw [if_neg hl]
  obtain h0 | h0 | h0 | h0 : i - l.length = 0 \/ i - l.length = 1 \/ i - l.length = 2 \/ i - l.length = 3 := by omega
  ·rw [h0]; exact (show okH (sidesL.getD 0 default) from ⟨by decide, by decide, by decide⟩)
  ·rw [h0]; exact (show okH (sidesL.getD 1 default) from ⟨by decide, by decide, by decide⟩)
  ·rw [h0]; exact (show okH (sidesL.getD 2 default) from ⟨by decide, by decide, by decide⟩)
  ·rw [h0]; exact (show okH (sidesL.getD 3 default) from ⟨by decide, by decide, by decide⟩)
def ptV (l : List Half) (x : Num × Num) : Option VC := if h : valid (crossing x.1.h x.2.h) = true /\ outsideL (allL l) (crossing x.1.h x.2.h) = -5 then some ⟨crossing x.1.h x.2.h, h.1⟩ else none
@[irreducible] def ptsV (l : List Half) (pre : List (Num × Num)) : List VC := pre.filterMap (ptV l)
theorem zia (l : List Half) : ptsV l [] = [] := by unfold ptsV; rfl
theorem zmx {l : List Half} {pre : List (Num × Num)} {x : Num × Num} (hv : valid (crossing x.1.h x.2.h) = true) (h : outsideL (allL l) (crossing x.1.h x.2.h) = -5) : ptsV l (pre ++ [x]) = ptsV l pre ++ [⟨crossing x.1.h x.2.h, hv⟩] := by
 unfold ptsV
 rw [List.filterMap_append]
 congr 1
 rw [List.filterMap_cons_some (b := ⟨crossing x.1.h x.2.h, hv⟩) (by unfold ptV; rw [dif_pos ⟨hv, h⟩])]
 rfl
theorem zoY {l : List Half} {pre : List (Num × Num)} {x : Num × Num} (h : outsideL (allL l) (crossing x.1.h x.2.h) ≠ -5) : ptsV l (pre ++ [x]) = ptsV l pre := by
 unfold ptsV
 rw [List.filterMap_append, List.filterMap_cons_none (by unfold ptV; rw [dif_neg fun hh => h hh.2])]
 simp
theorem zfp (l : List Half) (pre : List (Num × Num)) : (ptsV l pre).length <= pre.length := by unfold ptsV; exact List.length_filterMap_le _ _
def sortV (l : List VC) : List VC := l.mergeSort fun x y => !(ltOf cmpV) y x
@[irreducible] def sortedL (l : List Half) : List Corner := (sortV (ptsV l (pairsL (allL l)))).map fun p : VC => p.1
@[irreducible] def cornersL (l : List Half) : List Corner := hullL (compL (sortedL l))
theorem SpecT.congrh {P : Program} {f : FuncId} {pre post : List V1} {e k n n' : Nat} {g g0 g' : Nat -> Nat -> D} (h : SpecT P f pre post e k n g0 n' g') (he : ∀ m, m < n -> ∀ j, j < k -> g m j = g0 m j) : SpecT P f pre post e k n g n' g' :=
 ⟨h.1, fun w ok vs us v xs h1 h2 h3 hr => h.2 w ok vs us v xs h1 h2 h3 ⟨hr.own, hr.one, fun m hm j hj => by rw [<- he m hm j hj]; exact hr.rep m hm j hj, hr.sep⟩⟩
theorem zrE (l : List VC) : ∀ m, m < l.length -> ∀ j, j < 3 -> VI.row l m j = rowC (l.map fun p : VC => p.1) m j := fun m hm j _ => by
 show (l.getD m default).1.at j = ((l.map fun p : VC => p.1).getD m default).at j
 rw [gdq, gdq, List.getElem?_map, gqe hm]
 rfl
theorem ziV (l : List VC) (hn : l.length <= 1000000) : SpecT PP 99 [] [] 67 3 l.length (VI.row l) (compL (l.map fun p : VC => p.1)).length (rowC (compL (l.map fun p : VC => p.1))) := by
 have h := zjP (l.map fun p : VC => p.1) (by rw [List.length_map]; exact hn)
 rw [List.length_map] at h
 exact SpecT.congrh h (zrE l)
theorem zhU (x : Num × Num) (w : World) (ok : Nat -> Prop) : All2 (Rep1 w ok) (pairsEnc x) (pairsVal x) := .cons (zjC x.1 w ok) (.cons (zjC x.2 w ok) .nil)
def obPts (l : List Half) (pre : List (Num × Num)) : List (Nat × Ob) := [(3, .box [.d (Num.sl (allL l))]), (4, .box [.own 26]), (26, .row 67 3 (ptsV l pre).length (VI.row (ptsV l pre)))]
theorem zbm (l : List VC) : (sortV l).length = l.length := List.length_mergeSort l
theorem zcK {l : List Corner} {q : Corner} (h : q ∈ compL l) : q ∈ l := by
 unfold compL compP at h
 obtain ⟨i, hi, rfl⟩ := List.mem_map.1 h
 have := List.mem_range.1 (List.mem_filter.1 hi).1
 exact gd1 this default
theorem zec (l : List Corner) : (compL l).length <= l.length := by unfold compL; exact zlx l _
theorem zew (l : List VC) (hn : l.length <= 1000000) : SpecT PP 99 [] [] 67 3 l.length (VI.row (l.mergeSort fun x y => !(ltOf cmpV) y x)) (compL ((sortV l).map fun p : VC => p.1)).length (rowC (compL ((sortV l).map fun p : VC => p.1))) := by
 have h := ziV (sortV l) (by rw [zbm]; exact hn)
 rw [zbm] at h
 exact h
theorem zqC {vs : List VC} {p : VC} {g : Nat -> Nat -> D} (hg : ∀ j, j < 3 -> D.eqv (g 0 j) (p.1.at j)) : D.eqv (.slc 3 (vs.length + 1) (appRow vs.length (VI.row vs) g)) (.slc 3 (vs ++ [p]).length (VI.row (vs ++ [p]))) := by
 rw [List.length_append]
 refine app1 (fun i hi j hj => ?_) fun j hj => ?_
 ·show D.eqv ((vs.getD i default).1.at j) (((vs ++ [p]).getD i default).1.at j)
  have e : (vs ++ [p]).getD i default = vs.getD i default := by rw [gdq, List.getElem?_append_left hi, <- gdq]
  rw [e]
  exact dE _
 ·show D.eqv (g 0 j) (((vs ++ [p]).getD vs.length default).1.at j)
  rw [gdq, List.getElem?_append_right (Nat.le_refl _), Nat.sub_self]
  exact hg j hj
theorem zkk (l : List Half) : look (obPts l []) 26 = some (.row 67 3 0 (VI.row (ptsV l []))) := by
 unfold obPts; rw [zia]; rfl
theorem obNh {s : St} {ob : Nat -> Option Ob} {j e k : Nat} {f : Nat -> Nat -> D} {o : Option Ob} (h : o = some (.box [.nilsl])) (h1 : s.ob j = none) (h2 : ob j = some (.row e k 0 f)) : Oble s ob o (.box [.own j]) := by
 subst h; exact ⟨⟨h1, e, k, f, h2⟩, trivial⟩
theorem obOh {s : St} {ob : Nat -> Option Ob} {j : Nat} {o : Option Ob} (h : o = some (.box [.own j])) : Oble s ob o (.box [.own j]) := by
 subst h; exact ⟨rfl, trivial⟩
theorem obZh {s : St} {ob : Nat -> Option Ob} {e k n : Nat} {f : Nat -> Nat -> D} {o : Option Ob} (h : o = none) (h1 : n = 0) : Oble s ob o (.row e k n f) := by
 subst h; exact h1
theorem zf6 (l : List Half) (hl : ∀ x ∈ l, okH x) (hn : l.length <= 60) : Spec PP 84 [slH l] [slC (cornersL l)] := by
 have hall := zbH hl
 have hlen := zcd l
 have hpl : (pairsL (allL l)).length <= 64 * 64 := Nat.le_trans (zeN _) (Nat.mul_le_mul (by omega) (by omega))
 refine sA Tryz.func84 ?_
 refine CallSt.ro (zmj l (by omega)) rfl rfl ?_
 refine CallSt.ro (zj5 (allL l)) rfl rfl ?_
 refine CodeOb.rangeAt (zh2 (allL l) hall (by omega)) rfl pairsEnc zhU (fun _ => rfl) (by decide) [(3, .box 3 0), (4, .box 4 0)] [(4, 0)] (obPts l) rfl (fun _ => rfl) ?_ (Iv := fun _ => True) trivial (fun v pre x hx _ => ?_) (fun _ => ?_)
 ·exact ⟨rfl, ⟨obD [Num.sl (allL l)] rfl, obNh rfl rfl (zkk l), obZh rfl (by rw [zia]; rfl), trivial⟩, wq rfl⟩
 ·have hxm : x ∈ pairsL (allL l) := hx.subset (by simp)
  obtain ⟨m1, m2, m3⟩ := zbp hxm
  have o1 := hall _ m1
  have o2 := hall _ m2
  have hv := zan o1 o2 m3
  have hpre : (ptsV l pre).length <= 64 * 64 := Nat.le_trans (zfp l pre) (by have := hx.length_le; simp at this; omega)
  refine cP (ziZ x.1.h x.2.h o1 o2 m3) rfl rfl ?_
  refine cP (zdK (allL l) (crossing x.1.h x.2.h) hall (zas hv) (by omega)) rfl rfl ?_
  apply bY <;> intro h1
  ·have h1 : outsideL (allL l) (crossing x.1.h x.2.h) = -5 := by simpa using h1
   refine ⟨⟨.inr rfl, by unfold maxLen; omega, by show ((ptsV l pre).length + 1) * 24 <= 140737488355328; omega⟩, ?_⟩
   refine ⟨trivial, rfl, ⟨obD [Num.sl (allL l)] rfl, ?_, ?_, trivial⟩, wq rfl⟩
   ·exact obOh rfl
   ·exact obR rfl (by rw [zmx hv h1]; exact zqC (eqAt _))
  ·have h1 : outsideL (allL l) (crossing x.1.h x.2.h) ≠ -5 := by simpa using h1
   exact ⟨trivial, rfl, ⟨obD [Num.sl (allL l)] rfl, obOh rfl, obR rfl (by rw [zoY h1]; exact dE _), trivial⟩, wq rfl⟩
 ·have hpts : (ptsV l (pairsL (allL l))).length <= 64 * 64 := Nat.le_trans (zfp l _) hpl
  have e : cornersL l = hullL (compL ((sortV (ptsV l (pairsL (allL l)))).map fun p : VC => p.1)) := by unfold cornersL sortedL; rfl
  have hcl := zec ((sortV (ptsV l (pairsL (allL l)))).map fun p : VC => p.1)
  rw [List.length_map, zbm] at hcl
  refine CallSt.rw' rfl (zkh (ptsV l (pairsL (allL l))) (by omega)) ⟨⟨[], .tmp 27, [.func 97], [], rfl, rfl, rfl, rfl, rfl, rfl, rfl⟩⟩ rfl ?_
  refine CallSt.tk rfl (zew (ptsV l (pairsL (allL l))) (by omega)) ⟨⟨[], .tmp 29, [], [], rfl, rfl, rfl, rfl, rfl, rfl, rfl⟩⟩ rfl ?_
  refine CallSt.fz [26] (znS (compL ((sortV (ptsV l (pairsL (allL l)))).map fun p : VC => p.1)) (fun q hq => ?_) (by omega)) rfl rfl ?_
  ·obtain ⟨p, _, rfl⟩ := List.mem_map.1 (zcK hq)
   exact zas p.2
  rw [e]
  exact ⟨dE _, trivial⟩
theorem zaq {l : List Half} (h : checkL l = 0) : l.length <= 40 /\ (∀ x ∈ l, fit x = true) /\ ∀ x ∈ l, okH x := by
 unfold checkL at h
 split at h
 ·cases h
 ·split at h
  ·rename_i h1 h2
   have h3 : ∀ x ∈ l, fit x = true := List.all_eq_true.1 h2
   exact ⟨by omega, h3, fun x hx => zqL (h3 x hx)⟩
  ·cases h
@[irreducible] def cornersE (l : List Half) : List Corner × Int := if checkL l = 0 then if cornersL l = [] then ([], 9) else (cornersL l, 0) else ([], checkL l)
theorem zj8 (l : List Half) : Spec PP 32 [slH l] [slC (cornersE l).1, N (cornersE l).2] := by
 refine sA Tryz.func32 ?_
 refine cP (zfn l) rfl rfl ?_
 apply bY <;> intro h1
 ·have h1 : checkL l ≠ 0 := by simpa using h1
  have e : cornersE l = ([], checkL l) := by unfold cornersE; rw [if_neg h1]
  rw [e]
  exact ⟨⟨_, _, _, _, rfl, rfl, .inl rfl⟩, rtI rfl rfl, trivial⟩
 ·have h1 : checkL l = 0 := by simpa using h1
  obtain ⟨n1, n2, n3⟩ := zaq h1
  refine CallSt.ro (zf6 l n3 (by omega)) rfl rfl ?_
  apply bY <;> intro h2
  ·have h2 : cornersL l = [] := by
    have : (cornersL l).length = 0 := by simpa using h2
    exact List.length_eq_zero_iff.1 this
   have e : cornersE l = ([], 9) := by unfold cornersE; rw [if_pos h1, if_pos h2]
   rw [e]
   exact ⟨⟨_, _, _, _, rfl, rfl, .inl rfl⟩, rtI rfl rfl, trivial⟩
  ·have h2 : cornersL l ≠ [] := fun hh => by rw [hh] at h2; cases h2
   have e : cornersE l = (cornersL l, 0) := by unfold cornersE; rw [if_pos h1, if_neg h2]
   rw [e]
   exact ⟨dE _, rtI rfl rfl, trivial⟩
def inP (L : List Num) (x y : Nat) : Bool := outsideL L ⟨x, y, 1⟩ == -5
def most (h : Half) : Int := max (max (max h.A (-h.A)) h.B) (-h.B)
@[irreducible] def opp (g h : Half) : Bool := det g h == 0 && decide (g.A * h.A + g.B * h.B < 0)
@[irreducible] def scS (g h : Half) : Int := if opp g h = true then most h else 0
@[irreducible] def scT (g h : Half) : Int := if opp g h = true then most g else 0
@[irreducible] def two (g h : Num) : Option (List Use) := if opp g.h h.h = true /\ scS g.h h.h * g.h.C + scT g.h h.h * h.h.C < 0 then some [⟨g.n, scS g.h h.h⟩, ⟨h.n, scT g.h h.h⟩] else none
@[irreducible] def flip (n m : Int) : Int := if n < 0 then -m else m
abbrev cut (L : List Num) (i : Nat) : D := .slc 4 i fun i => (L.getD i default).at
theorem zfG {n m : Int} (h : n < 0) : flip n m = -m := by unfold flip; rw [if_pos h]
theorem zfF {n m : Int} (h : ¬ n < 0) : flip n m = m := by unfold flip; rw [if_neg h]
abbrev rowU (l : List Use) : Nat -> Nat -> D := fun i => (l.getD i default).at
theorem zq9 (l : List Use) (m j : Nat) : (rowU l m j).flat = true := by
 show ((l.getD m default).at j).flat = true
 unfold Use.at; split <;> rfl
theorem setU {m : List Use} {n k k' : Nat} {p q : Use} (hk : k < m.length) (e1 : k' = k) (e2 : q = p) : D.eqv (.slc 2 n (storeRow (rowU m) k' 0 [I q.H, I q.T])) (.slc 2 n (rowU (m.set k p))) := by
 subst e1; subst e2
 refine ⟨rfl, .inr ⟨rfl, fun i hi j hj => ?_⟩⟩
 show D.eqv (storeRow (rowU m) k' 0 [I q.H, I q.T] i j) (((m.set k' q).getD i default).at j)
 rw [zbs m k' i q default hk]
 unfold storeRow
 by_cases h : i = k'
 ·rw [if_pos h, if_pos ⟨h, by omega, by simpa using hj⟩]
  match j, hj with
  | 0, _ => exact ⟨rfl, rfl⟩
  | 1, _ => exact ⟨rfl, rfl⟩
 ·rw [if_neg h, if_neg fun hh => h hh.1]
  exact dE _
def IsIdx {α : Type} [Inhabited α] (p : α -> Bool) (l : List α) (r : Int) : Prop :=
 (r = -1 /\ ∀ i, i < l.length -> p (l.getD i default) = false) \/ (∃ i : Nat, r = i /\ i < l.length /\ p (l.getD i default) = true /\ ∀ m, m < i -> p (l.getD m default) = false)
theorem IsIdx.hit {α : Type} [Inhabited α] {p : α -> Bool} {l : List α} {r : Int} (h : IsIdx p l r) {i : Nat} (hi : i < l.length) (h1 : p (l.getD i default) = true) (h2 : ∀ m, m < i -> p (l.getD m default) = false) : r = i := by
 rcases h with ⟨_, h4⟩ | ⟨j, rfl, h4, h5, h6⟩
 ·rw [h4 i hi] at h1; cases h1
 ·rcases Nat.lt_trichotomy i j with h | h | h
  ·rw [h6 i h] at h1; cases h1
  ·rw [h]
  ·rw [h2 j h] at h5; cases h5
theorem IsIdx.miss {α : Type} [Inhabited α] {p : α -> Bool} {l : List α} {r : Int} (h : IsIdx p l r) (h2 : ∀ m, m < l.length -> p (l.getD m default) = false) : r = -1 := by
 rcases h with ⟨h3, _⟩ | ⟨j, rfl, h4, h5, h6⟩
 ·exact h3
 ·rw [h2 j h4] at h5; cases h5
theorem zm2 {α : Type} [Inhabited α] (p : α -> Bool) (l : List α) : ∃ r, IsIdx p l r := by
 have : ∀ n, n <= l.length -> (∀ m, m < n -> p (l.getD m default) = false) \/ ∃ i : Nat, i < l.length /\ p (l.getD i default) = true /\ ∀ m, m < i -> p (l.getD m default) = false := by
  intro n
  induction n with
  | zero => exact fun _ => .inl fun m hm => absurd hm (Nat.not_lt_zero _)
  | succ n ih =>
   intro hn
   rcases ih (by omega) with h | h
   ·cases hp : p (l.getD n default) with
    | true => exact .inr ⟨n, by omega, hp, h⟩
    | false =>
     refine .inl fun m hm => ?_
     rcases Nat.lt_or_ge m n with h1 | h1
     ·exact h m h1
     ·obtain rfl : m = n := by omega
      exact hp
   ·exact .inr h
 rcases this l.length (Nat.le_refl _) with h | ⟨i, h1, h2, h3⟩
 ·exact ⟨-1, .inl ⟨rfl, h⟩⟩
 ·exact ⟨i, .inr ⟨i, rfl, h1, h2, h3⟩⟩
theorem zmh (p : Use -> Bool) (g : FuncId) (hg : ∀ u, Spec PP g [u.v] [B (p u)]) (l : List Use) (hn : l.length <= 1000000) (r : Int) (hr : IsIdx p l r) : Spec PP 264 [slU l, .d (.fn g)] [N r] := by
 refine sA Tryz.func264 ?_
 refine LoopOb.of (σ := Nat) (fun i => ([(0, avOf (slU l)), (1, .d (.fn g)), (7, .d (I l.length)), (8, .d (I i))], [])) (fun i => i <= l.length /\ ∀ m, m < i -> p (l.getD m default) = false) (fun i => l.length - i) 0 ⟨rfl, trivial, wq rfl⟩ z0L fun i hi => ?_
 obtain ⟨i1, i2⟩ := hi
 apply bY <;> intro h1
 ·have h1 : i < l.length := by simpa using h1
  refine ⟨⟨rfl, by omega, by omega⟩, ?_⟩
  refine cP (hg (l.getD i default)) rfl rfl ?_
  apply bY <;> intro h2
  ·exact r1I rfl (hr.hit h1 h2 i2).symm
  ·refine ⟨i6, ?_⟩
   refine ⟨i + 1, ⟨rfl, trivial, wq rfl⟩, ⟨h1, fun m hm => ?_⟩, ?_⟩
   ·rcases Nat.lt_or_ge m i with h | h
    ·exact i2 m h
    ·obtain rfl : m = i := by omega
     exact h2
   ·show l.length - (i + 1) < l.length - i
    omega
 ·have h1 : i = l.length := by
   have : ¬ i < l.length := by simpa using h1
   omega
  exact r1I rfl (hr.miss fun m hm => i2 m (by omega)).symm
@[irreducible] def filtP (p : Use -> Bool) (l : List Use) (j : Nat) : List Use := ((List.range j).filter fun i => !p (l.getD i default)).map fun i => l.getD i default
theorem zeW (p : Use -> Bool) (l : List Use) : filtP p l 0 = [] := by unfold filtP; rfl
theorem za8 (p : Use -> Bool) (l : List Use) (j : Nat) : filtP p l (j + 1) = filtP p l j ++ (if p (l.getD j default) = true then [] else [l.getD j default]) := by
 unfold filtP
 rw [List.range_succ, List.filter_append, List.map_append]
 congr 1
 by_cases h : p (l.getD j default) = true
 ·rw [if_pos h, List.filter_cons_of_neg (by rw [h]; decide)]; rfl
 ·rw [if_neg h, List.filter_cons_of_pos (by rw [Bool.eq_false_iff.2 h]; rfl)]; rfl
theorem zgx (p : Use -> Bool) (l : List Use) {j : Nat} (hj : j <= l.length) (h : ∀ i, i < j -> p (l.getD i default) = false) : filtP p l j = l.take j := by
 induction j with
 | zero => rw [zeW]; simp
 | succ j ih => rw [za8, if_neg (by rw [h j (by omega)]; decide), ih (by omega) fun i hi => h i (by omega), zaz (by omega) default]
theorem zjO (p : Use -> Bool) (g : FuncId) (hg : ∀ u, Spec PP g [u.v] [B (p u)]) (l : List Use) (hn : l.length <= 1000000) : SpecT PP 202 [] [.d (.fn g)] 230 2 l.length (rowU l) (filtP p l l.length).length (rowU (filtP p l l.length)) := by
 obtain ⟨r, hr⟩ := zm2 p l
 refine zfd Tryz.func202 rfl (by kernel_rfl) (fun i _ j _ => zq9 _ i j) rfl fun v => ?_
 refine cP (zmh p g hg l hn r hr) rfl rfl ?_
 rcases hr with ⟨rfl, h1⟩ | ⟨i, rfl, h1, h2, h3⟩
 ·refine sT ?_
  have e : filtP p l l.length = l := by rw [zgx p l (Nat.le_refl _) h1, List.take_length]
  rw [e]
  exact ⟨rfl, rfl, rfl, fun i hi j hj => dE _⟩
 ·apply bY <;> intro h4
  ·have : (i : Int) = -1 := by simpa using h4
   omega
  ·have ck : filtP p l (i + 1) = l.take i := by rw [za8, if_pos h2, List.append_nil, zgx p l (by omega) h3]
   refine ⟨i6, ?_⟩
   refine LoopOb.of (σ := Nat × Nat × List Use) (fun x => ([(0, .own 0), (1, .d (.fn g)), (5, .d (I x.2.1)), (6, .d (I x.1))], [(0, .row 230 2 l.length (rowU x.2.2))]))
    (fun x => i + 1 <= x.1 /\ x.1 <= l.length /\ x.2.2.length = l.length /\ x.2.1 <= x.1 - 1 /\ x.2.2.take x.2.1 = filtP p l x.1 /\ ∀ m, x.1 <= m -> x.2.2.getD m default = l.getD m default) (fun x => l.length - x.1) (i + 1, i, l)
    ⟨rfl, ⟨obR rfl (dE _), trivial⟩, rfl, wq rfl⟩ ⟨Nat.le_refl _, h1, rfl, by simp, ck.symm, fun _ _ => rfl⟩ fun x hx => ?_
   obtain ⟨x1, x2, x3, x4, x5, x6⟩ := hx
   apply bY <;> intro g1
   ·have g1 : x.1 < l.length := by have := dT g1; omega
    have e1 : x.2.2.getD (x.1 : Int).toNat default = l.getD x.1 default := by rw [Int.toNat_natCast, x6 x.1 (Nat.le_refl _)]
    refine ⟨⟨by omega, by omega⟩, ⟨by omega, ?_⟩⟩
    refine cP (hg (x.2.2.getD (x.1 : Int).toNat default)) rfl rfl ?_
    apply bY <;> intro g2
    ·have g2 : p (l.getD x.1 default) = false := by rw [e1] at g2; simpa using g2
     refine ⟨⟨by omega, by omega⟩, ⟨by omega, ?_⟩⟩
     refine ⟨i6, ?_⟩
     refine ⟨i6, ?_⟩
     refine ⟨(x.1 + 1, x.2.1 + 1, x.2.2.set x.2.1 (l.getD x.1 default)), ⟨rfl, ⟨obR rfl (setU (by omega) (Int.toNat_natCast _) e1), trivial⟩, rfl, wq rfl⟩, ⟨by omega, by omega, by simp; omega, (show x.2.1 + 1 <= x.1 + 1 - 1 by omega), ?_, fun m hm => ?_⟩, ?_⟩
     ·show (x.2.2.set x.2.1 (l.getD x.1 default)).take (x.2.1 + 1) = filtP p l (x.1 + 1)
      rw [za8, if_neg (by rw [g2]; decide), zaz (i := x.2.1) (by simp; omega) default, zbs _ _ _ _ _ (by omega), if_pos rfl, <- x5, List.take_set_of_le (Nat.le_refl _)]
     ·have hm : x.1 + 1 <= m := hm
      show (x.2.2.set x.2.1 (l.getD x.1 default)).getD m default = _
      rw [zbs _ _ _ _ _ (by omega), if_neg (by omega)]
      exact x6 m (by omega)
     ·show l.length - (x.1 + 1) < l.length - x.1
      omega
    ·have g2 : p (l.getD x.1 default) = true := by rw [e1] at g2; simpa using g2
     refine ⟨i6, ?_⟩
     refine ⟨(x.1 + 1, x.2.1, x.2.2), ⟨rfl, ⟨obR rfl (dE _), trivial⟩, rfl, wq rfl⟩, ⟨by omega, by omega, x3, (show x.2.1 <= x.1 + 1 - 1 by omega), ?_, fun m hm => x6 m (by have : x.1 + 1 <= m := hm; omega)⟩, ?_⟩
     ·show x.2.2.take x.2.1 = filtP p l (x.1 + 1)
      rw [za8, if_pos g2, List.append_nil, x5]
     ·show l.length - (x.1 + 1) < l.length - x.1
      omega
   ·have g1 : x.1 = l.length := by have := dF g1; omega
    have hk' : x.2.1 = (filtP p l l.length).length := by
     have := congrArg List.length x5
     rw [List.length_take, g1] at this
     omega
    refine ⟨⟨rfl, by omega, by omega⟩, ?_⟩
    refine ⟨by omega, ?_⟩
    refine ⟨⟨by omega, by omega⟩, ?_⟩
    refine ⟨rfl, rfl, ?_, fun i hi j hj => ?_⟩
    ·show (x.2.1 : Int).toNat = _
     omega
    ·have e3 : (filtP p l l.length).getD i default = x.2.2.getD i default := by
      rw [<- g1, <- x5, gdq, List.getElem?_take, if_pos (by omega), <- gdq]
     show D.eqv (clrRow (rowU x.2.2) (x.2.1 : Int).toNat (l.length - (x.2.1 : Int).toNat) _ i j) (((filtP p l l.length).getD i default).at j)
     unfold clrRow
     rw [if_neg (by omega), e3]
     exact dE _
def unused (u : Use) : Bool := u.T == 0
theorem zoM (u : Use) : Spec PP 203 [u.v] [B (unused u)] := by
 refine sA Tryz.func203 ?_
 exact r1B rfl rfl
@[irreducible] def usedL (l : List Use) : List Use := filtP unused l l.length
theorem znM (l : List Use) (hn : l.length <= 1000000) : SpecT PP 127 [] [] 230 2 l.length (rowU l) (usedL l).length (rowU (usedL l)) := by
 refine zfd Tryz.func127 rfl (by kernel_rfl) (fun i _ j _ => zq9 _ i j) rfl fun v => ?_
 refine CallSt.tk rfl (zjO unused 203 zoM l hn) ⟨⟨[], .tmp 3, [.func 203], [], rfl, rfl, rfl, rfl, rfl, rfl, rfl⟩⟩ rfl ?_
 have e : usedL l = filtP unused l l.length := by unfold usedL; rfl
 rw [e]
 exact ⟨rfl, rfl, rfl, fun i hi j hj => dE _⟩
structure Bound where
  V : Frac
  At : Corner
  Scale : Int
  Uses : List Use
  deriving DecidableEq, Inhabited
abbrev Bound.v (b : Bound) : V1 := .agg [I b.V.Num, I b.V.Den, I b.At.X, I b.At.Y, I b.At.Den, I b.Scale, .slc 2 b.Uses.length (rowU b.Uses)]
def noBound : Bound := ⟨⟨0, 0⟩, ⟨0, 0, 0⟩, 0, []⟩
def stepB (f : Form) (a p : Corner) : Corner := if less (value f a) (value f p) < 0 then p else a
@[irreducible] def bestTo (f : Form) (l : List Corner) (i : Nat) : Corner := (l.take i).foldl (stepB f) (l.getD 0 default)
@[irreducible] def bestAt (f : Form) (l : List Corner) : Corner := bestTo f l l.length
theorem zco (f : Form) (l : List Corner) : bestTo f l 0 = l.getD 0 default := by unfold bestTo; rfl
theorem zbG (f : Form) (l : List Corner) {i : Nat} (h : i < l.length) : bestTo f l (i + 1) = stepB f (bestTo f l i) (l.getD i default) := by
 unfold bestTo
 rw [zaz h default, List.foldl_append]; rfl
theorem zcc (f : Form) (l : List Corner) (h0 : 0 < l.length) : ∀ i, i <= l.length -> bestTo f l i ∈ l
 | 0, _ => by rw [zco]; exact gd1 h0 default
 | i + 1, h => by
  rw [zbG f l (by omega)]
  unfold stepB
  split
  ·exact gd1 (by omega) default
  ·exact zcc f l h0 i (by omega)
@[irreducible] def usesB (f : Form) (a : Corner) (x : Num × Num) : Option (Int × List Use) :=
 if (tight x.1.h a = true /\ tight x.2.h a = true) /\ 0 <= flip (det x.1.h x.2.h) (f.X * x.2.h.B - f.Y * x.2.h.A) /\ 0 <= flip (det x.1.h x.2.h) (f.Y * x.1.h.A - f.X * x.1.h.B) then
  some (flip (det x.1.h x.2.h) (det x.1.h x.2.h), usedL [⟨x.1.n, flip (det x.1.h x.2.h) (f.X * x.2.h.B - f.Y * x.2.h.A)⟩, ⟨x.2.n, flip (det x.1.h x.2.h) (f.Y * x.1.h.A - f.X * x.1.h.B)⟩]) else none
theorem zbY {f : Form} {a : Corner} {x : Num × Num} (h : ¬ ((tight x.1.h a = true /\ tight x.2.h a = true) /\ 0 <= flip (det x.1.h x.2.h) (f.X * x.2.h.B - f.Y * x.2.h.A) /\ 0 <= flip (det x.1.h x.2.h) (f.Y * x.1.h.A - f.X * x.1.h.B))) : usesB f a x = none := by unfold usesB; rw [if_neg h]
theorem zfV {f : Form} {a : Corner} {x : Num × Num} {d s t : Int} (h1 : tight x.1.h a = true) (h2 : tight x.2.h a = true) (ed : flip (det x.1.h x.2.h) (det x.1.h x.2.h) = d) (es : flip (det x.1.h x.2.h) (f.X * x.2.h.B - f.Y * x.2.h.A) = s) (et : flip (det x.1.h x.2.h) (f.Y * x.1.h.A - f.X * x.1.h.B) = t) (h3 : 0 <= s) (h4 : 0 <= t) :
  usesB f a x = some (d, usedL [⟨x.1.n, s⟩, ⟨x.2.n, t⟩]) := by
 subst ed es et; unfold usesB; rw [if_pos ⟨⟨h1, h2⟩, h3, h4⟩]
theorem zeM {α β : Type} {g : α -> Option β} {pre : List α} {x : α} (h : pre.findSome? g = none) (hx : g x = none) : (pre ++ [x]).findSome? g = none := by
 rw [List.findSome?_append, h]; simp [hx]
theorem zkp {α β : Type} {g : α -> Option β} {pre xs : List α} {x : α} {y : β} (hp : pre ++ [x] <+: xs) (h : pre.findSome? g = none) (hx : g x = some y) : xs.findSome? g = some y := by
 obtain ⟨r, rfl⟩ := hp
 rw [List.findSome?_append, List.findSome?_append, h]; simp [hx]
@[irreducible] def bestE (l : List Half) (f : Form) : Bound × Int :=
 if checkL l = 0 then
  if slope f.X f.Y = true then
   if cornersL l = [] then (noBound, 9)
   else if f = ⟨0, 0⟩ then (⟨value f (bestAt f (cornersL l)), bestAt f (cornersL l), 1, []⟩, 0)
   else match (pairsL (allL l)).findSome? (usesB f (bestAt f (cornersL l))) with
    | some (d, u) => (⟨value f (bestAt f (cornersL l)), bestAt f (cornersL l), d, u⟩, 0)
    | none => (⟨value f (bestAt f (cornersL l)), bestAt f (cornersL l), 1, []⟩, 0)
  else (noBound, 1)
 else (noBound, checkL l)
theorem zeZ {s : St} {ob : Nat -> Option Ob} : ∀ cs : List AV, avles s ob cs cs
 | [] => trivial
 | c :: cs => ⟨zau s ob c, zeZ cs⟩
theorem obXh {s : St} {ob : Nat -> Option Ob} {cs : List AV} {o : Option Ob} (h : o = some (.box cs)) : Oble s ob o (.box cs) := by subst h; exact zeZ cs
theorem ob7 {s : St} {ob : Nat -> Option Ob} {a b c d e f : AV} {i e' k n : Nat} {g : Nat -> Nat -> D} {y : D} {o : Option Ob} (h : o = some (.box [a, b, c, d, e, f, .own i])) (h1 : s.ob i = some (.row e' k n g)) (h2 : ob i = none) (q : D.eqv (.slc k n g) y) : Oble s ob o (.box [a, b, c, d, e, f, .d y]) := by
 subst h
 exact ⟨zau _ _ _, zau _ _ _, zau _ _ _, zau _ _ _, zau _ _ _, zau _ _ _, ⟨h2, _, _, _, _, h1, q⟩, trivial⟩
theorem eqvB {a b c d e f : Int} {x y : D} (h : D.eqv x y) : eqvs [I a, I b, I c, I d, I e, I f, x] [I a, I b, I c, I d, I e, I f, y] := ⟨dE _, dE _, dE _, dE _, dE _, dE _, h, trivial⟩
theorem zlj {a b c d e f : Int} {g' : Nat -> Nat -> D} : eqvs [I a, I b, I c, I d, I e, I f, .nil] [I a, I b, I c, I d, I e, I f, .slc 2 ([] : List Use).length g'] := ⟨dE _, dE _, dE _, dE _, dE _, dE _, rfl, trivial⟩
theorem zqA {a b c d : Int} : ∀ m, m < [(⟨a, b⟩ : Use), ⟨c, d⟩].length -> ∀ j, j < 2 -> rowOf 2 [I a, I b, I c, I d] m j = rowU [⟨a, b⟩, ⟨c, d⟩] m j := fun m hm j hj => by
 match m, j, hm, hj with
 | 0, 0, _, _ => rfl
 | 0, 1, _, _ => rfl
 | 1, 0, _, _ => rfl
 | 1, 1, _, _ => rfl
theorem zea {l : List Half} (hl : ∀ x ∈ l, okH x) : ∀ q ∈ cornersL l, valid q = true := fun q hq => by
 unfold cornersL at hq
 have sub : ∀ {m : List Corner} {q : Corner}, q ∈ hullL m -> q ∈ m := fun {m q} h => by
  unfold hullL at h
  have hh : ∀ {m : List Corner} {q : Corner}, q ∈ halfL m -> q ∈ m := fun {m q} h => by
   unfold halfL at h
   have := (za9 m m.length (Nat.le_refl _)).1 q
   rw [List.take_length] at this
   exact this (List.mem_of_mem_tail (List.mem_reverse.1 h))
  split at h
  ·exact h
  ·rcases List.mem_append.1 h with h | h
   ·exact hh h
   ·exact List.mem_reverse.1 (hh h)
 have h2 := zcK (sub hq)
 unfold sortedL at h2
 obtain ⟨p, _, rfl⟩ := List.mem_map.1 h2
 exact p.2
theorem zdg {l : List Half} (hn : l.length <= 60) : (cornersL l).length <= 8192 := by
 have hl := zcd l
 have h1 : (sortedL l).length <= 4096 := by
  unfold sortedL
  rw [List.length_map, zbm]
  exact Nat.le_trans (zfp l _) (Nat.le_trans (zeN _) (Nat.mul_le_mul (show (allL l).length <= 64 by omega) (show (allL l).length <= 64 by omega)))
 have h2 := zec (sortedL l)
 have h3 := zbr (compL (sortedL l))
 have h4 := zbr (compL (sortedL l)).reverse
 rw [List.length_reverse] at h4
 unfold cornersL hullL
 split
 ·omega
 ·rw [List.length_append]; omega
theorem zqz (l : List Half) (f : Form) : Spec PP 54 [slH l, f.v] [(bestE l f).1.v, N (bestE l f).2] := by
 refine sA Tryz.func54 ?_
 refine cP (zfn l) rfl rfl ?_
 apply bY <;> intro h0
 ·have h0 : checkL l ≠ 0 := by simpa using h0
  have e : bestE l f = (noBound, checkL l) := by unfold bestE; rw [if_neg h0]
  rw [e]
  exact r2CI rfl rfl rfl rfl rfl rfl rfl (zlj) rfl
 have h0 : checkL l = 0 := by simpa using h0
 obtain ⟨n1, n2, n3⟩ := zaq h0
 refine cP (zgZ f.X f.Y) rfl rfl ?_
 apply bY <;> intro hs
 ·have hs : ¬ slope f.X f.Y = true := by simpa using hs
  have e : bestE l f = (noBound, 1) := by unfold bestE; rw [if_pos h0, if_neg hs]
  rw [e]
  exact r2CI rfl rfl rfl rfl rfl rfl rfl (zlj) rfl
 have hs : slope f.X f.Y = true := by simpa using hs
 have of := zeQ hs
 refine CallSt.ro (zf6 l n3 (by omega)) rfl rfl ?_
 apply bY <;> intro hc
 ·have hc : cornersL l = [] := by
   have : (cornersL l).length = 0 := by simpa using hc
   exact List.length_eq_zero_iff.1 this
  have e : bestE l f = (noBound, 9) := by unfold bestE; rw [if_pos h0, if_pos hs, if_pos hc]
  rw [e]
  exact r2CI rfl rfl rfl rfl rfl rfl rfl (zlj) rfl
 have hc : cornersL l ≠ [] := fun hh => by rw [hh] at hc; cases hc
 have hpos : 0 < (cornersL l).length := List.length_pos_iff.2 hc
 have hcl := zdg (l := l) (by omega)
 have hcv := zea n3
 have hat : ∀ i, i <= (cornersL l).length -> okC (bestTo f (cornersL l) i) := fun i hi => zas (hcv _ (zcc f _ hpos i hi))
 refine ⟨⟨rfl, by omega, by omega⟩, ?_⟩
 refine LoopOb.of (σ := Nat) (fun i => ([(0, avOf (slH l)), (3, .box 3 0), (4, .box 4 0), (7, avOf (slC (cornersL l))), (8, .box 8 0), (39, avOf (slC (cornersL l))), (40, .d (I (cornersL l).length)), (41, .d (I i))], [(3, .box [.d (I f.X), .d (I f.Y)]), (4, .box [.d (I 0), .d (I 0), .d (I 0), .d (I 0), .d (I 0), .d (I 0), .nilsl]), (8, .box [.d (I (bestTo f (cornersL l) i).X), .d (I (bestTo f (cornersL l) i).Y), .d (I (bestTo f (cornersL l) i).Den)])])) (fun i => i <= (cornersL l).length) (fun i => (cornersL l).length - i) 0
  ⟨rfl, ⟨obXh rfl, obXh rfl, ?_, trivial⟩, wq rfl⟩ (Nat.zero_le _) fun i hi => ?_
 ·rw [zco]; exact obXh rfl
 apply bY <;> intro h1
 ·have h1 : i < (cornersL l).length := by simpa using h1
  refine ⟨⟨rfl, by omega, by omega⟩, ?_⟩
  refine oL (List.range 8) (FzOb.no ?_)
  refine oP (zfj f (bestTo f (cornersL l) i) of (hat i hi)) rfl rfl ?_
  refine oP (zfj f ((cornersL l).getD i default) of (zas (hcv _ (gd1 h1 default)))) rfl rfl ?_
  refine oP (zqx _ _) rfl rfl ?_
  apply bY <;> intro h2
  ·have e : bestTo f (cornersL l) (i + 1) = (cornersL l).getD i default := by rw [zbG f _ h1]; unfold stepB; rw [if_pos (dT h2)]
   refine ⟨i6, ?_⟩
   refine ⟨i + 1, ⟨rfl, ⟨obXh rfl, obXh rfl, ?_, trivial⟩, wq rfl⟩, h1, ?_⟩
   ·rw [e]; exact obXh rfl
   ·show (cornersL l).length - (i + 1) < (cornersL l).length - i
    omega
  ·have e : bestTo f (cornersL l) (i + 1) = bestTo f (cornersL l) i := by rw [zbG f _ h1]; unfold stepB; rw [if_neg (dF h2)]
   refine ⟨i6, ?_⟩
   refine ⟨i + 1, ⟨rfl, ⟨obXh rfl, obXh rfl, ?_, trivial⟩, wq rfl⟩, h1, ?_⟩
   ·rw [e]; exact obXh rfl
   ·show (cornersL l).length - (i + 1) < (cornersL l).length - i
    omega
 have h1 : i = (cornersL l).length := by
  have : ¬ i < (cornersL l).length := by simpa using h1
  omega
 have eat : bestTo f (cornersL l) i = (bestAt f (cornersL l)) := by rw [h1]; unfold bestAt; rfl
 have oat : okC (bestAt f (cornersL l)) := by rw [<- eat]; exact hat i hi
 rw [eat]
 refine oL (List.range 7) (FzOb.no ?_)
 refine oP (zfj f (bestAt f (cornersL l)) of oat) rfl rfl ?_
 apply bY <;> intro hz
 ·have hz : f = ⟨0, 0⟩ := by
   simp only [Bool.and_eq_true, beq_iff_eq, and_true] at hz
   cases f; simp_all
  have e : bestE l f = (⟨value f (bestAt f (cornersL l)), (bestAt f (cornersL l)), 1, []⟩, 0) := by unfold bestE; rw [if_pos h0, if_pos hs, if_neg hc, if_pos hz]
  rw [e]
  exact r2CI rfl rfl rfl rfl rfl rfl rfl (zlj) rfl
 have hz : f ≠ ⟨0, 0⟩ := fun hh => by subst hh; cases hz
 have hall := zbH n3
 have hlen := zcd l
 refine CallSt.ro (zmj l (by omega)) rfl rfl ?_
 refine CallSt.ro (zj5 (allL l)) rfl rfl ?_
 refine CodeOb.rangeAt (zh2 (allL l) hall (by omega)) rfl pairsEnc zhU (fun _ => rfl) (by decide) [(3, .box 3 0), (4, .box 4 0), (8, .box 8 0), (11, .box 11 0)] [] (fun _ => [(3, .box [.d (I f.X), .d (I f.Y)]), (4, .box [.d (I 0), .d (I 0), .d (I 0), .d (I 0), .d (I 0), .d (I 0), .nilsl]), (8, .box [.d (I (bestAt f (cornersL l)).X), .d (I (bestAt f (cornersL l)).Y), .d (I (bestAt f (cornersL l)).Den)]), (11, .box [.d (I (value f (bestAt f (cornersL l))).Num), .d (I (value f (bestAt f (cornersL l))).Den), .d (I (bestAt f (cornersL l)).X), .d (I (bestAt f (cornersL l)).Y), .d (I (bestAt f (cornersL l)).Den), .d (I (1)), .d .nil])]) rfl (fun _ => rfl) ?_ (Iv := fun pre => pre.findSome? (usesB f (bestAt f (cornersL l))) = none) rfl (fun v pre x hx hI => ?_) (fun hI => ?_)
 ·exact ⟨rfl, ⟨obXh rfl, obXh rfl, obXh rfl, obXh rfl, trivial⟩, wq rfl⟩
 ·have hxm : x ∈ pairsL (allL l) := hx.subset (by simp)
  obtain ⟨m1, m2, m3⟩ := zbp hxm
  have o1 := hall _ m1
  have o2 := hall _ m2
  have dd := zlr o1 o2
  have b1 := mulB of.x o2.b
  have b2 := mulB of.y o2.a
  have b3 := mulB of.y o1.a
  have b4 := mulB of.x o1.b
  refine cP (zj4 x.1.h (bestAt f (cornersL l)) o1 oat) rfl rfl ?_
  apply bY <;> intro h3
  ·have h3 : tight x.1.h (bestAt f (cornersL l)) = false := by simpa using h3
   refine sT ?_
   refine sT ?_
   exact ⟨zeM hI (zbY fun hh => by rw [hh.1.1] at h3; cases h3), rfl, ⟨obXh rfl, obXh rfl, obXh rfl, obXh rfl, trivial⟩, wq rfl⟩
  have h3 : tight x.1.h (bestAt f (cornersL l)) = true := by simpa using h3
  refine cP (zj4 x.2.h (bestAt f (cornersL l)) o2 oat) rfl rfl ?_
  refine sF ?_
  apply bY <;> intro h4
  ·have h4 : tight x.2.h (bestAt f (cornersL l)) = false := by simpa using h4
   exact ⟨zeM hI (zbY fun hh => by rw [hh.1.2] at h4; cases h4), rfl, ⟨obXh rfl, obXh rfl, obXh rfl, obXh rfl, trivial⟩, wq rfl⟩
  have h4 : tight x.2.h (bestAt f (cornersL l)) = true := by simpa using h4
  refine cP (zoO x.1.h x.2.h o1 o2) rfl rfl ?_
  refine oL (List.range 28) (FzOb.no ?_)
  refine ⟨i6, ⟨i6, ⟨i6, ⟨i6, ⟨i6, ⟨i6, ?_⟩⟩⟩⟩⟩⟩
  apply bY <;> intro h5
  ·have h5 : det x.1.h x.2.h < 0 := dT h5
   refine ⟨i6, ⟨i6, ⟨i6, ?_⟩⟩⟩
   have ed : flip (det x.1.h x.2.h) (det x.1.h x.2.h) = -det x.1.h x.2.h := zfG h5
   have es : flip (det x.1.h x.2.h) (f.X * x.2.h.B - f.Y * x.2.h.A) = -(f.X * x.2.h.B - f.Y * x.2.h.A) := zfG h5
   have et : flip (det x.1.h x.2.h) (f.Y * x.1.h.A - f.X * x.1.h.B) = -(f.Y * x.1.h.A - f.X * x.1.h.B) := zfG h5
   apply bY <;> intro h6
   ·refine sT ?_
    apply bY <;> intro h7
    ·refine CallSt.tk rfl (SpecT.congrh (znM [⟨x.1.n, -(f.X * x.2.h.B - f.Y * x.2.h.A)⟩, ⟨x.2.n, -(f.Y * x.1.h.A - f.X * x.1.h.B)⟩] (Nat.le_of_ble_eq_true rfl)) zqA) ⟨⟨[], .tmp 135, [], [], rfl, rfl, rfl, rfl, rfl, rfl, rfl⟩⟩ rfl ?_
     have hf := zkp hx hI (zfV h3 h4 ed es et (dT h6) (dT h7))
     refine ⟨[(3, .box [.d (I f.X), .d (I f.Y)]), (4, .box [.d (I 0), .d (I 0), .d (I 0), .d (I 0), .d (I 0), .d (I 0), .nilsl]), (8, .box [.d (I (bestAt f (cornersL l)).X), .d (I (bestAt f (cornersL l)).Y), .d (I (bestAt f (cornersL l)).Den)]), (11, .box [.d (I (value f (bestAt f (cornersL l))).Num), .d (I (value f (bestAt f (cornersL l))).Den), .d (I (bestAt f (cornersL l)).X), .d (I (bestAt f (cornersL l)).Y), .d (I (bestAt f (cornersL l)).Den), .d (I (-det x.1.h x.2.h)), .d (.slc 2 (usedL [⟨x.1.n, -(f.X * x.2.h.B - f.Y * x.2.h.A)⟩, ⟨x.2.n, -(f.Y * x.1.h.A - f.X * x.1.h.B)⟩]).length (rowU (usedL [⟨x.1.n, -(f.X * x.2.h.B - f.Y * x.2.h.A)⟩, ⟨x.2.n, -(f.Y * x.1.h.A - f.X * x.1.h.B)⟩])))])], rfl, ⟨rfl, ⟨obXh rfl, obXh rfl, obXh rfl, ?_, trivial⟩, wq rfl⟩, ?_⟩
     ·exact ob7 rfl rfl rfl (dE _)
     ·have e : bestE l f = (⟨value f (bestAt f (cornersL l)), (bestAt f (cornersL l)), -det x.1.h x.2.h, usedL [⟨x.1.n, -(f.X * x.2.h.B - f.Y * x.2.h.A)⟩, ⟨x.2.n, -(f.Y * x.1.h.A - f.X * x.1.h.B)⟩]⟩, 0) := by unfold bestE; rw [if_pos h0, if_pos hs, if_neg hc, if_neg hz, hf]
      rw [e]
      exact r2CI rfl rfl rfl rfl rfl rfl rfl (eqvB (dE _)) rfl
    ·exact ⟨zeM hI (zbY fun hh => dF h7 (by rw [<- et]; exact hh.2.2)), rfl, ⟨obXh rfl, obXh rfl, obXh rfl, obXh rfl, trivial⟩, wq rfl⟩
   ·refine sF ?_
    refine sF ?_
    exact ⟨zeM hI (zbY fun hh => dF h6 (by rw [<- es]; exact hh.2.1)), rfl, ⟨obXh rfl, obXh rfl, obXh rfl, obXh rfl, trivial⟩, wq rfl⟩
  ·have h5 : ¬ det x.1.h x.2.h < 0 := dF h5
   have ed : flip (det x.1.h x.2.h) (det x.1.h x.2.h) = det x.1.h x.2.h := zfF h5
   have es : flip (det x.1.h x.2.h) (f.X * x.2.h.B - f.Y * x.2.h.A) = (f.X * x.2.h.B - f.Y * x.2.h.A) := zfF h5
   have et : flip (det x.1.h x.2.h) (f.Y * x.1.h.A - f.X * x.1.h.B) = (f.Y * x.1.h.A - f.X * x.1.h.B) := zfF h5
   apply bY <;> intro h6
   ·refine sT ?_
    apply bY <;> intro h7
    ·refine CallSt.tk rfl (SpecT.congrh (znM [⟨x.1.n, (f.X * x.2.h.B - f.Y * x.2.h.A)⟩, ⟨x.2.n, (f.Y * x.1.h.A - f.X * x.1.h.B)⟩] (Nat.le_of_ble_eq_true rfl)) zqA) ⟨⟨[], .tmp 135, [], [], rfl, rfl, rfl, rfl, rfl, rfl, rfl⟩⟩ rfl ?_
     have hf := zkp hx hI (zfV h3 h4 ed es et (dT h6) (dT h7))
     refine ⟨[(3, .box [.d (I f.X), .d (I f.Y)]), (4, .box [.d (I 0), .d (I 0), .d (I 0), .d (I 0), .d (I 0), .d (I 0), .nilsl]), (8, .box [.d (I (bestAt f (cornersL l)).X), .d (I (bestAt f (cornersL l)).Y), .d (I (bestAt f (cornersL l)).Den)]), (11, .box [.d (I (value f (bestAt f (cornersL l))).Num), .d (I (value f (bestAt f (cornersL l))).Den), .d (I (bestAt f (cornersL l)).X), .d (I (bestAt f (cornersL l)).Y), .d (I (bestAt f (cornersL l)).Den), .d (I (det x.1.h x.2.h)), .d (.slc 2 (usedL [⟨x.1.n, (f.X * x.2.h.B - f.Y * x.2.h.A)⟩, ⟨x.2.n, (f.Y * x.1.h.A - f.X * x.1.h.B)⟩]).length (rowU (usedL [⟨x.1.n, (f.X * x.2.h.B - f.Y * x.2.h.A)⟩, ⟨x.2.n, (f.Y * x.1.h.A - f.X * x.1.h.B)⟩])))])], rfl, ⟨rfl, ⟨obXh rfl, obXh rfl, obXh rfl, ?_, trivial⟩, wq rfl⟩, ?_⟩
     ·exact ob7 rfl rfl rfl (dE _)
     ·have e : bestE l f = (⟨value f (bestAt f (cornersL l)), (bestAt f (cornersL l)), det x.1.h x.2.h, usedL [⟨x.1.n, (f.X * x.2.h.B - f.Y * x.2.h.A)⟩, ⟨x.2.n, (f.Y * x.1.h.A - f.X * x.1.h.B)⟩]⟩, 0) := by unfold bestE; rw [if_pos h0, if_pos hs, if_neg hc, if_neg hz, hf]
      rw [e]
      exact r2CI rfl rfl rfl rfl rfl rfl rfl (eqvB (dE _)) rfl
    ·exact ⟨zeM hI (zbY fun hh => dF h7 (by rw [<- et]; exact hh.2.2)), rfl, ⟨obXh rfl, obXh rfl, obXh rfl, obXh rfl, trivial⟩, wq rfl⟩
   ·refine sF ?_
    refine sF ?_
    exact ⟨zeM hI (zbY fun hh => dF h6 (by rw [<- es]; exact hh.2.1)), rfl, ⟨obXh rfl, obXh rfl, obXh rfl, obXh rfl, trivial⟩, wq rfl⟩
 ·have e : bestE l f = (⟨value f (bestAt f (cornersL l)), (bestAt f (cornersL l)), 1, []⟩, 0) := by unfold bestE; rw [if_pos h0, if_pos hs, if_neg hc, if_neg hz, hI]
  rw [e]
  exact r2CI rfl rfl rfl rfl rfl rfl rfl (zlj) rfl
@[irreducible] def upTo (n : Nat) : List Int := (List.range n).map fun i : Nat => (i : Int)
theorem zl6 (n : Nat) : (upTo n).length = n := by unfold upTo; simp
theorem zl5 {n : Nat} {x : Int} (h : x ∈ upTo n) : 0 <= x /\ x < n := by
 unfold upTo at h
 obtain ⟨i, hi, rfl⟩ := List.mem_map.1 h
 have := List.mem_range.1 hi
 omega
@[irreducible] def rmLh (l : List Int) (i : Nat) : List Int := l.take i ++ l.drop (i + 1)
@[irreducible] def pickL (l : List Half) (js : List Int) : List Half := js.map fun j => l.getD j.toNat default
theorem zkr (l : List Half) (js : List Int) : (pickL l js).length = js.length := by unfold pickL; simp
theorem zkq {l : List Half} {js : List Int} (hj : ∀ j ∈ js, 0 <= j /\ j < l.length) : ∀ x ∈ pickL l js, x ∈ l := fun x hx => by
 unfold pickL at hx
 obtain ⟨j, hjm, rfl⟩ := List.mem_map.1 hx
 have := hj j hjm
 exact gd1 (by omega) default
abbrev rowH (l : List Half) : Nat -> Nat -> D := fun i => (l.getD i default).at
theorem pushH {vs : List Half} {p : Half} {n : Nat} {g : Nat -> Nat -> D} (hn : n = vs.length) (hg : ∀ j, j < 3 -> D.eqv (g 0 j) (p.at j)) : D.eqv (.slc 3 (n + 1) (appRow n (rowH vs) g)) (.slc 3 (vs ++ [p]).length (rowH (vs ++ [p]))) := by
 subst hn
 rw [List.length_append]
 refine app1 (fun i hi j hj => ?_) fun j hj => ?_
 ·show D.eqv ((vs.getD i default).at j) (((vs ++ [p]).getD i default).at j)
  have e : (vs ++ [p]).getD i default = vs.getD i default := by rw [gdq, List.getElem?_append_left hi, <- gdq]
  rw [e]
  exact dE _
 ·show D.eqv (g 0 j) (((vs ++ [p]).getD vs.length default).at j)
  rw [gdq, List.getElem?_append_right (Nat.le_refl _), Nat.sub_self]
  exact hg j hj
theorem eqAtH (p : Half) : ∀ j, j < 3 -> D.eqv (rowOf 3 [I p.A, I p.B, I p.C] 0 j) (p.at j)
 | 0, _ => ⟨rfl, rfl⟩
 | 1, _ => ⟨rfl, rfl⟩
 | 2, _ => ⟨rfl, rfl⟩
@[irreducible] def edgeL (p q : Place) : Half := ⟨q.Y - p.Y, p.X - q.X, (q.Y - p.Y) * p.X + (p.X - q.X) * p.Y⟩
structure okP (p : Place) : Prop where
  x : -1073741824 <= p.X /\ p.X <= 1073741824
  y : -1073741824 <= p.Y /\ p.Y <= 1073741824
theorem zfm (p q : Place) (hp : okP p) (hq : okP q) : Spec PP 101 [p.v, q.v] [(edgeL p q).v] := by
 have p1 := hp.x
 have p2 := hp.y
 have q1 := hq.x
 have q2 := hq.y
 have b1 := mulB (a := q.Y - p.Y) (x := 2147483648) (by omega) hp.x
 have b2 := mulB (a := p.X - q.X) (x := 2147483648) (by omega) hp.y
 refine sA Tryz.func101 ?_
 refine oL (List.range 12) (FzOb.no ?_)
 refine ⟨i6, ⟨i6, ?_⟩⟩
 refine ⟨i6, ⟨i6, ⟨i6, ?_⟩⟩⟩
 refine r1C rfl rfl rfl rfl rfl rfl (zhv ?_ ?_ ?_) <;> (unfold edgeL; rfl)
@[irreducible] def atP (c : List Corner) (i : Nat) : Place := ⟨(c.getD (i % c.length) default).X, (c.getD (i % c.length) default).Y⟩
abbrev ptrC (c : List Corner) : V1 := .d (.ptr 1 fun _ => .slc 3 c.length fun i => (c.getD i default).at)
theorem s_at (c : List Corner) (i : Nat) (h0 : 0 < c.length) (hi : i <= 1000000) (hn : c.length <= 1000000) : Spec PP 100 [N i, ptrC c] [(atP c i).v] := by
 have hm : ((i : Int).tmod (c.length : Int)) = ((i % c.length : Nat) : Int) := rfl
 have hlt := Nat.mod_lt i h0
 refine sA Tryz.func100 ?_
 refine oL (List.range 18) (FzOb.no ?_)
 refine ⟨by omega, ?_⟩
 refine ⟨⟨rfl, by rw [hm]; omega, by rw [hm]; omega⟩, ?_⟩
 refine ⟨by omega, ?_⟩
 refine ⟨⟨rfl, by rw [hm]; omega, by rw [hm]; omega⟩, ?_⟩
 refine r1C rfl rfl rfl rfl rfl rfl (zcW ?_ ?_) <;> (unfold atP; rfl)
theorem zhc (p : Corner) : ∀ st : List Corner, st ≠ [] -> popR p st ≠ []
 | [b], _ => by simp [popR]
 | b :: a :: r, _ => by
  simp only [popR]
  split
  ·exact zhc p (a :: r) (by simp)
  ·simp
theorem zcY (l : List Corner) : ∀ i, i <= l.length -> min i 2 <= (chainR (l.take i)).length
 | 0, _ => by simp
 | i + 1, h => by
  rw [zbF l (by omega)]
  have ih := zcY l i (by omega)
  show _ <= (popR _ _).length + 1
  rcases Nat.eq_zero_or_pos i with h0 | h0
  ·subst h0; simp
  ·have : popR (l.getD i default) (chainR (l.take i)) ≠ [] := zhc _ _ fun hh => by rw [hh] at ih; simp at ih; omega
   have := List.length_pos_iff.2 this
   omega
theorem zk5 {l : List Corner} (h : 2 <= l.length) : 0 < (halfL l).length := by
 have := zcY l l.length (Nat.le_refl _)
 rw [List.take_length] at this
 unfold halfL
 rw [List.length_reverse, List.length_tail]
 omega
theorem zk3 {l : List Corner} (h : 0 < l.length) : 0 < (hullL l).length := by
 unfold hullL
 split
 ·exact h
 ·rw [List.length_append]
  have := zk5 (l := l) (by omega)
  omega
theorem zly {l : List Corner} (h : 0 < l.length) : 0 < (compL l).length := by
 have : l.getD 0 default ∈ compL l := by
  unfold compL compP
  exact List.mem_map.2 ⟨0, List.mem_filter.2 ⟨List.mem_range.2 h, keep0 l (by omega)⟩, rfl⟩
 exact List.length_pos_of_mem this
theorem zgr {m : List Corner} {q : Corner} (h : q ∈ hullL m) : q ∈ m := by
 unfold hullL at h
 have hh : ∀ {m : List Corner} {q : Corner}, q ∈ halfL m -> q ∈ m := fun {m q} h => by
  unfold halfL at h
  have := (za9 m m.length (Nat.le_refl _)).1 q
  rw [List.take_length] at this
  exact this (List.mem_of_mem_tail (List.mem_reverse.1 h))
 split at h
 ·exact h
 ·rcases List.mem_append.1 h with h | h
  ·exact hh h
  ·exact List.mem_reverse.1 (hh h)
theorem zk4 (l : List Corner) : (hullL l).length <= 2 * l.length := by
 have h3 := zbr l
 have h4 := zbr l.reverse
 rw [List.length_reverse] at h4
 unfold hullL
 split
 ·omega
 ·rw [List.length_append]; omega
theorem zfv {p : Place} (h : on p = true) : (0 <= p.X /\ p.X <= 48) /\ (0 <= p.Y /\ p.Y <= 48) := by
 unfold on at h
 simp only [Bool.and_eq_true, zab] at h
 exact h
theorem zcy {p : Place} (h : on p = true) : valid (ofP p) = true := by
 have hb := zfv h
 have e : ofP p = ⟨p.X, p.Y, 1⟩ := by unfold ofP; rw [if_pos h]
 rw [e]
 unfold valid
 simp only [Bool.and_eq_true, zab, beq_iff_eq]
 refine ⟨⟨⟨by omega, by omega⟩, by omega⟩, ?_⟩
 rw [gcd3]
 simp
@[irreducible] def ofV (p : Place) : VC := if h : valid (ofP p) = true then ⟨ofP p, h⟩ else default
theorem zn1 {p : Place} (h : on p = true) : ofV p = ⟨ofP p, zcy h⟩ := by unfold ofV; rw [dif_pos (zcy h)]
@[irreducible] def ptsO (l : List Place) (i : Nat) : List VC := (l.take i).map ofV
theorem zkl (l : List Place) : ptsO l 0 = [] := by unfold ptsO; simp
theorem zmy (l : List Place) {i : Nat} (h : i <= l.length) : (ptsO l i).length = i := by unfold ptsO; simp; omega
theorem zkm (l : List Place) {i : Nat} (h : i < l.length) : ptsO l (i + 1) = ptsO l i ++ [ofV (l.getD i default)] := by unfold ptsO; rw [zaz h default, List.map_append]; rfl
@[irreducible] def cycL (l : List Place) : List Corner := hullL (compL ((sortV (ptsO l l.length)).map fun p : VC => p.1))
@[irreducible] def edges1 (p : Place) : List Half := [⟨-1, 0, -p.X⟩, ⟨1, 0, p.X⟩, ⟨0, -1, -p.Y⟩, ⟨0, 1, p.Y⟩]
@[irreducible] def edges2 (p q : Place) : List Half := [edgeL p q, edgeL q p, ⟨-(q.X - p.X), -(q.Y - p.Y), -(q.X - p.X) * p.X - (q.Y - p.Y) * p.Y⟩, ⟨q.X - p.X, q.Y - p.Y, (q.X - p.X) * q.X + (q.Y - p.Y) * q.Y⟩]
@[irreducible] def edgesTo (c : List Corner) (i : Nat) : List Half := (List.range i).map fun i => edgeL (atP c i) (atP c (i + 1))
theorem zgC (c : List Corner) : edgesTo c 0 = [] := by unfold edgesTo; rfl
theorem zgD (c : List Corner) (i : Nat) : edgesTo c (i + 1) = edgesTo c i ++ [edgeL (atP c i) (atP c (i + 1))] := by unfold edgesTo; rw [List.range_succ, List.map_append]; rfl
theorem zd7 (c : List Corner) (i : Nat) : (edgesTo c i).length = i := by unfold edgesTo; simp
@[irreducible] def hullE (l : List Place) : List Half × Int :=
 if l = [] then ([], 5) else if l.all on = true then
  (if (cycL l).length = 1 then edges1 (atP (cycL l) 0) else if (cycL l).length = 2 then edges2 (atP (cycL l) 0) (atP (cycL l) 1) else edgesTo (cycL l) (cycL l).length, 0)
 else ([], 1)
theorem eqH4 {a0 a1 a2 a3 a4 a5 a6 a7 a8 a9 b0 b1 : Int} : D.eqv (.slc 3 4 (rowOf 3 [I a0, I a1, I a2, I a3, I a4, I a5, I a6, I a7, I a8, I a9, I b0, I b1])) (.slc 3 [(⟨a0, a1, a2⟩ : Half), ⟨a3, a4, a5⟩, ⟨a6, a7, a8⟩, ⟨a9, b0, b1⟩].length fun i => (([(⟨a0, a1, a2⟩ : Half), ⟨a3, a4, a5⟩, ⟨a6, a7, a8⟩, ⟨a9, b0, b1⟩]).getD i default).at) := by
 refine ⟨rfl, .inr ⟨rfl, fun i hi j hj => ?_⟩⟩
 match i, j, hi, hj with
 | 0, 0, _, _ => exact ⟨rfl, rfl⟩
 | 0, 1, _, _ => exact ⟨rfl, rfl⟩
 | 0, 2, _, _ => exact ⟨rfl, rfl⟩
 | 1, 0, _, _ => exact ⟨rfl, rfl⟩
 | 1, 1, _, _ => exact ⟨rfl, rfl⟩
 | 1, 2, _, _ => exact ⟨rfl, rfl⟩
 | 2, 0, _, _ => exact ⟨rfl, rfl⟩
 | 2, 1, _, _ => exact ⟨rfl, rfl⟩
 | 2, 2, _, _ => exact ⟨rfl, rfl⟩
 | 3, 0, _, _ => exact ⟨rfl, rfl⟩
 | 3, 1, _, _ => exact ⟨rfl, rfl⟩
 | 3, 2, _, _ => exact ⟨rfl, rfl⟩
theorem zqy (l : List Place) (hn : l.length <= 2500) : Spec PP 44 [slP l] [slH (hullE l).1, N (hullE l).2] := by
 refine sA Tryz.func44 ?_
 apply bY <;> intro h1
 ·have h1 : l = [] := by
   have : l.length = 0 := by simpa using h1
   exact List.length_eq_zero_iff.1 this
  have e : hullE l = ([], 5) := by unfold hullE; rw [if_pos h1]
  rw [e]
  exact ⟨⟨_, _, _, _, rfl, rfl, .inl rfl⟩, rtI rfl rfl, trivial⟩
 have h1 : l ≠ [] := fun hh => by rw [hh] at h1; cases h1
 have hpos := List.length_pos_iff.2 h1
 refine LoopOb.of (σ := Nat) (fun i => ([(4, .own 4), (18, avOf (slP l)), (19, .d (I l.length)), (20, .d (I i))], [(4, .row 67 3 (ptsO l i).length (VI.row (ptsO l i)))])) (fun i => i <= l.length /\ ∀ m, m < i -> on (l.getD m default) = true) (fun i => l.length - i) 0
  ⟨rfl, ⟨obR rfl ⟨by rw [zkl]; rfl, .inl rfl⟩, trivial⟩, wq rfl⟩ z0L fun i hi => ?_
 obtain ⟨i1, i2⟩ := hi
 have hl := zmy l i1
 apply bY <;> intro h2
 ·have h2 : i < l.length := by simpa using h2
  refine ⟨⟨rfl, by omega, by omega⟩, ?_⟩
  refine cP (s_on (l.getD i default)) rfl rfl ?_
  apply bY <;> intro h3
  ·have h3 : on (l.getD i default) = false := by simpa using h3
   have e : hullE l = ([], 1) := by
    unfold hullE
    rw [if_neg h1, if_neg fun hh => by rw [List.all_eq_true.1 hh _ (gd1 h2 default)] at h3; cases h3]
   rw [e]
   exact ⟨⟨_, _, _, _, rfl, rfl, .inl rfl⟩, rtI rfl rfl, trivial⟩
  ·have h3 : on (l.getD i default) = true := by simpa using h3
   refine cP (s_Of (l.getD i default)) rfl rfl ?_
   refine ⟨⟨.inr rfl, by unfold maxLen; omega, by show ((ptsO l i).length + 1) * 24 <= 140737488355328; omega⟩, ?_⟩
   refine ⟨i6, ?_⟩
   refine ⟨i + 1, ⟨rfl, ⟨obR rfl ?_, trivial⟩, wq rfl⟩, ⟨h2, fun m hm => ?_⟩, ?_⟩
   ·rw [zkm l h2, zn1 h3]; exact zqC (eqAt _)
   ·rcases Nat.lt_or_ge m i with h | h
    ·exact i2 m h
    ·obtain rfl : m = i := by omega
     exact h3
   ·show l.length - (i + 1) < l.length - i
    omega
 have h2 : i = l.length := by
  have : ¬ i < l.length := by simpa using h2
  omega
 subst h2
 have hall : l.all on = true := List.all_eq_true.2 fun p hp => by
  obtain ⟨m, hm, he⟩ := List.getElem_of_mem hp
  have := i2 m hm
  rw [gdq, gqe hm] at this
  rw [<- he]; exact this
 have hcl := zec ((sortV (ptsO l l.length)).map fun p : VC => p.1)
 rw [List.length_map, zbm, hl] at hcl
 have hcp : 0 < (compL ((sortV (ptsO l l.length)).map fun p : VC => p.1)).length := zly (by rw [List.length_map, zbm, hl]; exact hpos)
 have hcv : ∀ q ∈ (compL ((sortV (ptsO l l.length)).map fun p : VC => p.1)), valid q = true := fun q hq => by
  obtain ⟨p, _, rfl⟩ := List.mem_map.1 (zcK hq)
  exact p.2
 have hull : Spec PP 98 [slC (compL ((sortV (ptsO l l.length)).map fun p : VC => p.1))] [slC (cycL l)] := by
  have := znS (compL ((sortV (ptsO l l.length)).map fun p : VC => p.1)) (fun q hq => zas (hcv q hq)) (by omega)
  unfold cycL
  exact this
 have c0 : 0 < (cycL l).length := by unfold cycL; exact zk3 hcp
 have c1 : (cycL l).length <= 5000 := by
  have := zk4 (compL ((sortV (ptsO l l.length)).map fun p : VC => p.1))
  unfold cycL
  omega
 have c2 : ∀ i, okP (atP (cycL l) i) := fun i => by
  have hm : (cycL l).getD (i % (cycL l).length) default ∈ cycL l := gd1 (Nat.mod_lt i c0) default
  have hm' : (cycL l).getD (i % (cycL l).length) default ∈ (compL ((sortV (ptsO l l.length)).map fun p : VC => p.1)) := by
   have := hm
   unfold cycL at this ⊢
   exact zgr this
  have := zas (hcv _ hm')
  unfold atP
  exact ⟨this.x, this.y⟩
 have e : hullE l = (if (cycL l).length = 1 then edges1 (atP (cycL l) 0) else if (cycL l).length = 2 then edges2 (atP (cycL l) 0) (atP (cycL l) 1) else edgesTo (cycL l) (cycL l).length, 0) := by
  unfold hullE; rw [if_neg h1, if_pos hall]
 rw [e]
 refine CallSt.rw' rfl (zkh (ptsO l l.length) (by omega)) ⟨⟨[], .tmp 33, [.func 97], [], rfl, rfl, rfl, rfl, rfl, rfl, rfl⟩⟩ rfl ?_
 refine CallSt.tk rfl (zew (ptsO l l.length) (by omega)) ⟨⟨[], .tmp 35, [], [], rfl, rfl, rfl, rfl, rfl, rfl, rfl⟩⟩ rfl ?_
 refine CallSt.fz [4] hull rfl rfl ?_
 have p0 := c2 0
 have p1 := c2 1
 have x0 := p0.x
 have y0 := p0.y
 have x1 := p1.x
 have y1 := p1.y
 refine CallSt.fzE [7] (s_at (cycL l) 0 c0 (by omega) (by omega)) rfl ⟨⟨rfl, rfl⟩, ⟨rfl, fun j hj => ?_⟩, trivial⟩ rfl ?_
 ·obtain rfl : j = 0 := Nat.lt_one_iff.1 hj
  exact dE _
 refine CallSt.pureE (s_at (cycL l) 1 c0 (by omega) (by omega)) rfl ⟨⟨rfl, rfl⟩, ⟨rfl, fun j hj => ?_⟩, trivial⟩ rfl ?_
 ·obtain rfl : j = 0 := Nat.lt_one_iff.1 hj
  exact dE _
 apply bY <;> intro h3
 ·have h3 : (cycL l).length = 1 := by
   have : ((cycL l).length : Int) = 1 := by simpa using h3
   omega
  rw [if_pos h3]
  refine ⟨i6, ⟨i6, ?_⟩⟩
  refine ⟨⟨_, _, _, _, rfl, ?_⟩, rtI rfl rfl, trivial⟩
  unfold edges1
  exact eqH4
 have h3 : (cycL l).length ≠ 1 := fun hh => by rw [hh] at h3; cases h3
 rw [if_neg h3]
 apply bY <;> intro h4
 ·have h4 : (cycL l).length = 2 := by
   have : ((cycL l).length : Int) = 2 := by simpa using h4
   omega
  rw [if_pos h4]
  have b1 := mulB (a := -((atP (cycL l) 1).X - (atP (cycL l) 0).X)) (x := 2147483648) (by omega) p0.x
  have b2 := mulB (a := (atP (cycL l) 1).Y - (atP (cycL l) 0).Y) (x := 2147483648) (by omega) p0.y
  have b3 := mulB (a := (atP (cycL l) 1).X - (atP (cycL l) 0).X) (x := 2147483648) (by omega) p1.x
  have b4 := mulB (a := (atP (cycL l) 1).Y - (atP (cycL l) 0).Y) (x := 2147483648) (by omega) p1.y
  refine oL (List.range 12) (FzOb.no ?_)
  refine ⟨i6, ⟨i6, ?_⟩⟩
  refine oL (List.range 36) (FzOb.no ?_)
  refine oP (zfm (atP (cycL l) 0) (atP (cycL l) 1) p0 p1) rfl rfl ?_
  refine oP (zfm (atP (cycL l) 1) (atP (cycL l) 0) p1 p0) rfl rfl ?_
  refine ⟨i6, ⟨i6, ⟨i6, ?_⟩⟩⟩
  refine ⟨i6, ⟨i6, ⟨i6, ?_⟩⟩⟩
  refine ⟨i6, ⟨i6, ⟨i6, ?_⟩⟩⟩
  unfold edges2
  exact ⟨eqH4, rtI rfl rfl, trivial⟩
 have h4 : (cycL l).length ≠ 2 := fun hh => by rw [hh] at h4; cases h4
 rw [if_neg h4]
 refine LoopOb.of (σ := Nat) (fun i => ([(7, .roe 1 fun _ => .slc 3 (cycL l).length fun i => ((cycL l).getD i default).at), (8, .clo 100 [.dat (.ptr 1 fun _ => .slc 3 (cycL l).length fun i => ((cycL l).getD i default).at)]), (13, .own 13), (109, .d (I (cycL l).length)), (110, .d (I i))], [(13, .row 123 3 (edgesTo (cycL l) i).length fun m => ((edgesTo (cycL l) i).getD m default).at)])) (fun i => i <= (cycL l).length) (fun i => (cycL l).length - i) 0
  ⟨rfl, ⟨obR rfl ⟨by rw [zgC]; rfl, .inl rfl⟩, trivial⟩, avRo rfl ⟨rfl, fun j hj => ?_⟩, ⟨rfl, ⟨rfl, fun j hj => ?_⟩, trivial⟩, wq rfl⟩ (Nat.zero_le _) fun i hi => ?_
 ·obtain rfl : j = 0 := Nat.lt_one_iff.1 hj
  exact dE _
 ·obtain rfl : j = 0 := Nat.lt_one_iff.1 hj
  exact dE _
 have hel := zd7 (cycL l) i
 apply bY <;> intro h5
 ·have h5 : i < (cycL l).length := by have := dT h5; omega
  refine cP (s_at (cycL l) i c0 (by omega) (by omega)) rfl rfl ?_
  refine ⟨i6, ?_⟩
  refine CallSt.pureE (s_at (cycL l) (i + 1) c0 (by omega) (by omega)) rfl ⟨⟨rfl, rfl⟩, dE _, trivial⟩ rfl ?_
  refine cP (zfm (atP (cycL l) i) (atP (cycL l) (i + 1)) (c2 i) (c2 (i + 1))) rfl rfl ?_
  refine ⟨⟨.inr rfl, by unfold maxLen; omega, by show ((edgesTo (cycL l) i).length + 1) * 24 <= 140737488355328; omega⟩, ?_⟩
  refine ⟨i6, ?_⟩
  refine ⟨i + 1, ⟨rfl, ⟨obR rfl ?_, trivial⟩, avRo rfl (dE _), wq rfl⟩, h5, ?_⟩
  ·rw [zgD]
   exact pushH rfl (eqAtH _)
  ·show (cycL l).length - (i + 1) < (cycL l).length - i
   omega
 ·have h5 : i = (cycL l).length := by
   have := dF h5
   omega
  subst h5
  exact ⟨⟨_, _, _, _, rfl, dE _⟩, rtI rfl rfl, trivial⟩
end Go.Pg
