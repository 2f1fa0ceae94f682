/- Texts joined and shortened by program. -/
import Derived.Test.YtooepbnecjepnaaGreatTD
import Derived.Test.YtooepbnecjepnaaGreatT8
import Derived.Test.YtooepbnecjepnaaGreatT6
set_option maxHeartbeats 4000000
set_option linter.all false
set_option maxRecDepth 100000
namespace Go.Pg
open Go.Proofs Go.RowKit
def most (h : Half) : Int := max (max (max h.A (-h.A)) h.B) (-h.B)
@[irreducible] def opp (g h : Half) : Bool := det g h == 0 && decide (g.A * h.A + g.B * h.B < 0)
@[irreducible] def scS (g h : Half) : Int := if opp g h = true then most h else 0
@[irreducible] def scT (g h : Half) : Int := if opp g h = true then most g else 0
@[irreducible] def two (g h : Num) : Option (List Use) := if opp g.h h.h = true /\ scS g.h h.h * g.h.C + scT g.h h.h * h.h.C < 0 then some [⟨g.n, scS g.h h.h⟩, ⟨h.n, scT g.h h.h⟩] else none
@[irreducible] def flip (n m : Int) : Int := if n < 0 then -m else m
abbrev cut (L : List Num) (i : Nat) : D := .slc 4 i fun i => (L.getD i default).at
theorem zff {n m : Int} (h : n < 0) : flip n m = -m := by unfold flip; rw [if_pos h]
theorem zfe {n m : Int} (h : ¬ n < 0) : flip n m = m := by unfold flip; rw [if_neg h]
abbrev rowU (l : List Use) : Nat -> Nat -> D := fun i => (l.getD i default).at
theorem zqC (l : List Use) (m j : Nat) : (rowU l m j).flat = true := by
 show ((l.getD m default).at j).flat = true
 unfold Use.at; split <;> rfl
theorem setU {m : List Use} {n k k' : Nat} {p q : Use} (hk : k < m.length) (e1 : k' = k) (e2 : q = p) : D.eqv (.slc 2 n (storeRow (rowU m) k' 0 [I q.H, I q.T])) (.slc 2 n (rowU (m.set k p))) := by
 subst e1; subst e2
 refine ⟨rfl, .inr ⟨rfl, fun i hi j hj => ?_⟩⟩
 show D.eqv (storeRow (rowU m) k' 0 [I q.H, I q.T] i j) (((m.set k' q).getD i default).at j)
 rw [zbo m k' i q default hk]
 unfold storeRow
 by_cases h : i = k'
 ·rw [if_pos h, if_pos ⟨h, by omega, by simpa using hj⟩]
  match j, hj with
  | 0, _ => exact ⟨rfl, rfl⟩
  | 1, _ => exact ⟨rfl, rfl⟩
 ·rw [if_neg h, if_neg fun hh => h hh.1]
  exact dE _
def IsIdx {α : Type} [Inhabited α] (p : α -> Bool) (l : List α) (r : Int) : Prop :=
 (r = -1 /\ ∀ i, i < l.length -> p (l.getD i default) = false) \/ (∃ i : Nat, r = i /\ i < l.length /\ p (l.getD i default) = true /\ ∀ m, m < i -> p (l.getD m default) = false)
theorem IsIdx.hit {α : Type} [Inhabited α] {p : α -> Bool} {l : List α} {r : Int} (h : IsIdx p l r) {i : Nat} (hi : i < l.length) (h1 : p (l.getD i default) = true) (h2 : ∀ m, m < i -> p (l.getD m default) = false) : r = i := by
 rcases h with ⟨_, h4⟩ | ⟨j, rfl, h4, h5, h6⟩
 ·rw [h4 i hi] at h1; cases h1
 ·rcases Nat.lt_trichotomy i j with h | h | h
  ·rw [h6 i h] at h1; cases h1
  ·rw [h]
  ·rw [h2 j h] at h5; cases h5
theorem IsIdx.miss {α : Type} [Inhabited α] {p : α -> Bool} {l : List α} {r : Int} (h : IsIdx p l r) (h2 : ∀ m, m < l.length -> p (l.getD m default) = false) : r = -1 := by
 rcases h with ⟨h3, _⟩ | ⟨j, rfl, h4, h5, h6⟩
 ·exact h3
 ·rw [h2 j h4] at h5; cases h5
theorem zms {α : Type} [Inhabited α] (p : α -> Bool) (l : List α) : ∃ r, IsIdx p l r := by
 have : ∀ n, n <= l.length -> (∀ m, m < n -> p (l.getD m default) = false) \/ ∃ i : Nat, i < l.length /\ p (l.getD i default) = true /\ ∀ m, m < i -> p (l.getD m default) = false := by
  intro n
  induction n with
  | zero => exact fun _ => .inl fun m hm => absurd hm (Nat.not_lt_zero _)
  | succ n ih =>
   intro hn
   rcases ih (by omega) with h | h
   ·cases hp : p (l.getD n default) with
    | true => exact .inr ⟨n, by omega, hp, h⟩
    | false =>
     refine .inl fun m hm => ?_
     rcases Nat.lt_or_ge m n with h1 | h1
     ·exact h m h1
     ·obtain rfl : m = n := by omega
      exact hp
   ·exact .inr h
 rcases this l.length (Nat.le_refl _) with h | ⟨i, h1, h2, h3⟩
 ·exact ⟨-1, .inl ⟨rfl, h⟩⟩
 ·exact ⟨i, .inr ⟨i, rfl, h1, h2, h3⟩⟩
theorem zlF (p : Use -> Bool) (g : FuncId) (hg : ∀ u, Spec PP g [u.v] [B (p u)]) (l : List Use) (hn : l.length <= 1000000) (r : Int) (hr : IsIdx p l r) : Spec PP 264 [slU l, .d (.fn g)] [N r] := by
 refine sA Tryz.func264 ?_
 refine LoopOb.of (σ := Nat) (fun i => ([(0, avOf (slU l)), (1, .d (.fn g)), (7, .d (I l.length)), (8, .d (I i))], [])) (fun i => i <= l.length /\ ∀ m, m < i -> p (l.getD m default) = false) (fun i => l.length - i) 0 ⟨rfl, trivial, wq rfl⟩ z0L fun i hi => ?_
 obtain ⟨i1, i2⟩ := hi
 apply bY <;> intro h1
 ·have h1 : i < l.length := by simpa using h1
  refine ⟨⟨rfl, by omega, by omega⟩, ?_⟩
  refine cP (hg (l.getD i default)) rfl rfl ?_
  apply bY <;> intro h2
  ·exact r1I rfl (hr.hit h1 h2 i2).symm
  ·refine ⟨i6, ?_⟩
   refine ⟨i + 1, ⟨rfl, trivial, wq rfl⟩, ⟨h1, fun m hm => ?_⟩, ?_⟩
   ·rcases Nat.lt_or_ge m i with h | h
    ·exact i2 m h
    ·obtain rfl : m = i := by omega
     exact h2
   ·show l.length - (i + 1) < l.length - i
    omega
 ·have h1 : i = l.length := by
   have : ¬ i < l.length := by simpa using h1
   omega
  exact r1I rfl (hr.miss fun m hm => i2 m (by omega)).symm
@[irreducible] def filtP (p : Use -> Bool) (l : List Use) (j : Nat) : List Use := ((List.range j).filter fun i => !p (l.getD i default)).map fun i => l.getD i default
theorem zeA (p : Use -> Bool) (l : List Use) : filtP p l 0 = [] := by unfold filtP; rfl
theorem za3 (p : Use -> Bool) (l : List Use) (j : Nat) : filtP p l (j + 1) = filtP p l j ++ (if p (l.getD j default) = true then [] else [l.getD j default]) := by
 unfold filtP
 rw [List.range_succ, List.filter_append, List.map_append]
 congr 1
 by_cases h : p (l.getD j default) = true
 ·rw [if_pos h, List.filter_cons_of_neg (by rw [h]; decide)]; rfl
 ·rw [if_neg h, List.filter_cons_of_pos (by rw [Bool.eq_false_iff.2 h]; rfl)]; rfl
theorem zf3 (p : Use -> Bool) (l : List Use) {j : Nat} (hj : j <= l.length) (h : ∀ i, i < j -> p (l.getD i default) = false) : filtP p l j = l.take j := by
 induction j with
 | zero => rw [zeA]; simp
 | succ j ih => rw [za3, if_neg (by rw [h j (by omega)]; decide), ih (by omega) fun i hi => h i (by omega), zaD (by omega) default]
theorem zjc (p : Use -> Bool) (g : FuncId) (hg : ∀ u, Spec PP g [u.v] [B (p u)]) (l : List Use) (hn : l.length <= 1000000) : SpecT PP 202 [] [.d (.fn g)] 230 2 l.length (rowU l) (filtP p l l.length).length (rowU (filtP p l l.length)) := by
 obtain ⟨r, hr⟩ := zms p l
 refine zeU Tryz.func202 rfl (by kernel_rfl) (fun i _ j _ => zqC _ i j) rfl fun v => ?_
 refine cP (zlF p g hg l hn r hr) rfl rfl ?_
 rcases hr with ⟨rfl, h1⟩ | ⟨i, rfl, h1, h2, h3⟩
 ·refine sT ?_
  have e : filtP p l l.length = l := by rw [zf3 p l (Nat.le_refl _) h1, List.take_length]
  rw [e]
  exact ⟨rfl, rfl, rfl, fun i hi j hj => dE _⟩
 ·apply bY <;> intro h4
  ·have : (i : Int) = -1 := by simpa using h4
   omega
  ·have ck : filtP p l (i + 1) = l.take i := by rw [za3, if_pos h2, List.append_nil, zf3 p l (by omega) h3]
   refine ⟨i6, ?_⟩
   refine LoopOb.of (σ := Nat × Nat × List Use) (fun x => ([(0, .own 0), (1, .d (.fn g)), (5, .d (I x.2.1)), (6, .d (I x.1))], [(0, .row 230 2 l.length (rowU x.2.2))]))
    (fun x => i + 1 <= x.1 /\ x.1 <= l.length /\ x.2.2.length = l.length /\ x.2.1 <= x.1 - 1 /\ x.2.2.take x.2.1 = filtP p l x.1 /\ ∀ m, x.1 <= m -> x.2.2.getD m default = l.getD m default) (fun x => l.length - x.1) (i + 1, i, l)
    ⟨rfl, ⟨obR rfl (dE _), trivial⟩, rfl, wq rfl⟩ ⟨Nat.le_refl _, h1, rfl, by simp, ck.symm, fun _ _ => rfl⟩ fun x hx => ?_
   obtain ⟨x1, x2, x3, x4, x5, x6⟩ := hx
   apply bY <;> intro g1
   ·have g1 : x.1 < l.length := by have := dT g1; omega
    have e1 : x.2.2.getD (x.1 : Int).toNat default = l.getD x.1 default := by rw [Int.toNat_natCast, x6 x.1 (Nat.le_refl _)]
    refine ⟨⟨by omega, by omega⟩, ⟨by omega, ?_⟩⟩
    refine cP (hg (x.2.2.getD (x.1 : Int).toNat default)) rfl rfl ?_
    apply bY <;> intro g2
    ·have g2 : p (l.getD x.1 default) = false := by rw [e1] at g2; simpa using g2
     refine ⟨⟨by omega, by omega⟩, ⟨by omega, ?_⟩⟩
     refine ⟨i6, ?_⟩
     refine ⟨i6, ?_⟩
     refine ⟨(x.1 + 1, x.2.1 + 1, x.2.2.set x.2.1 (l.getD x.1 default)), ⟨rfl, ⟨obR rfl (setU (by omega) (Int.toNat_natCast _) e1), trivial⟩, rfl, wq rfl⟩, ⟨by omega, by omega, by simp; omega, (show x.2.1 + 1 <= x.1 + 1 - 1 by omega), ?_, fun m hm => ?_⟩, ?_⟩
     ·show (x.2.2.set x.2.1 (l.getD x.1 default)).take (x.2.1 + 1) = filtP p l (x.1 + 1)
      rw [za3, if_neg (by rw [g2]; decide), zaD (i := x.2.1) (by simp; omega) default, zbo _ _ _ _ _ (by omega), if_pos rfl, <- x5, List.take_set_of_le (Nat.le_refl _)]
     ·have hm : x.1 + 1 <= m := hm
      show (x.2.2.set x.2.1 (l.getD x.1 default)).getD m default = _
      rw [zbo _ _ _ _ _ (by omega), if_neg (by omega)]
      exact x6 m (by omega)
     ·show l.length - (x.1 + 1) < l.length - x.1
      omega
    ·have g2 : p (l.getD x.1 default) = true := by rw [e1] at g2; simpa using g2
     refine ⟨i6, ?_⟩
     refine ⟨(x.1 + 1, x.2.1, x.2.2), ⟨rfl, ⟨obR rfl (dE _), trivial⟩, rfl, wq rfl⟩, ⟨by omega, by omega, x3, (show x.2.1 <= x.1 + 1 - 1 by omega), ?_, fun m hm => x6 m (by have : x.1 + 1 <= m := hm; omega)⟩, ?_⟩
     ·show x.2.2.take x.2.1 = filtP p l (x.1 + 1)
      rw [za3, if_pos g2, List.append_nil, x5]
     ·show l.length - (x.1 + 1) < l.length - x.1
      omega
   ·have g1 : x.1 = l.length := by have := dF g1; omega
    have hk' : x.2.1 = (filtP p l l.length).length := by
     have := congrArg List.length x5
     rw [List.length_take, g1] at this
     omega
    refine ⟨⟨rfl, by omega, by omega⟩, ?_⟩
    refine ⟨by omega, ?_⟩
    refine ⟨⟨by omega, by omega⟩, ?_⟩
    refine ⟨rfl, rfl, ?_, fun i hi j hj => ?_⟩
    ·show (x.2.1 : Int).toNat = _
     omega
    ·have e3 : (filtP p l l.length).getD i default = x.2.2.getD i default := by
      rw [<- g1, <- x5, gdq, List.getElem?_take, if_pos (by omega), <- gdq]
     show D.eqv (clrRow (rowU x.2.2) (x.2.1 : Int).toNat (l.length - (x.2.1 : Int).toNat) _ i j) (((filtP p l l.length).getD i default).at j)
     unfold clrRow
     rw [if_neg (by omega), e3]
     exact dE _
def unused (u : Use) : Bool := u.T == 0
theorem zob (u : Use) : Spec PP 203 [u.v] [B (unused u)] := by
 refine sA Tryz.func203 ?_
 exact r1B rfl rfl
@[irreducible] def usedL (l : List Use) : List Use := filtP unused l l.length
theorem znf (l : List Use) (hn : l.length <= 1000000) : SpecT PP 127 [] [] 230 2 l.length (rowU l) (usedL l).length (rowU (usedL l)) := by
 refine zeU Tryz.func127 rfl (by kernel_rfl) (fun i _ j _ => zqC _ i j) rfl fun v => ?_
 refine CallSt.tk rfl (zjc unused 203 zob l hn) ⟨⟨[], .tmp 3, [.func 203], [], rfl, rfl, rfl, rfl, rfl, rfl, rfl⟩⟩ rfl ?_
 have e : usedL l = filtP unused l l.length := by unfold usedL; rfl
 rw [e]
 exact ⟨rfl, rfl, rfl, fun i hi j hj => dE _⟩
structure Bound where
  V : Frac
  At : Corner
  Scale : Int
  Uses : List Use
  deriving DecidableEq, Inhabited
abbrev Bound.v (b : Bound) : V1 := .agg [I b.V.Num, I b.V.Den, I b.At.X, I b.At.Y, I b.At.Den, I b.Scale, .slc 2 b.Uses.length (rowU b.Uses)]
def noBound : Bound := ⟨⟨0, 0⟩, ⟨0, 0, 0⟩, 0, []⟩
def stepB (f : Form) (a p : Corner) : Corner := if less (value f a) (value f p) < 0 then p else a
@[irreducible] def bestTo (f : Form) (l : List Corner) (i : Nat) : Corner := (l.take i).foldl (stepB f) (l.getD 0 default)
@[irreducible] def bestAt (f : Form) (l : List Corner) : Corner := bestTo f l l.length
theorem zce (f : Form) (l : List Corner) : bestTo f l 0 = l.getD 0 default := by unfold bestTo; rfl
theorem zbA (f : Form) (l : List Corner) {i : Nat} (h : i < l.length) : bestTo f l (i + 1) = stepB f (bestTo f l i) (l.getD i default) := by
 unfold bestTo
 rw [zaD h default, List.foldl_append]; rfl
theorem zb7 (f : Form) (l : List Corner) (h0 : 0 < l.length) : ∀ i, i <= l.length -> bestTo f l i ∈ l
 | 0, _ => by rw [zce]; exact gd1 h0 default
 | i + 1, h => by
  rw [zbA f l (by omega)]
  unfold stepB
  split
  ·exact gd1 (by omega) default
  ·exact zb7 f l h0 i (by omega)
@[irreducible] def usesB (f : Form) (a : Corner) (x : Num × Num) : Option (Int × List Use) :=
 if (tight x.1.h a = true /\ tight x.2.h a = true) /\ 0 <= flip (det x.1.h x.2.h) (f.X * x.2.h.B - f.Y * x.2.h.A) /\ 0 <= flip (det x.1.h x.2.h) (f.Y * x.1.h.A - f.X * x.1.h.B) then
  some (flip (det x.1.h x.2.h) (det x.1.h x.2.h), usedL [⟨x.1.n, flip (det x.1.h x.2.h) (f.X * x.2.h.B - f.Y * x.2.h.A)⟩, ⟨x.2.n, flip (det x.1.h x.2.h) (f.Y * x.1.h.A - f.X * x.1.h.B)⟩]) else none
theorem zbR {f : Form} {a : Corner} {x : Num × Num} (h : ¬ ((tight x.1.h a = true /\ tight x.2.h a = true) /\ 0 <= flip (det x.1.h x.2.h) (f.X * x.2.h.B - f.Y * x.2.h.A) /\ 0 <= flip (det x.1.h x.2.h) (f.Y * x.1.h.A - f.X * x.1.h.B))) : usesB f a x = none := by unfold usesB; rw [if_neg h]
theorem zfu {f : Form} {a : Corner} {x : Num × Num} {d s t : Int} (h1 : tight x.1.h a = true) (h2 : tight x.2.h a = true) (ed : flip (det x.1.h x.2.h) (det x.1.h x.2.h) = d) (es : flip (det x.1.h x.2.h) (f.X * x.2.h.B - f.Y * x.2.h.A) = s) (et : flip (det x.1.h x.2.h) (f.Y * x.1.h.A - f.X * x.1.h.B) = t) (h3 : 0 <= s) (h4 : 0 <= t) :
  usesB f a x = some (d, usedL [⟨x.1.n, s⟩, ⟨x.2.n, t⟩]) := by
 subst ed es et; unfold usesB; rw [if_pos ⟨⟨h1, h2⟩, h3, h4⟩]
theorem zep {α β : Type} {g : α -> Option β} {pre : List α} {x : α} (h : pre.findSome? g = none) (hx : g x = none) : (pre ++ [x]).findSome? g = none := by
 rw [List.findSome?_append, h]; simp [hx]
theorem zjP {α β : Type} {g : α -> Option β} {pre xs : List α} {x : α} {y : β} (hp : pre ++ [x] <+: xs) (h : pre.findSome? g = none) (hx : g x = some y) : xs.findSome? g = some y := by
 obtain ⟨r, rfl⟩ := hp
 rw [List.findSome?_append, List.findSome?_append, h]; simp [hx]
@[irreducible] def bestE (l : List Half) (f : Form) : Bound × Int :=
 if checkL l = 0 then
  if slope f.X f.Y = true then
   if cornersL l = [] then (noBound, 9)
   else if f = ⟨0, 0⟩ then (⟨value f (bestAt f (cornersL l)), bestAt f (cornersL l), 1, []⟩, 0)
   else match (pairsL (allL l)).findSome? (usesB f (bestAt f (cornersL l))) with
    | some (d, u) => (⟨value f (bestAt f (cornersL l)), bestAt f (cornersL l), d, u⟩, 0)
    | none => (⟨value f (bestAt f (cornersL l)), bestAt f (cornersL l), 1, []⟩, 0)
  else (noBound, 1)
 else (noBound, checkL l)
theorem zeG {s : St} {ob : Nat -> Option Ob} : ∀ cs : List AV, avles s ob cs cs
 | [] => trivial
 | c :: cs => ⟨zas s ob c, zeG cs⟩
theorem obXh {s : St} {ob : Nat -> Option Ob} {cs : List AV} {o : Option Ob} (h : o = some (.box cs)) : Oble s ob o (.box cs) := by subst h; exact zeG cs
theorem ob7 {s : St} {ob : Nat -> Option Ob} {a b c d e f : AV} {i e' k n : Nat} {g : Nat -> Nat -> D} {y : D} {o : Option Ob} (h : o = some (.box [a, b, c, d, e, f, .own i])) (h1 : s.ob i = some (.row e' k n g)) (h2 : ob i = none) (q : D.eqv (.slc k n g) y) : Oble s ob o (.box [a, b, c, d, e, f, .d y]) := by
 subst h
 exact ⟨zas _ _ _, zas _ _ _, zas _ _ _, zas _ _ _, zas _ _ _, zas _ _ _, ⟨h2, _, _, _, _, h1, q⟩, trivial⟩
theorem eqvB {a b c d e f : Int} {x y : D} (h : D.eqv x y) : eqvs [I a, I b, I c, I d, I e, I f, x] [I a, I b, I c, I d, I e, I f, y] := ⟨dE _, dE _, dE _, dE _, dE _, dE _, h, trivial⟩
theorem zkH {a b c d e f : Int} {g' : Nat -> Nat -> D} : eqvs [I a, I b, I c, I d, I e, I f, .nil] [I a, I b, I c, I d, I e, I f, .slc 2 ([] : List Use).length g'] := ⟨dE _, dE _, dE _, dE _, dE _, dE _, rfl, trivial⟩
theorem zp5 {a b c d : Int} : ∀ m, m < [(⟨a, b⟩ : Use), ⟨c, d⟩].length -> ∀ j, j < 2 -> rowOf 2 [I a, I b, I c, I d] m j = rowU [⟨a, b⟩, ⟨c, d⟩] m j := fun m hm j hj => by
 match m, j, hm, hj with
 | 0, 0, _, _ => rfl
 | 0, 1, _, _ => rfl
 | 1, 0, _, _ => rfl
 | 1, 1, _, _ => rfl
theorem zdR {l : List Half} (hl : ∀ x ∈ l, okH x) : ∀ q ∈ cornersL l, valid q = true := fun q hq => by
 unfold cornersL at hq
 have sub : ∀ {m : List Corner} {q : Corner}, q ∈ hullL m -> q ∈ m := fun {m q} h => by
  unfold hullL at h
  have hh : ∀ {m : List Corner} {q : Corner}, q ∈ halfL m -> q ∈ m := fun {m q} h => by
   unfold halfL at h
   have := (zb1 m m.length (Nat.le_refl _)).1 q
   rw [List.take_length] at this
   exact this (List.mem_of_mem_tail (List.mem_reverse.1 h))
  split at h
  ·exact h
  ·rcases List.mem_append.1 h with h | h
   ·exact hh h
   ·exact List.mem_reverse.1 (hh h)
 have h2 := zdT (sub hq)
 unfold sortedL at h2
 obtain ⟨p, _, rfl⟩ := List.mem_map.1 h2
 exact p.2
theorem zf9 {l : List Half} (hn : l.length <= 60) : (cornersL l).length <= 8192 := by
 have hl := zdh l
 have h1 : (sortedL l).length <= 4096 := by
  unfold sortedL
  rw [List.length_map, zcl]
  exact Nat.le_trans (ze2 l _) (Nat.le_trans (zeq _) (Nat.mul_le_mul (show (allL l).length <= 64 by omega) (show (allL l).length <= 64 by omega)))
 have h2 := zgb (sortedL l)
 have h3 := zcv (compL (sortedL l))
 have h4 := zcv (compL (sortedL l)).reverse
 rw [List.length_reverse] at h4
 unfold cornersL hullL
 split
 ·omega
 ·rw [List.length_append]; omega
theorem zp3 (l : List Half) (f : Form) : Spec PP 54 [slH l, f.v] [(bestE l f).1.v, N (bestE l f).2] := by
 refine sA Tryz.func54 ?_
 refine cP (zof l) rfl rfl ?_
 apply bY <;> intro h0
 ·have h0 : checkL l ≠ 0 := by simpa using h0
  have e : bestE l f = (noBound, checkL l) := by unfold bestE; rw [if_neg h0]
  rw [e]
  exact r2CI rfl rfl rfl rfl rfl rfl rfl (zkH) rfl
 have h0 : checkL l = 0 := by simpa using h0
 obtain ⟨n1, n2, n3⟩ := zaO h0
 refine cP (zjx f.X f.Y) rfl rfl ?_
 apply bY <;> intro hs
 ·have hs : ¬ slope f.X f.Y = true := by simpa using hs
  have e : bestE l f = (noBound, 1) := by unfold bestE; rw [if_pos h0, if_neg hs]
  rw [e]
  exact r2CI rfl rfl rfl rfl rfl rfl rfl (zkH) rfl
 have hs : slope f.X f.Y = true := by simpa using hs
 have of := zfL hs
 refine CallSt.ro (zjB l n3 (by omega)) rfl rfl ?_
 apply bY <;> intro hc
 ·have hc : cornersL l = [] := by
   have : (cornersL l).length = 0 := by simpa using hc
   exact List.length_eq_zero_iff.1 this
  have e : bestE l f = (noBound, 9) := by unfold bestE; rw [if_pos h0, if_pos hs, if_pos hc]
  rw [e]
  exact r2CI rfl rfl rfl rfl rfl rfl rfl (zkH) rfl
 have hc : cornersL l ≠ [] := fun hh => by rw [hh] at hc; cases hc
 have hpos : 0 < (cornersL l).length := List.length_pos_iff.2 hc
 have hcl := zf9 (l := l) (by omega)
 have hcv := zdR n3
 have hat : ∀ i, i <= (cornersL l).length -> okC (bestTo f (cornersL l) i) := fun i hi => zaK (hcv _ (zb7 f _ hpos i hi))
 refine ⟨⟨rfl, by omega, by omega⟩, ?_⟩
 refine LoopOb.of (σ := Nat) (fun i => ([(0, avOf (slH l)), (3, .box 3 0), (4, .box 4 0), (7, avOf (slC (cornersL l))), (8, .box 8 0), (39, avOf (slC (cornersL l))), (40, .d (I (cornersL l).length)), (41, .d (I i))], [(3, .box [.d (I f.X), .d (I f.Y)]), (4, .box [.d (I 0), .d (I 0), .d (I 0), .d (I 0), .d (I 0), .d (I 0), .nilsl]), (8, .box [.d (I (bestTo f (cornersL l) i).X), .d (I (bestTo f (cornersL l) i).Y), .d (I (bestTo f (cornersL l) i).Den)])])) (fun i => i <= (cornersL l).length) (fun i => (cornersL l).length - i) 0
  ⟨rfl, ⟨obXh rfl, obXh rfl, ?_, trivial⟩, wq rfl⟩ (Nat.zero_le _) fun i hi => ?_
 ·rw [zce]; exact obXh rfl
 apply bY <;> intro h1
 ·have h1 : i < (cornersL l).length := by simpa using h1
  refine ⟨⟨rfl, by omega, by omega⟩, ?_⟩
  refine oL (List.range 8) (FzOb.no ?_)
  refine oP (zgt f (bestTo f (cornersL l) i) of (hat i hi)) rfl rfl ?_
  refine oP (zgt f ((cornersL l).getD i default) of (zaK (hcv _ (gd1 h1 default)))) rfl rfl ?_
  refine oP (zp2 _ _) rfl rfl ?_
  apply bY <;> intro h2
  ·have e : bestTo f (cornersL l) (i + 1) = (cornersL l).getD i default := by rw [zbA f _ h1]; unfold stepB; rw [if_pos (dT h2)]
   refine ⟨i6, ?_⟩
   refine ⟨i + 1, ⟨rfl, ⟨obXh rfl, obXh rfl, ?_, trivial⟩, wq rfl⟩, h1, ?_⟩
   ·rw [e]; exact obXh rfl
   ·show (cornersL l).length - (i + 1) < (cornersL l).length - i
    omega
  ·have e : bestTo f (cornersL l) (i + 1) = bestTo f (cornersL l) i := by rw [zbA f _ h1]; unfold stepB; rw [if_neg (dF h2)]
   refine ⟨i6, ?_⟩
   refine ⟨i + 1, ⟨rfl, ⟨obXh rfl, obXh rfl, ?_, trivial⟩, wq rfl⟩, h1, ?_⟩
   ·rw [e]; exact obXh rfl
   ·show (cornersL l).length - (i + 1) < (cornersL l).length - i
    omega
 have h1 : i = (cornersL l).length := by
  have : ¬ i < (cornersL l).length := by simpa using h1
  omega
 have eat : bestTo f (cornersL l) i = (bestAt f (cornersL l)) := by rw [h1]; unfold bestAt; rfl
 have oat : okC (bestAt f (cornersL l)) := by rw [<- eat]; exact hat i hi
 rw [eat]
 refine oL (List.range 7) (FzOb.no ?_)
 refine oP (zgt f (bestAt f (cornersL l)) of oat) rfl rfl ?_
 apply bY <;> intro hz
 ·have hz : f = ⟨0, 0⟩ := by
   simp only [Bool.and_eq_true, beq_iff_eq, and_true] at hz
   cases f; simp_all
  have e : bestE l f = (⟨value f (bestAt f (cornersL l)), (bestAt f (cornersL l)), 1, []⟩, 0) := by unfold bestE; rw [if_pos h0, if_pos hs, if_neg hc, if_pos hz]
  rw [e]
  exact r2CI rfl rfl rfl rfl rfl rfl rfl (zkH) rfl
 have hz : f ≠ ⟨0, 0⟩ := fun hh => by subst hh; cases hz
 have hall := zcf n3
 have hlen := zdh l
 refine CallSt.ro (zp1 l (by omega)) rfl rfl ?_
 refine CallSt.ro (zjy (allL l)) rfl rfl ?_
 refine CodeOb.rangeAt (zho (allL l) hall (by omega)) rfl pairsEnc zhg (fun _ => rfl) (by decide) [(3, .box 3 0), (4, .box 4 0), (8, .box 8 0), (11, .box 11 0)] [] (fun _ => [(3, .box [.d (I f.X), .d (I f.Y)]), (4, .box [.d (I 0), .d (I 0), .d (I 0), .d (I 0), .d (I 0), .d (I 0), .nilsl]), (8, .box [.d (I (bestAt f (cornersL l)).X), .d (I (bestAt f (cornersL l)).Y), .d (I (bestAt f (cornersL l)).Den)]), (11, .box [.d (I (value f (bestAt f (cornersL l))).Num), .d (I (value f (bestAt f (cornersL l))).Den), .d (I (bestAt f (cornersL l)).X), .d (I (bestAt f (cornersL l)).Y), .d (I (bestAt f (cornersL l)).Den), .d (I (1)), .d .nil])]) rfl (fun _ => rfl) ?_ (Iv := fun pre => pre.findSome? (usesB f (bestAt f (cornersL l))) = none) rfl (fun v pre x hx hI => ?_) (fun hI => ?_)
 ·exact ⟨rfl, ⟨obXh rfl, obXh rfl, obXh rfl, obXh rfl, trivial⟩, wq rfl⟩
 ·have hxm : x ∈ pairsL (allL l) := hx.subset (by simp)
  obtain ⟨m1, m2, m3⟩ := zbk hxm
  have o1 := hall _ m1
  have o2 := hall _ m2
  have dd := zkN o1 o2
  have b1 := mulB of.x o2.b
  have b2 := mulB of.y o2.a
  have b3 := mulB of.y o1.a
  have b4 := mulB of.x o1.b
  refine cP (zjw x.1.h (bestAt f (cornersL l)) o1 oat) rfl rfl ?_
  apply bY <;> intro h3
  ·have h3 : tight x.1.h (bestAt f (cornersL l)) = false := by simpa using h3
   refine sT ?_
   refine sT ?_
   exact ⟨zep hI (zbR fun hh => by rw [hh.1.1] at h3; cases h3), rfl, ⟨obXh rfl, obXh rfl, obXh rfl, obXh rfl, trivial⟩, wq rfl⟩
  have h3 : tight x.1.h (bestAt f (cornersL l)) = true := by simpa using h3
  refine cP (zjw x.2.h (bestAt f (cornersL l)) o2 oat) rfl rfl ?_
  refine sF ?_
  apply bY <;> intro h4
  ·have h4 : tight x.2.h (bestAt f (cornersL l)) = false := by simpa using h4
   exact ⟨zep hI (zbR fun hh => by rw [hh.1.2] at h4; cases h4), rfl, ⟨obXh rfl, obXh rfl, obXh rfl, obXh rfl, trivial⟩, wq rfl⟩
  have h4 : tight x.2.h (bestAt f (cornersL l)) = true := by simpa using h4
  refine cP (zoe x.1.h x.2.h o1 o2) rfl rfl ?_
  refine oL (List.range 28) (FzOb.no ?_)
  refine ⟨i6, ⟨i6, ⟨i6, ⟨i6, ⟨i6, ⟨i6, ?_⟩⟩⟩⟩⟩⟩
  apply bY <;> intro h5
  ·have h5 : det x.1.h x.2.h < 0 := dT h5
   refine ⟨i6, ⟨i6, ⟨i6, ?_⟩⟩⟩
   have ed : flip (det x.1.h x.2.h) (det x.1.h x.2.h) = -det x.1.h x.2.h := zff h5
   have es : flip (det x.1.h x.2.h) (f.X * x.2.h.B - f.Y * x.2.h.A) = -(f.X * x.2.h.B - f.Y * x.2.h.A) := zff h5
   have et : flip (det x.1.h x.2.h) (f.Y * x.1.h.A - f.X * x.1.h.B) = -(f.Y * x.1.h.A - f.X * x.1.h.B) := zff h5
   apply bY <;> intro h6
   ·refine sT ?_
    apply bY <;> intro h7
    ·refine CallSt.tk rfl (SpecT.congrh (znf [⟨x.1.n, -(f.X * x.2.h.B - f.Y * x.2.h.A)⟩, ⟨x.2.n, -(f.Y * x.1.h.A - f.X * x.1.h.B)⟩] (Nat.le_of_ble_eq_true rfl)) zp5) ⟨⟨[], .tmp 135, [], [], rfl, rfl, rfl, rfl, rfl, rfl, rfl⟩⟩ rfl ?_
     have hf := zjP hx hI (zfu h3 h4 ed es et (dT h6) (dT h7))
     refine ⟨[(3, .box [.d (I f.X), .d (I f.Y)]), (4, .box [.d (I 0), .d (I 0), .d (I 0), .d (I 0), .d (I 0), .d (I 0), .nilsl]), (8, .box [.d (I (bestAt f (cornersL l)).X), .d (I (bestAt f (cornersL l)).Y), .d (I (bestAt f (cornersL l)).Den)]), (11, .box [.d (I (value f (bestAt f (cornersL l))).Num), .d (I (value f (bestAt f (cornersL l))).Den), .d (I (bestAt f (cornersL l)).X), .d (I (bestAt f (cornersL l)).Y), .d (I (bestAt f (cornersL l)).Den), .d (I (-det x.1.h x.2.h)), .d (.slc 2 (usedL [⟨x.1.n, -(f.X * x.2.h.B - f.Y * x.2.h.A)⟩, ⟨x.2.n, -(f.Y * x.1.h.A - f.X * x.1.h.B)⟩]).length (rowU (usedL [⟨x.1.n, -(f.X * x.2.h.B - f.Y * x.2.h.A)⟩, ⟨x.2.n, -(f.Y * x.1.h.A - f.X * x.1.h.B)⟩])))])], rfl, ⟨rfl, ⟨obXh rfl, obXh rfl, obXh rfl, ?_, trivial⟩, wq rfl⟩, ?_⟩
     ·exact ob7 rfl rfl rfl (dE _)
     ·have e : bestE l f = (⟨value f (bestAt f (cornersL l)), (bestAt f (cornersL l)), -det x.1.h x.2.h, usedL [⟨x.1.n, -(f.X * x.2.h.B - f.Y * x.2.h.A)⟩, ⟨x.2.n, -(f.Y * x.1.h.A - f.X * x.1.h.B)⟩]⟩, 0) := by unfold bestE; rw [if_pos h0, if_pos hs, if_neg hc, if_neg hz, hf]
      rw [e]
      exact r2CI rfl rfl rfl rfl rfl rfl rfl (eqvB (dE _)) rfl
    ·exact ⟨zep hI (zbR fun hh => dF h7 (by rw [<- et]; exact hh.2.2)), rfl, ⟨obXh rfl, obXh rfl, obXh rfl, obXh rfl, trivial⟩, wq rfl⟩
   ·refine sF ?_
    refine sF ?_
    exact ⟨zep hI (zbR fun hh => dF h6 (by rw [<- es]; exact hh.2.1)), rfl, ⟨obXh rfl, obXh rfl, obXh rfl, obXh rfl, trivial⟩, wq rfl⟩
  ·have h5 : ¬ det x.1.h x.2.h < 0 := dF h5
   have ed : flip (det x.1.h x.2.h) (det x.1.h x.2.h) = det x.1.h x.2.h := zfe h5
   have es : flip (det x.1.h x.2.h) (f.X * x.2.h.B - f.Y * x.2.h.A) = (f.X * x.2.h.B - f.Y * x.2.h.A) := zfe h5
   have et : flip (det x.1.h x.2.h) (f.Y * x.1.h.A - f.X * x.1.h.B) = (f.Y * x.1.h.A - f.X * x.1.h.B) := zfe h5
   apply bY <;> intro h6
   ·refine sT ?_
    apply bY <;> intro h7
    ·refine CallSt.tk rfl (SpecT.congrh (znf [⟨x.1.n, (f.X * x.2.h.B - f.Y * x.2.h.A)⟩, ⟨x.2.n, (f.Y * x.1.h.A - f.X * x.1.h.B)⟩] (Nat.le_of_ble_eq_true rfl)) zp5) ⟨⟨[], .tmp 135, [], [], rfl, rfl, rfl, rfl, rfl, rfl, rfl⟩⟩ rfl ?_
     have hf := zjP hx hI (zfu h3 h4 ed es et (dT h6) (dT h7))
     refine ⟨[(3, .box [.d (I f.X), .d (I f.Y)]), (4, .box [.d (I 0), .d (I 0), .d (I 0), .d (I 0), .d (I 0), .d (I 0), .nilsl]), (8, .box [.d (I (bestAt f (cornersL l)).X), .d (I (bestAt f (cornersL l)).Y), .d (I (bestAt f (cornersL l)).Den)]), (11, .box [.d (I (value f (bestAt f (cornersL l))).Num), .d (I (value f (bestAt f (cornersL l))).Den), .d (I (bestAt f (cornersL l)).X), .d (I (bestAt f (cornersL l)).Y), .d (I (bestAt f (cornersL l)).Den), .d (I (det x.1.h x.2.h)), .d (.slc 2 (usedL [⟨x.1.n, (f.X * x.2.h.B - f.Y * x.2.h.A)⟩, ⟨x.2.n, (f.Y * x.1.h.A - f.X * x.1.h.B)⟩]).length (rowU (usedL [⟨x.1.n, (f.X * x.2.h.B - f.Y * x.2.h.A)⟩, ⟨x.2.n, (f.Y * x.1.h.A - f.X * x.1.h.B)⟩])))])], rfl, ⟨rfl, ⟨obXh rfl, obXh rfl, obXh rfl, ?_, trivial⟩, wq rfl⟩, ?_⟩
     ·exact ob7 rfl rfl rfl (dE _)
     ·have e : bestE l f = (⟨value f (bestAt f (cornersL l)), (bestAt f (cornersL l)), det x.1.h x.2.h, usedL [⟨x.1.n, (f.X * x.2.h.B - f.Y * x.2.h.A)⟩, ⟨x.2.n, (f.Y * x.1.h.A - f.X * x.1.h.B)⟩]⟩, 0) := by unfold bestE; rw [if_pos h0, if_pos hs, if_neg hc, if_neg hz, hf]
      rw [e]
      exact r2CI rfl rfl rfl rfl rfl rfl rfl (eqvB (dE _)) rfl
    ·exact ⟨zep hI (zbR fun hh => dF h7 (by rw [<- et]; exact hh.2.2)), rfl, ⟨obXh rfl, obXh rfl, obXh rfl, obXh rfl, trivial⟩, wq rfl⟩
   ·refine sF ?_
    refine sF ?_
    exact ⟨zep hI (zbR fun hh => dF h6 (by rw [<- es]; exact hh.2.1)), rfl, ⟨obXh rfl, obXh rfl, obXh rfl, obXh rfl, trivial⟩, wq rfl⟩
 ·have e : bestE l f = (⟨value f (bestAt f (cornersL l)), (bestAt f (cornersL l)), 1, []⟩, 0) := by unfold bestE; rw [if_pos h0, if_pos hs, if_neg hc, if_neg hz, hI]
  rw [e]
  exact r2CI rfl rfl rfl rfl rfl rfl rfl (zkH) rfl
@[irreducible] def upTo (n : Nat) : List Int := (List.range n).map fun i : Nat => (i : Int)
theorem zlr (n : Nat) : (upTo n).length = n := by unfold upTo; simp
theorem zlq {n : Nat} {x : Int} (h : x ∈ upTo n) : 0 <= x /\ x < n := by
 unfold upTo at h
 obtain ⟨i, hi, rfl⟩ := List.mem_map.1 h
 have := List.mem_range.1 hi
 omega
@[irreducible] def rmLh (l : List Int) (i : Nat) : List Int := l.take i ++ l.drop (i + 1)
@[irreducible] def pickL (l : List Half) (js : List Int) : List Half := js.map fun j => l.getD j.toNat default
theorem zjT (l : List Half) (js : List Int) : (pickL l js).length = js.length := by unfold pickL; simp
theorem zjS {l : List Half} {js : List Int} (hj : ∀ j ∈ js, 0 <= j /\ j < l.length) : ∀ x ∈ pickL l js, x ∈ l := fun x hx => by
 unfold pickL at hx
 obtain ⟨j, hjm, rfl⟩ := List.mem_map.1 hx
 have := hj j hjm
 exact gd1 (by omega) default
abbrev rowH (l : List Half) : Nat -> Nat -> D := fun i => (l.getD i default).at
end Go.Pg
namespace Go.Pg
open Go.Proofs Go.RowKit Go.Sort
theorem on_bd {p : Place} (h : on p = true) : (0 <= p.X /\ p.X <= 48) /\ (0 <= p.Y /\ p.Y <= 48) := by
 unfold on at h
 simp only [Bool.and_eq_true, zab] at h
 exact h
theorem zp8 {α : Type} [Inhabited α] {k : Nat} {f : α -> Nat -> D} {vs : List α} {a b : α} {g : Nat -> Nat -> D} (h0 : ∀ j, j < k -> D.eqv (g 0 j) (f a j)) (h1 : ∀ j, j < k -> D.eqv (g 1 j) (f b j)) :
  D.eqv (.slc k (vs.length + 2) (appRow vs.length (fun i => f (vs.getD i default)) g)) (.slc k (vs ++ [a, b]).length fun i => f ((vs ++ [a, b]).getD i default)) := by
 refine ⟨by simp, .inr ⟨rfl, fun i hi j hj => ?_⟩⟩
 show D.eqv (appRow vs.length (fun i => f (vs.getD i default)) g i j) (f ((vs ++ [a, b]).getD i default) j)
 unfold appRow
 by_cases h : i < vs.length
 ·rw [if_pos h, gdq (l := vs ++ [a, b]), List.getElem?_append_left h, <- gdq]
  exact dE _
 ·rw [if_neg h, gdq (l := vs ++ [a, b]), List.getElem?_append_right (by omega)]
  have e : i - vs.length = 0 \/ i - vs.length = 1 := by omega
  rcases e with e | e
  ·rw [e]; exact h0 j hj
  ·rw [e]; exact h1 j hj
def isSg (r : Rpt) : Bool := r.Kind == 1
def hvO (s : Svc) (r : Rpt) : Half × Half := halvesW (wdgR s.k (rdgO r)).1 (towG s.c.T r.Tower).1.At
def hvL (s : Svc) (l : List Rpt) : List Half := (l.filter isSg).flatMap fun r => [(hvO s r).1, (hvO s r).2]
def hvI (l : List Rpt) : List Int := (l.filter isSg).flatMap fun r => [r.ID, r.ID]
theorem zoQ {s : Svc} {l : List Rpt} {k : Nat} (h : k < l.length) (h1 : isSg (l.getD k default) = true) : hvL s (l.take (k + 1)) = hvL s (l.take k) ++ [(hvO s (l.getD k default)).1, (hvO s (l.getD k default)).2] := by
 unfold hvL
 rw [zaD h default, List.filter_append, List.flatMap_append, List.filter_cons_of_pos (p := isSg) h1]; rfl
theorem zqu {s : Svc} {l : List Rpt} {k : Nat} (h : k < l.length) (h1 : isSg (l.getD k default) = false) : hvL s (l.take (k + 1)) = hvL s (l.take k) := by
 unfold hvL
 rw [zaD h default, List.filter_append, List.flatMap_append, List.filter_cons_of_neg (p := isSg) (by rw [h1]; decide)]; simp
theorem zoR {l : List Rpt} {k : Nat} (h : k < l.length) (h1 : isSg (l.getD k default) = true) : hvI (l.take (k + 1)) = hvI (l.take k) ++ [(l.getD k default).ID, (l.getD k default).ID] := by
 unfold hvI
 rw [zaD h default, List.filter_append, List.flatMap_append, List.filter_cons_of_pos (p := isSg) h1]; rfl
theorem zqv {l : List Rpt} {k : Nat} (h : k < l.length) (h1 : isSg (l.getD k default) = false) : hvI (l.take (k + 1)) = hvI (l.take k) := by
 unfold hvI
 rw [zaD h default, List.filter_append, List.flatMap_append, List.filter_cons_of_neg (p := isSg) (by rw [h1]; decide)]; simp
theorem zoY {α β : Type} (f g : α -> β) : ∀ l : List α, (l.flatMap fun r => [f r, g r]).length = 2 * l.length
 | [] => rfl
 | x :: r => by rw [List.flatMap_cons, List.length_append, zoY f g r, List.length_cons, List.length_cons, List.length_cons, List.length_nil]; omega
theorem zgO (s : Svc) (l : List Rpt) : (hvL s l).length <= 2 * l.length := by
 unfold hvL
 rw [zoY]
 have := List.length_filter_le isSg l
 omega
theorem zoS (l : List Rpt) : (hvI l).length <= 2 * l.length := by
 unfold hvI
 rw [zoY]
 have := List.length_filter_le isSg l
 omega
def hvsR (s : Svc) (b : Brn) (l : List Rpt) : (List Half × List Int) × Int :=
 if givE s b l ≠ 0 then (([], []), givE s b l) else if 40 < (hvL s l).length then (([], []), 2) else ((hvL s l, hvI l), 0)
theorem zmo (s : Svc) (b : Brn) (l : List Rpt) : Spec PP 15 [s.v, b.v, .d (lR l)] [slH (hvsR s b l).1.1, .d (lI (hvsR s b l).1.2), .d (.int .i64 (hvsR s b l).2)] := by
 refine sA Tryz.func15 ?_
 refine cP (zki s b l) rfl rfl ?_
 apply bY <;> intro h0
 ·have h0 : givE s b l ≠ 0 := by simpa using h0
  have e : hvsR s b l = (([], []), givE s b l) := by unfold hvsR; rw [if_pos h0]
  rw [e]
  exact ⟨⟨_, _, _, _, rfl, rfl, .inl rfl⟩, ⟨_, _, _, _, rfl, rfl, .inl rfl⟩, rtI rfl rfl, trivial⟩
 have h0 : givE s b l = 0 := by simpa using h0
 have ok := zcz h0
 have hn := ok.n
 refine LoopOb.of (σ := Nat) (fun k => ([(2, .d (lR l)), (3, .box 3 0), (10, .own 10), (11, .own 11), (27, .d (lR l)), (28, .d (I l.length)), (29, .d (I k))], [(3, .box (s.ds.map AV.d)), (10, .row 123 3 (hvL s (l.take k)).length (rowH (hvL s (l.take k)))), (11, .row 3 1 (hvI (l.take k)).length (fun i _ => I ((hvI (l.take k)).getD i 0)))])) (fun k => k <= l.length) (fun k => l.length - k) 0
  ⟨rfl, ⟨obD s.ds rfl, obR rfl ⟨rfl, .inl rfl⟩, obR rfl ⟨rfl, .inl rfl⟩, trivial⟩, wq rfl⟩ (Nat.zero_le _) fun k hk => ?_
 have hk : k <= l.length := hk
 apply bY <;> intro h1
 ·have h1 : k < l.length := by have := dT h1; omega
  refine ⟨⟨rfl, by omega, by omega⟩, ?_⟩
  apply bY <;> intro h2
  ·have h2 : isSg (l.getD k default) = false := by
    unfold isSg
    have : (l.getD k default).Kind ≠ 1 := by simpa using h2
    simpa using this
   refine ⟨i6, ?_⟩
   refine ⟨k + 1, ⟨rfl, ⟨obD s.ds rfl, obR rfl ?_, obR rfl ?_, trivial⟩, wq rfl⟩, h1, msr h1⟩
   ·rw [zqu h1 h2]; exact dE _
   ·rw [zqv h1 h2]; exact dE _
  have hk1 : (l.getD k default).Kind = 1 := by simpa using h2
  have h2 : isSg (l.getD k default) = true := by unfold isSg; simpa using hk1
  have lt := zhN (l.getD k default)
  have e1 : tldD (l.getD k default) = .ifc 204 8 (getD' (l.getD k default).ds) := by unfold tldD; rw [if_pos hk1]
  rw [e1] at lt
  have b1 := zgO s (l.take k)
  have b2 := zoS (l.take k)
  rw [List.length_take] at b1 b2
  refine oL (List.range 10) (FzOb.no ?_)
  refine CallOb.ro lt rfl rfl ?_
  refine ⟨⟨_, _, _, _, rfl, by kernel_rfl, oP (zbu (l.getD k default) s) rfl rfl ?_⟩⟩
  refine cP (zdE s (l.getD k default).Tower (by have := ok.s.c.t; omega)) rfl rfl ?_
  refine cP (zm0 (wdgR s.k (rdgO (l.getD k default))).1 (towG s.c.T (l.getD k default).Tower).1.At) rfl rfl ?_
  refine oL [0, 1, 2, 3, 4, 5, 1007, 1008, 1009, 1010, 1011, 1012, 6, 13, 14, 15] (FzOb.no ?_)
  refine ⟨⟨by decide, by decide⟩, ⟨⟨by decide, by decide⟩, ?_⟩⟩
  refine ⟨rfl, ⟨rfl, ⟨rfl, ⟨rfl, ⟨rfl, ⟨rfl, ⟨rfl, ⟨rfl, ⟨rfl, ⟨rfl, ⟨rfl, ⟨rfl, ?_⟩⟩⟩⟩⟩⟩⟩⟩⟩⟩⟩⟩
  refine ⟨⟨.inr rfl, by unfold maxLen; omega, by show ((hvL s (l.take k)).length + 2) * 24 <= 140737488355328; omega⟩, ?_⟩
  refine ⟨⟨.inr rfl, by unfold maxLen; omega, by show ((hvI (l.take k)).length + 2) * 8 <= 140737488355328; omega⟩, ?_⟩
  refine ⟨i6, ?_⟩
  refine ⟨k + 1, ⟨rfl, ⟨obD s.ds rfl, obR rfl ?_, obR rfl ?_, trivial⟩, wq rfl⟩, h1, msr h1⟩
  ·rw [zoQ h1 h2]
   exact zp8 (f := Half.at) (fun j hj => by
    match j, hj with
    | 0, _ => exact dE _
    | 1, _ => exact dE _
    | 2, _ => exact dE _) (fun j hj => by
    match j, hj with
    | 0, _ => exact dE _
    | 1, _ => exact dE _
    | 2, _ => exact dE _)
  ·rw [zoR h1 h2]
   exact zp8 (f := fun (a : Int) _ => I a) (fun j hj => by
    match j, hj with
    | 0, _ => exact dE _) (fun j hj => by
    match j, hj with
    | 0, _ => exact dE _)
 ·have h1 : k = l.length := by have := dF h1; omega
  subst h1
  rw [List.take_length]
  have e0 : hvsR s b l = if 40 < (hvL s l).length then (([], []), 2) else ((hvL s l, hvI l), 0) := by unfold hvsR; rw [if_neg (fun h => h h0)]
  apply bY <;> intro h2
  ·have h2 : 40 < (hvL s l).length := by have := dT h2; omega
   rw [e0, if_pos h2]
   exact ⟨⟨_, _, _, _, rfl, rfl, .inl rfl⟩, ⟨_, _, _, _, rfl, rfl, .inl rfl⟩, rtI rfl rfl, trivial⟩
  ·have h2 : ¬ 40 < (hvL s l).length := by have := dF h2; omega
   rw [e0, if_neg h2]
   exact ⟨⟨_, _, _, _, rfl, dE _⟩, ⟨_, _, _, _, rfl, dE _⟩, rtI rfl rfl, trivial⟩
noncomputable def bndR (s : Svc) (b : Brn) (l : List Rpt) (f : Form) : Bound × Int := if (hvsR s b l).2 ≠ 0 then (noBound, (hvsR s b l).2) else bestE (hvsR s b l).1.1 f
theorem zoO (s : Svc) (b : Brn) (l : List Rpt) (f : Form) : Spec PP 18 [s.v, b.v, .d (lR l), f.v] [(bndR s b l f).1.v, N (bndR s b l f).2] := by
 refine sA Tryz.func18 ?_
 refine CallSt.ro (zmo s b l) rfl rfl ?_
 apply bY <;> intro h0
 ·have e : bndR s b l f = (noBound, (hvsR s b l).2) := by unfold bndR; rw [if_pos (by simpa using h0)]
  rw [e]
  exact ⟨rtC (a := 8) rfl rfl rfl rfl rfl rfl ⟨⟨rfl, rfl⟩, ⟨rfl, rfl⟩, ⟨rfl, rfl⟩, ⟨rfl, rfl⟩, ⟨rfl, rfl⟩, ⟨rfl, rfl⟩, rfl, trivial⟩, rtI rfl rfl, trivial⟩
 have h0 : (hvsR s b l).2 = 0 := by simpa using h0
 have e : bndR s b l f = bestE (hvsR s b l).1.1 f := by unfold bndR; rw [if_neg (fun h => h h0)]
 rw [e]
 refine CallSt.ro (zp3 (hvsR s b l).1.1 f) rfl rfl ?_
 exact ⟨rtC (a := 8) rfl rfl rfl rfl rfl rfl (zaa _), rtI rfl rfl, trivial⟩
end Go.Pg
namespace Go.Pg
def ef (h : Half) (p : Corner) : Int := h.A * p.X + h.B * p.Y - h.C * p.Den
def d3 (a b c : Corner) : Int := a.X * (b.Y * c.Den - b.Den * c.Y) - a.Y * (b.X * c.Den - b.Den * c.X) + a.Den * (b.X * c.Y - b.Y * c.X)
theorem plu (h : Half) (a b c d : Corner) : ef h a * d3 b c d - ef h b * d3 a c d + ef h c * d3 a b d - ef h d * d3 a b c = 0 := by
 unfold ef d3; grind
theorem zeC (a b c : Corner) : d3 b c a = d3 a b c := by unfold d3; grind
theorem zkP (a b c : Corner) : d3 b a c = -d3 a b c := by unfold d3; grind
theorem zdf (a b c : Corner) : d3 a c b = -d3 a b c := by unfold d3; grind
theorem zke (h : Half) (p : Corner) : lies h p = true ↔ ef h p <= 0 := by
 unfold lies ef
 simp only [decide_eq_true_eq]
 omega
theorem dxy (a b c : Corner) : dXh a b * dYh a c - dYh a b * dXh a c = a.Den * d3 a b c := by unfold dXh dYh d3; grind
theorem zjs {a b : Int} (ha : 0 < a) (h : 0 < a * b) : 0 < b := by
 rcases Int.lt_trichotomy b 0 with g | g | g
 ·have := Int.mul_neg_of_pos_of_neg ha g; omega
 ·subst g; simp at h
 ·exact g
theorem znj {a b : Int} (ha : 0 < a) (h : a * b < 0) : b < 0 := by
 rcases Int.lt_trichotomy b 0 with g | g | g
 ·exact g
 ·subst g; simp at h
 ·have := Int.mul_pos ha g; omega
theorem zjo {a b : Int} (ha : a < 0) (h : 0 < a * b) : b < 0 := by
 rcases Int.lt_trichotomy b 0 with g | g | g
 ·exact g
 ·subst g; simp at h
 ·have := Int.mul_neg_of_neg_of_pos ha g; omega
theorem zfA {a b : Int} (ha : a < 0) (h : a * b < 0) : 0 < b := by
 rcases Int.lt_trichotomy b 0 with g | g | g
 ·have := Int.mul_pos_of_neg_of_neg ha g; omega
 ·subst g; simp at h
 ·exact g
theorem zhi {a b c : Corner} (ha : 0 < a.Den) : turn a b c <= 0 ↔ d3 a b c <= 0 := by
 have h := dxy a b c
 unfold turn ord
 rcases Int.lt_trichotomy (d3 a b c) 0 with g | g | g
 ·have := Int.mul_neg_of_pos_of_neg ha g
  rw [if_pos (by omega)]; omega
 ·rw [g] at h
  rw [if_neg (by omega), if_neg (by omega)]; omega
 ·have := Int.mul_pos ha g
  rw [if_neg (by omega), if_pos (by omega)]; omega
section
variable {φ θ : Half} {p q r s : Corner}
theorem four1 (f0 : ef φ q = 0) (fp : ef φ p < 0) (fr : ef φ r < 0) (fs : ef φ s < 0) (t0 : ef θ q = 0) (tp : ef θ p < 0) (tr : 0 < ef θ r) (ts : 0 < ef θ s) : ¬ (0 < d3 p q r /\ d3 p q s < 0) := by
 rintro ⟨h1, h2⟩
 have e1 := plu φ p q r s
 have e2 := plu θ p q r s
 rw [f0, Int.zero_mul] at e1
 rw [t0, Int.zero_mul] at e2
 have a1 := Int.mul_pos_of_neg_of_neg fr h2
 have a2 := Int.mul_neg_of_neg_of_pos fs h1
 have a3 := Int.mul_neg_of_pos_of_neg tr h2
 have a4 := Int.mul_pos ts h1
 have c1 := zfA fp (b := d3 q r s) (by omega)
 have c2 := zjo tp (b := d3 q r s) (by omega)
 omega
theorem four2 (f0 : ef φ q = 0) (fp : ef φ p < 0) (fr : ef φ r < 0) (fs : ef φ s < 0) (t0 : ef θ q = 0) (tp : ef θ p < 0) (tr : 0 < ef θ r) (ts : 0 < ef θ s) : ¬ (d3 p q r < 0 /\ 0 < d3 p q s) := by
 rintro ⟨h1, h2⟩
 have e1 := plu φ p q r s
 have e2 := plu θ p q r s
 rw [f0, Int.zero_mul] at e1
 rw [t0, Int.zero_mul] at e2
 have a1 := Int.mul_neg_of_neg_of_pos fr h2
 have a2 := Int.mul_pos_of_neg_of_neg fs h1
 have a3 := Int.mul_pos tr h2
 have a4 := Int.mul_neg_of_pos_of_neg ts h1
 have c1 := zjo fp (b := d3 q r s) (by omega)
 have c2 := zfA tp (b := d3 q r s) (by omega)
 omega
theorem four3 (f0 : ef φ r = 0) (fp : ef φ p < 0) (fq : ef φ q < 0) (fs : ef φ s < 0) (h1 : 0 < d3 p q r) (h2 : 0 < d3 p r s) : 0 < d3 q r s := by
 have e1 := plu φ p q r s
 rw [f0, Int.zero_mul] at e1
 have a1 := Int.mul_neg_of_neg_of_pos fq h2
 have a2 := Int.mul_neg_of_neg_of_pos fs h1
 exact zfA fp (by omega)
theorem four4 (t0 : ef θ r = 0) (tp : ef θ p < 0) (tq : ef θ q < 0) (ts : 0 < ef θ s) (h1 : 0 < d3 p q r) (h2 : 0 < d3 q r s) : 0 < d3 p r s := by
 have e1 := plu θ p q r s
 rw [t0, Int.zero_mul] at e1
 have a1 := Int.mul_neg_of_neg_of_pos tp h2
 have a2 := Int.mul_pos ts h1
 exact zfA tq (by omega)
end
def Bef (th : Corner -> Half) (p q : Corner) : Prop := ef (th q) p < 0 /\ 0 < ef (th p) q
structure Conv (th : Corner -> Half) (S : List Corner) : Prop where
  out : ∀ q ∈ S, ∃ φ : Half, ef φ q = 0 /\ ∀ p ∈ S, p ≠ q -> ef φ p < 0
  th0 : ∀ q ∈ S, ef (th q) q = 0
  ord : S.Pairwise (Bef th)
  non : ∀ p ∈ S, ∀ q ∈ S, ∀ r ∈ S, p ≠ q -> p ≠ r -> q ≠ r -> d3 p q r ≠ 0
  den : ∀ q ∈ S, 0 < q.Den
section
variable {th : Corner -> Half} {S : List Corner} (C : Conv th S)
include C
theorem Conv.ne {p q : Corner} (hp : p ∈ S) (h : Bef th p q) : p ≠ q := fun e => by
 subst e
 have := C.th0 p hp
 have := h.1
 omega
theorem Conv.low_iff {p q r s : Corner} (hp : p ∈ S) (hq : q ∈ S) (hr : r ∈ S) (hs : s ∈ S) (h1 : Bef th p q) (h2 : Bef th q r) (h3 : Bef th q s) (h4 : Bef th p r) (h5 : Bef th p s) : 0 < d3 p q r ↔ 0 < d3 p q s := by
 obtain ⟨φ, f0, ff⟩ := C.out q hq
 have fp := ff p hp (C.ne hp h1)
 have fr := ff r hr (C.ne hq h2).symm
 have fs := ff s hs (C.ne hq h3).symm
 have n1 := C.non p hp q hq r hr (C.ne hp h1) (C.ne hp h4) (C.ne hq h2)
 have n2 := C.non p hp q hq s hs (C.ne hp h1) (C.ne hp h5) (C.ne hq h3)
 have c1 := four1 f0 fp fr fs (C.th0 q hq) h1.1 h2.2 h3.2
 have c2 := four2 f0 fp fr fs (C.th0 q hq) h1.1 h2.2 h3.2
 omega
theorem Conv.turn_low {p0 m a b y : Corner} (h0 : p0 ∈ S) (hm : m ∈ S) (ha : a ∈ S) (hb : b ∈ S) (hy : y ∈ S) (b1 : Bef th p0 b) (b2 : Bef th b y) (b3 : Bef th p0 y) (b4 : y = m \/ Bef th y m) (b5 : Bef th b m) (b6 : Bef th p0 m)
  (hA : a = p0 \/ (Bef th p0 a /\ Bef th a b /\ Bef th a y /\ Bef th a m /\ 0 < d3 p0 a m)) : 0 < d3 a b y ↔ 0 < d3 p0 b m := by
 have e : 0 < d3 p0 b y ↔ 0 < d3 p0 b m := by
  rcases b4 with rfl | b4
  ·exact Iff.rfl
  ·exact C.low_iff h0 hb hy hm b1 b2 b5 b3 b6
 rcases hA with rfl | ⟨a1, a2, a3, a4, a5⟩
 ·exact e
 rw [<- e]
 have g : 0 < d3 p0 a b := (C.low_iff h0 ha hb hm a1 a2 a4 b1 b6).2 a5
 constructor
 ·intro h
  exact four4 (C.th0 b hb) b1.1 a2.1 b2.2 g h
 ·intro h
  obtain ⟨φ, f0, ff⟩ := C.out b hb
  exact four3 f0 (ff p0 h0 (C.ne h0 b1)) (ff a ha (C.ne ha a2)) (ff y hy (C.ne hb b2).symm) g h
end
def low (p0 m q : Corner) : Bool := decide (0 < d3 p0 q m)
theorem zhx (p b a : Corner) (r : List Corner) : popR p (b :: a :: r) = if turn a b p <= 0 then popR p (a :: r) else b :: a :: r := rfl
section
variable {th : Corner -> Half} {S : List Corner} (C : Conv th S) {p0 m : Corner} (h0 : p0 ∈ S) (hm : m ∈ S) (hpm : Bef th p0 m)
include C h0 hm hpm
theorem Conv.pop_low {F : List Corner} {y : Corner} (hy : y ∈ S) (hym : y = m \/ Bef th y m) (hF : (p0 :: (F ++ [y])).Pairwise (Bef th)) (hFS : ∀ q ∈ F, q ∈ S /\ Bef th q m /\ low p0 m q = true) : popR y (F.reverse ++ [p0]) = F.reverse ++ [p0] := by
 rw [List.pairwise_cons] at hF
 obtain ⟨g1, g2⟩ := hF
 rcases List.eq_nil_or_concat F with rfl | ⟨F', b, rfl⟩
 ·rfl
 ·rw [List.concat_eq_append] at *
  have gb := hFS b (by simp)
  rw [List.append_assoc, List.pairwise_append] at g2
  obtain ⟨g3, g4, g5⟩ := g2
  have gby : Bef th b y := by
   have := (List.pairwise_cons.1 g4).1 y (by simp)
   exact this
  obtain ⟨a, r, hr, hA⟩ : ∃ a r, F'.reverse ++ [p0] = a :: r /\ (a = p0 \/ (a ∈ F')) := by
   rcases List.eq_nil_or_concat F' with rfl | ⟨F2, a, rfl⟩
   ·exact ⟨p0, [], rfl, .inl rfl⟩
   ·exact ⟨a, F2.reverse ++ [p0], by simp, .inr (by simp)⟩
  have hyB : Bef th p0 y := g1 y (by simp)
  have haS : a ∈ S := by
   rcases hA with rfl | hA
   ·exact h0
   ·exact (hFS a (by simp [hA])).1
  have key := C.turn_low (a := a) (b := b) (y := y) h0 hm haS gb.1 hy (g1 b (by simp)) gby hyB hym gb.2.1 hpm (by
   rcases hA with rfl | hA
   ·exact .inl rfl
   ·have ga := hFS a (by simp [hA])
    exact .inr ⟨g1 a (by simp [hA]), g5 a hA b (by simp), g5 a hA y (by simp), ga.2.1, by have := ga.2.2; unfold low at this; simpa using this⟩)
  have hl : 0 < d3 p0 b m := by have := gb.2.2; unfold low at this; simpa using this
  have ht := key.2 hl
  rw [List.reverse_append, List.reverse_singleton, List.append_assoc, hr, List.singleton_append, zhx, if_neg]
  rw [zhi (C.den a haS)]
  omega
theorem Conv.pop_top {F : List Corner} {x y : Corner} (hx : x ∈ S) (hxm : Bef th x m) (hy : y ∈ S) (hym : y = m \/ Bef th y m) (hF : (p0 :: (F ++ [x, y])).Pairwise (Bef th)) (hFS : ∀ q ∈ F, q ∈ S /\ Bef th q m /\ low p0 m q = true) :
  popR y (x :: (F.reverse ++ [p0])) = (F ++ [x].filter (low p0 m)).reverse ++ [p0] := by
 by_cases hl : low p0 m x = true
 ·have e : [x].filter (low p0 m) = [x] := by simp [hl]
  rw [e]
  have := C.pop_low (F := F ++ [x]) h0 hm hpm hy hym (by simpa using hF) (fun q hq => by
   rcases List.mem_append.1 hq with hq | hq
   ·exact hFS q hq
   ·obtain rfl : q = x := by simpa using hq
    exact ⟨hx, hxm, hl⟩)
  rw [List.reverse_append, List.reverse_singleton] at this
  simpa using this
 ·have e : [x].filter (low p0 m) = [] := by simp [hl]
  rw [e, List.append_nil]
  have g := hF
  rw [List.pairwise_cons] at g
  obtain ⟨g1, g2⟩ := g
  rw [List.pairwise_append] at g2
  obtain ⟨g3, g4, g5⟩ := g2
  have gxy : Bef th x y := (List.pairwise_cons.1 g4).1 y (by simp)
  obtain ⟨a, r, hr, hA⟩ : ∃ a r, F.reverse ++ [p0] = a :: r /\ (a = p0 \/ (a ∈ F)) := by
   rcases List.eq_nil_or_concat F with rfl | ⟨F2, a, rfl⟩
   ·exact ⟨p0, [], rfl, .inl rfl⟩
   ·exact ⟨a, F2.reverse ++ [p0], by simp, .inr (by simp)⟩
  have haS : a ∈ S := by
   rcases hA with rfl | hA
   ·exact h0
   ·exact (hFS a hA).1
  have key := C.turn_low (a := a) (b := x) (y := y) h0 hm haS hx hy (g1 x (by simp)) gxy (g1 y (by simp)) hym hxm hpm (by
   rcases hA with rfl | hA
   ·exact .inl rfl
   ·have ga := hFS a hA
    exact .inr ⟨g1 a (by simp [hA]), g5 a hA x (by simp), g5 a hA y (by simp), ga.2.1, by have := ga.2.2; unfold low at this; simpa using this⟩)
  have hnl : ¬ 0 < d3 p0 x m := fun h => hl (by unfold low; simpa using h)
  have ht : ¬ 0 < d3 a x y := fun h => hnl (key.1 h)
  have hp := C.pop_low (F := F) h0 hm hpm hy hym (by
   refine List.Pairwise.sublist ?_ hF
   refine List.Sublist.cons_cons p0 (List.Sublist.append_left ?_ F)
   exact List.sublist_cons_self x [y]) hFS
  rw [hr] at hp ⊢
  rw [zhx, if_pos, hp]
  rw [zhi (C.den a haS)]
  omega
theorem Conv.chain {post : List Corner} : ∀ {F : List Corner} {x : Corner}, (p0 :: (F ++ x :: post)).Pairwise (Bef th) -> (∀ q ∈ F, q ∈ S /\ Bef th q m /\ low p0 m q = true) -> (∀ q ∈ x :: post, q ∈ S /\ (q = m \/ Bef th q m)) ->
  post.foldl stepR (x :: (F.reverse ++ [p0])) = (x :: post).getLast (by simp) :: ((F ++ (x :: post).dropLast.filter (low p0 m)).reverse ++ [p0]) := by
 induction post with
 | nil => intro F x h1 h2 h3; simp
 | cons y post ih =>
  intro F x h1 h2 h3
  have hx := h3 x (by simp)
  have hy := h3 y (by simp)
  have g := h1
  rw [List.pairwise_cons] at g
  obtain ⟨g1, g2⟩ := g
  rw [List.pairwise_append] at g2
  obtain ⟨g3, g4, g5⟩ := g2
  have gxy : Bef th x y := (List.pairwise_cons.1 g4).1 y (by simp)
  have hxm : Bef th x m := by
   rcases hx.2 with e | e
   ·subst e
    rcases hy.2 with e | e
    ·subst e; exact gxy
    ·exfalso
     have := gxy.1
     have := e.2
     omega
   ·exact e
  rw [List.foldl_cons]
  show post.foldl stepR (y :: popR y (x :: (F.reverse ++ [p0]))) = _
  rw [C.pop_top h0 hm hpm hx.1 hxm hy.1 hy.2 (by
   refine List.Pairwise.sublist ?_ h1
   refine List.Sublist.cons_cons p0 (List.Sublist.append_left ?_ F)
   exact List.Sublist.cons_cons x (List.Sublist.cons_cons y (List.nil_sublist _))) h2]
  rw [ih (F := F ++ [x].filter (low p0 m)) (x := y) ?_ ?_ ?_]
  ·simp only [List.getLast_cons_cons, List.dropLast_cons₂]
   by_cases hl : low p0 m x = true <;> simp [hl]
  ·refine List.Pairwise.sublist ?_ h1
   refine List.Sublist.cons_cons p0 ?_
   rw [List.append_assoc]
   refine List.Sublist.append_left ?_ F
   show ([x].filter _ ++ y :: post).Sublist ([x] ++ y :: post)
   exact List.Sublist.append_right List.filter_sublist _
  ·intro q hq
   rcases List.mem_append.1 hq with hq | hq
   ·exact h2 q hq
   ·obtain ⟨hq1, hq2⟩ := List.mem_filter.1 hq
    obtain rfl : q = x := by simpa using hq1
    exact ⟨hx.1, hxm, hq2⟩
  ·exact fun q hq => h3 q (by simp at hq ⊢; right; exact hq)
end
theorem Conv.half {th : Corner -> Half} {p0 m : Corner} {mid : List Corner} (C : Conv th (p0 :: (mid ++ [m]))) : halfL (p0 :: (mid ++ [m])) = p0 :: mid.filter (low p0 m) := by
 have hs : halfL (p0 :: (mid ++ [m])) = ((p0 :: (mid ++ [m])).foldl stepR []).tail.reverse := by unfold halfL chainR; rfl
 have hall : ∀ q ∈ mid ++ [m], q ∈ p0 :: (mid ++ [m]) /\ (q = m \/ Bef th q m) := fun q hq => by
  refine ⟨List.mem_cons_of_mem _ hq, ?_⟩
  rcases List.mem_append.1 hq with h | h
  ·refine .inr ?_
   have := (List.pairwise_cons.1 C.ord).2
   exact (List.pairwise_append.1 this).2.2 q h m (by simp)
  ·exact .inl (by simpa using h)
 have hpm : Bef th p0 m := (List.pairwise_cons.1 C.ord).1 m (by simp)
 have hs2 : (p0 :: (mid ++ [m])).foldl stepR [] = (mid ++ [m]).foldl stepR [p0] := rfl
 obtain ⟨x, post, hx⟩ : ∃ x post, mid ++ [m] = x :: post := by
  cases mid with
  | nil => exact ⟨m, [], rfl⟩
  | cons x r => exact ⟨x, r ++ [m], rfl⟩
 have hs3 : (mid ++ [m]).foldl stepR [p0] = post.foldl stepR (x :: (([] : List Corner).reverse ++ [p0])) := by rw [hx]; rfl
 have hc := C.chain (p0 := p0) (m := m) (by simp) (by simp) hpm (post := post) (F := []) (x := x) (by rw [List.nil_append, <- hx]; exact C.ord) (fun q hq => by cases hq) (by rw [<- hx]; exact hall)
 rw [hs, hs2, hs3, hc]
 simp only [<- hx]
 simp
end Go.Pg
namespace Go.Pg
def negH (h : Half) : Half := ⟨-h.A, -h.B, -h.C⟩
theorem zkJ (h : Half) (p : Corner) : ef (negH h) p = -ef h p := by unfold ef negH; grind
theorem Conv.rev {th : Corner -> Half} {S : List Corner} (C : Conv th S) : Conv (fun q => negH (th q)) S.reverse where
  out q hq := by
    obtain ⟨φ, f0, ff⟩ := C.out q (List.mem_reverse.1 hq)
    exact ⟨φ, f0, fun p hp => ff p (List.mem_reverse.1 hp)⟩
  th0 q hq := by rw [zkJ, C.th0 q (List.mem_reverse.1 hq)]; rfl
  ord := by
    rw [List.pairwise_reverse]
    refine C.ord.imp fun {p q} h => ?_
    unfold Bef at *
    rw [zkJ, zkJ]
    omega
  non p hp q hq r hr := C.non p (List.mem_reverse.1 hp) q (List.mem_reverse.1 hq) r (List.mem_reverse.1 hr)
  den q hq := C.den q (List.mem_reverse.1 hq)
def roundT (p0 m : Corner) (mid : List Corner) : List Corner := mid.filter (low p0 m) ++ m :: mid.reverse.filter (low m p0)
theorem Conv.hull {th : Corner -> Half} {p0 m : Corner} {mid : List Corner} (C : Conv th (p0 :: (mid ++ [m]))) (hmid : mid ≠ []) : hullL (p0 :: (mid ++ [m])) = p0 :: roundT p0 m mid := by
 have hr : (p0 :: (mid ++ [m])).reverse = m :: (mid.reverse ++ [p0]) := by simp
 have C' := C.rev
 rw [hr] at C'
 have hl : ¬ (p0 :: (mid ++ [m])).length < 3 := by
  have := List.length_pos_iff.2 hmid
  simp; omega
 unfold hullL
 rw [if_neg hl, C.half, hr, C'.half]
 unfold roundT
 simp
theorem zoK {p0 m q : Corner} : low m p0 q = true ↔ d3 p0 q m < 0 := by
 unfold low
 have h1 := zeC p0 m q
 have h2 := zdf p0 q m
 simp only [decide_eq_true_eq]
 omega
theorem Conv.nodup {th : Corner -> Half} {S : List Corner} (C : Conv th S) : S.Nodup :=
 List.Pairwise.imp_of_mem (fun {p q} hp hq h => C.ne hp h) C.ord
theorem Conv.round_mem {th : Corner -> Half} {p0 m : Corner} {mid : List Corner} (C : Conv th (p0 :: (mid ++ [m]))) (q : Corner) : q ∈ roundT p0 m mid ↔ q ∈ mid ++ [m] := by
 unfold roundT
 have hlow : low m p0 q = true ↔ d3 p0 q m < 0 := zoK
 rw [List.mem_append, List.mem_cons, List.mem_append, List.mem_filter, List.mem_filter, List.mem_reverse, hlow]
 simp only [List.mem_singleton]
 constructor
 ·rintro (h | h | h)
  ·exact .inl h.1
  ·exact .inr h
  ·exact .inl h.1
 ·rintro (h | h)
  ·have hnd := C.nodup
   have hn : d3 p0 q m ≠ 0 := by
    refine C.non p0 (by simp) q (by simp [h]) m (by simp) ?_ ?_ ?_
    ·rintro rfl; exact (List.nodup_cons.1 hnd).1 (by simp [h])
    ·rintro rfl; exact (List.nodup_cons.1 hnd).1 (by simp)
    ·rintro rfl
     have := (List.nodup_cons.1 hnd).2
     have := (List.pairwise_append.1 this).2.2 q h q (by simp)
     exact this rfl
   rcases Int.lt_or_gt_of_ne hn with g | g
   ·exact .inr (.inr ⟨h, g⟩)
   ·exact .inl ⟨h, by unfold low; simpa using g⟩
  ·exact .inr (.inl h)
end Go.Pg
namespace Go.Pg
open Go.Proofs Go.RowKit Go.Sort
theorem zbV (p : Corner) : ¬ ltC p p := by unfold ltC; omega
theorem zj9 {p q : Corner} (h : ltC p q) : ¬ ltC q p := by unfold ltC at *; omega
theorem ziu {p q : Corner} (h : ltC p q) : leC p q := by unfold ltC at h; unfold leC; omega
theorem zcp {p q : Corner} (hp : valid p = true) (hq : valid q = true) (h : leC p q) (hn : p ≠ q) : ltC p q := by
 refine Classical.not_not.1 fun h1 => hn (zbH hp hq h (zaL.1 h1))
theorem denV {p : Corner} (h : valid p = true) : 0 < p.Den := by have := (zaK h).d; omega
theorem zoJ {p q r : Corner} (hp : valid p = true) (hq : valid q = true) (hr : valid r = true) (h1 : ltC p q) (h2 : leC q r) : ltC p r := by
 refine Classical.not_not.1 fun h => ?_
 have := zbG (denV hq) (denV hr) (denV hp) h2 (zaL.1 h)
 exact (zaL.2 this) h1
theorem zoL {p q r : Corner} (hp : valid p = true) (hq : valid q = true) (hr : valid r = true) (h1 : leC p q) (h2 : ltC q r) : ltC p r := by
 refine Classical.not_not.1 fun h => ?_
 have := zbG (denV hr) (denV hp) (denV hq) (zaL.1 h) h1
 exact (zaL.2 this) h2
theorem zcj : ∀ {l m : List Corner}, l.Pairwise ltC -> m.Pairwise ltC -> (∀ q, q ∈ l ↔ q ∈ m) -> l = m
 | [], [], _, _, _ => rfl
 | [], b :: m, _, _, h => by have := (h b).2 (by simp); cases this
 | a :: l, [], _, _, h => by have := (h a).1 (by simp); cases this
 | a :: l, b :: m, h1, h2, h => by
  rw [List.pairwise_cons] at h1 h2
  have hab : a = b := by
   rcases List.mem_cons.1 ((h a).1 (by simp)) with e | e
   ·exact e
   ·rcases List.mem_cons.1 ((h b).2 (by simp)) with g | g
    ·exact g.symm
    ·exact absurd (h1.1 b g) (zj9 (h2.1 a e))
  subst hab
  congr 1
  refine zcj h1.2 h2.2 fun q => ?_
  constructor
  ·intro hq
   rcases List.mem_cons.1 ((h q).1 (List.mem_cons_of_mem _ hq)) with e | e
   ·subst e; exact absurd (h1.1 q hq) (zbV q)
   ·exact e
  ·intro hq
   rcases List.mem_cons.1 ((h q).2 (List.mem_cons_of_mem _ hq)) with e | e
   ·subst e; exact absurd (h2.1 q hq) (zbV q)
   ·exact e
theorem gdI {α : Type} {l : List α} {i : Nat} (h : i < l.length) (d : α) : l.getD i d = l[i] := by rw [gdq, gqe h]; rfl
theorem zgc {l : List Corner} : ∀ i, i < l.length -> l.getD i default ∈ compL l
 | 0, h => by
  unfold compL compP
  exact List.mem_map.2 ⟨0, List.mem_filter.2 ⟨List.mem_range.2 h, keep0 l (by omega)⟩, rfl⟩
 | i + 1, h => by
  by_cases hk : keepC l (i + 1) = true
  ·unfold compL compP
   exact List.mem_map.2 ⟨i + 1, List.mem_filter.2 ⟨List.mem_range.2 h, hk⟩, rfl⟩
  ·rw [zbW] at hk
   have e : l.getD (i + 1) default = l.getD i default := by
    simpa using hk
   rw [e]
   exact zgc i (by omega)
theorem zkU {l : List Corner} (q : Corner) : q ∈ compL l ↔ q ∈ l := by
 refine ⟨zdT, fun h => ?_⟩
 obtain ⟨i, hi, rfl⟩ := List.getElem_of_mem h
 rw [<- gdI hi default]
 exact zgc i hi
theorem zga {l : List Corner} (hv : ∀ q ∈ l, valid q = true) (h : l.Pairwise leC) : (compL l).Pairwise ltC := by
 have hle : ∀ i j, i < j -> j < l.length -> leC (l.getD i default) (l.getD j default) := fun i j hij hj => by
  rw [gdI (by omega) default, gdI hj default]
  exact List.pairwise_iff_getElem.1 h i j (by omega) hj hij
 have hlr : ∀ i j, i <= j -> j < l.length -> leC (l.getD i default) (l.getD j default) := fun i j hij hj => by
  rcases Nat.lt_or_ge i j with h | h
  ·exact hle i j h hj
  ·obtain rfl : i = j := by omega
   unfold leC; omega
 unfold compL compP
 rw [List.pairwise_map]
 refine List.Pairwise.imp_of_mem ?_ ((List.pairwise_lt_range (n := l.length)).filter _)
 intro i j hi hj hij
 obtain ⟨hi1, _⟩ := List.mem_filter.1 hi
 obtain ⟨hj1, hj2⟩ := List.mem_filter.1 hj
 have hj1 := List.mem_range.1 hj1
 have hne : l.getD (j - 1) default ≠ l.getD j default := by
  rw [zbW] at hj2
  have h0 : j ≠ 0 := by omega
  intro e
  rw [e] at hj2
  simp [h0] at hj2
 have v : ∀ k, k < l.length -> valid (l.getD k default) = true := fun k hk => hv _ (gd1 hk default)
 refine zoL (v i (by omega)) (v (j - 1) (by omega)) (v j hj1) (hlr i (j - 1) (by omega) (by omega)) ?_
 exact zcp (v (j - 1) (by omega)) (v j hj1) (hle (j - 1) j (by omega) hj1) hne
def insC (p : Corner) : List Corner -> List Corner
 | [] => [p]
 | q :: r => if cmpC q p < 0 then q :: insC p r else if q = p then q :: r else p :: q :: r
def insL (l : List Corner) (out : List Corner) : List Corner := l.foldl (fun out p => insC p out) out
theorem zdc (p x : Corner) : ∀ out : List Corner, x ∈ insC p out ↔ x = p \/ x ∈ out
 | [] => by simp [insC]
 | q :: r => by
  simp only [insC]
  split
  ·rw [List.mem_cons, zdc p x r, List.mem_cons]
   exact or_left_comm
  ·split
   ·rename_i h; subst h; simp
   ·simp
theorem zdF {p : Corner} (hp : valid p = true) : ∀ {out : List Corner}, (∀ q ∈ out, valid q = true) -> out.Pairwise ltC -> (insC p out).Pairwise ltC
 | [], _, _ => by simp [insC]
 | q :: r, hv, h => by
  have hq := hv q (by simp)
  have hr := fun x hx => hv x (List.mem_cons_of_mem _ hx)
  rw [List.pairwise_cons] at h
  simp only [insC]
  split
  ·rename_i h1
   rw [zgX hq hp] at h1
   rw [List.pairwise_cons]
   refine ⟨fun x hx => ?_, zdF hp hr h.2⟩
   rcases (zdc p x r).1 hx with rfl | hx
   ·exact h1
   ·exact h.1 x hx
  ·rename_i h1
   rw [zgX hq hp] at h1
   split
   ·rw [List.pairwise_cons]; exact h
   ·rename_i h2
    have h3 : ltC p q := zcp hp hq (zaL.1 h1) fun e => h2 e.symm
    rw [List.pairwise_cons]
    refine ⟨fun x hx => ?_, List.pairwise_cons.2 h⟩
    rcases List.mem_cons.1 hx with rfl | hx
    ·exact h3
    ·exact zoJ hp hq (hr x hx) h3 (ziu (h.1 x hx))
theorem zfb : ∀ (l out : List Corner), (∀ q ∈ l, valid q = true) -> (∀ q ∈ out, valid q = true) -> out.Pairwise ltC -> (insL l out).Pairwise ltC /\ ∀ x, x ∈ insL l out ↔ x ∈ l \/ x ∈ out
 | [], out, _, _, h => ⟨h, fun x => by simp [insL]⟩
 | p :: l, out, hl, ho, h => by
  have hp := hl p (by simp)
  have ih := zfb l (insC p out) (fun q hq => hl q (List.mem_cons_of_mem _ hq)) (fun q hq => by
   rcases (zdc p q out).1 hq with rfl | hq
   ·exact hp
   ·exact ho q hq) (zdF hp ho h)
  refine ⟨ih.1, fun x => ?_⟩
  have := ih.2 x
  rw [zdc] at this
  show x ∈ insL l (insC p out) ↔ _
  rw [this, List.mem_cons, or_assoc]
  exact or_left_comm
def ptL (l : List Half) (x : Num × Num) : Option Corner := if outsideL (allL l) (crossing x.1.h x.2.h) = -5 then some (crossing x.1.h x.2.h) else none
def ptsLh (l : List Half) : List Corner := (pairsL (allL l)).filterMap (ptL l)
@[irreducible] def crsL (l : List Half) : List Corner := insL (ptsLh l) []
theorem zht {l : List Half} (hl : ∀ x ∈ l, okH x) : (ptsV l (pairsL (allL l))).map (fun p : VC => p.1) = ptsLh l := by
 have hall := zcf hl
 have key : ∀ pre : List (Num × Num), (∀ x ∈ pre, x ∈ pairsL (allL l)) -> (ptsV l pre).map (fun p : VC => p.1) = pre.filterMap (ptL l) := by
  intro pre
  unfold ptsV
  induction pre with
  | nil => intro _; rfl
  | cons x r ih =>
   intro h
   obtain ⟨m1, m2, m3⟩ := zbk (h x (by simp))
   have hv := zan (hall _ m1) (hall _ m2) m3
   have ih := ih fun y hy => h y (List.mem_cons_of_mem _ hy)
   by_cases ho : outsideL (allL l) (crossing x.1.h x.2.h) = -5
   ·rw [List.filterMap_cons_some (b := ⟨crossing x.1.h x.2.h, hv⟩) (by unfold ptV; rw [dif_pos ⟨hv, ho⟩]), List.filterMap_cons_some (b := crossing x.1.h x.2.h) (by unfold ptL; rw [if_pos ho]), List.map_cons, ih]
   ·rw [List.filterMap_cons_none (by unfold ptV; rw [dif_neg fun hh => ho hh.2]), List.filterMap_cons_none (by unfold ptL; rw [if_neg ho]), ih]
 exact key _ fun x hx => hx
theorem zen {l : List Half} (hl : ∀ x ∈ l, okH x) : ∀ q ∈ ptsLh l, valid q = true := fun q hq => by
 rw [<- zht hl] at hq
 obtain ⟨p, _, rfl⟩ := List.mem_map.1 hq
 exact p.2
theorem zlC (l : List VC) : (sortV l).Pairwise fun p q => leC p.1 q.1 := by
 have h := List.pairwise_mergeSort (le := fun x y : VC => !(ltOf cmpV) y x) (fun a b c h1 h2 => by
  rw [zbL] at *
  simp only [Bool.not_eq_true', decide_eq_false_iff_not] at *
  rw [zaL] at *
  exact zbG a.den b.den c.den h1 h2) (fun a b => by
  rw [zbL, zbL]
  simp only [Bool.or_eq_true, Bool.not_eq_true', decide_eq_false_iff_not]
  rw [zaL, zaL]
  exact leC_total _ _) l
 refine h.imp fun {p q} h => ?_
 rw [zbL] at h
 simp only [Bool.not_eq_true', decide_eq_false_iff_not] at h
 exact zaL.1 h
theorem zfz (l : List VC) (p : VC) : p ∈ sortV l ↔ p ∈ l := List.mem_mergeSort
theorem zkS (vs : List VC) : compL ((sortV vs).map fun p : VC => p.1) = insL (vs.map fun p : VC => p.1) [] := by
 have hv : ∀ q ∈ vs.map (fun p : VC => p.1), valid q = true := fun q hq => by
  obtain ⟨p, _, rfl⟩ := List.mem_map.1 hq
  exact p.2
 have hi := zfb (vs.map fun p : VC => p.1) [] hv (fun q hq => by cases hq) List.Pairwise.nil
 refine zcj (zga (fun q hq => by
  obtain ⟨p, _, rfl⟩ := List.mem_map.1 hq
  exact p.2) (by rw [List.pairwise_map]; exact zlC vs)) hi.1 fun q => ?_
 rw [zkU, hi.2 q]
 simp only [List.mem_map, List.not_mem_nil, or_false]
 constructor
 ·rintro ⟨p, hp, rfl⟩; exact ⟨p, (zfz vs p).1 hp, rfl⟩
 ·rintro ⟨p, hp, rfl⟩; exact ⟨p, (zfz vs p).2 hp, rfl⟩
theorem zgV {l : List Half} (hl : ∀ x ∈ l, okH x) : cornersL l = hullL (crsL l) := by
 unfold cornersL sortedL crsL
 rw [zkS, zht hl]
theorem zdQ {l : List Half} (hl : ∀ x ∈ l, okH x) : (crsL l).Pairwise ltC := by
 unfold crsL
 exact (zfb (ptsLh l) [] (zen hl) (fun q hq => by cases hq) List.Pairwise.nil).1
theorem zmS {l : List Half} (hl : ∀ x ∈ l, okH x) (q : Corner) : q ∈ crsL l ↔ q ∈ ptsLh l := by
 unfold crsL
 rw [(zfb (ptsLh l) [] (zen hl) (fun q hq => by cases hq) List.Pairwise.nil).2 q]
 simp
theorem zcU {x y d : Int} (hd : d ≠ 0) : ∃ s : Int, s ≠ 0 /\ (lowest x y d).X * s = x /\ (lowest x y d).Y * s = y /\ (lowest x y d).Den * s = d := by
 have hg : 0 < gcdL [x, y, d] := by rw [gcd3]; exact Nat.gcd_pos_of_pos_right _ (by omega)
 have e1 := gcd3 x y d
 generalize hG : gcdL [x, y, d] = G' at *
 have d1 : G' ∣ x.natAbs := by rw [e1]; exact Nat.dvd_trans (Nat.gcd_dvd_left _ _) (Nat.gcd_dvd_left _ _)
 have d2 : G' ∣ y.natAbs := by rw [e1]; exact Nat.dvd_trans (Nat.gcd_dvd_left _ _) (Nat.gcd_dvd_right _ _)
 have d3 : G' ∣ d.natAbs := by rw [e1]; exact Nat.gcd_dvd_right _ _
 obtain ⟨s, hs, hsa⟩ : ∃ s : Int, s = (if d < 0 then -(G' : Int) else (G' : Int)) /\ s.natAbs = G' := ⟨_, rfl, by split <;> omega⟩
 have hl : lowest x y d = ⟨x.tdiv s, y.tdiv s, d.tdiv s⟩ := by
  unfold lowest
  rw [hs, hG]
 have dv : ∀ a : Int, G' ∣ a.natAbs -> s ∣ a := fun a h => by
  rw [<- Int.natAbs_dvd_natAbs, hsa]; exact h
 refine ⟨s, by omega, ?_, ?_, ?_⟩
 ·rw [hl]; exact Int.tdiv_mul_cancel (dv x d1)
 ·rw [hl]; exact Int.tdiv_mul_cancel (dv y d2)
 ·rw [hl]; exact Int.tdiv_mul_cancel (dv d d3)
theorem zpQ {g h : Half} {p : Corner} {s : Int} (h1 : p.X * s = g.C * h.B - h.C * g.B) (h2 : p.Y * s = g.A * h.C - h.A * g.C) (h3 : p.Den * s = g.A * h.B - h.A * g.B) : ef g p * s = 0 /\ ef h p * s = 0 := by
 unfold ef
 constructor <;> grind
theorem zao {g h : Half} (hd : det g h ≠ 0) : ef g (crossing g h) = 0 /\ ef h (crossing g h) = 0 := by
 obtain ⟨s, hs, h1, h2, h3⟩ := zcU (x := g.C * h.B - h.C * g.B) (y := g.A * h.C - h.A * g.C) hd
 have hc : crossing g h = lowest (g.C * h.B - h.C * g.B) (g.A * h.C - h.A * g.C) (det g h) := by unfold crossing; rfl
 rw [<- hc] at h1 h2 h3
 obtain ⟨k1, k2⟩ := zpQ h1 h2 (by rw [h3]; unfold det; rfl)
 constructor
 ·rcases Int.mul_eq_zero.1 k1 with h | h
  ·exact h
  ·exact absurd h hs
 ·rcases Int.mul_eq_zero.1 k2 with h | h
  ·exact h
  ·exact absurd h hs
theorem zbD {g h : Half} {p q : Corner} (hp : valid p = true) (hq : valid q = true) (hd : det g h ≠ 0) (p1 : ef g p = 0) (p2 : ef h p = 0) (q1 : ef g q = 0) (q2 : ef h q = 0) : p = q := by
 have hdet : det g h = g.A * h.B - h.A * g.B := by unfold det; rfl
 rw [hdet] at hd
 unfold ef at p1 p2 q1 q2
 have kx : (p.X * q.Den - q.X * p.Den) * (g.A * h.B - h.A * g.B) = 0 := by grind
 have ky : (p.Y * q.Den - q.Y * p.Den) * (g.A * h.B - h.A * g.B) = 0 := by grind
 have ex : p.X * q.Den = q.X * p.Den := by
  rcases Int.mul_eq_zero.1 kx with h | h
  ·omega
  ·exact absurd h hd
 have ey : p.Y * q.Den = q.Y * p.Den := by
  rcases Int.mul_eq_zero.1 ky with h | h
  ·omega
  ·exact absurd h hd
 exact zbH hp hq (by unfold leC; omega) (by unfold leC; omega)
theorem zcB (g h : Half) : det h g = -det g h := by unfold det; grind
theorem zfi {g h : Half} (hg : okH g) (hh : okH h) (hd : det g h ≠ 0) : crossing h g = crossing g h := by
 have hd' : det h g ≠ 0 := by rw [zcB]; omega
 obtain ⟨a1, a2⟩ := zao hd
 obtain ⟨b1, b2⟩ := zao hd'
 exact zbD (zan hh hg hd') (zan hg hh hd) hd b2 b1 a1 a2
def hsL (l : List Half) : List Half := l ++ sidesL
theorem zeJ (l : List Half) : (allL l).map (fun x => x.h) = hsL l := by
 unfold allL hsL
 rw [List.map_map]
 refine List.ext_getElem (by simp [sidesL]) fun i h1 h2 => ?_
 simp only [List.getElem_map, List.getElem_range, Function.comp]
 unfold allAt
 by_cases hi : i < l.length
 ·rw [if_pos hi, List.getElem_append_left hi]
  exact gdI hi default
 ·rw [if_neg hi, List.getElem_append_right (by omega)]
  exact gdI (by simp [hsL, List.length_append] at h2; omega) default
theorem zna (l : List Half) : ∀ x ∈ allL l, x.n ≠ -5 := fun x hx => by
 unfold allL at hx
 obtain ⟨i, hi, rfl⟩ := List.mem_map.1 hx
 have hi := List.mem_range.1 hi
 unfold allAt
 split
 ·show (i : Int) ≠ -5; omega
 ·show -1 - ((i : Int) - l.length) ≠ -5; omega
def Fe (hs : List Half) (q : Corner) : Prop := ∀ h ∈ hs, ef h q <= 0
theorem zgF (L : List Num) (hL : ∀ x ∈ L, x.n ≠ -5) (q : Corner) : outsideL L q = -5 ↔ Fe (L.map fun x => x.h) q := by
 induction L with
 | nil => simp [outsideL, Fe]
 | cons x r ih =>
  have ih := ih fun y hy => hL y (List.mem_cons_of_mem _ hy)
  simp only [outsideL]
  by_cases h : lies x.h q = true
  ·rw [if_pos h, ih]
   unfold Fe
   simp only [List.map_cons, List.mem_cons, forall_eq_or_imp]
   exact ⟨fun hh => ⟨(zke _ _).1 h, hh⟩, fun hh => hh.2⟩
  ·rw [if_neg h]
   refine ⟨fun hh => absurd hh (hL x (by simp)), fun hh => ?_⟩
   exact absurd ((zke _ _).2 (hh x.h (by simp))) h
theorem zaJ (l : List Half) (q : Corner) : outsideL (allL l) q = -5 ↔ Fe (hsL l) q := by
 rw [zgF (allL l) (zna l) q, zeJ]
theorem zqw {l : List Half} (hl : ∀ x ∈ l, okH x) : ∀ x ∈ hsL l, okH x := fun x hx => by
 rw [<- zeJ] at hx
 obtain ⟨y, hy, rfl⟩ := List.mem_map.1 hx
 exact zcf hl y hy
structure Vt (hs : List Half) (q : Corner) : Prop where
  fe : Fe hs q
  va : valid q = true
  ti : ∃ g ∈ hs, ∃ h ∈ hs, det g h ≠ 0 /\ ef g q = 0 /\ ef h q = 0
theorem pairs_of {L : List Num} {x y : Num} (hx : x ∈ L) (hy : y ∈ L) (hd : det x.h y.h ≠ 0) : (x, y) ∈ pairsL L \/ (y, x) ∈ pairsL L := by
 obtain ⟨i, hi, rfl⟩ := List.getElem_of_mem hx
 obtain ⟨j, hj, rfl⟩ := List.getElem_of_mem hy
 have e1 := gdI hi default
 have e2 := gdI hj default
 rcases Nat.lt_trichotomy i j with h | h | h
 ·left
  have := zdx L hj h (by rw [e1, e2]; exact hd)
  rw [e1, e2] at this
  exact List.mem_of_getElem? this
 ·subst h
  exact absurd (show det L[i].h L[i].h = 0 by unfold det; grind) hd
 ·right
  have := zdx L hi h (by rw [e1, e2, zcB]; omega)
  rw [e1, e2] at this
  exact List.mem_of_getElem? this
theorem zlV {l : List Half} (hl : ∀ x ∈ l, okH x) (q : Corner) : q ∈ ptsLh l ↔ Vt (hsL l) q := by
 have hall := zcf hl
 unfold ptsLh
 rw [List.mem_filterMap]
 constructor
 ·rintro ⟨x, hx, he⟩
  obtain ⟨m1, m2, m3⟩ := zbk hx
  unfold ptL at he
  split at he
  ·rename_i ho
   cases he
   refine ⟨(zaJ l _).1 ho, zan (hall _ m1) (hall _ m2) m3, x.1.h, ?_, x.2.h, ?_, m3, zao m3⟩
   ·rw [<- zeJ]; exact List.mem_map.2 ⟨_, m1, rfl⟩
   ·rw [<- zeJ]; exact List.mem_map.2 ⟨_, m2, rfl⟩
  ·cases he
 ·rintro ⟨h1, h2, g, hg, h, hh, hd, t1, t2⟩
  rw [<- zeJ] at hg hh
  obtain ⟨x, hx, rfl⟩ := List.mem_map.1 hg
  obtain ⟨y, hy, rfl⟩ := List.mem_map.1 hh
  have hv := zan (hall x hx) (hall y hy) hd
  obtain ⟨c1, c2⟩ := zao hd
  have e : crossing x.h y.h = q := zbD hv h2 hd c1 c2 t1 t2
  have ho := (zaJ l q).2 h1
  rcases pairs_of hx hy hd with hp | hp
  ·refine ⟨_, hp, ?_⟩
   unfold ptL
   dsimp only
   rw [e, if_pos ho]
  ·refine ⟨_, hp, ?_⟩
   unfold ptL
   dsimp only
   rw [zfi (hall x hx) (hall y hy) hd, e, if_pos ho]
theorem zkQ {l : List Half} (hl : ∀ x ∈ l, okH x) (q : Corner) : q ∈ crsL l ↔ Vt (hsL l) q := by
 rw [zmS hl, zlV hl]
def M48 : Int := 281474976710656
def thH (p : Corner) : Half := ⟨M48 * p.Den, p.Den, M48 * p.X + p.Y⟩
theorem zhl (p : Corner) : ef (thH p) p = 0 := by unfold ef thH; grind
theorem zne (p q : Corner) : ef (thH q) p = M48 * (p.X * q.Den - q.X * p.Den) + (p.Y * q.Den - q.Y * p.Den) := by unfold ef thH; grind
theorem zn4 {hs : List Half} (hsub : ∀ h ∈ sidesL, h ∈ hs) {q : Corner} (h : Fe hs q) : (0 <= q.X /\ q.X <= 48 * q.Den) /\ (0 <= q.Y /\ q.Y <= 48 * q.Den) := by
 have h1 := h _ (hsub ⟨-1, 0, 0⟩ (by decide))
 have h2 := h _ (hsub ⟨1, 0, 48⟩ (by decide))
 have h3 := h _ (hsub ⟨0, -1, 0⟩ (by decide))
 have h4 := h _ (hsub ⟨0, 1, 48⟩ (by decide))
 unfold ef at *
 simp only at *
 omega
theorem zjg (l : List Half) : ∀ h ∈ sidesL, h ∈ hsL l := fun h hh => List.mem_append_right _ hh
structure InM (q : Corner) : Prop where
  va : valid q = true
  x : 0 <= q.X /\ q.X <= 48 * q.Den
  y : 0 <= q.Y /\ q.Y <= 48 * q.Den
theorem th_lt {p q : Corner} (hp : InM p) (hq : InM q) (h : ltC p q) : Bef thH p q := by
 have dp := (zaK hp.va).d
 have dq := (zaK hq.va).d
 have py := hp.y
 have qy := hq.y
 have b1 := mulB (a := p.Y) (b := q.Den) (x := 100663296) (y := 2097152) (by omega) (by omega)
 have b2 := mulB (a := q.Y) (b := p.Den) (x := 100663296) (y := 2097152) (by omega) (by omega)
 have b3 := Int.mul_nonneg (a := p.Y) (b := q.Den) (by omega) (by omega)
 have b4 := Int.mul_nonneg (a := q.Y) (b := p.Den) (by omega) (by omega)
 unfold Bef
 rw [zne, zne]
 unfold ltC at h
 unfold M48
 rcases h with h | ⟨h, h'⟩
 ·constructor <;> omega
 ·rw [h]
  constructor <;> omega
theorem non3 {φ : Half} {p q r : Corner} (f0 : ef φ q = 0) (fp : ef φ p < 0) (fr : ef φ r < 0) (h1 : Bef thH p q) (h2 : Bef thH q r) : d3 p q r ≠ 0 := by
 intro h
 have e1 := plu φ p q r ⟨1, -M48, 0⟩
 have e2 := plu (thH q) p q r ⟨1, -M48, 0⟩
 rw [f0, h] at e1
 rw [zhl, h] at e2
 have e3 : d3 p q ⟨1, -M48, 0⟩ = ef (thH q) p := by unfold d3 ef thH; grind
 have b0 := h1.1
 have b1 := h2.2
 rw [e3] at e1 e2
 have k1 := Int.mul_neg_of_pos_of_neg b1 b0
 have k2 := Int.mul_pos_of_neg_of_neg fr b0
 have c1 := zjo b0 (b := d3 q r ⟨1, -M48, 0⟩) (by omega)
 have c2 := zfA fp (b := d3 q r ⟨1, -M48, 0⟩) (by omega)
 omega
def addH (g h : Half) : Half := ⟨g.A + h.A, g.B + h.B, g.C + h.C⟩
theorem znE (g h : Half) (p : Corner) : ef (addH g h) p = ef g p + ef h p := by unfold ef addH; grind
theorem Vt.out {hs : List Half} {q : Corner} (hq : Vt hs q) : ∃ φ : Half, ef φ q = 0 /\ ∀ p, Fe hs p -> valid p = true -> ef φ p <= 0 /\ (p ≠ q -> ef φ p < 0) := by
 obtain ⟨g, hg, h, hh, hd, t1, t2⟩ := hq.ti
 refine ⟨addH g h, by rw [znE, t1, t2]; rfl, fun p hp hv => ?_⟩
 rw [znE]
 have a1 := hp g hg
 have a2 := hp h hh
 refine ⟨by omega, fun hne => ?_⟩
 have : ¬ (ef g p = 0 /\ ef h p = 0) := fun ⟨e1, e2⟩ => hne (zbD hv hq.va hd e1 e2 t1 t2)
 omega
theorem zl9 {S : List Corner} (h : S.Pairwise ltC) (hv : ∀ p ∈ S, valid p = true) (key : ∀ p ∈ S, ∀ q ∈ S, ∀ r ∈ S, ltC p q -> ltC q r -> d3 p q r ≠ 0) :
  ∀ p ∈ S, ∀ q ∈ S, ∀ r ∈ S, p ≠ q -> p ≠ r -> q ≠ r -> d3 p q r ≠ 0 := by
 intro p hp q hq r hr h1 h2 h3
 have tri : ∀ a ∈ S, ∀ b ∈ S, a ≠ b -> ltC a b \/ ltC b a := fun a ha b hb hab => by
  rcases leC_total a b with g | g
  ·exact .inl (zcp (hv a ha) (hv b hb) g hab)
  ·exact .inr (zcp (hv b hb) (hv a ha) g hab.symm)
 have r1 := zeC p q r
 have r2 := zeC q r p
 have s1 := zkP p q r
 have s2 := zdf p q r
 have s3 := zkP q r p
 have r3 := zeC r p q
 rcases tri p hp q hq h1 with a | a <;> rcases tri q hq r hr h3 with b | b <;> rcases tri p hp r hr h2 with c | c
 ·exact key p hp q hq r hr a b
 ·exact key p hp q hq r hr a b
 ·have := key p hp r hr q hq c b; omega
 ·have := key r hr p hp q hq c a; omega
 ·have := key q hq p hp r hr a c; omega
 ·have := key q hq r hr p hp b c; omega
 ·have k := key r hr q hq p hp b a
  have s4 := zdf r q p
  have := zeC r p q
  omega
 ·have k := key r hr q hq p hp b a
  have s4 := zdf r q p
  have := zeC r p q
  omega
theorem Vt.inM {l : List Half} {q : Corner} (h : Vt (hsL l) q) : InM q := by
 have := zn4 (zjg l) h.fe
 exact ⟨h.va, this.1, this.2⟩
theorem zmR {l : List Half} (hl : ∀ x ∈ l, okH x) : Conv thH (crsL l) := by
 have hV : ∀ q ∈ crsL l, Vt (hsL l) q := fun q hq => (zkQ hl q).1 hq
 have hout : ∀ q ∈ crsL l, ∃ φ : Half, ef φ q = 0 /\ ∀ p ∈ crsL l, p ≠ q -> ef φ p < 0 := fun q hq => by
  obtain ⟨φ, f0, ff⟩ := (hV q hq).out
  exact ⟨φ, f0, fun p hp hne => (ff p (hV p hp).fe (hV p hp).va).2 hne⟩
 have hlt : ∀ p ∈ crsL l, ∀ q ∈ crsL l, ltC p q -> Bef thH p q := fun p hp q hq h => th_lt (hV p hp).inM (hV q hq).inM h
 refine ⟨hout, fun q _ => zhl q, ?_, ?_, fun q hq => denV (hV q hq).va⟩
 ·exact List.Pairwise.imp_of_mem (fun {p q} hp hq h => hlt p hp q hq h) (zdQ hl)
 ·refine zl9 (zdQ hl) (fun p hp => (hV p hp).va) fun p hp q hq r hr h1 h2 => ?_
  obtain ⟨φ, f0, ff⟩ := hout q hq
  refine non3 f0 (ff p hp ?_) (ff r hr ?_) (hlt p hp q hq h1) (hlt q hq r hr h2)
  ·rintro rfl; exact zbV _ h1
  ·rintro rfl; exact zbV _ h2
end Go.Pg
