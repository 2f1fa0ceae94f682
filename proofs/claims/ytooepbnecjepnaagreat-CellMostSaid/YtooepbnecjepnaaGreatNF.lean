/- Texts joined and shortened by program. -/
import Derived.Test.YtooepbnecjepnaaGreatNE
import Derived.Test.YtooepbnecjepnaaGreatND
import Derived.Test.YtooepbnecjepnaaGreatN8
import Derived.Test.YtooepbnecjepnaaGreatNC
import Derived.Test.YtooepbnecjepnaaGreatNA
set_option maxHeartbeats 4000000
set_option linter.all false
namespace Go.Pg
open Go.Proofs Go.RowKit
def plusH (a : Half) (t : Int) (h : Half) : Half := ⟨a.A + t * h.A, a.B + t * h.B, a.C + t * h.C⟩
def sepStep (l m : List Half) (p : Half × Half) (u : Use) : Half × Half :=
 if (l.length : Int) <= u.H then (p.1, plusH p.2 u.T (m.getD (u.H - l.length).toNat default))
 else if 0 <= u.H then (plusH p.1 u.T (l.getD u.H.toNat default), p.2) else p
abbrev bxH (h : Half) : Ob := .box [.d (I h.A), .d (I h.B), .d (I h.C)]
abbrev bxP (p : Place) : Ob := .box [.d (I p.X), .d (I p.Y)]
theorem zje {T : TT} {s : St} {a t i u : Nat} {ti : TI} {cs : List AV} {xs ys : List D} (h1 : s.sl a = .box i 0) (h2 : T t = some ti) (h3 : s.ob i = some (.box cs)) (h4 : Nat.beq cs.length ti.size = true) (h5 : ti.agg = true) (h6 : allD cs = some xs) {b c : Bool} (h7 : s.sl u = .d (.bool b)) (he : eqvs xs ys) (e : b = c) :
  RetAll T s [.cell a t, .tmp u] [.agg ys, .d (.bool c)] := ⟨rtC (a := a) h1 h2 h3 h4 h5 h6 he, rtB h7 e, trivial⟩
theorem zoN {p q : Place} (hp : on p = true) (hq : on q = true) : (-48 <= (edgeL p q).A /\ (edgeL p q).A <= 48) /\ (-48 <= (edgeL p q).B /\ (edgeL p q).B <= 48) /\ (-4608 <= (edgeL p q).C /\ (edgeL p q).C <= 4608) := by
 have bp := zcv hp
 have bq := zcv hq
 have m1 := mulB (a := q.Y - p.Y) (b := p.X) (x := 48) (y := 48) (by omega) (by omega)
 have m2 := mulB (a := p.X - q.X) (b := p.Y) (x := 48) (y := 48) (by omega) (by omega)
 unfold edgeL
 exact ⟨(show -48 <= q.Y - p.Y /\ q.Y - p.Y <= 48 by omega), (show -48 <= p.X - q.X /\ p.X - q.X <= 48 by omega), (show -4608 <= (q.Y - p.Y) * p.X + (p.X - q.X) * p.Y /\ (q.Y - p.Y) * p.X + (p.X - q.X) * p.Y <= 4608 by omega)⟩
theorem zm0 (p q : Place) (hp : on p = true) (hq : on q = true) : Spec PP 105 [p.v, q.v] [(edgeL p q).v] := by
 have bp := zcv hp
 have bq := zcv hq
 have m1 := mulB (a := q.Y - p.Y) (b := p.X) (x := 48) (y := 48) (by omega) (by omega)
 have m2 := mulB (a := p.X - q.X) (b := p.Y) (x := 48) (y := 48) (by omega) (by omega)
 refine sA Tryz.func105 ?_
 refine ⟨i6, ⟨i6, ?_⟩⟩
 refine ⟨i6, ⟨i6, ⟨i6, ?_⟩⟩⟩
 refine r1C rfl rfl rfl rfl rfl rfl (zkk ?_ ?_ ?_) <;> (unfold edgeL; rfl)
theorem znY (l : List Place) (p q : Place) (hl : ∀ r ∈ l, on r = true) (hp : on p = true) (hq : on q = true) (hn : l.length <= 1000000) : Spec PP 186 [slP l, p.v, q.v] [B (outerL l p q)] := by
 have bp := zcv hp
 have bq := zcv hq
 obtain ⟨bA, bB, bC⟩ := zoN hp hq
 refine sA Tryz.func186 ?_
 refine cP (zm0 p q hp hq) rfl rfl ?_
 refine LoopOb.of (σ := Nat) (fun i => ([(0, avOf (slP l)), (4, .box 4 0), (5, .box 5 0), (7, .box 7 0), (8, .d (I i))], [(4, bxP p), (5, bxP q), (7, bxH (edgeL p q))])) (fun i => i <= l.length /\ ∀ j, j < i -> outBh p q (l.getD j default) = true) (fun i => l.length - i) 0
  ⟨rfl, ⟨obXh rfl, obXh rfl, obXh rfl, trivial⟩, wq rfl⟩ z0L fun i hi => ?_
 obtain ⟨i1, i2⟩ := hi
 apply sB <;> intro g1
 ·have g1 : i < l.length := by have := dT g1; omega
  have hm := gd1 g1 (default : Place)
  have br := zcv (hl _ hm)
  have hnx : outBh p q (l.getD i default) = true -> (i + 1 <= l.length /\ ∀ j, j < i + 1 -> outBh p q (l.getD j default) = true) := fun h => ⟨g1, fun j hj => by
   rcases Nat.lt_or_ge j i with g | g
   ·exact i2 j g
   ·obtain rfl : j = i := by omega
    exact h⟩
  have hbad : outBh p q (l.getD i default) = false -> false = outerL l p q := fun h => by
   symm
   rw [Bool.eq_false_iff]
   intro hh
   unfold outerL at hh
   rw [Bool.and_eq_true, List.all_eq_true] at hh
   rw [hh.1 _ hm] at h; cases h
  refine ⟨⟨rfl, by omega, by omega⟩, ?_⟩
  have eO : outBh p q (l.getD i default) = !(decide (0 < crP p q (l.getD i default)) || (crP p q (l.getD i default) == 0 && !within (onL p q (l.getD i default)) 0 (mostL p q))) := rfl
  have en : crP p q (l.getD i default) = (edgeL p q).A * (l.getD i default).X + (edgeL p q).B * (l.getD i default).Y - (edgeL p q).C := rfl
  have eon : onL p q (l.getD i default) = ((l.getD i default).X - p.X) * (q.X - p.X) + ((l.getD i default).Y - p.Y) * (q.Y - p.Y) := rfl
  have emo : mostL p q = (q.X - p.X) * (q.X - p.X) + (q.Y - p.Y) * (q.Y - p.Y) := rfl
  have m1 := mulB (a := (edgeL p q).A) (b := (l.getD i default).X) (x := 48) (y := 48) bA (by omega)
  have m2 := mulB (a := (edgeL p q).B) (b := (l.getD i default).Y) (x := 48) (y := 48) bB (by omega)
  have m3 := mulB (a := (l.getD i default).X - p.X) (b := q.X - p.X) (x := 48) (y := 48) (by omega) (by omega)
  have m4 := mulB (a := (l.getD i default).Y - p.Y) (b := q.Y - p.Y) (x := 48) (y := 48) (by omega) (by omega)
  have m5 := mulB (a := q.X - p.X) (b := q.X - p.X) (x := 48) (y := 48) (by omega) (by omega)
  have m6 := mulB (a := q.Y - p.Y) (b := q.Y - p.Y) (x := 48) (y := 48) (by omega) (by omega)
  have o0 : inR .i64 ((edgeL p q).A * (l.getD i default).X) := i6
  have o1 : inR .i64 ((edgeL p q).B * (l.getD i default).Y) := i6
  have o2 : inR .i64 ((edgeL p q).A * (l.getD i default).X + (edgeL p q).B * (l.getD i default).Y) := i6
  have o3 : inR .i64 ((edgeL p q).A * (l.getD i default).X + (edgeL p q).B * (l.getD i default).Y - (edgeL p q).C) := i6
  have o4 : inR .i64 ((l.getD i default).X - p.X) := i6
  have o5 : inR .i64 (q.X - p.X) := i6
  have o6 : inR .i64 (((l.getD i default).X - p.X) * (q.X - p.X)) := i6
  have o7 : inR .i64 ((l.getD i default).Y - p.Y) := i6
  have o8 : inR .i64 (q.Y - p.Y) := i6
  have o9 : inR .i64 (((l.getD i default).Y - p.Y) * (q.Y - p.Y)) := i6
  have o10 : inR .i64 (((l.getD i default).X - p.X) * (q.X - p.X) + ((l.getD i default).Y - p.Y) * (q.Y - p.Y)) := i6
  have o11 : inR .i64 (q.X - p.X) := i6
  have o12 : inR .i64 (q.X - p.X) := i6
  have o13 : inR .i64 ((q.X - p.X) * (q.X - p.X)) := i6
  have o14 : inR .i64 (q.Y - p.Y) := i6
  have o15 : inR .i64 (q.Y - p.Y) := i6
  have o16 : inR .i64 ((q.Y - p.Y) * (q.Y - p.Y)) := i6
  have o17 : inR .i64 ((q.X - p.X) * (q.X - p.X) + (q.Y - p.Y) * (q.Y - p.Y)) := i6
  refine ⟨o0, ⟨o1, ⟨o2, ⟨o3, ?_⟩⟩⟩⟩
  refine ⟨o4, ⟨o5, ⟨o6, ⟨o7, ⟨o8, ⟨o9, ⟨o10, ?_⟩⟩⟩⟩⟩⟩⟩
  refine ⟨o11, ⟨o12, ⟨o13, ⟨o14, ⟨o15, ⟨o16, ⟨o17, ?_⟩⟩⟩⟩⟩⟩⟩
  apply sB <;> intro t1
  ·have t1 : 0 < crP p q (l.getD i default) := by rw [en]; exact dT t1
   repeat refine sT ?_
   exact r1B rfl (hbad (by rw [eO, decide_eq_true t1]; rfl))
  have t1 : ¬ 0 < crP p q (l.getD i default) := by rw [en]; exact dF t1
  repeat refine sF ?_
  apply sB <;> intro t2
  ·have t2 : crP p q (l.getD i default) = 0 := by rw [en]; simpa using t2
   refine cP (r_in (onL p q (l.getD i default)) 0 (mostL p q)) rfl rfl ?_
   repeat first | apply sT | apply sF
   apply sB <;> intro t3
   ·have t3 : within (onL p q (l.getD i default)) 0 (mostL p q) = false := by simpa using t3
    repeat first | apply sT | apply sF
    exact r1B rfl (hbad (by rw [eO, t2, t3]; rfl))
   ·have t3 : within (onL p q (l.getD i default)) 0 (mostL p q) = true := by simpa using t3
    repeat first | apply sT | apply sF
    refine ⟨i6, ?_⟩
    exact ⟨i + 1, ⟨rfl, ⟨obXh rfl, obXh rfl, obXh rfl, trivial⟩, wq rfl⟩, hnx (by rw [eO, t2, t3]; rfl), (msr (by omega))⟩
  ·have t2 : crP p q (l.getD i default) ≠ 0 := by rw [en]; simpa using t2
   repeat first | apply sT | apply sF
   refine ⟨i6, ?_⟩
   exact ⟨i + 1, ⟨rfl, ⟨obXh rfl, obXh rfl, obXh rfl, trivial⟩, wq rfl⟩, hnx (by rw [eO, decide_eq_false t1, beq_false_of_ne t2]; rfl), (msr (by omega))⟩
 ·have g1 : i = l.length := by have := dF g1; omega
  subst g1
  refine r1B rfl ?_
  have ha : l.all (outBh p q) = true := List.all_eq_true.2 fun r hr => by
   obtain ⟨j, hj, rfl⟩ := List.getElem_of_mem hr
   have := i2 j hj
   rwa [gdI hj] at this
  unfold outerL
  rw [ha, Bool.true_and]
  show (!(p.X == q.X && (p.Y == q.Y && true))) = decide (p ≠ q)
  rw [Bool.eq_iff_iff]
  simp only [Bool.not_eq_true', Bool.and_true, Bool.and_eq_false_imp, beq_iff_eq, beq_eq_false_iff_ne, decide_eq_true_iff]
  cases p; cases q; simp
def stepF (p r : Place) : Place := if r.X < p.X \/ (r.X = p.X /\ r.Y < p.Y) then r else p
@[irreducible] def firstTo (l : List Place) (i : Nat) : Place := (l.take i).foldl stepF (l.getD 0 default)
theorem zbB (l : List Place) : firstTo l 0 = l.getD 0 default := by unfold firstTo; rfl
theorem zaW (l : List Place) {i : Nat} (h : i < l.length) : firstTo l (i + 1) = stepF (firstTo l i) (l.getD i default) := by
 unfold firstTo
 rw [zaB h default, List.foldl_append]; rfl
theorem zgL {l : List Place} (h : 0 < l.length) : firstTo l 1 = l.getD 0 default := by
 rw [zaW l h, zbB]
 unfold stepF
 rw [if_neg (by omega)]
theorem znZ (l : List Place) (h0 : 0 < l.length) (hn : l.length <= 1000000) : Spec PP 103 [slP l] [(firstTo l l.length).v] := by
 refine sA Tryz.func103 ?_
 refine ⟨⟨rfl, by omega, by omega⟩, ?_⟩
 refine LoopOb.of (σ := Nat) (fun i => ([(0, avOf (slP l)), (2, .box 2 0), (3, .box 3 0), (4, .d (I i))], [(2, bxP ⟨0, 0⟩), (3, bxP (firstTo l i))])) (fun i => 1 <= i /\ i <= l.length) (fun i => l.length - i) 1
  ⟨rfl, ⟨obXh rfl, obXh (by rw [zgL h0]; rfl), trivial⟩, wq rfl⟩ ⟨Nat.le_refl _, h0⟩ fun i hi => ?_
 obtain ⟨i0, i1⟩ := hi
 apply sB <;> intro g1
 ·have g1 : i < l.length := by have := dT g1; omega
  have yes : ((l.getD i default).X < (firstTo l i).X \/ ((l.getD i default).X = (firstTo l i).X /\ (l.getD i default).Y < (firstTo l i).Y)) -> firstTo l (i + 1) = l.getD i default := fun h => by
   rw [zaW l g1]; unfold stepF; rw [if_pos h]
  have no : ¬ ((l.getD i default).X < (firstTo l i).X \/ ((l.getD i default).X = (firstTo l i).X /\ (l.getD i default).Y < (firstTo l i).Y)) -> firstTo l (i + 1) = firstTo l i := fun h => by
   rw [zaW l g1]; unfold stepF; rw [if_neg h]
  refine oL (List.range 28) (FzOb.no ?_)
  refine ⟨⟨rfl, by omega, by omega⟩, ?_⟩
  apply sB <;> intro t1
  ·have t1 : (l.getD i default).X < (firstTo l i).X := dT t1
   repeat first | apply sT | apply sF
   refine ⟨⟨rfl, by omega, by omega⟩, ?_⟩
   refine ⟨i6, ?_⟩
   exact ⟨i + 1, ⟨rfl, ⟨obXh rfl, obXh (by rw [yes (.inl t1)]; rfl), trivial⟩, wq rfl⟩, ⟨by omega, g1⟩, (msr (by omega))⟩
  have t1 : ¬ (l.getD i default).X < (firstTo l i).X := dF t1
  repeat first | apply sT | apply sF
  refine ⟨⟨rfl, by omega, by omega⟩, ?_⟩
  repeat first | apply sT | apply sF
  apply sB <;> intro t2
  ·have t2 : (l.getD i default).X = (firstTo l i).X := by simpa using t2
   repeat first | apply sT | apply sF
   refine ⟨⟨rfl, by omega, by omega⟩, ?_⟩
   repeat first | apply sT | apply sF
   apply sB <;> intro t3
   ·have t3 : (l.getD i default).Y < (firstTo l i).Y := dT t3
    repeat first | apply sT | apply sF
    refine ⟨⟨rfl, by omega, by omega⟩, ?_⟩
    refine ⟨i6, ?_⟩
    exact ⟨i + 1, ⟨rfl, ⟨obXh rfl, obXh (by rw [yes (.inr ⟨t2, t3⟩)]; rfl), trivial⟩, wq rfl⟩, ⟨by omega, g1⟩, (msr (by omega))⟩
   ·have t3 : ¬ (l.getD i default).Y < (firstTo l i).Y := dF t3
    repeat first | apply sT | apply sF
    refine ⟨i6, ?_⟩
    exact ⟨i + 1, ⟨rfl, ⟨obXh rfl, obXh (by rw [no (by omega)]; rfl), trivial⟩, wq rfl⟩, ⟨by omega, g1⟩, (msr (by omega))⟩
  ·have t2 : (l.getD i default).X ≠ (firstTo l i).X := by simpa using t2
   repeat first | apply sT | apply sF
   refine ⟨i6, ?_⟩
   exact ⟨i + 1, ⟨rfl, ⟨obXh rfl, obXh (by rw [no (by omega)]; rfl), trivial⟩, wq rfl⟩, ⟨by omega, g1⟩, (msr (by omega))⟩
 ·have g1 : i = l.length := by have := dF g1; omega
  subst g1
  exact r1C rfl rfl rfl rfl rfl rfl (zbc rfl rfl)
@[irreducible] def afterL (l : List Place) (p : Place) : Place × Bool := match l.find? (outerL l p) with | some q => (q, true) | none => (p, false)
theorem zn0 (l : List Place) (p : Place) (hl : ∀ r ∈ l, on r = true) (hp : on p = true) (hn : l.length <= 1000000) : Spec PP 104 [slP l, p.v] [(afterL l p).1.v, B (afterL l p).2] := by
 refine sA Tryz.func104 ?_
 refine LoopOb.of (σ := Nat) (fun i => ([(0, avOf (slP l)), (3, .box 3 0), (4, .box 4 0), (6, .d (I i))], [(3, bxP p), (4, bxP ⟨0, 0⟩)])) (fun i => i <= l.length /\ ∀ j, j < i -> outerL l p (l.getD j default) = false) (fun i => l.length - i) 0
  ⟨rfl, ⟨obXh rfl, obXh rfl, trivial⟩, wq rfl⟩ z0L fun i hi => ?_
 obtain ⟨i1, i2⟩ := hi
 apply sB <;> intro g1
 ·have g1 : i < l.length := by have := dT g1; omega
  have hm := gd1 g1 (default : Place)
  refine oL (List.range 8) (FzOb.no ?_)
  refine ⟨⟨rfl, by omega, by omega⟩, ?_⟩
  refine oP (znY l p (l.getD i default) hl hp (hl _ hm) hn) rfl rfl ?_
  apply sB <;> intro t1
  ·have t1 : outerL l p (l.getD i default) = true := t1
   have e : afterL l p = (l.getD i default, true) := by
    unfold afterL
    have : l.find? (outerL l p) = some (l.getD i default) := by
     rw [List.find?_eq_some_iff_getElem]
     refine ⟨t1, i, g1, (gdI g1 default).symm, fun j hj => ?_⟩
     have := i2 j hj
     rw [gdI (by omega)] at this
     simp [this]
    rw [this]
   rw [e]
   refine ⟨⟨rfl, by omega, by omega⟩, ?_⟩
   exact zje rfl rfl rfl rfl rfl rfl rfl (zbc rfl rfl) rfl
  ·have t1 : outerL l p (l.getD i default) = false := t1
   refine ⟨i6, ?_⟩
   refine ⟨i + 1, ⟨rfl, ⟨obXh rfl, obXh rfl, trivial⟩, wq rfl⟩, ⟨g1, fun j hj => ?_⟩, (msr (by omega))⟩
   rcases Nat.lt_or_ge j i with g | g
   ·exact i2 j g
   ·obtain rfl : j = i := by omega
    exact t1
 ·have g1 : i = l.length := by have := dF g1; omega
  subst g1
  have e : afterL l p = (p, false) := by
   unfold afterL
   have : l.find? (outerL l p) = none := by
    rw [List.find?_eq_none]
    intro x hx
    obtain ⟨j, hj, rfl⟩ := List.getElem_of_mem hx
    have := i2 j hj
    rw [gdI hj] at this
    simp [this]
   rw [this]
  rw [e]
  exact zje rfl rfl rfl rfl rfl rfl rfl (zbc rfl rfl) rfl
theorem zdA (l : List Place) (h0 : 0 < l.length) : ∀ i, i <= l.length -> firstTo l i ∈ l
 | 0, _ => by rw [zbB]; exact gd1 h0 default
 | i + 1, h => by
  rw [zaW l (by omega)]
  unfold stepF
  split
  ·exact gd1 (by omega) default
  ·exact zdA l h0 i (by omega)
def leP (p q : Place) : Prop := p.X < q.X \/ (p.X = q.X /\ p.Y <= q.Y)
theorem zei (l : List Place) (h0 : 0 < l.length) : ∀ i, i <= l.length -> ∀ j, j < i \/ j = 0 -> leP (firstTo l i) (l.getD j default)
 | 0, _, j, hj => by
  obtain rfl : j = 0 := by omega
  rw [zbB]; unfold leP; omega
 | i + 1, h, j, hj => by
  have ih := zei l h0 i (by omega)
  rw [zaW l (by omega)]
  unfold stepF
  split
  ·rename_i hc
   rcases Nat.lt_or_ge j i with g | g
   ·have := ih j (.inl g); unfold leP at *; omega
   ·by_cases z : j = 0
    ·have := ih j (.inr z); unfold leP at *; omega
    ·obtain rfl : j = i := by omega
     unfold leP; omega
  ·rename_i hc
   rcases Nat.lt_or_ge j i with g | g
   ·exact ih j (.inl g)
   ·by_cases z : j = 0
    ·exact ih j (.inr z)
    ·obtain rfl : j = i := by omega
     unfold leP; omega
theorem zmh {l : List Place} (hl : ∀ p ∈ l, on p = true) (h0 : l ≠ []) : firstTo l l.length = atP (cycL l) 0 := by
 have hpos := List.length_pos_iff.2 h0
 have m := zdA l hpos l.length (Nat.le_refl _)
 have a := zkt hl h0 _ m
 have sl : 0 < (sortP l).length := List.length_pos_of_mem ((zax hl _).2 ⟨_, m, rfl⟩)
 have c0 : 0 < (cycL l).length := by rw [zaY]; exact zcg sl
 obtain ⟨j, hj, e⟩ := List.getElem_of_mem (zco hl c0 0).2
 have b := zei l hpos l.length (Nat.le_refl _) j (.inl hj)
 rw [gdI hj, e] at b
 unfold leP at b
 rcases a with a | a | a
 ·exact a.symm
 ·omega
 ·omega
theorem zh1 {l : List Place} (hl : ∀ p ∈ l, on p = true) (h2 : 2 <= (sortP l).length) (i : Nat) : afterL l (atP (cycL l) i) = (atP (cycL l) (i + 1), true) := by
 have e := zms hl h2 i
 have c0 : 0 < (cycL l).length := by have := zkr hl h2; omega
 have m := (zco hl c0 (i + 1)).2
 unfold afterL
 cases hf : l.find? (outerL l (atP (cycL l) i)) with
 | none => exact absurd e (List.find?_eq_none.1 hf _ m)
 | some q =>
  have := zlG (List.mem_of_find?_eq_some hf) m (List.find?_some hf) e
  rw [this]
theorem zkV {l : List Place} (hl : ∀ p ∈ l, on p = true) (h0 : l ≠ []) (h2 : (sortP l).length < 2) : afterL l (atP (cycL l) 0) = (atP (cycL l) 0, false) := by
 obtain ⟨_, h⟩ := zks hl h0 h2
 unfold afterL
 have : l.find? (outerL l (atP (cycL l) 0)) = none := by
  rw [List.find?_eq_none]
  intro x hx hc
  rw [zct] at hc
  exact hc.2 (h x hx).symm
 rw [this]
theorem zhA {α : Type} {l : List α} : ((l.length : Int) == 0) = true ↔ l = [] := by
 rw [beq_iff_eq]
 constructor
 ·intro h; exact List.length_eq_zero_iff.1 (by omega)
 ·rintro rfl; rfl
theorem zpY (p q : Place) : (!(p.X == q.X && (p.Y == q.Y && true))) = decide (p ≠ q) := by
 rw [Bool.eq_iff_iff]
 simp only [Bool.not_eq_true', Bool.and_true, Bool.and_eq_false_imp, beq_iff_eq, beq_eq_false_iff_ne, decide_eq_true_iff]
 cases p; cases q; simp
theorem row2H (g h : Half) : ∀ i, i < 2 -> ∀ j, j < 3 -> D.eqv (rowOf 3 [I g.A, I g.B, I g.C, I h.A, I h.B, I h.C] i j) (([g, h].getD i default).at j) := fun i hi j hj => by
 match i, j, hi, hj with
 | 0, 0, _, _ | 0, 1, _, _ | 0, 2, _, _ => exact dE _
 | 1, 0, _, _ | 1, 1, _, _ | 1, 2, _, _ => exact dE _
abbrev vPl (x : List Half × Int) : V1 := .agg [.slc 3 x.1.length (rowH x.1), I x.2]
theorem zgO {x y : D} {a b : Int} (h : D.eqv x y) (e : a = b) : eqvs [x, I a] [y, I b] := ⟨h, ⟨rfl, e⟩, trivial⟩
theorem zpD (l : List Place) (hn : l.length <= 2500) : Spec PP 45 [slP l] [vPl (hullE l)] := by
 refine zhe [25] Tryz.func45 rfl (by kernel_rfl) rfl ?_
 apply sB <;> intro h1
 ·have h1 : l = [] := zhA.1 h1
  have e : hullE l = ([], 5) := by unfold hullE; rw [if_pos h1]
  rw [e]
  exact r1C rfl rfl rfl rfl rfl rfl (zgO rfl rfl)
 have h1 : l ≠ [] := fun h => by rw [zhA.2 h] at h1; cases h1
 have hpos := List.length_pos_iff.2 h1
 refine LoopOb.of (σ := Nat) (fun i => ([(0, avOf (slP l)), (2, .box 2 0), (3, .d (I i))], [(2, .box [.nilsl, .d (I 0)])])) (fun i => i <= l.length /\ ∀ j, j < i -> on (l.getD j default) = true) (fun i => l.length - i) 0
  ⟨rfl, ⟨obXh rfl, trivial⟩, wq rfl⟩ z0L fun i hi => ?_
 obtain ⟨i1, i2⟩ := hi
 apply sB <;> intro g1
 ·have g1 : i < l.length := by have := dT g1; omega
  refine ⟨⟨rfl, by omega, by omega⟩, ?_⟩
  refine cP (zlt (l.getD i default)) rfl rfl ?_
  apply sB <;> intro g2
  ·have g2 : on (l.getD i default) = false := by simpa using g2
   have e : hullE l = ([], 1) := by
    unfold hullE
    rw [if_neg h1, if_neg fun h => by rw [List.all_eq_true.1 h _ (gd1 g1 default)] at g2; cases g2]
   rw [e]
   exact r1C rfl rfl rfl rfl rfl rfl (zgO rfl rfl)
  have g2 : on (l.getD i default) = true := by simpa using g2
  refine ⟨i6, ?_⟩
  refine ⟨i + 1, ⟨rfl, ⟨obXh rfl, trivial⟩, wq rfl⟩, ⟨g1, fun j hj => ?_⟩, (msr (by omega))⟩
  rcases Nat.lt_or_ge j i with g | g
  ·exact i2 j g
  ·obtain rfl : j = i := by omega
   exact g2
 have g1 : i = l.length := by have := dF g1; omega
 subst g1
 have hl : ∀ r ∈ l, on r = true := fun r hr => by
  obtain ⟨j, hj, rfl⟩ := List.getElem_of_mem hr
  have := i2 j hj
  rwa [gdI hj] at this
 have e : hullE l = (if (cycL l).length = 1 then edges1 (atP (cycL l) 0) else if (cycL l).length = 2 then edges2 (atP (cycL l) 0) (atP (cycL l) 1) else edgesTo (cycL l) (cycL l).length, 0) := by
  unfold hullE; rw [if_neg h1, if_pos (List.all_eq_true.2 hl)]
 have cF := znZ l hpos (by omega)
 rw [zmh hl h1] at cF
 have sl : 0 < (sortP l).length := List.length_pos_of_mem ((zax hl _).2 ⟨_, gd1 hpos default, rfl⟩)
 have c0 : 0 < (cycL l).length := by rw [zaY]; exact zcg sl
 have mem := fun k => (zco hl c0 k).2
 have bd := fun k => zcv (hl _ (mem k))
 have cA := fun k => zn0 l (atP (cycL l) k) hl (hl _ (mem k)) (by omega)
 refine cP cF rfl rfl ?_
 rcases Nat.lt_or_ge (sortP l).length 2 with h2 | h2
 ·have cA := cA 0
  rw [zkV hl h1 h2] at cA
  rw [e, if_pos (zks hl h1 h2).1]
  refine cP cA rfl rfl ?_
  repeat first | apply sT | apply sF
  have b0 := bd 0
  refine ⟨i6, ⟨i6, ?_⟩⟩
  refine r1C rfl rfl rfl rfl rfl rfl ?_
  unfold edges1
  exact zgO eqH4 rfl
 have cA0 := cA 0
 rw [zh1 hl h2 0] at cA0
 have n2 := zkr hl h2
 have far := fun i (h : 0 < i) (h' : i < (cycL l).length) => zoU hl h2 h h'
 have nlen : (cycL l).length <= 5000 := by
  rw [zaY]
  have a := zds (sortP l)
  have b := zdF ((sortV (ptsO l l.length)).map fun p : VC => p.1)
  rw [List.length_map, zbi, zeN l (Nat.le_refl _)] at b
  have c : sortP l = compL ((sortV (ptsO l l.length)).map fun p : VC => p.1) := by unfold sortP; rfl
  rw [<- c] at b
  omega
 refine cP cA0 rfl rfl ?_
 repeat first | apply sT | apply sF
 rw [e, if_neg (by omega)]
 refine LoopOb.of (σ := Nat) (fun k => ([(0, avOf (slP l)), (2, .box 2 0), (5, .box 5 0), (6, .box 6 0), (8, .box 8 0), (9, .box 9 0), (10, .box 10 0), (11, .d (I k))], [(2, .box [.nilsl, .d (I 0)]), (5, bxP (atP (cycL l) 0)), (6, bxP (atP (cycL l) 1)), (8, .box [.own 75, .d (I 0)]), (9, bxP (atP (cycL l) k)), (10, bxP (atP (cycL l) (k + 1))), (75, .row 123 3 (edgesTo (cycL l) k).length (rowH (edgesTo (cycL l) k)))])) (fun k => k <= (cycL l).length) (fun k => (cycL l).length - k) 0
  ⟨rfl, ⟨obXh rfl, obXh rfl, obXh rfl, ⟨⟨rfl, 123, 3, rowH [], (show some (Ob.row 123 3 (edgesTo (cycL l) 0).length (rowH (edgesTo (cycL l) 0))) = some (Ob.row 123 3 0 (rowH [])) by rw [zbe]; rfl)⟩, dE _, trivial⟩, obXh rfl, obXh rfl, obZh rfl (by rw [zbe]; rfl), trivial⟩, wq rfl⟩ (Nat.zero_le _) fun k hk => ?_
 have bk := bd k
 have bk1 := bd (k + 1)
 have el := zbW (cycL l) k
 have cE := zm0 (atP (cycL l) k) (atP (cycL l) (k + 1)) (hl _ (mem k)) (hl _ (mem (k + 1)))
 have cAk := cA (k + 1)
 rw [zh1 hl h2 (k + 1)] at cAk
 rcases Nat.lt_or_ge k (cycL l).length with g1 | g1
 ·by_cases k0 : k = 0
  ·refine Split.yes (show ((k : Int) == 0) = true by rw [k0]; rfl) ?_
   repeat first | apply sT | apply sF
   refine oL (List.range 9) (FzOb.no ?_)
   refine oP cE rfl rfl ?_
   refine ⟨⟨.inr rfl, by unfold maxLen; omega, by show ((edgesTo (cycL l) k).length + 1) * 24 <= 140737488355328; omega⟩, ?_⟩
   refine cP cAk rfl rfl ?_
   refine ⟨i6, ?_⟩
   refine ⟨k + 1, ⟨rfl, ⟨obXh rfl, obXh rfl, obXh rfl, obXh rfl, obXh rfl, obXh rfl, obR rfl ?_, trivial⟩, wq rfl⟩, g1, (show (cycL l).length - (k + 1) < (cycL l).length - k by omega)⟩
   rw [zaX]
   exact zoh rfl (zoM _)
  ·refine Split.no (show ((k : Int) == 0) = false by simpa using k0) ?_
   have hne := far k (by omega) g1
   repeat first | apply sT | apply sF
   refine Split.yes ((zpY _ _).trans (decide_eq_true hne)) ?_
   repeat first | apply sT | apply sF
   refine oL (List.range 9) (FzOb.no ?_)
   refine oP cE rfl rfl ?_
   refine ⟨⟨.inr rfl, by unfold maxLen; omega, by show ((edgesTo (cycL l) k).length + 1) * 24 <= 140737488355328; omega⟩, ?_⟩
   refine cP cAk rfl rfl ?_
   refine ⟨i6, ?_⟩
   refine ⟨k + 1, ⟨rfl, ⟨obXh rfl, obXh rfl, obXh rfl, obXh rfl, obXh rfl, obXh rfl, obR rfl ?_, trivial⟩, wq rfl⟩, g1, (show (cycL l).length - (k + 1) < (cycL l).length - k by omega)⟩
   rw [zaX]
   exact zoh rfl (zoM _)
 ·have kn : k = (cycL l).length := by omega
  refine Split.no (show ((k : Int) == 0) = false by simp; omega) ?_
  have hne : atP (cycL l) k = atP (cycL l) 0 := by rw [kn, <- zkS, Nat.mod_self]
  repeat first | apply sT | apply sF
  refine Split.no ((zpY _ _).trans (decide_eq_false fun h => h hne)) ?_
  repeat first | apply sT | apply sF
  subst kn
  apply sB <;> intro g3
  ·have g3 : (cycL l).length = 2 := by
    have : (((edgesTo (cycL l) (cycL l).length).length : Int) == 2) = true := g3
    rw [beq_iff_eq] at this
    omega
   rw [if_pos g3]
   have b0 := bd 0
   have b1 := bd 1
   have m1 := mulB (a := -((atP (cycL l) 1).X - (atP (cycL l) 0).X)) (b := (atP (cycL l) 0).X) (x := 48) (y := 48) (by omega) (by omega)
   have m2 := mulB (a := (atP (cycL l) 1).Y - (atP (cycL l) 0).Y) (b := (atP (cycL l) 0).Y) (x := 48) (y := 48) (by omega) (by omega)
   have m3 := mulB (a := (atP (cycL l) 1).X - (atP (cycL l) 0).X) (b := (atP (cycL l) 1).X) (x := 48) (y := 48) (by omega) (by omega)
   have m4 := mulB (a := (atP (cycL l) 1).Y - (atP (cycL l) 0).Y) (b := (atP (cycL l) 1).Y) (x := 48) (y := 48) (by omega) (by omega)
   refine ⟨i6, ⟨i6, ?_⟩⟩
   refine ⟨i6, ⟨i6, ⟨i6, ⟨i6, ⟨i6, ⟨i6, ?_⟩⟩⟩⟩⟩⟩
   refine ⟨i6, ⟨i6, ⟨i6, ?_⟩⟩⟩
   refine ⟨⟨.inr rfl, by unfold maxLen; omega, by show ((edgesTo (cycL l) (cycL l).length).length + 2) * 24 <= 140737488355328; omega⟩, ?_⟩
   refine CutOb.at [(2, .box 2 0), (8, .box 8 0)] [(2, .box [.nilsl, .d (I 0)]), (8, .box [avOf (slH (edges2 (atP (cycL l) 0) (atP (cycL l) 1))), .d (I 0)])] ⟨rfl, ⟨obXh rfl, ⟨⟨rfl, _, _, _, _, rfl, ?_⟩, dE _, trivial⟩, trivial⟩, wq rfl⟩ ?_
   ·have a2 : atP (cycL l) 2 = atP (cycL l) 0 := by rw [<- zkS, g3]
    have e2 : edges2 (atP (cycL l) 0) (atP (cycL l) 1) = edgesTo (cycL l) (cycL l).length ++ [⟨-((atP (cycL l) 1).X - (atP (cycL l) 0).X), -((atP (cycL l) 1).Y - (atP (cycL l) 0).Y), -((atP (cycL l) 1).X - (atP (cycL l) 0).X) * (atP (cycL l) 0).X - ((atP (cycL l) 1).Y - (atP (cycL l) 0).Y) * (atP (cycL l) 0).Y⟩, ⟨(atP (cycL l) 1).X - (atP (cycL l) 0).X, (atP (cycL l) 1).Y - (atP (cycL l) 0).Y, ((atP (cycL l) 1).X - (atP (cycL l) 0).X) * (atP (cycL l) 1).X + ((atP (cycL l) 1).Y - (atP (cycL l) 0).Y) * (atP (cycL l) 1).Y⟩] := by
     rw [g3, zaX, zaX, zbe, a2]
     unfold edges2; rfl
    rw [e2]
    exact zo9 (at_ := Half.at) rfl rfl (fun i hi j hj => dE _) (row2H ⟨-((atP (cycL l) 1).X - (atP (cycL l) 0).X), -((atP (cycL l) 1).Y - (atP (cycL l) 0).Y), -((atP (cycL l) 1).X - (atP (cycL l) 0).X) * (atP (cycL l) 0).X - ((atP (cycL l) 1).Y - (atP (cycL l) 0).Y) * (atP (cycL l) 0).Y⟩ ⟨(atP (cycL l) 1).X - (atP (cycL l) 0).X, (atP (cycL l) 1).Y - (atP (cycL l) 0).Y, ((atP (cycL l) 1).X - (atP (cycL l) 0).X) * (atP (cycL l) 1).X + ((atP (cycL l) 1).Y - (atP (cycL l) 0).Y) * (atP (cycL l) 1).Y⟩)
   ·exact r1C rfl rfl rfl rfl rfl rfl (zgO (dE _) rfl)
  ·have g3 : (cycL l).length ≠ 2 := fun h => by
    have : (((edgesTo (cycL l) (cycL l).length).length : Int) == 2) = false := g3
    rw [el, h] at this
    cases this
   rw [if_neg g3]
   refine CutOb.at [(2, .box 2 0), (8, .box 8 0)] [(2, .box [.nilsl, .d (I 0)]), (8, .box [avOf (slH (edgesTo (cycL l) (cycL l).length)), .d (I 0)])] ⟨rfl, ⟨obXh rfl, ⟨⟨rfl, _, _, _, _, rfl, dE _⟩, dE _, trivial⟩, trivial⟩, wq rfl⟩ ?_
   exact r1C rfl rfl rfl rfl rfl rfl (zgO (dE _) rfl)
def hulR (s : Svc) (b : Brn) (l : List Rpt) : List Half × Int := if (plcR s b l).2 ≠ 0 then ([], (plcR s b l).2) else if (plcR s b l).1.length = 0 then ([], 9) else hullE (plcR s b l).1
theorem zp9 (s : Svc) (b : Brn) (l : List Rpt) : Spec PP 12 [s.v, b.v, .d (lR l)] [slH (hulR s b l).1, N (hulR s b l).2] := by
 refine sA Tryz.func12 ?_
 refine CallSt.ro (zc4 s b l) rfl rfl ?_
 apply sB <;> intro h0
 ·have e : hulR s b l = ([], (plcR s b l).2) := by unfold hulR; rw [if_pos (by simpa using h0)]
  rw [e]
  exact ⟨⟨_, _, _, _, rfl, rfl, .inl rfl⟩, rtI rfl rfl, trivial⟩
 have h0 : (plcR s b l).2 = 0 := by simpa using h0
 apply sB <;> intro h1
 ·have h1 : (plcR s b l).1.length = 0 := by simpa using h1
  have e : hulR s b l = ([], 9) := by unfold hulR; rw [if_neg (fun h => h h0), if_pos h1]
  rw [e]
  exact ⟨⟨_, _, _, _, rfl, rfl, .inl rfl⟩, rtI rfl rfl, trivial⟩
 have h1 : (plcR s b l).1.length ≠ 0 := by
  have : ¬ ((plcR s b l).1.length : Int) = 0 := by simpa using h1
  omega
 have e : hulR s b l = hullE (plcR s b l).1 := by unfold hulR; rw [if_neg (fun h => h h0), if_neg h1]
 rw [e]
 refine CallSt.ro (zpB (plcR s b l).1 (by have := zb8 s b l; omega)) rfl rfl ?_
 exact ⟨dE _, rtI rfl rfl, trivial⟩
theorem zhG (s : Svc) (b : Brn) (l : List Rpt) : (plcR s b l).2 = givE s b l := by
 unfold plcR
 split
 ·rfl
 ·rename_i h; exact (Classical.byContradiction h).symm
theorem zqA {fx fy : Int} {l : List Place} {i : Nat} (h : i < l.length) (p : Place) : bstP fx fy (l.take (i + 1)) p = if valP fx fy (bstP fx fy (l.take i) p) < valP fx fy (l.getD i default) then l.getD i default else bstP fx fy (l.take i) p := by
 unfold bstP
 rw [zaB h default, List.foldl_append]; rfl
theorem bst_1 {fx fy : Int} {l : List Place} (h : 0 < l.length) : bstP fx fy (l.take 1) (l.getD 0 default) = l.getD 0 default := by
 rw [zqA h]
 show (if _ < _ then _ else l.getD 0 default) = _
 split <;> rfl
theorem zn3 (s : Svc) (b : Brn) (l : List Rpt) (fx fy : Int) : Spec PP 11 [s.v, b.v, .d (lR l), .agg [I fx, I fy]] [.agg [I (mstR s b l fx fy).1, I (mstR s b l fx fy).2.1.X, I (mstR s b l fx fy).2.1.Y, I (mstR s b l fx fy).2.2]] := by
 refine sA Tryz.func11 ?_
 refine CallSt.ro (zjn s b l) rfl rfl ?_
 have eg := zhG s b l
 apply sB <;> intro h0
 ·have h0 : givE s b l ≠ 0 := by simpa using h0
  have e : mstR s b l fx fy = (0, ⟨0, 0⟩, givE s b l) := by unfold mstR; rw [eg, if_pos h0]
  rw [e]
  exact r1C rfl rfl rfl rfl rfl rfl (zaa _)
 have h0 : givE s b l = 0 := by simpa using h0
 have h0' : (plcR s b l).2 = 0 := by rw [eg]; exact h0
 have bad : (within fx (-1000) 1000 && within fy (-1000) 1000) = false -> mstR s b l fx fy = (0, ⟨0, 0⟩, 1) := fun h => by unfold mstR; rw [if_neg (fun hh => hh h0'), if_pos h]
 refine cP (zcS fx (-1000) 1000) rfl rfl ?_
 apply sB <;> intro h1
 ·have h1 : within fx (-1000) 1000 = false := by simpa using h1
  repeat first | apply sT | apply sF
  rw [bad (by rw [h1]; rfl)]
  exact r1C rfl rfl rfl rfl rfl rfl (zaa _)
 have h1 : within fx (-1000) 1000 = true := by simpa using h1
 refine cP (zcS fy (-1000) 1000) rfl rfl ?_
 repeat first | apply sT | apply sF
 apply sB <;> intro h2
 ·have h2 : within fy (-1000) 1000 = false := by simpa using h2
  rw [bad (by rw [h2, Bool.and_false])]
  exact r1C rfl rfl rfl rfl rfl rfl (zaa _)
 have h2 : within fy (-1000) 1000 = true := by simpa using h2
 have bx := zab.1 h1
 have b2 := zab.1 h2
 have hw : (within fx (-1000) 1000 && within fy (-1000) 1000) = true := by rw [h1, h2]; rfl
 have hon := zjz (s := s) (b := b) (l := l)
 have hlen := zb8 s b l
 apply sB <;> intro h3
 ·have h3 : (plcR s b l).1.length = 0 := by simpa using h3
  have e : mstR s b l fx fy = (0, ⟨0, 0⟩, 9) := by unfold mstR; rw [if_neg (fun hh => hh h0'), if_neg (by rw [hw]; decide), if_pos h3]
  rw [e]
  exact r1C rfl rfl rfl rfl rfl rfl (zaa _)
 have h3 : (plcR s b l).1.length ≠ 0 := by
  have : ¬ ((plcR s b l).1.length : Int) = 0 := by simpa using h3
  omega
 have e : mstR s b l fx fy = (valP fx fy (bstP fx fy (plcR s b l).1 ((plcR s b l).1.getD 0 default)), bstP fx fy (plcR s b l).1 ((plcR s b l).1.getD 0 default), 0) := by
  unfold mstR; rw [if_neg (fun hh => hh h0'), if_neg (by rw [hw]; decide), if_neg h3]
 rw [e]
 generalize (plcR s b l).1 = L at hon hlen h3 ⊢
 generalize (rsnR s b l).1 = R
 have bd : ∀ i, i < L.length -> -48000 <= fx * (L.getD i default).X /\ fx * (L.getD i default).X <= 48000 /\ -48000 <= fy * (L.getD i default).Y /\ fy * (L.getD i default).Y <= 48000 := fun i hi => by
  obtain ⟨p1, p2⟩ := zaS.1 (hon _ (gd1 hi default))
  have m1 := mulB (a := fx) (b := (L.getD i default).X) (x := 1000) (y := 48) (by omega) (by omega)
  have m2 := mulB (a := fy) (b := (L.getD i default).Y) (x := 1000) (y := 48) (by omega) (by omega)
  omega
 have b0 := bd 0 (by omega)
 refine oL (List.range 24) (FzOb.no ?_)
 refine ⟨⟨rfl, by omega, by omega⟩, ⟨zat (show _ <= fx * (L.getD 0 default).X by omega) (show fx * (L.getD 0 default).X <= _ by omega), ?_⟩⟩
 refine ⟨⟨rfl, by omega, by omega⟩, ⟨zat (show _ <= fy * (L.getD 0 default).Y by omega) (show fy * (L.getD 0 default).Y <= _ by omega), ⟨zat (show _ <= fx * (L.getD 0 default).X + fy * (L.getD 0 default).Y by omega) (show fx * (L.getD 0 default).X + fy * (L.getD 0 default).Y <= _ by omega), ?_⟩⟩⟩
 refine ⟨⟨rfl, by omega, by omega⟩, ?_⟩
 refine LoopOb.of (σ := Nat) (fun i => ([(7, .box 7 0), (8, .box 8 0), (9, .box 9 0), (10, .box 10 0), (11, .d (I i))], [(7, .box ([I fx, I fy].map AV.d)), (8, .box ([I 0, I 0, I 0, I 0].map AV.d)), (9, .box ([lP L, lRs R, I (givE s b l)].map AV.d)), (10, .box ([I (valP fx fy (bstP fx fy (L.take i) (L.getD 0 default))), I (bstP fx fy (L.take i) (L.getD 0 default)).X, I (bstP fx fy (L.take i) (L.getD 0 default)).Y, I 0].map AV.d))])) (fun i => 1 <= i /\ i <= L.length) (fun i => L.length - i) 1
  ⟨rfl, ⟨obX rfl, obX rfl, obX rfl, obX (by rw [bst_1 (by omega)]; rfl), trivial⟩, wq rfl⟩ ⟨Nat.le_refl _, by omega⟩ fun i hi => ?_
 obtain ⟨i1, i2⟩ := hi
 apply sB <;> intro h4
 ·have h4 : i < L.length := by have := dT h4; omega
  have bi := bd i h4
  have es := zqA (fx := fx) (fy := fy) h4 (L.getD 0 default)
  refine oL (List.range 20) (FzOb.no ?_)
  refine ⟨⟨rfl, by omega, by omega⟩, ⟨zat (show _ <= fx * (L.getD i default).X by omega) (show fx * (L.getD i default).X <= _ by omega), ?_⟩⟩
  refine ⟨⟨rfl, by omega, by omega⟩, ⟨zat (show _ <= fy * (L.getD i default).Y by omega) (show fy * (L.getD i default).Y <= _ by omega), ⟨zat (show _ <= fx * (L.getD i default).X + fy * (L.getD i default).Y by omega) (show fx * (L.getD i default).X + fy * (L.getD i default).Y <= _ by omega), ?_⟩⟩⟩
  apply sB <;> intro h5
  ·have h5 : valP fx fy (bstP fx fy (L.take i) (L.getD 0 default)) < valP fx fy (L.getD i default) := dT h5
   rw [if_pos h5] at es
   refine ⟨⟨rfl, by omega, by omega⟩, ?_⟩
   refine ⟨i6, ?_⟩
   exact ⟨i + 1, ⟨rfl, ⟨obX rfl, obX rfl, obX rfl, obX (by rw [es]; rfl), trivial⟩, wq rfl⟩, ⟨by omega, h4⟩, msr h4⟩
  ·have h5 : ¬ valP fx fy (bstP fx fy (L.take i) (L.getD 0 default)) < valP fx fy (L.getD i default) := dF h5
   rw [if_neg h5] at es
   refine ⟨i6, ?_⟩
   exact ⟨i + 1, ⟨rfl, ⟨obX rfl, obX rfl, obX rfl, obX (by rw [es]; rfl), trivial⟩, wq rfl⟩, ⟨by omega, h4⟩, msr h4⟩
 ·have h4 : i = L.length := by have := dF h4; omega
  subst h4
  rw [List.take_length]
  exact r1C rfl rfl rfl rfl rfl rfl (zaa _)
theorem zn4 (s : Svc) (b : Brn) (l : List Rpt) : Spec PP 13 [s.v, b.v, .d (lR l)] [vPl (hulR s b l)] := by
 refine sA Tryz.func13 ?_
 refine CallSt.ro (zjn s b l) rfl rfl ?_
 have eg := zhG s b l
 apply sB <;> intro h0
 ·have h0 : givE s b l ≠ 0 := by simpa using h0
  have e : hulR s b l = ([], givE s b l) := by unfold hulR; rw [eg, if_pos h0]
  rw [e]
  exact r1C rfl rfl rfl rfl rfl rfl (zgO rfl rfl)
 have h0 : givE s b l = 0 := by simpa using h0
 have h0' : (plcR s b l).2 = 0 := by rw [eg]; exact h0
 apply sB <;> intro h1
 ·have h1 : (plcR s b l).1.length = 0 := by simpa using h1
  have e : hulR s b l = ([], 9) := by unfold hulR; rw [if_neg (fun h => h h0'), if_pos h1]
  rw [e]
  exact r1C rfl rfl rfl rfl rfl rfl (zgO rfl rfl)
 have h1 : (plcR s b l).1.length ≠ 0 := by
  have : ¬ ((plcR s b l).1.length : Int) = 0 := by simpa using h1
  omega
 have e : hulR s b l = hullE (plcR s b l).1 := by unfold hulR; rw [if_neg (fun h => h h0'), if_neg h1]
 rw [e]
 refine CallSt.ro (zpD (plcR s b l).1 (by have := zb8 s b l; omega)) rfl rfl ?_
 exact r1C rfl rfl rfl rfl rfl rfl (zaa _)
theorem zoT {l : List Place} (hn : l.length <= 2500) : (cycL l).length <= 5000 := by
 rw [zaY]
 have a := zds (sortP l)
 have b := zdF ((sortV (ptsO l l.length)).map fun p : VC => p.1)
 rw [List.length_map, zbi, zeN l (Nat.le_refl _)] at b
 have c : sortP l = compL ((sortV (ptsO l l.length)).map fun p : VC => p.1) := by unfold sortP; rfl
 rw [<- c] at b
 omega
theorem zj7 {l : List Place} (hn : l.length <= 2500) : (hullE l).1.length <= 1000000 := by
 have := zoT hn
 unfold hullE
 split
 ·exact Nat.zero_le _
 ·split
  ·show (if (cycL l).length = 1 then edges1 (atP (cycL l) 0) else if (cycL l).length = 2 then edges2 (atP (cycL l) 0) (atP (cycL l) 1) else edgesTo (cycL l) (cycL l).length).length <= 1000000
   split
   ·unfold edges1; simp
   ·split
    ·unfold edges2; simp
    ·rw [zbW]; omega
  ·exact Nat.zero_le _
theorem zl8 (s : Svc) (b : Brn) (l : List Rpt) : (hulR s b l).1.length <= 1000000 := by
 unfold hulR
 split
 ·simp
 ·split
  ·simp
  ·exact zj7 (by have := zb8 s b l; omega)
theorem s_CellMost (s : Svc) (b : Brn) (l : List Rpt) (fx fy : Int) : Spec PP 3 [s.v, b.v, .d (lR l), .agg [I fx, I fy]] [B true] := by
 refine sA Tryz.func3 ?_
 refine cP (znx s) rfl rfl ?_
 apply sB <;> intro h1
 ·repeat first | apply sT | apply sF
  refine cP zex rfl rfl ?_
  exact r1B rfl rfl
 refine cP (w_few l 7) rfl rfl ?_
 repeat first | apply sT | apply sF
 apply sB <;> intro h2
 ·refine cP zex rfl rfl ?_
  exact r1B rfl rfl
 refine CallSt.ro (znf s b l fx fy) rfl rfl ?_
 refine CallSt.ro (zn3 s b l fx fy) rfl rfl ?_
 refine CallSt.ro (zp9 s b l) rfl rfl ?_
 refine CallSt.ro (zn4 s b l) rfl rfl ?_
 refine cP zex rfl rfl ?_
 repeat first | apply sT | apply sF | refine Split.yes (by simp) ?_
 refine cP (zfx (hulR s b l).1 (hulR s b l).1 (zl8 s b l)) rfl rfl ?_
 repeat first | apply sT | apply sF | refine Split.yes (by simp) ?_
 exact r1B rfl (by simp)
end Go.Pg
