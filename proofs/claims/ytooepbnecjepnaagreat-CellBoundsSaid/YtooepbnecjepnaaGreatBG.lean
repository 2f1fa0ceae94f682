/- Texts joined and shortened by program. -/
import Derived.Test.YtooepbnecjepnaaGreatBF
import Derived.Test.YtooepbnecjepnaaGreatB8
import Derived.Test.YtooepbnecjepnaaGreatBA
import Derived.Test.YtooepbnecjepnaaGreatBD
import Derived.Test.YtooepbnecjepnaaGreatBE
import Derived.Test.YtooepbnecjepnaaGreatBC
import Derived.Test.YtooepbnecjepnaaGreatB5
set_option maxHeartbeats 4000000
set_option linter.all false
set_option maxRecDepth 100000
namespace Go.Pg
open Go.Proofs Go.RowKit
section
variable {h : Half} {a b c d : Corner}
theorem plu1 (ha : a.Den = 1) (hb : b.Den = 1) (hc : c.Den = 1) (hd : d.Den = 1) : d3 b c d - d3 a c d + d3 a b d - d3 a b c = 0 := by
 have := plu ⟨0, 0, -1⟩ a b c d
 unfold ef at this
 rw [ha, hb, hc, hd] at this
 simpa using this
theorem lemA (ha : a.Den = 1) (hb : b.Den = 1) (hc : c.Den = 1) (hd : d.Den = 1) (u1 : ef h a < ef h b) (u2 : ef h b < ef h c) (u3 : ef h b < ef h d) (h1 : 0 < d3 a b c) (h2 : 0 < d3 b c d) : 0 < d3 a b d := by
 have i1 := plu h a b c d
 have i2 := plu1 ha hb hc hd
 have key : (ef h c - ef h b) * d3 a b d = d3 b c d * (ef h b - ef h a) + d3 a b c * (ef h d - ef h b) := by grind
 have p1 := Int.mul_pos h2 (show 0 < ef h b - ef h a by omega)
 have p2 := Int.mul_pos h1 (show 0 < ef h d - ef h b by omega)
 exact zf5 (a := ef h c - ef h b) (by omega) (by omega)
theorem lemB (ha : a.Den = 1) (hb : b.Den = 1) (hc : c.Den = 1) (hd : d.Den = 1) (u1 : ef h a < ef h b) (u2 : ef h b < ef h c) (u3 : ef h d <= ef h c) (h1 : d3 a b c <= 0) (h2 : 0 <= d3 b c d) : 0 <= d3 a c d := by
 have i1 := plu h a b c d
 have i2 := plu1 ha hb hc hd
 have key : (ef h c - ef h b) * d3 a c d = d3 b c d * (ef h c - ef h a) - d3 a b c * (ef h c - ef h d) := by grind
 have p1 := Int.mul_nonneg h2 (show 0 <= ef h c - ef h a by omega)
 have p2 := Int.mul_nonpos_of_nonpos_of_nonneg h1 (show 0 <= ef h c - ef h d by omega)
 rcases Int.lt_or_le (d3 a c d) 0 with g | g
 ·have := Int.mul_neg_of_pos_of_neg (show 0 < ef h c - ef h b by omega) g; omega
 ·exact g
theorem lemC (ha : a.Den = 1) (hb : b.Den = 1) (hc : c.Den = 1) (hd : d.Den = 1) (u1 : ef h a < ef h b) (u2 : ef h a <= ef h c) (u3 : ef h a <= ef h d) (h1 : d3 a b c <= 0) (h2 : 0 <= d3 a b d) : 0 <= d3 a c d := by
 have i1 := plu h a b c d
 have i2 := plu1 ha hb hc hd
 have key : (ef h b - ef h a) * d3 a c d = d3 a b d * (ef h c - ef h a) - d3 a b c * (ef h d - ef h a) := by grind
 have p1 := Int.mul_nonneg h2 (show 0 <= ef h c - ef h a by omega)
 have p2 := Int.mul_nonpos_of_nonpos_of_nonneg h1 (show 0 <= ef h d - ef h a by omega)
 rcases Int.lt_or_le (d3 a c d) 0 with g | g
 ·have := Int.mul_neg_of_pos_of_neg (show 0 < ef h b - ef h a by omega) g; omega
 ·exact g
theorem lemD (ha : a.Den = 1) (hb : b.Den = 1) (hc : c.Den = 1) (hd : d.Den = 1) (u1 : ef h a < ef h b) (u2 : ef h b < ef h c) (u3 : ef h d < ef h b) (h1 : 0 < d3 a b c) (h2 : 0 <= d3 a b d) : 0 < d3 b c d := by
 have i1 := plu h a b c d
 have i2 := plu1 ha hb hc hd
 have key : (ef h b - ef h a) * d3 b c d = d3 a b d * (ef h c - ef h b) + d3 a b c * (ef h b - ef h d) := by grind
 have p1 := Int.mul_nonneg h2 (show 0 <= ef h c - ef h b by omega)
 have p2 := Int.mul_pos h1 (show 0 < ef h b - ef h d by omega)
 exact zf5 (a := ef h b - ef h a) (by omega) (by omega)
end
def Eg (h : Half) (Q : List Corner) (a b : Corner) : Prop := ef h a < ef h b /\ ∀ q ∈ Q, 0 <= d3 a b q /\ (d3 a b q = 0 -> ef h a <= ef h q /\ ef h q <= ef h b)
def Ed (h : Half) (Q : List Corner) : List Corner -> Prop
 | b :: a :: r => Eg h Q a b /\ Ed h Q (a :: r)
 | _ => True
theorem zlu (a b : Corner) : d3 a b a = 0 := by unfold d3; grind
theorem zlt (a b : Corner) : d3 a b b = 0 := by unfold d3; grind
theorem znX {h : Half} {Q : List Corner} {p : Corner} (hp : p.Den = 1) (hD : ∀ q ∈ Q, q.Den = 1) (hu : ∀ q ∈ Q, ef h q < ef h p) : ∀ st : List Corner, Ed h Q st -> (∀ x ∈ st, x ∈ Q) -> (∀ b r, st = b :: r -> ∀ q ∈ Q, ef h b <= ef h q -> 0 <= d3 b p q) ->
  Ed h Q (popR p st) /\ (∀ b r, popR p st = b :: r -> ∀ q ∈ Q, ef h b <= ef h q -> 0 <= d3 b p q) /\ (∀ b a r, popR p st = b :: a :: r -> 0 < d3 a b p) /\ (popR p st).getLast? = st.getLast?
 | [], he, _, _ => ⟨trivial, (fun _ _ e => by cases e), (fun _ _ _ e => by cases e), rfl⟩
 | [b], he, _, hH => ⟨trivial, hH, (fun _ _ _ e => by cases e), rfl⟩
 | b :: a :: r, he, hm, hH => by
  obtain ⟨⟨e1, e2⟩, e3⟩ := he
  have mb := hm b (by simp)
  have ma := hm a (by simp)
  have db := hD _ mb
  have da := hD _ ma
  rw [zfq]
  split
  ·rename_i ht
   have ht : d3 a b p <= 0 := (zdo (by omega)).1 ht
   have ih := znX hp hD hu (a :: r) e3 (fun x hx => hm x (List.mem_cons_of_mem _ hx)) fun b' r' e q hq hle => by
    obtain ⟨rfl, rfl⟩ := List.cons.inj e
    rcases Int.lt_or_le (ef h q) (ef h b) with g | g
    ·exact lemC da db hp (hD _ hq) e1 (by have := hu _ ma; omega) hle ht (e2 q hq).1
    ·exact lemB da db hp (hD _ hq) e1 (hu _ mb) (by have := hu _ hq; omega) ht (hH b _ rfl q hq g)
   refine ⟨ih.1, ih.2.1, ih.2.2.1, ?_⟩
   rw [ih.2.2.2]; simp
  ·rename_i ht
   have ht : 0 < d3 a b p := by
    rcases Int.lt_or_le 0 (d3 a b p) with g | g
    ·exact g
    ·exact absurd ((zdo (by omega)).2 g) ht
   refine ⟨⟨⟨e1, e2⟩, e3⟩, hH, fun b' a' r' e => ?_, rfl⟩
   cases e
   exact ht
theorem zln {h : Half} {Q : List Corner} {p : Corner} (hp : p.Den = 1) (hD : ∀ q ∈ Q, q.Den = 1) (hu : ∀ q ∈ Q, ef h q < ef h p) : ∀ st : List Corner, Ed h Q st -> (∀ x ∈ st, x ∈ Q) -> (∀ b a r, st = b :: a :: r -> 0 < d3 a b p) -> Ed h (Q ++ [p]) st
 | [], _, _, _ => trivial
 | [b], _, _, _ => trivial
 | b :: a :: r, he, hm, ht => by
  obtain ⟨⟨e1, e2⟩, e3⟩ := he
  have t := ht b a r rfl
  have mb := hm b (by simp)
  have ma := hm a (by simp)
  refine ⟨⟨e1, fun q hq => ?_⟩, zln hp hD hu (a :: r) e3 (fun x hx => hm x (List.mem_cons_of_mem _ hx)) fun b' z r' e => ?_⟩
  ·rcases List.mem_append.1 hq with hq | hq
   ·exact e2 q hq
   ·obtain rfl := List.mem_singleton.1 hq
    exact ⟨by omega, fun h0 => by omega⟩
  ·obtain ⟨rfl, rfl⟩ := List.cons.inj e
   obtain ⟨⟨f1, f2⟩, _⟩ := e3
   have mz := hm z (by simp)
   obtain ⟨g1, g2⟩ := f2 b mb
   have g3 : 0 < d3 z a b := by
    rcases Int.lt_or_le 0 (d3 z a b) with g | g
    ·exact g
    ·have := g2 (by omega); omega
   exact lemA (hD _ mz) (hD _ ma) (hD _ mb) hp f1 e1 (hu _ ma) g3 t
theorem zef (Q : List Corner) (p : Corner) : chainR (Q ++ [p]) = p :: popR p (chainR Q) := by unfold chainR; rw [List.foldl_append]; rfl
theorem zlD (Q : List Corner) : ∀ x ∈ chainR Q, x ∈ Q := by
 have := (za9 Q Q.length (Nat.le_refl _)).1
 rwa [List.take_length] at this
theorem ziH {h : Half} {S : List Corner} (hS : S.Pairwise fun p q => ef h p < ef h q) (hD : ∀ q ∈ S, q.Den = 1) : ∀ i, i < S.length ->
  Ed h (S.take (i + 1)) (chainR (S.take (i + 1))) /\ (∃ r, chainR (S.take (i + 1)) = S.getD i default :: r) /\ (chainR (S.take (i + 1))).getLast? = some (S.getD 0 default)
 | 0, h0 => by
  have e : chainR (S.take 1) = [S.getD 0 default] := by
   rw [zaz h0 default]
   have : S.take 0 ++ [S.getD 0 default] = [] ++ [S.getD 0 default] := by simp
   rw [this, zef]
   have : chainR [] = [] := by unfold chainR; rfl
   rw [this]; rfl
  rw [e]
  exact ⟨trivial, ⟨[], rfl⟩, rfl⟩
 | i + 1, hi => by
  obtain ⟨i1, ⟨r, i2⟩, i3⟩ := ziH hS hD i (by omega)
  have lt : ∀ j k, j < k -> k < S.length -> ef h (S.getD j default) < ef h (S.getD k default) := fun j k hjk hk => by
   rw [gdI (by omega) default, gdI hk default]
   exact List.pairwise_iff_getElem.1 hS j k (by omega) hk hjk
  have pd : (S.getD (i + 1) default).Den = 1 := hD _ (gd1 hi default)
  have hD' : ∀ q ∈ S.take (i + 1), q.Den = 1 := fun q hq => hD q (List.mem_of_mem_take hq)
  have at_ : ∀ q ∈ S.take (i + 1), ∃ j, j <= i /\ q = S.getD j default := fun q hq => by
   obtain ⟨j, hj, rfl⟩ := List.getElem_of_mem hq
   rw [List.length_take] at hj
   exact ⟨j, by omega, by rw [List.getElem_take, gdI (by omega)]⟩
  have hu : ∀ q ∈ S.take (i + 1), ef h q < ef h (S.getD (i + 1) default) := fun q hq => by
   obtain ⟨j, hj, rfl⟩ := at_ q hq
   exact lt j (i + 1) (by omega) hi
  have hs := zlD (S.take (i + 1))
  obtain ⟨p1, p2, p3, p4⟩ := znX pd hD' hu _ i1 hs fun b r' e q hq hle => by
   rw [i2] at e
   obtain ⟨rfl, _⟩ := List.cons.inj e
   obtain ⟨j, hj, rfl⟩ := at_ q hq
   have : j = i := by
    rcases Nat.lt_or_ge j i with g | g
    ·have := lt j i g (by omega); omega
    ·omega
   subst this
   rw [zlu]; omega
  rw [zaz hi default, zef]
  have hne : popR (S.getD (i + 1) default) (chainR (S.take (i + 1))) ≠ [] := zhc _ _ (by rw [i2]; simp)
  have hsub : ∀ x ∈ popR (S.getD (i + 1) default) (chainR (S.take (i + 1))), x ∈ S.take (i + 1) := fun x hx => hs x (zfr _ _ x hx)
  have pe := zln pd hD' hu _ p1 hsub p3
  have pl : (popR (S.getD (i + 1) default) (chainR (S.take (i + 1)))).getLast? = some (S.getD 0 default) := by rw [p4, i3]
  generalize popR (S.getD (i + 1) default) (chainR (S.take (i + 1))) = st at *
  match st, hne with
  | t :: r'', _ =>
   have mt := hsub t (by simp)
   refine ⟨⟨⟨hu t mt, fun q hq => ?_⟩, pe⟩, ⟨_, rfl⟩, by rw [<- pl]; simp⟩
   rcases List.mem_append.1 hq with hq | hq
   ·rcases Int.lt_or_le (ef h q) (ef h t) with g | g
    ·match r'' with
     | [] =>
      exfalso
      have pl : t = S.getD 0 default := Option.some.inj pl
      obtain ⟨j, hj, rfl⟩ := at_ q hq
      rw [pl] at g
      rcases Nat.eq_zero_or_pos j with h0 | h0
      ·subst h0; omega
      ·have := lt 0 j h0 (by omega); omega
     | s :: r3 =>
      obtain ⟨⟨f1, f2⟩, _⟩ := p1
      have ms := hsub s (by simp)
      have := lemD (hD' _ ms) (hD' _ mt) pd (hD' _ hq) f1 (hu _ mt) g (p3 t s r3 rfl) (f2 q hq).1
      exact ⟨by omega, fun h0 => by omega⟩
    ·exact ⟨p2 t r'' rfl q hq g, fun _ => ⟨g, by have := hu q hq; omega⟩⟩
   ·obtain rfl := List.mem_singleton.1 hq
    rw [zlt]
    exact ⟨Int.le_refl _, fun _ => ⟨by have := hu t mt; omega, Int.le_refl _⟩⟩
theorem ziB {h : Half} {Q : List Corner} : ∀ {st : List Corner}, Ed h Q st -> ∀ j, j + 1 < st.length -> Eg h Q (st.getD (j + 1) default) (st.getD j default)
 | [], _, j, hj => absurd hj (by simp)
 | [b], _, j, hj => absurd hj (by simp)
 | b :: a :: r, he, 0, _ => he.1
 | b :: a :: r, he, j + 1, hj => by
  have := ziB (st := a :: r) he.2 j (by simpa using hj)
  simpa using this
theorem zhx {h : Half} {Q st : List Corner} (he : Ed h Q st) : ∀ k j, j < k -> k < st.length -> ef h (st.getD k default) < ef h (st.getD j default)
 | 0, j, hj, _ => absurd hj (by omega)
 | k + 1, j, hj, hk => by
  have e := (ziB he k hk).1
  rcases Nat.lt_or_ge j k with g | g
  ·have := zhx he k j g (by omega); omega
  ·obtain rfl : j = k := by omega
   exact e
theorem zhZ {st : List Corner} {i : Nat} (hi : i + 1 < st.length) : st.tail.reverse.getD i default = st.getD (st.length - 1 - i) default := by
 have hl : st.tail.length = st.length - 1 := List.length_tail
 rw [gdI (by rw [List.length_reverse]; omega), gdI (show st.length - 1 - i < st.length by omega), List.getElem_reverse, List.getElem_tail]
 congr 1
 omega
theorem zmS {st : List Corner} {x : Corner} (h : st.getLast? = some x) : st.getD (st.length - 1) default = x := by
 rw [List.getLast?_eq_getElem?] at h
 rw [gdq, h]; rfl
theorem zgI {h : Half} {S : List Corner} (hS : S.Pairwise fun p q => ef h p < ef h q) (hD : ∀ q ∈ S, q.Den = 1) (h2 : 2 <= S.length) :
  Ed h S (chainR S) /\ (chainR S).getD 0 default = S.getD (S.length - 1) default /\ (chainR S).getD ((chainR S).length - 1) default = S.getD 0 default /\ 2 <= (chainR S).length := by
 have c := ziH hS hD (S.length - 1) (by omega)
 rw [show S.length - 1 + 1 = S.length by omega, List.take_length] at c
 obtain ⟨c1, ⟨r, c2⟩, c3⟩ := c
 have t := zcY S S.length (Nat.le_refl _)
 rw [List.take_length] at t
 exact ⟨c1, by rw [c2]; rfl, zmS c3, by omega⟩
theorem zmn {h : Half} {S : List Corner} (hS : S.Pairwise fun p q => ef h p < ef h q) : S.reverse.Pairwise fun p q => ef (negH h) p < ef (negH h) q := by
 rw [List.pairwise_reverse]
 refine hS.imp fun hh => ?_
 rw [za1, za1]; omega
structure Cyc (h : Half) (S c : List Corner) : Prop where
  two : 2 <= c.length
  first : c.getD 0 default = S.getD 0 default
  edge : ∀ i, i < c.length -> Eg h S (c.getD i default) (c.getD ((i + 1) % c.length) default) \/ Eg (negH h) S (c.getD i default) (c.getD ((i + 1) % c.length) default)
  far : ∀ i, 0 < i -> i < c.length -> ef h (c.getD 0 default) < ef h (c.getD i default)
theorem zdt {h : Half} {S : List Corner} (hS : S.Pairwise fun p q => ef h p < ef h q) (hD : ∀ q ∈ S, q.Den = 1) (h2 : 2 <= S.length) : Cyc h S (hullL S) := by
 unfold hullL
 split
 ·rename_i h3
  match S, h2, h3 with
  | [p, q], _, _ =>
   have lt : ef h p < ef h q := by
    have := List.pairwise_cons.1 hS
    exact this.1 q (by simp)
   refine ⟨Nat.le_refl _, rfl, fun i hi => ?_, fun i h0 hi => ?_⟩
   ·match i, hi with
    | 0, _ =>
     left
     refine ⟨lt, fun r hr => ?_⟩
     simp only [List.mem_cons, List.not_mem_nil, or_false] at hr
     rcases hr with rfl | rfl
     ·show 0 <= d3 r q r /\ (d3 r q r = 0 -> ef h r <= ef h r /\ ef h r <= ef h q)
      rw [zlu]; omega
     ·show 0 <= d3 p r r /\ (d3 p r r = 0 -> ef h p <= ef h r /\ ef h r <= ef h r)
      rw [zlt]; omega
    | 1, _ =>
     right
     rw [show (1 + 1) % [p, q].length = 0 from Nat.mod_self 2]
     refine ⟨(by show ef (negH h) q < ef (negH h) p; rw [za1, za1]; omega), fun r hr => ?_⟩
     simp only [List.mem_cons, List.not_mem_nil, or_false] at hr
     rcases hr with rfl | rfl
     ·show 0 <= d3 q r r /\ (d3 q r r = 0 -> ef (negH h) q <= ef (negH h) r /\ ef (negH h) r <= ef (negH h) r)
      rw [zlt, za1, za1]; omega
     ·show 0 <= d3 r p r /\ (d3 r p r = 0 -> ef (negH h) r <= ef (negH h) r /\ ef (negH h) r <= ef (negH h) p)
      rw [zlu, za1, za1]; omega
   ·match i, h0, hi with
    | 1, _, _ => exact lt
 ·rename_i h3
  obtain ⟨a1, a2, a3, a4⟩ := zgI hS hD h2
  obtain ⟨b1, b2, b3, b4⟩ := zgI (zmn hS) (fun q hq => hD q (List.mem_reverse.1 hq)) (by rw [List.length_reverse]; exact h2)
  have e0 : S.reverse.getD 0 default = S.getD (S.length - 1) default := by
   rw [gdI (by rw [List.length_reverse]; omega), gdI (by omega), List.getElem_reverse]; simp
  have e1 : S.reverse.getD (S.reverse.length - 1) default = S.getD 0 default := by
   rw [gdI (by rw [List.length_reverse]; omega), gdI (by omega), List.getElem_reverse]
   congr 1; rw [List.length_reverse]; omega
  rw [e1] at b2
  rw [e0] at b3
  unfold halfL
  have lA : (chainR S).tail.reverse.length = (chainR S).length - 1 := by rw [List.length_reverse, List.length_tail]
  have lB : (chainR S.reverse).tail.reverse.length = (chainR S.reverse).length - 1 := by rw [List.length_reverse, List.length_tail]
  have gA : ∀ i, i + 1 < (chainR S).length -> ((chainR S).tail.reverse ++ (chainR S.reverse).tail.reverse).getD i default = (chainR S).getD ((chainR S).length - 1 - i) default := fun i hi => by
   rw [gdq, List.getElem?_append_left (by omega), <- gdq, zhZ hi]
  have gB : ∀ i, (chainR S).length - 1 <= i -> i + 2 < (chainR S).length + (chainR S.reverse).length -> ((chainR S).tail.reverse ++ (chainR S.reverse).tail.reverse).getD i default = (chainR S.reverse).getD ((chainR S.reverse).length - 1 - (i - ((chainR S).length - 1))) default := fun i h1 hi => by
   rw [gdq, List.getElem?_append_right (by omega), <- gdq, lA, zhZ (by omega)]
  have edB : ∀ {a b : Corner}, Eg (negH h) S.reverse a b -> Eg (negH h) S a b := fun e => ⟨e.1, fun q hq => e.2 q (List.mem_reverse.2 hq)⟩
  have ln : ((chainR S).tail.reverse ++ (chainR S.reverse).tail.reverse).length = (chainR S).length - 1 + ((chainR S.reverse).length - 1) := by rw [List.length_append, lA, lB]
  generalize ((chainR S).tail.reverse ++ (chainR S.reverse).tail.reverse) = c at *
  generalize chainR S = st1 at *
  generalize chainR S.reverse = st2 at *
  have g0 : c.getD 0 default = S.getD 0 default := by rw [gA 0 (by omega), Nat.sub_zero, a3]
  refine ⟨by omega, g0, fun i hi => ?_, fun i h0 hi => ?_⟩
  ·rcases Nat.lt_or_ge i (st1.length - 1) with g | g
   ·left
    rw [Nat.mod_eq_of_lt (show i + 1 < c.length by omega), gA i (by omega)]
    have e := ziB a1 (st1.length - 2 - i) (by omega)
    rw [show st1.length - 2 - i + 1 = st1.length - 1 - i by omega] at e
    rcases Nat.lt_or_ge (i + 1) (st1.length - 1) with g2 | g2
    ·rw [gA (i + 1) (by omega), show st1.length - 1 - (i + 1) = st1.length - 2 - i by omega]
     exact e
    ·rw [gB (i + 1) (by omega) (by omega), show st2.length - 1 - (i + 1 - (st1.length - 1)) = st2.length - 1 by omega, b3, <- a2]
     rwa [show st1.length - 2 - i = 0 by omega] at e
   ·right
    rw [gB i g (by omega)]
    have e := ziB b1 (st2.length - 2 - (i - (st1.length - 1))) (by omega)
    rw [show st2.length - 2 - (i - (st1.length - 1)) + 1 = st2.length - 1 - (i - (st1.length - 1)) by omega] at e
    rcases Nat.lt_or_ge (i + 1) c.length with g2 | g2
    ·rw [Nat.mod_eq_of_lt g2, gB (i + 1) (by omega) (by omega), show st2.length - 1 - (i + 1 - (st1.length - 1)) = st2.length - 2 - (i - (st1.length - 1)) by omega]
     exact edB e
    ·rw [show i + 1 = c.length by omega, Nat.mod_self, g0, <- b2]
     rw [show st2.length - 2 - (i - (st1.length - 1)) = 0 by omega] at e
     exact edB e
  ·rw [g0]
   rcases Nat.lt_or_ge i (st1.length - 1) with g | g
   ·rw [gA i (by omega), <- a3]
    exact zhx a1 _ _ (by omega) (by omega)
   ·rw [gB i g (by omega), <- b2]
    have := zhx b1 (st2.length - 1 - (i - (st1.length - 1))) 0 (by omega) (by omega)
    rw [za1, za1] at this
    omega
theorem msq (a : Int) : 0 <= a * a := by
 rcases Int.le_total 0 a with g | g
 ·exact Int.mul_nonneg g g
 ·exact Int.mul_nonneg_of_nonpos_of_nonpos g g
def co (p : Place) : Corner := ⟨p.X, p.Y, 1⟩
theorem zrm {p q : Place} (h : co p = co q) : p = q := by
 unfold co at h
 cases p; cases q; simp at h; rw [h.1, h.2]
theorem zkA {p : Place} (h : on p = true) : ofP p = co p := by unfold ofP co; rw [if_pos h]
def crP (p q r : Place) : Int := (edgeL p q).A * r.X + (edgeL p q).B * r.Y - (edgeL p q).C
def onL (p q r : Place) : Int := (r.X - p.X) * (q.X - p.X) + (r.Y - p.Y) * (q.Y - p.Y)
def mostL (p q : Place) : Int := (q.X - p.X) * (q.X - p.X) + (q.Y - p.Y) * (q.Y - p.Y)
theorem zoh (p q r : Place) : crP p q r = -d3 (co p) (co q) (co r) := by unfold crP edgeL d3 co; grind
def outBh (p q r : Place) : Bool := !(decide (0 < crP p q r) || (crP p q r == 0 && !within (onL p q r) 0 (mostL p q)))
def outerL (l : List Place) (p q : Place) : Bool := l.all (outBh p q) && decide (p ≠ q)
theorem zih {p q r : Place} : outBh p q r = true ↔ crP p q r <= 0 /\ (crP p q r = 0 -> 0 <= onL p q r /\ onL p q r <= mostL p q) := by
 unfold outBh
 simp only [Bool.not_eq_true', Bool.or_eq_false_iff, decide_eq_false_iff_not, Bool.and_eq_false_imp, beq_iff_eq, Bool.not_eq_false', zab]
 constructor
 ·rintro ⟨h1, h2⟩; exact ⟨by omega, h2⟩
 ·rintro ⟨h1, h2⟩; exact ⟨by omega, h2⟩
theorem zaT {l : List Place} {p q : Place} : outerL l p q = true ↔ (∀ r ∈ l, crP p q r <= 0 /\ (crP p q r = 0 -> 0 <= onL p q r /\ onL p q r <= mostL p q)) /\ p ≠ q := by
 unfold outerL
 rw [Bool.and_eq_true, List.all_eq_true, decide_eq_true_iff]
 constructor
 ·rintro ⟨h1, h2⟩; exact ⟨fun r hr => zih.1 (h1 r hr), h2⟩
 ·rintro ⟨h1, h2⟩; exact ⟨fun r hr => zih.2 (h1 r hr), h2⟩
theorem zoc {h : Half} {S : List Corner} {l : List Place} {p q : Place} (hl : ∀ r ∈ l, co r ∈ S) (e : Eg h S (co p) (co q)) : outerL l p q = true := by
 rw [zaT]
 obtain ⟨e1, e2⟩ := e
 refine ⟨fun r hr => ?_, fun hpq => by rw [hpq] at e1; omega⟩
 obtain ⟨f1, f2⟩ := e2 _ (hl r hr)
 rw [zoh]
 refine ⟨by omega, fun h0 => ?_⟩
 have h0 : d3 (co p) (co q) (co r) = 0 := by omega
 obtain ⟨g1, g2⟩ := f2 h0
 have u1 : 0 < h.A * (q.X - p.X) + h.B * (q.Y - p.Y) := by unfold ef co at e1; simp only [Int.mul_one] at e1; grind
 have u2 : 0 <= h.A * (r.X - p.X) + h.B * (r.Y - p.Y) := by unfold ef co at g1; simp only [Int.mul_one] at g1; grind
 have u3 : 0 <= h.A * (q.X - p.X) + h.B * (q.Y - p.Y) - (h.A * (r.X - p.X) + h.B * (r.Y - p.Y)) := by unfold ef co at g2; simp only [Int.mul_one] at g2; grind
 have z : (q.X - p.X) * (r.Y - p.Y) = (q.Y - p.Y) * (r.X - p.X) := by unfold d3 co at h0; simp only [Int.mul_one] at h0; grind
 have key : onL p q r * (h.A * (q.X - p.X) + h.B * (q.Y - p.Y)) = mostL p q * (h.A * (r.X - p.X) + h.B * (r.Y - p.Y)) := by
  unfold onL mostL
  generalize q.X - p.X = dx at *
  generalize q.Y - p.Y = dy at *
  generalize r.X - p.X = rx at *
  generalize r.Y - p.Y = ry at *
  grind
 have m0 : 0 <= mostL p q := by
  unfold mostL
  have a := msq (q.X - p.X)
  have b := msq (q.Y - p.Y)
  omega
 generalize h.A * (q.X - p.X) + h.B * (q.Y - p.Y) = Uh at *
 generalize h.A * (r.X - p.X) + h.B * (r.Y - p.Y) = V at *
 constructor
 ·rcases Int.lt_or_le (onL p q r) 0 with g | g
  ·have a := Int.mul_neg_of_neg_of_pos g u1
   have b := Int.mul_nonneg m0 u2
   omega
  ·exact g
 ·rcases Int.lt_or_le (mostL p q) (onL p q r) with g | g
  ·have a := Int.mul_pos (show 0 < onL p q r - mostL p q by omega) u1
   have b := Int.mul_nonneg m0 u3
   rw [Int.sub_mul] at a
   rw [Int.mul_sub] at b
   omega
  ·exact g
theorem sqz {a : Int} (h : a * a <= 0) : a = 0 := by
 have := msq a
 have : a * a = 0 := by omega
 rcases Int.mul_eq_zero.1 this with e | e <;> exact e
theorem zmD {l : List Place} {p q q' : Place} (hq : q ∈ l) (hq' : q' ∈ l) (h1 : outerL l p q = true) (h2 : outerL l p q' = true) : q = q' := by
 rw [zaT] at h1 h2
 obtain ⟨a1, a2⟩ := h1.1 q' hq'
 obtain ⟨b1, b2⟩ := h2.1 q hq
 have sw : crP p q' q = -crP p q q' := by unfold crP edgeL; grind
 have z1 : crP p q q' = 0 := by omega
 obtain ⟨c1, c2⟩ := a2 z1
 obtain ⟨c3, c4⟩ := b2 (by omega)
 have pq := h1.2
 have pq' := h2.2
 have zz : (q.X - p.X) * (q'.Y - p.Y) = (q.Y - p.Y) * (q'.X - p.X) := by unfold crP edgeL at z1; grind
 have pos : ∀ r : Place, p ≠ r -> 0 < mostL p r := fun r hr => by
  unfold mostL
  have a := msq (r.X - p.X)
  have b := msq (r.Y - p.Y)
  rcases Int.lt_or_le 0 ((r.X - p.X) * (r.X - p.X) + (r.Y - p.Y) * (r.Y - p.Y)) with g | g
  ·exact g
  ·exfalso
   have x := sqz (a := r.X - p.X) (by omega)
   have y := sqz (a := r.Y - p.Y) (by omega)
   apply hr
   cases p; cases r; simp at x y ⊢; omega
 have p1 := pos q pq
 have p2 := pos q' pq'
 have cm : onL p q' q = onL p q q' := by unfold onL; grind
 rw [cm] at c3 c4
 have key : onL p q q' * onL p q q' = mostL p q * mostL p q' := by
  unfold onL mostL
  generalize q.X - p.X = dx at *
  generalize q.Y - p.Y = dy at *
  generalize q'.X - p.X = rx at *
  generalize q'.Y - p.Y = ry at *
  grind
 have dist : (q'.X - q.X) * (q'.X - q.X) + (q'.Y - q.Y) * (q'.Y - q.Y) = mostL p q + mostL p q' - 2 * onL p q q' := by unfold mostL onL; grind
 generalize onL p q q' = s at *
 generalize mostL p q = a at *
 generalize mostL p q' = b at *
 have sb : s = b := by
  rcases Int.lt_or_le s b with g | g
  ·exfalso
   have t1 : s * s <= a * s := Int.mul_le_mul_of_nonneg_right c2 (by omega)
   have t2 : a * s < a * b := Int.mul_lt_mul_of_pos_left g p1
   omega
  ·omega
 subst sb
 have ab : s = a := Int.eq_of_mul_eq_mul_right (by omega) key
 have d0 : (q'.X - q.X) * (q'.X - q.X) + (q'.Y - q.Y) * (q'.Y - q.Y) = 0 := by omega
 have n1 := msq (q'.X - q.X)
 have n2 := msq (q'.Y - q.Y)
 have x := sqz (a := q'.X - q.X) (by omega)
 have y := sqz (a := q'.Y - q.Y) (by omega)
 cases q; cases q'; simp at x y ⊢; omega
@[irreducible] def sortP (l : List Place) : List Corner := compL ((sortV (ptsO l l.length)).map fun p : VC => p.1)
theorem zck (l : List Place) : cycL l = hullL (sortP l) := by unfold cycL sortP; rfl
def hO : Half := ⟨64, 1, 0⟩
theorem zkz {p : Place} (h : on p = true) : (ofV p).1 = co p := by rw [zn1 h]; exact zkA h
theorem zaV {l : List Place} (hl : ∀ p ∈ l, on p = true) (q : Corner) : q ∈ sortP l ↔ ∃ p ∈ l, q = co p := by
 unfold sortP
 rw [zgG, List.mem_map]
 constructor
 ·rintro ⟨v, hv, rfl⟩
  rw [zct] at hv
  unfold ptsO at hv
  rw [List.take_length] at hv
  obtain ⟨p, hp, rfl⟩ := List.mem_map.1 hv
  exact ⟨p, hp, zkz (hl p hp)⟩
 ·rintro ⟨p, hp, rfl⟩
  refine ⟨ofV p, ?_, zkz (hl p hp)⟩
  rw [zct]
  unfold ptsO
  rw [List.take_length]
  exact List.mem_map.2 ⟨p, hp, rfl⟩
theorem zdq {l : List Place} (hl : ∀ p ∈ l, on p = true) : (sortP l).Pairwise fun p q => ef hO p < ef hO q := by
 have st : (sortP l).Pairwise ltC := by
  unfold sortP
  refine zdh (fun q hq => ?_) (by rw [List.pairwise_map]; exact zh0 _)
  obtain ⟨p, _, rfl⟩ := List.mem_map.1 hq
  exact p.2
 refine List.Pairwise.imp_of_mem (fun {a b} ha hb h => ?_) st
 obtain ⟨p, hp, rfl⟩ := (zaV hl a).1 ha
 obtain ⟨q, hq, rfl⟩ := (zaV hl b).1 hb
 have bp := zfv (hl p hp)
 have bq := zfv (hl q hq)
 unfold ltC co at h
 unfold ef hO co
 simp only [Int.mul_one] at h ⊢
 show 64 * p.X + 1 * p.Y - 0 < 64 * q.X + 1 * q.Y - 0
 omega
theorem zcu {l : List Place} (hl : ∀ p ∈ l, on p = true) : ∀ q ∈ sortP l, q.Den = 1 := fun q hq => by
 obtain ⟨p, _, rfl⟩ := (zaV hl q).1 hq
 rfl
theorem zrl {l : List Place} (hl : ∀ p ∈ l, on p = true) {i : Nat} (hi : i < (cycL l).length) : ∃ p ∈ l, (cycL l).getD i default = co p := by
 have m : (cycL l).getD i default ∈ cycL l := gd1 hi default
 rw [zck] at m
 have := zgr m
 rw [<- zck] at this
 exact (zaV hl _).1 this
theorem zaL {l : List Place} (hl : ∀ p ∈ l, on p = true) (h0 : 0 < (cycL l).length) (i : Nat) : (cycL l).getD (i % (cycL l).length) default = co (atP (cycL l) i) /\ atP (cycL l) i ∈ l := by
 obtain ⟨p, hp, e⟩ := zrl hl (Nat.mod_lt i h0)
 have : atP (cycL l) i = p := by unfold atP; rw [e]; rfl
 rw [this, e]
 exact ⟨rfl, hp⟩
theorem zc3 (c : List Corner) (i : Nat) : atP c (i % c.length) = atP c i := by unfold atP; rw [Nat.mod_mod]
theorem zbC {l : List Place} (hl : ∀ p ∈ l, on p = true) (h2 : 2 <= (sortP l).length) (i : Nat) : outerL l (atP (cycL l) i) (atP (cycL l) (i + 1)) = true := by
 have C := zdt (zdq hl) (zcu hl) h2
 rw [<- zck] at C
 have h0 : 0 < (cycL l).length := by have := C.two; omega
 have e := C.edge (i % (cycL l).length) (Nat.mod_lt _ h0)
 obtain ⟨e1, _⟩ := zaL hl h0 i
 obtain ⟨e2, _⟩ := zaL hl h0 (i + 1)
 rw [e1, Nat.mod_add_mod, e2] at e
 have hs : ∀ r ∈ l, co r ∈ sortP l := fun r hr => (zaV hl _).2 ⟨r, hr, rfl⟩
 rcases e with e | e
 ·exact zoc hs e
 ·exact zoc hs e
theorem zpM {l : List Place} (hl : ∀ p ∈ l, on p = true) (h2 : 2 <= (sortP l).length) {i : Nat} (h0 : 0 < i) (hi : i < (cycL l).length) : atP (cycL l) i ≠ atP (cycL l) 0 := fun he => by
 have C := zdt (zdq hl) (zcu hl) h2
 rw [<- zck] at C
 have f := C.far i h0 hi
 obtain ⟨e1, _⟩ := zaL hl (by omega) i
 obtain ⟨e2, _⟩ := zaL hl (by omega) 0
 rw [Nat.mod_eq_of_lt hi] at e1
 rw [Nat.zero_mod] at e2
 rw [e1, e2, he] at f
 omega
theorem zhA {l : List Place} (hl : ∀ p ∈ l, on p = true) (h2 : 2 <= (sortP l).length) : 2 <= (cycL l).length := by
 have C := zdt (zdq hl) (zcu hl) h2
 rw [<- zck] at C
 exact C.two
theorem zpL {l : List Place} (hl : ∀ p ∈ l, on p = true) (h0 : l ≠ []) (h2 : (sortP l).length < 2) : (cycL l).length = 1 /\ ∀ r ∈ l, r = atP (cycL l) 0 := by
 obtain ⟨x, hx⟩ := List.exists_mem_of_ne_nil _ h0
 have sl : 0 < (sortP l).length := List.length_pos_of_mem ((zaV hl _).2 ⟨x, hx, rfl⟩)
 have e : cycL l = sortP l := by rw [zck]; unfold hullL; rw [if_pos (by omega)]
 have l1 : (sortP l).length = 1 := by omega
 refine ⟨by rw [e]; exact l1, fun r hr => ?_⟩
 obtain ⟨e1, _⟩ := zaL hl (by rw [e]; omega) 0
 rw [Nat.zero_mod] at e1
 obtain ⟨j, hj, ej⟩ := List.getElem_of_mem ((zaV hl _).2 ⟨r, hr, rfl⟩)
 obtain rfl : j = 0 := by omega
 have : (cycL l).getD 0 default = (sortP l).getD 0 default := by rw [e]
 rw [this, gdI hj, ej] at e1
 exact zrm e1
def sepStep (l m : List Half) (p : Half × Half) (u : Use) : Half × Half :=
 if (l.length : Int) <= u.H then (p.1, plusH p.2 u.T (m.getD (u.H - l.length).toNat default))
 else if 0 <= u.H then (plusH p.1 u.T (l.getD u.H.toNat default), p.2) else p
structure SmallH (i : Nat) (h : Half) : Prop where
  a : -(2000000000 * i : Int) <= h.A /\ h.A <= 2000000000 * i
  b : -(2000000000 * i : Int) <= h.B /\ h.B <= 2000000000 * i
  c : -(524288000000 * i : Int) <= h.C /\ h.C <= 524288000000 * i
theorem SmallH.up {i : Nat} {h : Half} (s : SmallH i h) : SmallH (i + 1) h := ⟨by have := s.a; omega, by have := s.b; omega, by have := s.c; omega⟩
theorem zo0 {t : Int} {h : Half} (ht : 0 < t /\ t <= 2000000) (hh : okH h) : (-2000000000 <= t * h.A /\ t * h.A <= 2000000000) /\ (-2000000000 <= t * h.B /\ t * h.B <= 2000000000) /\ (-524288000000 <= t * h.C /\ t * h.C <= 524288000000) := by
 have q : -2000000 <= t /\ t <= 2000000 := by omega
 exact ⟨mulB q hh.a, mulB q hh.b, mulB q hh.c⟩
theorem SmallH.plus {i : Nat} {a h : Half} {t : Int} (s : SmallH i a) (ht : 0 < t /\ t <= 2000000) (hh : okH h) : SmallH (i + 1) (plusH a t h) := by
 obtain ⟨b1, b2, b3⟩ := zo0 ht hh
 have := s.a; have := s.b; have := s.c
 exact ⟨(by show _ <= a.A + t * h.A /\ a.A + t * h.A <= _; omega), (by show _ <= a.B + t * h.B /\ a.B + t * h.B <= _; omega), (by show _ <= a.C + t * h.C /\ a.C + t * h.C <= _; omega)⟩
structure SepInv (l m : List Half) (i : Nat) (p : Half × Half) (s : Half) : Prop where
  one : SmallH i p.1
  two : SmallH i p.2
  h1 : ∀ q, 0 < q.Den -> Fe (hsL l) q -> ef p.1 q <= 0
  h2 : ∀ q, 0 < q.Den -> Fe (hsL m) q -> ef p.2 q <= 0
  rest : max 0 (s.A - p.1.A - p.2.A) * 48 + max 0 (s.B - p.1.B - p.2.B) * 48 <= s.C - p.1.C - p.2.C
theorem sides_get {n : Int} (h1 : -4 <= n) (h2 : n < 0) : (n = -1 /\ sidesL.getD (-1 - n).toNat default = ⟨-1, 0, 0⟩) \/ (n = -2 /\ sidesL.getD (-1 - n).toNat default = ⟨1, 0, 48⟩) \/ (n = -3 /\ sidesL.getD (-1 - n).toNat default = ⟨0, -1, 0⟩) \/ (n = -4 /\ sidesL.getD (-1 - n).toNat default = ⟨0, 1, 48⟩) := by
 obtain rfl | rfl | rfl | rfl : n = -1 \/ n = -2 \/ n = -3 \/ n = -4 := by omega
 ·exact .inl ⟨rfl, rfl⟩
 ·exact .inr (.inl ⟨rfl, rfl⟩)
 ·exact .inr (.inr (.inl ⟨rfl, rfl⟩))
 ·exact .inr (.inr (.inr ⟨rfl, rfl⟩))
theorem zl3 (l m : List Half) {n : Int} (h1 : 0 <= n) (h2 : n < l.length) : useH (l ++ m) n = l.getD n.toNat default := by
 unfold useH
 rw [if_neg (by omega), gdq, List.getElem?_append_left (by omega), <- gdq]
theorem zjF (l m : List Half) {n : Int} (h1 : l.length <= n) : useH (l ++ m) n = m.getD (n - l.length).toNat default := by
 unfold useH
 rw [if_neg (by omega), gdq, List.getElem?_append_right (by omega), <- gdq]
 congr 1; omega
theorem SepInv.step {l m : List Half} (hl : ∀ x ∈ l, okH x) (hm : ∀ x ∈ m, okH x) {i : Nat} {p : Half × Half} {s : Half} (I : SepInv l m i p s) {u : Use} (hu : (-4 <= u.H /\ u.H < (l ++ m).length) /\ 0 < u.T /\ u.T <= 2000000) :
  SepInv l m (i + 1) (sepStep l m p u) (plusH s u.T (useH (l ++ m) u.H)) := by
 obtain ⟨⟨u1, u2⟩, u3⟩ := hu
 rw [List.length_append] at u2
 have r := I.rest
 unfold sepStep
 by_cases c1 : (l.length : Int) <= u.H
 ·rw [if_pos c1, zjF l m c1]
  have hmem := gd1 (show (u.H - l.length).toNat < m.length by omega) (default : Half)
  generalize m.getD (u.H - l.length).toNat default = h at *
  refine ⟨I.one.up, I.two.plus u3 (hm h hmem), I.h1, fun q hD hq => ?_, ?_⟩
  ·have a1 := I.h2 q hD hq
   have a2 := Int.mul_nonpos_of_nonneg_of_nonpos (Int.le_of_lt u3.1) (hq h (List.mem_append_left _ hmem))
   rw [zlk]; omega
  ·show max 0 (s.A + u.T * h.A - p.1.A - (p.2.A + u.T * h.A)) * 48 + max 0 (s.B + u.T * h.B - p.1.B - (p.2.B + u.T * h.B)) * 48 <= s.C + u.T * h.C - p.1.C - (p.2.C + u.T * h.C)
   omega
 ·rw [if_neg c1]
  by_cases c2 : 0 <= u.H
  ·rw [if_pos c2, zl3 l m c2 (by omega)]
   have hmem := gd1 (show u.H.toNat < l.length by omega) (default : Half)
   generalize l.getD u.H.toNat default = h at *
   refine ⟨I.one.plus u3 (hl h hmem), I.two.up, fun q hD hq => ?_, I.h2, ?_⟩
   ·have a1 := I.h1 q hD hq
    have a2 := Int.mul_nonpos_of_nonneg_of_nonpos (Int.le_of_lt u3.1) (hq h (List.mem_append_left _ hmem))
    rw [zlk]; omega
   ·show max 0 (s.A + u.T * h.A - (p.1.A + u.T * h.A) - p.2.A) * 48 + max 0 (s.B + u.T * h.B - (p.1.B + u.T * h.B) - p.2.B) * 48 <= s.C + u.T * h.C - (p.1.C + u.T * h.C) - p.2.C
    omega
  ·rw [if_neg c2]
   have e : useH (l ++ m) u.H = sidesL.getD (-1 - u.H).toNat default := by unfold useH; rw [if_pos (by omega)]
   rw [e]
   refine ⟨I.one.up, I.two.up, I.h1, I.h2, ?_⟩
   rcases sides_get u1 (by omega) with ⟨_, h⟩ | ⟨_, h⟩ | ⟨_, h⟩ | ⟨_, h⟩ <;> rw [h] <;> simp only [plusH] <;> omega
theorem zpD {p q : Place} (hp : on p = true) (hq : on q = true) : (-48 <= (edgeL p q).A /\ (edgeL p q).A <= 48) /\ (-48 <= (edgeL p q).B /\ (edgeL p q).B <= 48) /\ (-4608 <= (edgeL p q).C /\ (edgeL p q).C <= 4608) := by
 have bp := zfv hp
 have bq := zfv hq
 have m1 := mulB (a := q.Y - p.Y) (b := p.X) (x := 48) (y := 48) (by omega) (by omega)
 have m2 := mulB (a := p.X - q.X) (b := p.Y) (x := 48) (y := 48) (by omega) (by omega)
 unfold edgeL
 exact ⟨(show -48 <= q.Y - p.Y /\ q.Y - p.Y <= 48 by omega), (show -48 <= p.X - q.X /\ p.X - q.X <= 48 by omega), (show -4608 <= (q.Y - p.Y) * p.X + (p.X - q.X) * p.Y /\ (q.Y - p.Y) * p.X + (p.X - q.X) * p.Y <= 4608 by omega)⟩
def hulR (s : Svc) (b : Brn) (l : List Rpt) : List Half × Int := if (plcR s b l).2 ≠ 0 then ([], (plcR s b l).2) else if (plcR s b l).1.length = 0 then ([], 9) else hullE (plcR s b l).1
theorem zqW (s : Svc) (b : Brn) (l : List Rpt) : Spec PP 12 [s.v, b.v, .d (lR l)] [slH (hulR s b l).1, N (hulR s b l).2] := by
 refine sA Tryz.func12 ?_
 refine CallSt.ro (zcE s b l) rfl rfl ?_
 apply bY <;> intro h0
 ·have e : hulR s b l = ([], (plcR s b l).2) := by unfold hulR; rw [if_pos (by simpa using h0)]
  rw [e]
  exact ⟨⟨_, _, _, _, rfl, rfl, .inl rfl⟩, rtI rfl rfl, trivial⟩
 have h0 : (plcR s b l).2 = 0 := by simpa using h0
 apply bY <;> intro h1
 ·have h1 : (plcR s b l).1.length = 0 := by simpa using h1
  have e : hulR s b l = ([], 9) := by unfold hulR; rw [if_neg (fun h => h h0), if_pos h1]
  rw [e]
  exact ⟨⟨_, _, _, _, rfl, rfl, .inl rfl⟩, rtI rfl rfl, trivial⟩
 have h1 : (plcR s b l).1.length ≠ 0 := by
  have : ¬ ((plcR s b l).1.length : Int) = 0 := by simpa using h1
  omega
 have e : hulR s b l = hullE (plcR s b l).1 := by unfold hulR; rw [if_neg (fun h => h h0), if_neg h1]
 rw [e]
 refine CallSt.ro (zqy (plcR s b l).1 (by have := zfs s b l; omega)) rfl rfl ?_
 exact ⟨dE _, rtI rfl rfl, trivial⟩
theorem ziv (s : Svc) (b : Brn) (l : List Rpt) : (plcR s b l).2 = givE s b l := by
 unfold plcR
 split
 ·rfl
 ·rename_i h; exact (Classical.byContradiction h).symm
theorem zk8 {s : Svc} {b : Brn} {l : List Rpt} : givE s b l = 0 ↔ svcE s = 0 /\ brnB b = true /\ l.length <= 24 /\ (∀ r ∈ l, rptE s r = 0) /\ (l.map Rpt.ID).Nodup := by
 have hnd : (l.map Rpt.ID).Nodup ↔ ∀ i j, i < j -> j < l.length -> (l.getD i default).ID ≠ (l.getD j default).ID := by
  unfold List.Nodup
  rw [List.pairwise_map]
  exact zhe (r := fun a b : Rpt => a.ID ≠ b.ID)
 have hc : ∀ i, i < l.length -> (((l.take i).map Rpt.ID).contains (l.getD i default).ID = false ↔ ∀ j, j < i -> (l.getD j default).ID ≠ (l.getD i default).ID) := fun i hi => by
  constructor
  ·intro h j hj e
   rw [(zk0 (Nat.le_of_lt hi) _).2 ⟨j, hj, e⟩] at h; cases h
  ·intro h
   cases hh : ((l.take i).map Rpt.ID).contains (l.getD i default).ID with
   | false => rfl
   | true => obtain ⟨j, hj, e⟩ := (zk0 (Nat.le_of_lt hi) _).1 hh; exact absurd e (h j hj)
 constructor
 ·intro h
  have h0 : svcE s = 0 := by
   refine Classical.byContradiction fun g => ?_
   unfold givE at h; rw [if_pos g] at h; exact g h
  unfold givE at h
  rw [if_neg (fun hh => hh h0)] at h
  cases hb : brnB b with
  | false => rw [hb, if_pos rfl] at h; cases h
  | true =>
   rw [hb, if_neg (by decide)] at h
   by_cases hl : 24 < l.length
   ·rw [if_pos hl] at h; cases h
   rw [if_neg hl] at h
   have hz := zbf h
   have hr : ∀ j, j < l.length -> rptE s (l.getD j default) = 0 /\ ((l.take j).map Rpt.ID).contains (l.getD j default).ID = false := fun j hj => by
    have h1 := hz j hj
    unfold rp1E at h1
    by_cases h2 : rptE s (l.getD j default) = 0
    ·rw [if_neg (fun hh => hh h2)] at h1
     refine ⟨h2, ?_⟩
     cases h3 : ((l.take j).map Rpt.ID).contains (l.getD j default).ID with
     | false => rfl
     | true => rw [h3, if_pos rfl] at h1; cases h1
    ·rw [if_pos h2] at h1; exact absurd h1 h2
   refine ⟨h0, rfl, by omega, fun r hrr => ?_, hnd.2 fun i j hij hj => (hc j hj).1 (hr j hj).2 i hij⟩
   obtain ⟨j, hj, rfl⟩ := zbc default hrr
   exact (hr j hj).1
 ·rintro ⟨h0, hb, hl, hr, hn⟩
  have hn := hnd.1 hn
  unfold givE
  rw [if_neg (fun hh => hh h0), if_neg (by rw [hb]; decide), if_neg (by omega)]
  refine zbk fun j hj => ?_
  unfold rp1E
  rw [if_neg (fun hh => hh (hr _ (gd1 hj default))), if_neg (by rw [(hc j hj).2 fun i hi => hn i j hi hj]; decide)]
theorem ziC {x : Cir} (hx : 0 <= x.Drift) (a b : Int) : 0 <= drf x a b := by
 have := Int.mul_nonneg hx (show 0 <= max (a - b) (b - a) by omega)
 unfold drf; omega
theorem zpE {x : Cir} (hx : 0 <= x.Drift) (a b t : Int) : drf x a b <= drf x a t + drf x b t := by
 have h1 := Int.mul_le_mul_of_nonneg_left (show max (a - b) (b - a) <= max (a - t) (t - a) + max (b - t) (t - b) by omega) hx
 rw [Int.mul_add] at h1
 unfold drf; omega
theorem zpA {x : Cir} {l : List Thg} (hx : 0 <= x.Drift) (hf : Fine x l) {a b : Thg} (ha : a ∈ l) (hb : b ∈ l) (t : Int) : a.s.Lo - drf x a.k.Tick t <= b.s.Hi + drf x b.k.Tick t := by
 have key : ∀ i j, i < j -> j < l.length -> (l.getD i default).s.Lo - (l.getD j default).s.Hi <= drf x (l.getD i default).k.Tick (l.getD j default).k.Tick /\ (l.getD j default).s.Lo - (l.getD i default).s.Hi <= drf x (l.getD i default).k.Tick (l.getD j default).k.Tick := fun i j hij hj => by
  have := of_decide_eq_false (zhe.1 hf.2 i j hij hj)
  unfold gap at this
  omega
 obtain ⟨i, hi, rfl⟩ := zbc default ha
 obtain ⟨j, hj, rfl⟩ := zbc default hb
 have n1 := ziC hx (l.getD i default).k.Tick t
 have n2 := ziC hx (l.getD j default).k.Tick t
 have t1 := zpE hx (l.getD i default).k.Tick (l.getD j default).k.Tick t
 rcases Nat.lt_trichotomy i j with h | h | h
 ·have := key i j h hj; omega
 ·subst h
  have := of_decide_eq_false (hf.1 _ (gd1 hi default))
  omega
 ·have := key j i h hi
  rw [znj] at this
  omega
theorem zp8 {x : Cir} {l : List Thg} (hx : 0 <= x.Drift) (hf : Fine x l) (ho : ∀ g ∈ l, ThgOk g) (t : Int) : (zer x l t).lo <= (zer x l t).hi := by
 unfold zer
 refine (znJ x t l _ _).2 ⟨(zjs x t l _ _).2 ⟨by decide, fun g hg => ?_⟩, fun g hg => (zjs x t l _ _).2 ⟨?_, fun g' hg' => zpA hx hf hg hg' t⟩⟩
 ·have := (ho g hg).hi
  have := ziC hx g.k.Tick t
  show (-300 : Int) <= _
  omega
 ·have := (ho g hg).lo
  have := ziC hx g.k.Tick t
  show _ <= (300 : Int)
  omega
theorem zom {c : Cirs} {id t : Int} (h : (zerR c id t).2 = 0) : (zerR c id t).1.Lo <= (zerR c id t).1.Hi := by
 unfold zerR at h ⊢
 split at h
 ·rename_i h1; exact absurd h h1
 ·rename_i h1
  rw [if_neg h1]
  have h1 : (atR c id t).2.2 = 0 := Classical.byContradiction h1
  have h0 := zp3 h1
  obtain ⟨k1, k2, k3, k4, k5⟩ := zm0 h0
  have ok := zcm k1
  have hx := ok.cs _ (zbE k2).1
  have e1 : (atR c id t).1 = c.C.getD (cirI c id).toNat default := k4
  have e2 : (atR c id t).2.1 = thsL c (c.C.getD (cirI c id).toNat default) := k5
  have h2 : agrE (atR c id t).1 (atR c id t).2.1 = 0 := by
   have h3 : (if (knw c id [t]).2.2 = 0 then agrE (knw c id [t]).1 (knw c id [t]).2.1 else (knw c id [t]).2.2) = 0 := h1
   rw [if_pos h0] at h3; exact h3
  have h3 : clsL (atR c id t).1 (atR c id t).2.1 = [] := by
   refine Classical.byContradiction fun g => ?_
   unfold agrE at h2; rw [if_neg g] at h2; cases h2
  rw [e1, e2] at h3 ⊢
  exact zp8 hx.d.1 ((znt _ _).1 h3) (zhX ok k2) t
theorem zo7 {w : Wdg} (h1 : 0 <= w.F /\ w.F <= 3599) (h2 : 0 <= w.T /\ w.T <= 3599) : openW w = (w.T - w.F) % 3600 := by
 unfold openW; rw [if_pos ⟨zab.2 h1, zab.2 h2⟩]
theorem zf7 {s : Svc} {r : Rpt} (h : rptE s r = 0) : frmB r = true /\ ¬ ((towG s.c.T r.Tower).2 = false \/ cirI s.k r.C < 0) /\ (s.k.C.getD (cirI s.k r.C).toNat default).At = (towG s.c.T r.Tower).1.At /\ (zerR s.k r.C r.Tick).2 = 0 := by
 unfold rptE at h
 split at h
 ·cases h
 rename_i h1
 split at h
 ·cases h
 rename_i h2
 split at h
 ·cases h
 rename_i h3
 split at h
 ·rename_i h4; exact absurd h h4
 rename_i h4
 exact ⟨by simpa using h1, h2, Classical.byContradiction h3, Classical.byContradiction h4⟩
theorem rpt_w {s : Svc} {r : Rpt} (h : rptE s r = 0) (hk : r.Kind = 1) : (wdgR s.k (rdgO r)).2 = 0 := by
 obtain ⟨f1, f2, f3, f4⟩ := zf7 h
 unfold rptE at h
 rw [if_neg (by rw [f1]; decide), if_neg f2, if_neg (fun hh => hh f3), if_neg (fun hh => hh f4), if_pos hk] at h
 exact h
structure Sn where
  w : Wdg
  a : Place
  deriving DecidableEq, Inhabited
def Sn.at (x : Sn) : Nat -> D
 | 0 => I x.w.F
 | 1 => I x.w.T
 | 2 => I x.a.X
 | _ => I x.a.Y
theorem zdb {w : Wdg} {a : Place} (h : halvesB w a = true) : validW w = true /\ 1 <= openW w /\ on a = true := by
 unfold halvesB at h
 simp only [Bool.and_eq_true, decide_eq_true_iff] at h
 exact ⟨h.1.1, h.1.2, h.2⟩
theorem zoa {w : Wdg} {a : Place} (h : halvesB w a = true) : fit (hvA w a) = true /\ fit (hvB w a) = true := by
 obtain ⟨h1, h2, h3⟩ := zdb h
 obtain ⟨v1, v2, -, -⟩ := zbW h1
 obtain ⟨a1, a2⟩ := zaM.1 h3
 obtain ⟨u1, u2, u3⟩ := zhT v1
 obtain ⟨z1, z2, z3⟩ := zhT v2
 unfold hvA hvB fit slope
 generalize vecP w.F = u at *
 generalize vecP w.T = z at *
 have m1 := mulB (b := a.X) (y := 48) u2 (by omega)
 have m2 := mulB (b := a.Y) (y := 48) u1 (by omega)
 have m3 := mulB (b := a.Y) (y := 48) z1 (by omega)
 have m4 := mulB (b := a.X) (y := 48) z2 (by omega)
 simp only [Bool.and_eq_true, Bool.or_eq_true, zab, bne_iff_ne, ne_eq]
 omega
theorem zqZ {w : Wdg} {a p : Place} (hh : halvesB w a = true) (hp : on p = true) : (ef (hvA w a) ⟨p.X, p.Y, 1⟩ <= 0 /\ ef (hvB w a) ⟨p.X, p.Y, 1⟩ <= 0) ↔ (decide (p = a) || liesW w a p) = true := by
 obtain ⟨h1, h2, h3⟩ := zdb hh
 obtain ⟨v1, v2, v3, v4⟩ := zbW h1
 have e1 : ef (hvA w a) ⟨p.X, p.Y, 1⟩ = -((vecP w.F).X * (p.Y - a.Y) - (vecP w.F).Y * (p.X - a.X)) := by unfold ef hvA; grind
 have e2 : ef (hvB w a) ⟨p.X, p.Y, 1⟩ = (vecP w.T).X * (p.Y - a.Y) - (vecP w.T).Y * (p.X - a.X) := by unfold ef hvB; grind
 rw [e1, e2, Bool.or_eq_true, decide_eq_true_iff]
 by_cases e : p = a
 ·subst e
  simp
 have ne : a ≠ p := fun h => e h.symm
 obtain ⟨hs, hd⟩ := zej (zft ne)
 have hb := zhJ h3 hp ne
 rw [v3] at h2 v4
 have w1 := zjx hs hd v1 v2 v4 h2
 have el : liesW w a p = true ↔ ((bearP (p.X - a.X) (p.Y - a.Y)).1 - w.F * (bearP (p.X - a.X) (p.Y - a.Y)).2) % (3600 * (bearP (p.X - a.X) (p.Y - a.Y)).2) <= (w.T - w.F) % 3600 * (bearP (p.X - a.X) (p.Y - a.Y)).2 := by
  unfold liesW
  rw [h1, h3, hp, decide_eq_false ne, v3]
  unfold bear
  dsimp only
  simp only [Bool.and_self, Bool.not_false, Bool.true_and, decide_eq_true_iff]
  rw [Int.sub_emod, Int.emod_emod, <- Int.sub_emod]
 rw [el, <- w1]
 constructor
 ·intro h; exact .inr (by omega)
 ·rintro (h | h)
  ·exact absurd h e
  ·omega
theorem zo2 {S : List Half} (h1 : checkL S = 0) (h0 : cornersL S = []) {x y : Nat} : inP (allL S) x y = false := by
 rw [Bool.eq_false_iff]
 intro h
 unfold inP at h
 rw [beq_iff_eq, zaK] at h
 exact (zkE h1).1 h0 _ ⟨by show (0 : Int) < 1; decide, h⟩
theorem zjk {S : List Half} {f : Form} (h1 : checkL S = 0) (hb : (bestE S f).2 = 0) {x y : Nat} (h : inP (allL S) x y = true) : slope f.X f.Y = true /\ ((1 <= (bestE S f).1.V.Den /\ (bestE S f).1.V.Den <= 2097152)) /\ ¬ (bestE S f).1.V.Num < (f.X * x + f.Y * y) * (bestE S f).1.V.Den := by
 have hf : slope f.X f.Y = true := by
  by_cases hf : slope f.X f.Y = true
  ·exact hf
  ·rw [zcN h1 (by simpa using hf)] at hb; cases hb
 have h0 : cornersL S ≠ [] := fun h0 => by rw [zo2 h1 h0] at h; cases h
 obtain ⟨b, eb, ev⟩ := ziQ h1 h0 hf
 obtain ⟨_, _, n3⟩ := zaq h1
 unfold inP at h
 rw [beq_iff_eq, zaK] at h
 have hv := ziR h1 hf (q := ⟨x, y, 1⟩) ⟨by show (0 : Int) < 1; decide, h⟩
 have hq := ((zcl n3 _).1 (zc2 f h0)).va
 obtain ⟨fr, g, hg, e1, e2⟩ := zbl hf hq
 rw [eb]
 dsimp only
 rw [ev]
 unfold fraction at fr
 simp only [Bool.and_eq_true, zab] at fr
 refine ⟨hf, fr.1.1, ?_⟩
 unfold vle at hv
 rw [e1, e2] at hv
 unfold fv at hv
 dsimp only at hv
 generalize (value f (bestAt f (cornersL S))).Num = N at *
 generalize (value f (bestAt f (cornersL S))).Den = Q at *
 generalize f.X * (x : Int) + f.Y * (y : Int) = v at *
 intro hlt
 have := Int.mul_lt_mul_of_pos_left hlt hg
 rw [show v * (g * Q) = g * (v * Q) by grind] at hv
 omega
end Go.Pg
