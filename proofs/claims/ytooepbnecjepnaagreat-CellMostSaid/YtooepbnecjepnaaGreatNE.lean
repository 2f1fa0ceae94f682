/- Texts joined and shortened by program. -/
import Derived.Test.YtooepbnecjepnaaGreatND
set_option maxHeartbeats 4000000
set_option linter.all false
namespace Go.Pg
def ef (h : Half) (p : Corner) : Int := h.A * p.X + h.B * p.Y - h.C * p.Den
def d3 (a b c : Corner) : Int := a.X * (b.Y * c.Den - b.Den * c.Y) - a.Y * (b.X * c.Den - b.Den * c.X) + a.Den * (b.X * c.Y - b.Y * c.X)
theorem plu (h : Half) (a b c d : Corner) : ef h a * d3 b c d - ef h b * d3 a c d + ef h c * d3 a b d - ef h d * d3 a b c = 0 := by
 unfold ef d3; grind
theorem dxy (a b c : Corner) : dXh a b * dYh a c - dYh a b * dXh a c = a.Den * d3 a b c := by unfold dXh dYh d3; grind
theorem zmW {a b : Int} (ha : 0 < a) (h : 0 < a * b) : 0 < b := by
 rcases Int.lt_trichotomy b 0 with g | g | g
 ·have := Int.mul_neg_of_pos_of_neg ha g; omega
 ·subst g; simp at h
 ·exact g
theorem zg8 {a b c : Corner} (ha : 0 < a.Den) : turn a b c <= 0 ↔ d3 a b c <= 0 := by
 have h := dxy a b c
 unfold turn ord
 rcases Int.lt_trichotomy (d3 a b c) 0 with g | g | g
 ·have := Int.mul_neg_of_pos_of_neg ha g
  rw [if_pos (by omega)]; omega
 ·rw [g] at h
  rw [if_neg (by omega), if_neg (by omega)]; omega
 ·have := Int.mul_pos ha g
  rw [if_neg (by omega), if_pos (by omega)]; omega
section
variable {φ θ : Half} {p q r s : Corner}
end
section
end
theorem zlD (p b a : Corner) (r : List Corner) : popR p (b :: a :: r) = if turn a b p <= 0 then popR p (a :: r) else b :: a :: r := rfl
section
end
end Go.Pg
namespace Go.Pg
def negH (h : Half) : Half := ⟨-h.A, -h.B, -h.C⟩
theorem zbS (h : Half) (p : Corner) : ef (negH h) p = -ef h p := by unfold ef negH; grind
end Go.Pg
namespace Go.Pg
open Go.Proofs Go.RowKit Go.Sort
theorem zjO {p q : Corner} (hp : valid p = true) (hq : valid q = true) (h : leC p q) (hn : p ≠ q) : ltC p q := by
 refine Classical.not_not.1 fun h1 => hn (zcL hp hq h (za7.1 h1))
theorem denV {p : Corner} (h : valid p = true) : 0 < p.Den := by have := (zcK h).d; omega
theorem zow {p q r : Corner} (hp : valid p = true) (hq : valid q = true) (hr : valid r = true) (h1 : leC p q) (h2 : ltC q r) : ltC p r := by
 refine Classical.not_not.1 fun h => ?_
 have := zcd (denV hr) (denV hp) (denV hq) (za7.1 h) h1
 exact (za7.2 this) h2
theorem gdI {α : Type} {l : List α} {i : Nat} (h : i < l.length) (d : α) : l.getD i d = l[i] := by rw [gdq, gqe h]; rfl
theorem zf1 {l : List Corner} : ∀ i, i < l.length -> l.getD i default ∈ compL l
 | 0, h => by
  unfold compL compP
  exact List.mem_map.2 ⟨0, List.mem_filter.2 ⟨List.mem_range.2 h, keep0 l (by omega)⟩, rfl⟩
 | i + 1, h => by
  by_cases hk : keepC l (i + 1) = true
  ·unfold compL compP
   exact List.mem_map.2 ⟨i + 1, List.mem_filter.2 ⟨List.mem_range.2 h, hk⟩, rfl⟩
  ·rw [zbK] at hk
   have e : l.getD (i + 1) default = l.getD i default := by
    simpa using hk
   rw [e]
   exact zf1 i (by omega)
theorem zkw {l : List Corner} (q : Corner) : q ∈ compL l ↔ q ∈ l := by
 refine ⟨zf0, fun h => ?_⟩
 obtain ⟨i, hi, rfl⟩ := List.getElem_of_mem h
 rw [<- gdI hi default]
 exact zf1 i hi
theorem zfZ {l : List Corner} (hv : ∀ q ∈ l, valid q = true) (h : l.Pairwise leC) : (compL l).Pairwise ltC := by
 have hle : ∀ i j, i < j -> j < l.length -> leC (l.getD i default) (l.getD j default) := fun i j hij hj => by
  rw [gdI (by omega) default, gdI hj default]
  exact List.pairwise_iff_getElem.1 h i j (by omega) hj hij
 have hlr : ∀ i j, i <= j -> j < l.length -> leC (l.getD i default) (l.getD j default) := fun i j hij hj => by
  rcases Nat.lt_or_ge i j with h | h
  ·exact hle i j h hj
  ·obtain rfl : i = j := by omega
   unfold leC; omega
 unfold compL compP
 rw [List.pairwise_map]
 refine List.Pairwise.imp_of_mem ?_ ((List.pairwise_lt_range (n := l.length)).filter _)
 intro i j hi hj hij
 obtain ⟨hi1, _⟩ := List.mem_filter.1 hi
 obtain ⟨hj1, hj2⟩ := List.mem_filter.1 hj
 have hj1 := List.mem_range.1 hj1
 have hne : l.getD (j - 1) default ≠ l.getD j default := by
  rw [zbK] at hj2
  have h0 : j ≠ 0 := by omega
  intro e
  rw [e] at hj2
  simp [h0] at hj2
 have v : ∀ k, k < l.length -> valid (l.getD k default) = true := fun k hk => hv _ (gd1 hk default)
 refine zow (v i (by omega)) (v (j - 1) (by omega)) (v j hj1) (hlr i (j - 1) (by omega) (by omega)) ?_
 exact zjO (v (j - 1) (by omega)) (v j hj1) (hle (j - 1) j (by omega) hj1) hne
theorem zlf (l : List VC) : (sortV l).Pairwise fun p q => leC p.1 q.1 := by
 have h := List.pairwise_mergeSort (le := fun x y : VC => !(ltOf cmpV) y x) (fun a b c h1 h2 => by
  rw [zbD] at *
  simp only [Bool.not_eq_true', decide_eq_false_iff_not] at *
  rw [za7] at *
  exact zcd a.den b.den c.den h1 h2) (fun a b => by
  rw [zbD, zbD]
  simp only [Bool.or_eq_true, Bool.not_eq_true', decide_eq_false_iff_not]
  rw [za7, za7]
  exact zjV _ _) l
 refine h.imp fun {p q} h => ?_
 rw [zbD] at h
 simp only [Bool.not_eq_true', decide_eq_false_iff_not] at h
 exact za7.1 h
theorem zfq (l : List VC) (p : VC) : p ∈ sortV l ↔ p ∈ l := List.mem_mergeSort
section
variable {F : Form} {g h j : Half}
end
section
variable {h : Half} {a b c d : Corner}
theorem plu1 (ha : a.Den = 1) (hb : b.Den = 1) (hc : c.Den = 1) (hd : d.Den = 1) : d3 b c d - d3 a c d + d3 a b d - d3 a b c = 0 := by
 have := plu ⟨0, 0, -1⟩ a b c d
 unfold ef at this
 rw [ha, hb, hc, hd] at this
 simpa using this
theorem lemA (ha : a.Den = 1) (hb : b.Den = 1) (hc : c.Den = 1) (hd : d.Den = 1) (u1 : ef h a < ef h b) (u2 : ef h b < ef h c) (u3 : ef h b < ef h d) (h1 : 0 < d3 a b c) (h2 : 0 < d3 b c d) : 0 < d3 a b d := by
 have i1 := plu h a b c d
 have i2 := plu1 ha hb hc hd
 have key : (ef h c - ef h b) * d3 a b d = d3 b c d * (ef h b - ef h a) + d3 a b c * (ef h d - ef h b) := by grind
 have p1 := Int.mul_pos h2 (show 0 < ef h b - ef h a by omega)
 have p2 := Int.mul_pos h1 (show 0 < ef h d - ef h b by omega)
 exact zmW (a := ef h c - ef h b) (by omega) (by omega)
theorem lemB (ha : a.Den = 1) (hb : b.Den = 1) (hc : c.Den = 1) (hd : d.Den = 1) (u1 : ef h a < ef h b) (u2 : ef h b < ef h c) (u3 : ef h d <= ef h c) (h1 : d3 a b c <= 0) (h2 : 0 <= d3 b c d) : 0 <= d3 a c d := by
 have i1 := plu h a b c d
 have i2 := plu1 ha hb hc hd
 have key : (ef h c - ef h b) * d3 a c d = d3 b c d * (ef h c - ef h a) - d3 a b c * (ef h c - ef h d) := by grind
 have p1 := Int.mul_nonneg h2 (show 0 <= ef h c - ef h a by omega)
 have p2 := Int.mul_nonpos_of_nonpos_of_nonneg h1 (show 0 <= ef h c - ef h d by omega)
 rcases Int.lt_or_le (d3 a c d) 0 with g | g
 ·have := Int.mul_neg_of_pos_of_neg (show 0 < ef h c - ef h b by omega) g; omega
 ·exact g
theorem lemC (ha : a.Den = 1) (hb : b.Den = 1) (hc : c.Den = 1) (hd : d.Den = 1) (u1 : ef h a < ef h b) (u2 : ef h a <= ef h c) (u3 : ef h a <= ef h d) (h1 : d3 a b c <= 0) (h2 : 0 <= d3 a b d) : 0 <= d3 a c d := by
 have i1 := plu h a b c d
 have i2 := plu1 ha hb hc hd
 have key : (ef h b - ef h a) * d3 a c d = d3 a b d * (ef h c - ef h a) - d3 a b c * (ef h d - ef h a) := by grind
 have p1 := Int.mul_nonneg h2 (show 0 <= ef h c - ef h a by omega)
 have p2 := Int.mul_nonpos_of_nonpos_of_nonneg h1 (show 0 <= ef h d - ef h a by omega)
 rcases Int.lt_or_le (d3 a c d) 0 with g | g
 ·have := Int.mul_neg_of_pos_of_neg (show 0 < ef h b - ef h a by omega) g; omega
 ·exact g
theorem lemD (ha : a.Den = 1) (hb : b.Den = 1) (hc : c.Den = 1) (hd : d.Den = 1) (u1 : ef h a < ef h b) (u2 : ef h b < ef h c) (u3 : ef h d < ef h b) (h1 : 0 < d3 a b c) (h2 : 0 <= d3 a b d) : 0 < d3 b c d := by
 have i1 := plu h a b c d
 have i2 := plu1 ha hb hc hd
 have key : (ef h b - ef h a) * d3 b c d = d3 a b d * (ef h c - ef h b) + d3 a b c * (ef h b - ef h d) := by grind
 have p1 := Int.mul_nonneg h2 (show 0 <= ef h c - ef h b by omega)
 have p2 := Int.mul_pos h1 (show 0 < ef h b - ef h d by omega)
 exact zmW (a := ef h b - ef h a) (by omega) (by omega)
end
def Eg (h : Half) (Q : List Corner) (a b : Corner) : Prop := ef h a < ef h b /\ ∀ q ∈ Q, 0 <= d3 a b q /\ (d3 a b q = 0 -> ef h a <= ef h q /\ ef h q <= ef h b)
def Ed (h : Half) (Q : List Corner) : List Corner -> Prop
 | b :: a :: r => Eg h Q a b /\ Ed h Q (a :: r)
 | _ => True
theorem zkq (a b : Corner) : d3 a b a = 0 := by unfold d3; grind
theorem zkp (a b : Corner) : d3 a b b = 0 := by unfold d3; grind
theorem zm6 {h : Half} {Q : List Corner} {p : Corner} (hp : p.Den = 1) (hD : ∀ q ∈ Q, q.Den = 1) (hu : ∀ q ∈ Q, ef h q < ef h p) : ∀ st : List Corner, Ed h Q st -> (∀ x ∈ st, x ∈ Q) -> (∀ b r, st = b :: r -> ∀ q ∈ Q, ef h b <= ef h q -> 0 <= d3 b p q) ->
  Ed h Q (popR p st) /\ (∀ b r, popR p st = b :: r -> ∀ q ∈ Q, ef h b <= ef h q -> 0 <= d3 b p q) /\ (∀ b a r, popR p st = b :: a :: r -> 0 < d3 a b p) /\ (popR p st).getLast? = st.getLast?
 | [], he, _, _ => ⟨trivial, (fun _ _ e => by cases e), (fun _ _ _ e => by cases e), rfl⟩
 | [b], he, _, hH => ⟨trivial, hH, (fun _ _ _ e => by cases e), rfl⟩
 | b :: a :: r, he, hm, hH => by
  obtain ⟨⟨e1, e2⟩, e3⟩ := he
  have mb := hm b (by simp)
  have ma := hm a (by simp)
  have db := hD _ mb
  have da := hD _ ma
  rw [zlD]
  split
  ·rename_i ht
   have ht : d3 a b p <= 0 := (zg8 (by omega)).1 ht
   have ih := zm6 hp hD hu (a :: r) e3 (fun x hx => hm x (List.mem_cons_of_mem _ hx)) fun b' r' e q hq hle => by
    obtain ⟨rfl, rfl⟩ := List.cons.inj e
    rcases Int.lt_or_le (ef h q) (ef h b) with g | g
    ·exact lemC da db hp (hD _ hq) e1 (by have := hu _ ma; omega) hle ht (e2 q hq).1
    ·exact lemB da db hp (hD _ hq) e1 (hu _ mb) (by have := hu _ hq; omega) ht (hH b _ rfl q hq g)
   refine ⟨ih.1, ih.2.1, ih.2.2.1, ?_⟩
   rw [ih.2.2.2]; simp
  ·rename_i ht
   have ht : 0 < d3 a b p := by
    rcases Int.lt_or_le 0 (d3 a b p) with g | g
    ·exact g
    ·exact absurd ((zg8 (by omega)).2 g) ht
   refine ⟨⟨⟨e1, e2⟩, e3⟩, hH, fun b' a' r' e => ?_, rfl⟩
   cases e
   exact ht
theorem zkl {h : Half} {Q : List Corner} {p : Corner} (hp : p.Den = 1) (hD : ∀ q ∈ Q, q.Den = 1) (hu : ∀ q ∈ Q, ef h q < ef h p) : ∀ st : List Corner, Ed h Q st -> (∀ x ∈ st, x ∈ Q) -> (∀ b a r, st = b :: a :: r -> 0 < d3 a b p) -> Ed h (Q ++ [p]) st
 | [], _, _, _ => trivial
 | [b], _, _, _ => trivial
 | b :: a :: r, he, hm, ht => by
  obtain ⟨⟨e1, e2⟩, e3⟩ := he
  have t := ht b a r rfl
  have mb := hm b (by simp)
  have ma := hm a (by simp)
  refine ⟨⟨e1, fun q hq => ?_⟩, zkl hp hD hu (a :: r) e3 (fun x hx => hm x (List.mem_cons_of_mem _ hx)) fun b' z r' e => ?_⟩
  ·rcases List.mem_append.1 hq with hq | hq
   ·exact e2 q hq
   ·obtain rfl := List.mem_singleton.1 hq
    exact ⟨by omega, fun h0 => by omega⟩
  ·obtain ⟨rfl, rfl⟩ := List.cons.inj e
   obtain ⟨⟨f1, f2⟩, _⟩ := e3
   have mz := hm z (by simp)
   obtain ⟨g1, g2⟩ := f2 b mb
   have g3 : 0 < d3 z a b := by
    rcases Int.lt_or_le 0 (d3 z a b) with g | g
    ·exact g
    ·have := g2 (by omega); omega
   exact lemA (hD _ mz) (hD _ ma) (hD _ mb) hp f1 e1 (hu _ ma) g3 t
theorem zdI (Q : List Corner) (p : Corner) : chainR (Q ++ [p]) = p :: popR p (chainR Q) := by unfold chainR; rw [List.foldl_append]; rfl
theorem zkz (Q : List Corner) : ∀ x ∈ chainR Q, x ∈ Q := by
 have := (zbo Q Q.length (Nat.le_refl _)).1
 rwa [List.take_length] at this
theorem zhR {h : Half} {S : List Corner} (hS : S.Pairwise fun p q => ef h p < ef h q) (hD : ∀ q ∈ S, q.Den = 1) : ∀ i, i < S.length ->
  Ed h (S.take (i + 1)) (chainR (S.take (i + 1))) /\ (∃ r, chainR (S.take (i + 1)) = S.getD i default :: r) /\ (chainR (S.take (i + 1))).getLast? = some (S.getD 0 default)
 | 0, h0 => by
  have e : chainR (S.take 1) = [S.getD 0 default] := by
   rw [zaB h0 default]
   have : S.take 0 ++ [S.getD 0 default] = [] ++ [S.getD 0 default] := by simp
   rw [this, zdI]
   have : chainR [] = [] := by unfold chainR; rfl
   rw [this]; rfl
  rw [e]
  exact ⟨trivial, ⟨[], rfl⟩, rfl⟩
 | i + 1, hi => by
  obtain ⟨i1, ⟨r, i2⟩, i3⟩ := zhR hS hD i (by omega)
  have lt : ∀ j k, j < k -> k < S.length -> ef h (S.getD j default) < ef h (S.getD k default) := fun j k hjk hk => by
   rw [gdI (by omega) default, gdI hk default]
   exact List.pairwise_iff_getElem.1 hS j k (by omega) hk hjk
  have pd : (S.getD (i + 1) default).Den = 1 := hD _ (gd1 hi default)
  have hD' : ∀ q ∈ S.take (i + 1), q.Den = 1 := fun q hq => hD q (List.mem_of_mem_take hq)
  have at_ : ∀ q ∈ S.take (i + 1), ∃ j, j <= i /\ q = S.getD j default := fun q hq => by
   obtain ⟨j, hj, rfl⟩ := List.getElem_of_mem hq
   rw [List.length_take] at hj
   exact ⟨j, by omega, by rw [List.getElem_take, gdI (by omega)]⟩
  have hu : ∀ q ∈ S.take (i + 1), ef h q < ef h (S.getD (i + 1) default) := fun q hq => by
   obtain ⟨j, hj, rfl⟩ := at_ q hq
   exact lt j (i + 1) (by omega) hi
  have hs := zkz (S.take (i + 1))
  obtain ⟨p1, p2, p3, p4⟩ := zm6 pd hD' hu _ i1 hs fun b r' e q hq hle => by
   rw [i2] at e
   obtain ⟨rfl, _⟩ := List.cons.inj e
   obtain ⟨j, hj, rfl⟩ := at_ q hq
   have : j = i := by
    rcases Nat.lt_or_ge j i with g | g
    ·have := lt j i g (by omega); omega
    ·omega
   subst this
   rw [zkq]; omega
  rw [zaB hi default, zdI]
  have hne : popR (S.getD (i + 1) default) (chainR (S.take (i + 1))) ≠ [] := zgD _ _ (by rw [i2]; simp)
  have hsub : ∀ x ∈ popR (S.getD (i + 1) default) (chainR (S.take (i + 1))), x ∈ S.take (i + 1) := fun x hx => hs x (zeQ _ _ x hx)
  have pe := zkl pd hD' hu _ p1 hsub p3
  have pl : (popR (S.getD (i + 1) default) (chainR (S.take (i + 1)))).getLast? = some (S.getD 0 default) := by rw [p4, i3]
  generalize popR (S.getD (i + 1) default) (chainR (S.take (i + 1))) = st at *
  match st, hne with
  | t :: r'', _ =>
   have mt := hsub t (by simp)
   refine ⟨⟨⟨hu t mt, fun q hq => ?_⟩, pe⟩, ⟨_, rfl⟩, by rw [<- pl]; simp⟩
   rcases List.mem_append.1 hq with hq | hq
   ·rcases Int.lt_or_le (ef h q) (ef h t) with g | g
    ·match r'' with
     | [] =>
      exfalso
      have pl : t = S.getD 0 default := Option.some.inj pl
      obtain ⟨j, hj, rfl⟩ := at_ q hq
      rw [pl] at g
      rcases Nat.eq_zero_or_pos j with h0 | h0
      ·subst h0; omega
      ·have := lt 0 j h0 (by omega); omega
     | s :: r3 =>
      obtain ⟨⟨f1, f2⟩, _⟩ := p1
      have ms := hsub s (by simp)
      have := lemD (hD' _ ms) (hD' _ mt) pd (hD' _ hq) f1 (hu _ mt) g (p3 t s r3 rfl) (f2 q hq).1
      exact ⟨by omega, fun h0 => by omega⟩
    ·exact ⟨p2 t r'' rfl q hq g, fun _ => ⟨g, by have := hu q hq; omega⟩⟩
   ·obtain rfl := List.mem_singleton.1 hq
    rw [zkp]
    exact ⟨Int.le_refl _, fun _ => ⟨by have := hu t mt; omega, Int.le_refl _⟩⟩
theorem zhL {h : Half} {Q : List Corner} : ∀ {st : List Corner}, Ed h Q st -> ∀ j, j + 1 < st.length -> Eg h Q (st.getD (j + 1) default) (st.getD j default)
 | [], _, j, hj => absurd hj (by simp)
 | [b], _, j, hj => absurd hj (by simp)
 | b :: a :: r, he, 0, _ => he.1
 | b :: a :: r, he, j + 1, hj => by
  have := zhL (st := a :: r) he.2 j (by simpa using hj)
  simpa using this
theorem zgQ {h : Half} {Q st : List Corner} (he : Ed h Q st) : ∀ k j, j < k -> k < st.length -> ef h (st.getD k default) < ef h (st.getD j default)
 | 0, j, hj, _ => absurd hj (by omega)
 | k + 1, j, hj, hk => by
  have e := (zhL he k hk).1
  rcases Nat.lt_or_ge j k with g | g
  ·have := zgQ he k j g (by omega); omega
  ·obtain rfl : j = k := by omega
   exact e
theorem zhc {st : List Corner} {i : Nat} (hi : i + 1 < st.length) : st.tail.reverse.getD i default = st.getD (st.length - 1 - i) default := by
 have hl : st.tail.length = st.length - 1 := List.length_tail
 rw [gdI (by rw [List.length_reverse]; omega), gdI (show st.length - 1 - i < st.length by omega), List.getElem_reverse, List.getElem_tail]
 congr 1
 omega
theorem zlW {st : List Corner} {x : Corner} (h : st.getLast? = some x) : st.getD (st.length - 1) default = x := by
 rw [List.getLast?_eq_getElem?] at h
 rw [gdq, h]; rfl
theorem zf3 {h : Half} {S : List Corner} (hS : S.Pairwise fun p q => ef h p < ef h q) (hD : ∀ q ∈ S, q.Den = 1) (h2 : 2 <= S.length) :
  Ed h S (chainR S) /\ (chainR S).getD 0 default = S.getD (S.length - 1) default /\ (chainR S).getD ((chainR S).length - 1) default = S.getD 0 default /\ 2 <= (chainR S).length := by
 have c := zhR hS hD (S.length - 1) (by omega)
 rw [show S.length - 1 + 1 = S.length by omega, List.take_length] at c
 obtain ⟨c1, ⟨r, c2⟩, c3⟩ := c
 have t := zcC S S.length (Nat.le_refl _)
 rw [List.take_length] at t
 exact ⟨c1, by rw [c2]; rfl, zlW c3, by omega⟩
theorem zlj {h : Half} {S : List Corner} (hS : S.Pairwise fun p q => ef h p < ef h q) : S.reverse.Pairwise fun p q => ef (negH h) p < ef (negH h) q := by
 rw [List.pairwise_reverse]
 refine hS.imp fun hh => ?_
 rw [zbS, zbS]; omega
structure Cyc (h : Half) (S c : List Corner) : Prop where
  two : 2 <= c.length
  first : c.getD 0 default = S.getD 0 default
  edge : ∀ i, i < c.length -> Eg h S (c.getD i default) (c.getD ((i + 1) % c.length) default) \/ Eg (negH h) S (c.getD i default) (c.getD ((i + 1) % c.length) default)
  far : ∀ i, 0 < i -> i < c.length -> ef h (c.getD 0 default) < ef h (c.getD i default)
theorem zc5 {h : Half} {S : List Corner} (hS : S.Pairwise fun p q => ef h p < ef h q) (hD : ∀ q ∈ S, q.Den = 1) (h2 : 2 <= S.length) : Cyc h S (hullL S) := by
 unfold hullL
 split
 ·rename_i h3
  match S, h2, h3 with
  | [p, q], _, _ =>
   have lt : ef h p < ef h q := by
    have := List.pairwise_cons.1 hS
    exact this.1 q (by simp)
   refine ⟨Nat.le_refl _, rfl, fun i hi => ?_, fun i h0 hi => ?_⟩
   ·match i, hi with
    | 0, _ =>
     left
     refine ⟨lt, fun r hr => ?_⟩
     simp only [List.mem_cons, List.not_mem_nil, or_false] at hr
     rcases hr with rfl | rfl
     ·show 0 <= d3 r q r /\ (d3 r q r = 0 -> ef h r <= ef h r /\ ef h r <= ef h q)
      rw [zkq]; omega
     ·show 0 <= d3 p r r /\ (d3 p r r = 0 -> ef h p <= ef h r /\ ef h r <= ef h r)
      rw [zkp]; omega
    | 1, _ =>
     right
     rw [show (1 + 1) % [p, q].length = 0 from Nat.mod_self 2]
     refine ⟨(by show ef (negH h) q < ef (negH h) p; rw [zbS, zbS]; omega), fun r hr => ?_⟩
     simp only [List.mem_cons, List.not_mem_nil, or_false] at hr
     rcases hr with rfl | rfl
     ·show 0 <= d3 q r r /\ (d3 q r r = 0 -> ef (negH h) q <= ef (negH h) r /\ ef (negH h) r <= ef (negH h) r)
      rw [zkp, zbS, zbS]; omega
     ·show 0 <= d3 r p r /\ (d3 r p r = 0 -> ef (negH h) r <= ef (negH h) r /\ ef (negH h) r <= ef (negH h) p)
      rw [zkq, zbS, zbS]; omega
   ·match i, h0, hi with
    | 1, _, _ => exact lt
 ·rename_i h3
  obtain ⟨a1, a2, a3, a4⟩ := zf3 hS hD h2
  obtain ⟨b1, b2, b3, b4⟩ := zf3 (zlj hS) (fun q hq => hD q (List.mem_reverse.1 hq)) (by rw [List.length_reverse]; exact h2)
  have e0 : S.reverse.getD 0 default = S.getD (S.length - 1) default := by
   rw [gdI (by rw [List.length_reverse]; omega), gdI (by omega), List.getElem_reverse]; simp
  have e1 : S.reverse.getD (S.reverse.length - 1) default = S.getD 0 default := by
   rw [gdI (by rw [List.length_reverse]; omega), gdI (by omega), List.getElem_reverse]
   congr 1; rw [List.length_reverse]; omega
  rw [e1] at b2
  rw [e0] at b3
  unfold halfL
  have lA : (chainR S).tail.reverse.length = (chainR S).length - 1 := by rw [List.length_reverse, List.length_tail]
  have lB : (chainR S.reverse).tail.reverse.length = (chainR S.reverse).length - 1 := by rw [List.length_reverse, List.length_tail]
  have gA : ∀ i, i + 1 < (chainR S).length -> ((chainR S).tail.reverse ++ (chainR S.reverse).tail.reverse).getD i default = (chainR S).getD ((chainR S).length - 1 - i) default := fun i hi => by
   rw [gdq, List.getElem?_append_left (by omega), <- gdq, zhc hi]
  have gB : ∀ i, (chainR S).length - 1 <= i -> i + 2 < (chainR S).length + (chainR S.reverse).length -> ((chainR S).tail.reverse ++ (chainR S.reverse).tail.reverse).getD i default = (chainR S.reverse).getD ((chainR S.reverse).length - 1 - (i - ((chainR S).length - 1))) default := fun i h1 hi => by
   rw [gdq, List.getElem?_append_right (by omega), <- gdq, lA, zhc (by omega)]
  have edB : ∀ {a b : Corner}, Eg (negH h) S.reverse a b -> Eg (negH h) S a b := fun e => ⟨e.1, fun q hq => e.2 q (List.mem_reverse.2 hq)⟩
  have ln : ((chainR S).tail.reverse ++ (chainR S.reverse).tail.reverse).length = (chainR S).length - 1 + ((chainR S.reverse).length - 1) := by rw [List.length_append, lA, lB]
  generalize ((chainR S).tail.reverse ++ (chainR S.reverse).tail.reverse) = c at *
  generalize chainR S = st1 at *
  generalize chainR S.reverse = st2 at *
  have g0 : c.getD 0 default = S.getD 0 default := by rw [gA 0 (by omega), Nat.sub_zero, a3]
  refine ⟨by omega, g0, fun i hi => ?_, fun i h0 hi => ?_⟩
  ·rcases Nat.lt_or_ge i (st1.length - 1) with g | g
   ·left
    rw [Nat.mod_eq_of_lt (show i + 1 < c.length by omega), gA i (by omega)]
    have e := zhL a1 (st1.length - 2 - i) (by omega)
    rw [show st1.length - 2 - i + 1 = st1.length - 1 - i by omega] at e
    rcases Nat.lt_or_ge (i + 1) (st1.length - 1) with g2 | g2
    ·rw [gA (i + 1) (by omega), show st1.length - 1 - (i + 1) = st1.length - 2 - i by omega]
     exact e
    ·rw [gB (i + 1) (by omega) (by omega), show st2.length - 1 - (i + 1 - (st1.length - 1)) = st2.length - 1 by omega, b3, <- a2]
     rwa [show st1.length - 2 - i = 0 by omega] at e
   ·right
    rw [gB i g (by omega)]
    have e := zhL b1 (st2.length - 2 - (i - (st1.length - 1))) (by omega)
    rw [show st2.length - 2 - (i - (st1.length - 1)) + 1 = st2.length - 1 - (i - (st1.length - 1)) by omega] at e
    rcases Nat.lt_or_ge (i + 1) c.length with g2 | g2
    ·rw [Nat.mod_eq_of_lt g2, gB (i + 1) (by omega) (by omega), show st2.length - 1 - (i + 1 - (st1.length - 1)) = st2.length - 2 - (i - (st1.length - 1)) by omega]
     exact edB e
    ·rw [show i + 1 = c.length by omega, Nat.mod_self, g0, <- b2]
     rw [show st2.length - 2 - (i - (st1.length - 1)) = 0 by omega] at e
     exact edB e
  ·rw [g0]
   rcases Nat.lt_or_ge i (st1.length - 1) with g | g
   ·rw [gA i (by omega), <- a3]
    exact zgQ a1 _ _ (by omega) (by omega)
   ·rw [gB i g (by omega), <- b2]
    have := zgQ b1 (st2.length - 1 - (i - (st1.length - 1))) 0 (by omega) (by omega)
    rw [zbS, zbS] at this
    omega
theorem msq (a : Int) : 0 <= a * a := by
 rcases Int.le_total 0 a with g | g
 ·exact Int.mul_nonneg g g
 ·exact Int.mul_nonneg_of_nonpos_of_nonpos g g
def co (p : Place) : Corner := ⟨p.X, p.Y, 1⟩
theorem znm {p q : Place} (h : co p = co q) : p = q := by
 unfold co at h
 cases p; cases q; simp at h; rw [h.1, h.2]
theorem zpW {p : Place} (h : on p = true) : ofP p = co p := by unfold ofP co; rw [if_pos h]
def crP (p q r : Place) : Int := (edgeL p q).A * r.X + (edgeL p q).B * r.Y - (edgeL p q).C
def onL (p q r : Place) : Int := (r.X - p.X) * (q.X - p.X) + (r.Y - p.Y) * (q.Y - p.Y)
def mostL (p q : Place) : Int := (q.X - p.X) * (q.X - p.X) + (q.Y - p.Y) * (q.Y - p.Y)
theorem zqs (p q r : Place) : crP p q r = -d3 (co p) (co q) (co r) := by unfold crP edgeL d3 co; grind
def outBh (p q r : Place) : Bool := !(decide (0 < crP p q r) || (crP p q r == 0 && !within (onL p q r) 0 (mostL p q)))
def outerL (l : List Place) (p q : Place) : Bool := l.all (outBh p q) && decide (p ≠ q)
theorem zhw {p q r : Place} : outBh p q r = true ↔ crP p q r <= 0 /\ (crP p q r = 0 -> 0 <= onL p q r /\ onL p q r <= mostL p q) := by
 unfold outBh
 simp only [Bool.not_eq_true', Bool.or_eq_false_iff, decide_eq_false_iff_not, Bool.and_eq_false_imp, beq_iff_eq, Bool.not_eq_false', zab]
 constructor
 ·rintro ⟨h1, h2⟩; exact ⟨by omega, h2⟩
 ·rintro ⟨h1, h2⟩; exact ⟨by omega, h2⟩
theorem zct {l : List Place} {p q : Place} : outerL l p q = true ↔ (∀ r ∈ l, crP p q r <= 0 /\ (crP p q r = 0 -> 0 <= onL p q r /\ onL p q r <= mostL p q)) /\ p ≠ q := by
 unfold outerL
 rw [Bool.and_eq_true, List.all_eq_true, decide_eq_true_iff]
 constructor
 ·rintro ⟨h1, h2⟩; exact ⟨fun r hr => zhw.1 (h1 r hr), h2⟩
 ·rintro ⟨h1, h2⟩; exact ⟨fun r hr => zhw.2 (h1 r hr), h2⟩
theorem znk {h : Half} {S : List Corner} {l : List Place} {p q : Place} (hl : ∀ r ∈ l, co r ∈ S) (e : Eg h S (co p) (co q)) : outerL l p q = true := by
 rw [zct]
 obtain ⟨e1, e2⟩ := e
 refine ⟨fun r hr => ?_, fun hpq => by rw [hpq] at e1; omega⟩
 obtain ⟨f1, f2⟩ := e2 _ (hl r hr)
 rw [zqs]
 refine ⟨by omega, fun h0 => ?_⟩
 have h0 : d3 (co p) (co q) (co r) = 0 := by omega
 obtain ⟨g1, g2⟩ := f2 h0
 have u1 : 0 < h.A * (q.X - p.X) + h.B * (q.Y - p.Y) := by unfold ef co at e1; simp only [Int.mul_one] at e1; grind
 have u2 : 0 <= h.A * (r.X - p.X) + h.B * (r.Y - p.Y) := by unfold ef co at g1; simp only [Int.mul_one] at g1; grind
 have u3 : 0 <= h.A * (q.X - p.X) + h.B * (q.Y - p.Y) - (h.A * (r.X - p.X) + h.B * (r.Y - p.Y)) := by unfold ef co at g2; simp only [Int.mul_one] at g2; grind
 have z : (q.X - p.X) * (r.Y - p.Y) = (q.Y - p.Y) * (r.X - p.X) := by unfold d3 co at h0; simp only [Int.mul_one] at h0; grind
 have key : onL p q r * (h.A * (q.X - p.X) + h.B * (q.Y - p.Y)) = mostL p q * (h.A * (r.X - p.X) + h.B * (r.Y - p.Y)) := by
  unfold onL mostL
  generalize q.X - p.X = dx at *
  generalize q.Y - p.Y = dy at *
  generalize r.X - p.X = rx at *
  generalize r.Y - p.Y = ry at *
  grind
 have m0 : 0 <= mostL p q := by
  unfold mostL
  have a := msq (q.X - p.X)
  have b := msq (q.Y - p.Y)
  omega
 generalize h.A * (q.X - p.X) + h.B * (q.Y - p.Y) = Uh at *
 generalize h.A * (r.X - p.X) + h.B * (r.Y - p.Y) = V at *
 constructor
 ·rcases Int.lt_or_le (onL p q r) 0 with g | g
  ·have a := Int.mul_neg_of_neg_of_pos g u1
   have b := Int.mul_nonneg m0 u2
   omega
  ·exact g
 ·rcases Int.lt_or_le (mostL p q) (onL p q r) with g | g
  ·have a := Int.mul_pos (show 0 < onL p q r - mostL p q by omega) u1
   have b := Int.mul_nonneg m0 u3
   rw [Int.sub_mul] at a
   rw [Int.mul_sub] at b
   omega
  ·exact g
theorem sqz {a : Int} (h : a * a <= 0) : a = 0 := by
 have := msq a
 have : a * a = 0 := by omega
 rcases Int.mul_eq_zero.1 this with e | e <;> exact e
theorem zlG {l : List Place} {p q q' : Place} (hq : q ∈ l) (hq' : q' ∈ l) (h1 : outerL l p q = true) (h2 : outerL l p q' = true) : q = q' := by
 rw [zct] at h1 h2
 obtain ⟨a1, a2⟩ := h1.1 q' hq'
 obtain ⟨b1, b2⟩ := h2.1 q hq
 have sw : crP p q' q = -crP p q q' := by unfold crP edgeL; grind
 have z1 : crP p q q' = 0 := by omega
 obtain ⟨c1, c2⟩ := a2 z1
 obtain ⟨c3, c4⟩ := b2 (by omega)
 have pq := h1.2
 have pq' := h2.2
 have zz : (q.X - p.X) * (q'.Y - p.Y) = (q.Y - p.Y) * (q'.X - p.X) := by unfold crP edgeL at z1; grind
 have pos : ∀ r : Place, p ≠ r -> 0 < mostL p r := fun r hr => by
  unfold mostL
  have a := msq (r.X - p.X)
  have b := msq (r.Y - p.Y)
  rcases Int.lt_or_le 0 ((r.X - p.X) * (r.X - p.X) + (r.Y - p.Y) * (r.Y - p.Y)) with g | g
  ·exact g
  ·exfalso
   have x := sqz (a := r.X - p.X) (by omega)
   have y := sqz (a := r.Y - p.Y) (by omega)
   apply hr
   cases p; cases r; simp at x y ⊢; omega
 have p1 := pos q pq
 have p2 := pos q' pq'
 have cm : onL p q' q = onL p q q' := by unfold onL; grind
 rw [cm] at c3 c4
 have key : onL p q q' * onL p q q' = mostL p q * mostL p q' := by
  unfold onL mostL
  generalize q.X - p.X = dx at *
  generalize q.Y - p.Y = dy at *
  generalize q'.X - p.X = rx at *
  generalize q'.Y - p.Y = ry at *
  grind
 have dist : (q'.X - q.X) * (q'.X - q.X) + (q'.Y - q.Y) * (q'.Y - q.Y) = mostL p q + mostL p q' - 2 * onL p q q' := by unfold mostL onL; grind
 generalize onL p q q' = s at *
 generalize mostL p q = a at *
 generalize mostL p q' = b at *
 have sb : s = b := by
  rcases Int.lt_or_le s b with g | g
  ·exfalso
   have t1 : s * s <= a * s := Int.mul_le_mul_of_nonneg_right c2 (by omega)
   have t2 : a * s < a * b := Int.mul_lt_mul_of_pos_left g p1
   omega
  ·omega
 subst sb
 have ab : s = a := Int.eq_of_mul_eq_mul_right (by omega) key
 have d0 : (q'.X - q.X) * (q'.X - q.X) + (q'.Y - q.Y) * (q'.Y - q.Y) = 0 := by omega
 have n1 := msq (q'.X - q.X)
 have n2 := msq (q'.Y - q.Y)
 have x := sqz (a := q'.X - q.X) (by omega)
 have y := sqz (a := q'.Y - q.Y) (by omega)
 cases q; cases q'; simp at x y ⊢; omega
@[irreducible] def sortP (l : List Place) : List Corner := compL ((sortV (ptsO l l.length)).map fun p : VC => p.1)
theorem zaY (l : List Place) : cycL l = hullL (sortP l) := by unfold cycL sortP; rfl
def hO : Half := ⟨64, 1, 0⟩
theorem zjG {p : Place} (h : on p = true) : (ofV p).1 = co p := by rw [zna h]; exact zpW h
theorem zax {l : List Place} (hl : ∀ p ∈ l, on p = true) (q : Corner) : q ∈ sortP l ↔ ∃ p ∈ l, q = co p := by
 unfold sortP
 rw [zkw, List.mem_map]
 constructor
 ·rintro ⟨v, hv, rfl⟩
  rw [zfq] at hv
  unfold ptsO at hv
  rw [List.take_length] at hv
  obtain ⟨p, hp, rfl⟩ := List.mem_map.1 hv
  exact ⟨p, hp, zjG (hl p hp)⟩
 ·rintro ⟨p, hp, rfl⟩
  refine ⟨ofV p, ?_, zjG (hl p hp)⟩
  rw [zfq]
  unfold ptsO
  rw [List.take_length]
  exact List.mem_map.2 ⟨p, hp, rfl⟩
theorem zb2 {l : List Place} (hl : ∀ p ∈ l, on p = true) : (sortP l).Pairwise fun p q => ef hO p < ef hO q := by
 have st : (sortP l).Pairwise ltC := by
  unfold sortP
  refine zfZ (fun q hq => ?_) (by rw [List.pairwise_map]; exact zlf _)
  obtain ⟨p, _, rfl⟩ := List.mem_map.1 hq
  exact p.2
 refine List.Pairwise.imp_of_mem (fun {a b} ha hb h => ?_) st
 obtain ⟨p, hp, rfl⟩ := (zax hl a).1 ha
 obtain ⟨q, hq, rfl⟩ := (zax hl b).1 hb
 have bp := zcv (hl p hp)
 have bq := zcv (hl q hq)
 unfold ltC co at h
 unfold ef hO co
 simp only [Int.mul_one] at h ⊢
 show 64 * p.X + 1 * p.Y - 0 < 64 * q.X + 1 * q.Y - 0
 omega
theorem zb3 {l : List Place} (hl : ∀ p ∈ l, on p = true) : ∀ q ∈ sortP l, q.Den = 1 := fun q hq => by
 obtain ⟨p, _, rfl⟩ := (zax hl q).1 hq
 rfl
theorem zqr {l : List Place} (hl : ∀ p ∈ l, on p = true) {i : Nat} (hi : i < (cycL l).length) : ∃ p ∈ l, (cycL l).getD i default = co p := by
 have m : (cycL l).getD i default ∈ cycL l := gd1 hi default
 rw [zaY] at m
 have := zfO m
 rw [<- zaY] at this
 exact (zax hl _).1 this
theorem zco {l : List Place} (hl : ∀ p ∈ l, on p = true) (h0 : 0 < (cycL l).length) (i : Nat) : (cycL l).getD (i % (cycL l).length) default = co (atP (cycL l) i) /\ atP (cycL l) i ∈ l := by
 obtain ⟨p, hp, e⟩ := zqr hl (Nat.mod_lt i h0)
 have : atP (cycL l) i = p := by unfold atP; rw [e]; rfl
 rw [this, e]
 exact ⟨rfl, hp⟩
theorem zkS (c : List Corner) (i : Nat) : atP c (i % c.length) = atP c i := by unfold atP; rw [Nat.mod_mod]
theorem zms {l : List Place} (hl : ∀ p ∈ l, on p = true) (h2 : 2 <= (sortP l).length) (i : Nat) : outerL l (atP (cycL l) i) (atP (cycL l) (i + 1)) = true := by
 have C := zc5 (zb2 hl) (zb3 hl) h2
 rw [<- zaY] at C
 have h0 : 0 < (cycL l).length := by have := C.two; omega
 have e := C.edge (i % (cycL l).length) (Nat.mod_lt _ h0)
 obtain ⟨e1, _⟩ := zco hl h0 i
 obtain ⟨e2, _⟩ := zco hl h0 (i + 1)
 rw [e1, Nat.mod_add_mod, e2] at e
 have hs : ∀ r ∈ l, co r ∈ sortP l := fun r hr => (zax hl _).2 ⟨r, hr, rfl⟩
 rcases e with e | e
 ·exact znk hs e
 ·exact znk hs e
theorem zoU {l : List Place} (hl : ∀ p ∈ l, on p = true) (h2 : 2 <= (sortP l).length) {i : Nat} (h0 : 0 < i) (hi : i < (cycL l).length) : atP (cycL l) i ≠ atP (cycL l) 0 := fun he => by
 have C := zc5 (zb2 hl) (zb3 hl) h2
 rw [<- zaY] at C
 have f := C.far i h0 hi
 obtain ⟨e1, _⟩ := zco hl (by omega) i
 obtain ⟨e2, _⟩ := zco hl (by omega) 0
 rw [Nat.mod_eq_of_lt hi] at e1
 rw [Nat.zero_mod] at e2
 rw [e1, e2, he] at f
 omega
theorem zkr {l : List Place} (hl : ∀ p ∈ l, on p = true) (h2 : 2 <= (sortP l).length) : 2 <= (cycL l).length := by
 have C := zc5 (zb2 hl) (zb3 hl) h2
 rw [<- zaY] at C
 exact C.two
theorem zkt {l : List Place} (hl : ∀ p ∈ l, on p = true) (h0 : l ≠ []) : ∀ r ∈ l, atP (cycL l) 0 = r \/ (atP (cycL l) 0).X < r.X \/ ((atP (cycL l) 0).X = r.X /\ (atP (cycL l) 0).Y < r.Y) := fun r hr => by
 have sl : 0 < (sortP l).length := List.length_pos_of_mem ((zax hl _).2 ⟨r, hr, rfl⟩)
 have c0 : 0 < (cycL l).length := by rw [zaY]; exact zcg sl
 have first : (cycL l).getD 0 default = (sortP l).getD 0 default := by
  rw [zaY]
  rcases Nat.lt_or_ge (sortP l).length 2 with g | g
  ·unfold hullL; rw [if_pos (by omega)]
  ·exact (zc5 (zb2 hl) (zb3 hl) g).first
 obtain ⟨e1, m1⟩ := zco hl c0 0
 rw [Nat.zero_mod, first] at e1
 obtain ⟨j, hj, ej⟩ := List.getElem_of_mem ((zax hl _).2 ⟨r, hr, rfl⟩)
 rcases Nat.eq_zero_or_pos j with g | g
 ·subst g
  left
  rw [gdI hj, ej] at e1
  exact (znm e1).symm
 ·right
  have lt := List.pairwise_iff_getElem.1 (zb2 hl) 0 j (by omega) hj g
  rw [<- gdI sl default, <- gdI hj default, e1, gdI hj, ej] at lt
  have b1 := zcv (hl _ m1)
  have b2 := zcv (hl _ hr)
  have lt : 64 * (atP (cycL l) 0).X + 1 * (atP (cycL l) 0).Y - 0 * 1 < 64 * r.X + 1 * r.Y - 0 * 1 := lt
  omega
theorem zks {l : List Place} (hl : ∀ p ∈ l, on p = true) (h0 : l ≠ []) (h2 : (sortP l).length < 2) : (cycL l).length = 1 /\ ∀ r ∈ l, r = atP (cycL l) 0 := by
 obtain ⟨x, hx⟩ := List.exists_mem_of_ne_nil _ h0
 have sl : 0 < (sortP l).length := List.length_pos_of_mem ((zax hl _).2 ⟨x, hx, rfl⟩)
 have e : cycL l = sortP l := by rw [zaY]; unfold hullL; rw [if_pos (by omega)]
 have l1 : (sortP l).length = 1 := by omega
 refine ⟨by rw [e]; exact l1, fun r hr => ?_⟩
 obtain ⟨e1, _⟩ := zco hl (by rw [e]; omega) 0
 rw [Nat.zero_mod] at e1
 obtain ⟨j, hj, ej⟩ := List.getElem_of_mem ((zax hl _).2 ⟨r, hr, rfl⟩)
 obtain rfl : j = 0 := by omega
 have : (cycL l).getD 0 default = (sortP l).getD 0 default := by rw [e]
 rw [this, gdI hj, ej] at e1
 exact znm e1
theorem eqHs (p q : Half) : (p.A == q.A && (p.B == q.B && (p.C == q.C && (true)))) = (p == q) := by
 rw [Bool.eq_iff_iff]
 simp only [Bool.and_eq_true, beq_iff_eq, and_true]
 cases p; cases q; simp
theorem zfx (a b : List Half) (hn : a.length <= 1000000) : Spec PP 14 [slH a, slH b] [B (decide (a = b))] := by
 refine sA Tryz.func14 ?_
 apply sB <;> intro h1
 ·have h1 : a.length ≠ b.length := by
   have : ¬ (a.length : Int) = b.length := by simpa using h1
   omega
  refine r1B rfl ?_
  exact (decide_eq_false fun e => h1 (by rw [e])).symm
 have h1 : a.length = b.length := by
  have : (a.length : Int) = b.length := by simpa using h1
  omega
 refine LoopOb.of (σ := Nat) (fun i => ([(0, avOf (slH a)), (1, avOf (slH b)), (5, .d (I i))], [])) (fun i => i <= a.length /\ a.take i = b.take i) (fun i => a.length - i) 0 ⟨rfl, trivial, wq rfl⟩ ⟨Nat.zero_le _, rfl⟩ fun i hi => ?_
 obtain ⟨i1, i2⟩ := hi
 apply sB <;> intro h2
 ·have h2 : i < a.length := by simpa using h2
  refine oL (List.range 9) (FzOb.no ?_)
  refine ⟨⟨rfl, by omega, by omega⟩, ?_⟩
  refine ⟨⟨rfl, by omega, by omega⟩, ?_⟩
  apply sB <;> intro h3
  ·have h3 : (a.getD i default == b.getD i default) = false := by
    have h3 : (!((a.getD i default).A == (b.getD i default).A && ((a.getD i default).B == (b.getD i default).B && ((a.getD i default).C == (b.getD i default).C && (true))))) = true := h3
    rw [eqHs] at h3
    simpa using h3
   refine r1B rfl ?_
   refine (decide_eq_false fun e => ?_).symm
   subst e
   simp at h3
  ·have h3 : (a.getD i default == b.getD i default) = true := by
    have h3 : (!((a.getD i default).A == (b.getD i default).A && ((a.getD i default).B == (b.getD i default).B && ((a.getD i default).C == (b.getD i default).C && (true))))) = false := h3
    rw [eqHs] at h3
    simpa using h3
   have h3 : a.getD i default = b.getD i default := by simpa using h3
   refine ⟨i6, ?_⟩
   refine ⟨i + 1, ⟨rfl, trivial, wq rfl⟩, ⟨h2, ?_⟩, ?_⟩
   ·rw [zaB h2 default, zaB (by omega) default, i2, h3]
   ·show a.length - (i + 1) < a.length - i
    omega
 ·have h2 : i = a.length := by
   have : ¬ i < a.length := by simpa using h2
   omega
  refine r1B rfl ?_
  rw [h2, List.take_length, h1, List.take_length] at i2
  exact (decide_eq_true i2).symm
theorem zo9 {k n m : Nat} {α : Type} [Inhabited α] {at_ : α -> Nat -> D} {a b : List α} {f g : Nat -> Nat -> D} (hn : n = a.length) (hm : m = b.length) (hf : ∀ i, i < n -> ∀ j, j < k -> D.eqv (f i j) (at_ (a.getD i default) j)) (hg : ∀ i, i < m -> ∀ j, j < k -> D.eqv (g i j) (at_ (b.getD i default) j)) :
  D.eqv (.slc k (n + m) (appRow n f g)) (.slc k (a ++ b).length fun i => at_ ((a ++ b).getD i default)) := by
 subst hn; subst hm
 refine ⟨by simp, .inr ⟨rfl, fun i hi j hj => ?_⟩⟩
 show D.eqv (appRow a.length f g i j) (at_ ((a ++ b).getD i default) j)
 unfold appRow
 by_cases h : i < a.length
 ·rw [if_pos h, gdq, List.getElem?_append_left h, <- gdq]
  exact hf i h j hj
 ·rw [if_neg h, gdq, List.getElem?_append_right (by omega), <- gdq]
  exact hg (i - a.length) (by omega) j hj
end Go.Pg
