/-
  Plain geometry: determinants of three points in homogeneous integers, functionals, points each of which alone is outermost in some direction. No program in sight.
-/
import Derived.Test.YtgbhclflnfahgaaK6
set_option linter.all false
namespace Go.Pg

/-- The value of a half-plane's form at a point, with its bound taken off: not above 0 in the half-plane. -/
def ef (h : Half) (p : Corner) : Int := h.A * p.X + h.B * p.Y - h.C * p.Den
def d3 (a b c : Corner) : Int := a.X * (b.Y * c.Den - b.Den * c.Y) - a.Y * (b.X * c.Den - b.Den * c.X) + a.Den * (b.X * c.Y - b.Y * c.X)
theorem plu (h : Half) (a b c d : Corner) : ef h a * d3 b c d - ef h b * d3 a c d + ef h c * d3 a b d - ef h d * d3 a b c = 0 := by
  unfold ef d3; grind
theorem d3_rot (a b c : Corner) : d3 b c a = d3 a b c := by unfold d3; grind
theorem d3_swap (a b c : Corner) : d3 b a c = -d3 a b c := by unfold d3; grind
theorem d3_swap' (a b c : Corner) : d3 a c b = -d3 a b c := by unfold d3; grind
theorem lies_ef (h : Half) (p : Corner) : lies h p = true ↔ ef h p ≤ 0 := by
  unfold lies ef
  simp only [decide_eq_true_eq]
  omega
theorem dxy (a b c : Corner) : dX a b * dY a c - dY a b * dX a c = a.Den * d3 a b c := by unfold dX dY d3; grind
/-! ### Signs of products -/
theorem sg_pos {a b : Int} (ha : 0 < a) (h : 0 < a * b) : 0 < b := by
  rcases Int.lt_trichotomy b 0 with g | g | g
  · have := Int.mul_neg_of_pos_of_neg ha g; omega
  · subst g; simp at h
  · exact g
theorem sg_neg {a b : Int} (ha : 0 < a) (h : a * b < 0) : b < 0 := by
  rcases Int.lt_trichotomy b 0 with g | g | g
  · exact g
  · subst g; simp at h
  · have := Int.mul_pos ha g; omega
theorem sn_pos {a b : Int} (ha : a < 0) (h : 0 < a * b) : b < 0 := by
  rcases Int.lt_trichotomy b 0 with g | g | g
  · exact g
  · subst g; simp at h
  · have := Int.mul_neg_of_neg_of_pos ha g; omega
theorem sn_neg {a b : Int} (ha : a < 0) (h : a * b < 0) : 0 < b := by
  rcases Int.lt_trichotomy b 0 with g | g | g
  · have := Int.mul_pos_of_neg_of_neg ha g; omega
  · subst g; simp at h
  · exact g
theorem turn_pos {a b c : Corner} (ha : 0 < a.Den) : turn a b c ≤ 0 ↔ d3 a b c ≤ 0 := by
  have h := dxy a b c
  unfold turn ord
  rcases Int.lt_trichotomy (d3 a b c) 0 with g | g | g
  · have := Int.mul_neg_of_pos_of_neg ha g
    rw [if_pos (by omega)]; omega
  · rw [g] at h
    rw [if_neg (by omega), if_neg (by omega)]; omega
  · have := Int.mul_pos ha g
    rw [if_neg (by omega), if_pos (by omega)]; omega
theorem turn_neg {a b c : Corner} (ha : 0 < a.Den) : turn a b c < 0 ↔ d3 a b c < 0 := by
  have h := dxy a b c
  unfold turn ord
  rcases Int.lt_trichotomy (d3 a b c) 0 with g | g | g
  · have := Int.mul_neg_of_pos_of_neg ha g
    rw [if_pos (by omega)]; omega
  · rw [g] at h
    rw [if_neg (by omega), if_neg (by omega)]; omega
  · have := Int.mul_pos ha g
    rw [if_neg (by omega), if_pos (by omega)]; omega
/-! ### Four points -/
section
variable {φ θ : Half} {p q r s : Corner}
/-- q is outermost; p lies ahead of it, r and s behind it: r and s lie on one side of the line from p through q. -/
theorem four1 (f0 : ef φ q = 0) (fp : ef φ p < 0) (fr : ef φ r < 0) (fs : ef φ s < 0) (t0 : ef θ q = 0) (tp : ef θ p < 0) (tr : 0 < ef θ r) (ts : 0 < ef θ s) : ¬ (0 < d3 p q r ∧ d3 p q s < 0) := by
  rintro ⟨h1, h2⟩
  have e1 := plu φ p q r s
  have e2 := plu θ p q r s
  rw [f0, Int.zero_mul] at e1
  rw [t0, Int.zero_mul] at e2
  have a1 := Int.mul_pos_of_neg_of_neg fr h2
  have a2 := Int.mul_neg_of_neg_of_pos fs h1
  have a3 := Int.mul_neg_of_pos_of_neg tr h2
  have a4 := Int.mul_pos ts h1
  have c1 := sn_neg fp (b := d3 q r s) (by omega)
  have c2 := sn_pos tp (b := d3 q r s) (by omega)
  omega
theorem four2 (f0 : ef φ q = 0) (fp : ef φ p < 0) (fr : ef φ r < 0) (fs : ef φ s < 0) (t0 : ef θ q = 0) (tp : ef θ p < 0) (tr : 0 < ef θ r) (ts : 0 < ef θ s) : ¬ (d3 p q r < 0 ∧ 0 < d3 p q s) := by
  rintro ⟨h1, h2⟩
  have e1 := plu φ p q r s
  have e2 := plu θ p q r s
  rw [f0, Int.zero_mul] at e1
  rw [t0, Int.zero_mul] at e2
  have a1 := Int.mul_neg_of_neg_of_pos fr h2
  have a2 := Int.mul_pos_of_neg_of_neg fs h1
  have a3 := Int.mul_pos tr h2
  have a4 := Int.mul_neg_of_pos_of_neg ts h1
  have c1 := sn_pos fp (b := d3 q r s) (by omega)
  have c2 := sn_neg tp (b := d3 q r s) (by omega)
  omega
/-- r is outermost: from p, q lies right of r and r right of s: r turns left on the way from q to s. -/
theorem four3 (f0 : ef φ r = 0) (fp : ef φ p < 0) (fq : ef φ q < 0) (fs : ef φ s < 0) (h1 : 0 < d3 p q r) (h2 : 0 < d3 p r s) : 0 < d3 q r s := by
  have e1 := plu φ p q r s
  rw [f0, Int.zero_mul] at e1
  have a1 := Int.mul_neg_of_neg_of_pos fq h2
  have a2 := Int.mul_neg_of_neg_of_pos fs h1
  exact sn_neg fp (by omega)
/-- The same, by the order of the points. -/
theorem four4 (t0 : ef θ r = 0) (tp : ef θ p < 0) (tq : ef θ q < 0) (ts : 0 < ef θ s) (h1 : 0 < d3 p q r) (h2 : 0 < d3 q r s) : 0 < d3 p r s := by
  have e1 := plu θ p q r s
  rw [t0, Int.zero_mul] at e1
  have a1 := Int.mul_neg_of_neg_of_pos tp h2
  have a2 := Int.mul_pos ts h1
  exact sn_neg tq (by omega)
/-- p is outermost: the order around it is transitive. -/
theorem four5 (f0 : ef φ p = 0) (fq : ef φ q < 0) (fr : ef φ r < 0) (fs : ef φ s < 0) (h1 : 0 < d3 p q r) (h2 : 0 < d3 p r s) : 0 < d3 p q s := by
  have e1 := plu φ p q r s
  rw [f0, Int.zero_mul] at e1
  have a1 := Int.mul_neg_of_neg_of_pos fq h2
  have a2 := Int.mul_neg_of_neg_of_pos fs h1
  exact sn_neg fr (by omega)
end

/-! ### A list of points, in order, each of them outermost in some direction -/
def Bef (th : Corner → Half) (p q : Corner) : Prop := ef (th q) p < 0 ∧ 0 < ef (th p) q
structure Conv (th : Corner → Half) (S : List Corner) : Prop where
  out : ∀ q ∈ S, ∃ φ : Half, ef φ q = 0 ∧ ∀ p ∈ S, p ≠ q → ef φ p < 0
  th0 : ∀ q ∈ S, ef (th q) q = 0
  ord : S.Pairwise (Bef th)
  non : ∀ p ∈ S, ∀ q ∈ S, ∀ r ∈ S, p ≠ q → p ≠ r → q ≠ r → d3 p q r ≠ 0
  den : ∀ q ∈ S, 0 < q.Den
section
variable {th : Corner → Half} {S : List Corner} (C : Conv th S)
include C
theorem Conv.ne {p q : Corner} (hp : p ∈ S) (h : Bef th p q) : p ≠ q := fun e => by
  subst e
  have := C.th0 p hp
  have := h.1
  omega
theorem Conv.low_iff {p q r s : Corner} (hp : p ∈ S) (hq : q ∈ S) (hr : r ∈ S) (hs : s ∈ S) (h1 : Bef th p q) (h2 : Bef th q r) (h3 : Bef th q s) (h4 : Bef th p r) (h5 : Bef th p s) : 0 < d3 p q r ↔ 0 < d3 p q s := by
  obtain ⟨φ, f0, ff⟩ := C.out q hq
  have fp := ff p hp (C.ne hp h1)
  have fr := ff r hr (C.ne hq h2).symm
  have fs := ff s hs (C.ne hq h3).symm
  have n1 := C.non p hp q hq r hr (C.ne hp h1) (C.ne hp h4) (C.ne hq h2)
  have n2 := C.non p hp q hq s hs (C.ne hp h1) (C.ne hp h5) (C.ne hq h3)
  have c1 := four1 f0 fp fr fs (C.th0 q hq) h1.1 h2.2 h3.2
  have c2 := four2 f0 fp fr fs (C.th0 q hq) h1.1 h2.2 h3.2
  omega
/-- a is the first point or a low one; b behind it is low exactly if the way from a through b turns left on to y. -/
theorem Conv.turn_low {p0 m a b y : Corner} (h0 : p0 ∈ S) (hm : m ∈ S) (ha : a ∈ S) (hb : b ∈ S) (hy : y ∈ S) (b1 : Bef th p0 b) (b2 : Bef th b y) (b3 : Bef th p0 y) (b4 : y = m ∨ Bef th y m) (b5 : Bef th b m) (b6 : Bef th p0 m)
    (hA : a = p0 ∨ (Bef th p0 a ∧ Bef th a b ∧ Bef th a y ∧ Bef th a m ∧ 0 < d3 p0 a m)) : 0 < d3 a b y ↔ 0 < d3 p0 b m := by
  have e : 0 < d3 p0 b y ↔ 0 < d3 p0 b m := by
    rcases b4 with rfl | b4
    · exact Iff.rfl
    · exact C.low_iff h0 hb hy hm b1 b2 b5 b3 b6
  rcases hA with rfl | ⟨a1, a2, a3, a4, a5⟩
  · exact e
  rw [← e]
  have g : 0 < d3 p0 a b := (C.low_iff h0 ha hb hm a1 a2 a4 b1 b6).2 a5
  constructor
  · intro h
    exact four4 (C.th0 b hb) b1.1 a2.1 b2.2 g h
  · intro h
    obtain ⟨φ, f0, ff⟩ := C.out b hb
    exact four3 f0 (ff p0 h0 (C.ne h0 b1)) (ff a ha (C.ne ha a2)) (ff y hy (C.ne hb b2).symm) g h
end
def low (p0 m q : Corner) : Bool := decide (0 < d3 p0 q m)
theorem popR_two (p b a : Corner) (r : List Corner) : popR p (b :: a :: r) = if turn a b p ≤ 0 then popR p (a :: r) else b :: a :: r := rfl
section
variable {th : Corner → Half} {S : List Corner} (C : Conv th S) {p0 m : Corner} (h0 : p0 ∈ S) (hm : m ∈ S) (hpm : Bef th p0 m)
include C h0 hm hpm
/-- Nothing is taken off a chain of low points. -/
theorem Conv.pop_low {F : List Corner} {y : Corner} (hy : y ∈ S) (hym : y = m ∨ Bef th y m) (hF : (p0 :: (F ++ [y])).Pairwise (Bef th)) (hFS : ∀ q ∈ F, q ∈ S ∧ Bef th q m ∧ low p0 m q = true) : popR y (F.reverse ++ [p0]) = F.reverse ++ [p0] := by
  rw [List.pairwise_cons] at hF
  obtain ⟨g1, g2⟩ := hF
  rcases List.eq_nil_or_concat F with rfl | ⟨F', b, rfl⟩
  · rfl
  · rw [List.concat_eq_append] at *
    have gb := hFS b (by simp)
    rw [List.append_assoc, List.pairwise_append] at g2
    obtain ⟨g3, g4, g5⟩ := g2
    have gby : Bef th b y := by
      have := (List.pairwise_cons.1 g4).1 y (by simp)
      exact this
    obtain ⟨a, r, hr, hA⟩ : ∃ a r, F'.reverse ++ [p0] = a :: r ∧ (a = p0 ∨ (a ∈ F')) := by
      rcases List.eq_nil_or_concat F' with rfl | ⟨F2, a, rfl⟩
      · exact ⟨p0, [], rfl, .inl rfl⟩
      · exact ⟨a, F2.reverse ++ [p0], by simp, .inr (by simp)⟩
    have hyB : Bef th p0 y := g1 y (by simp)
    have haS : a ∈ S := by
      rcases hA with rfl | hA
      · exact h0
      · exact (hFS a (by simp [hA])).1
    have key := C.turn_low (a := a) (b := b) (y := y) h0 hm haS gb.1 hy (g1 b (by simp)) gby hyB hym gb.2.1 hpm (by
      rcases hA with rfl | hA
      · exact .inl rfl
      · have ga := hFS a (by simp [hA])
        exact .inr ⟨g1 a (by simp [hA]), g5 a hA b (by simp), g5 a hA y (by simp), ga.2.1, by have := ga.2.2; unfold low at this; simpa using this⟩)
    have hl : 0 < d3 p0 b m := by have := gb.2.2; unfold low at this; simpa using this
    have ht := key.2 hl
    rw [List.reverse_append, List.reverse_singleton, List.append_assoc, hr, List.singleton_append, popR_two, if_neg]
    rw [turn_pos (C.den a haS)]
    omega
theorem Conv.pop_top {F : List Corner} {x y : Corner} (hx : x ∈ S) (hxm : Bef th x m) (hy : y ∈ S) (hym : y = m ∨ Bef th y m) (hF : (p0 :: (F ++ [x, y])).Pairwise (Bef th)) (hFS : ∀ q ∈ F, q ∈ S ∧ Bef th q m ∧ low p0 m q = true) :
    popR y (x :: (F.reverse ++ [p0])) = (F ++ [x].filter (low p0 m)).reverse ++ [p0] := by
  by_cases hl : low p0 m x = true
  · have e : [x].filter (low p0 m) = [x] := by simp [hl]
    rw [e]
    have := C.pop_low (F := F ++ [x]) h0 hm hpm hy hym (by simpa using hF) (fun q hq => by
      rcases List.mem_append.1 hq with hq | hq
      · exact hFS q hq
      · obtain rfl : q = x := by simpa using hq
        exact ⟨hx, hxm, hl⟩)
    rw [List.reverse_append, List.reverse_singleton] at this
    simpa using this
  · have e : [x].filter (low p0 m) = [] := by simp [hl]
    rw [e, List.append_nil]
    have g := hF
    rw [List.pairwise_cons] at g
    obtain ⟨g1, g2⟩ := g
    rw [List.pairwise_append] at g2
    obtain ⟨g3, g4, g5⟩ := g2
    have gxy : Bef th x y := (List.pairwise_cons.1 g4).1 y (by simp)
    obtain ⟨a, r, hr, hA⟩ : ∃ a r, F.reverse ++ [p0] = a :: r ∧ (a = p0 ∨ (a ∈ F)) := by
      rcases List.eq_nil_or_concat F with rfl | ⟨F2, a, rfl⟩
      · exact ⟨p0, [], rfl, .inl rfl⟩
      · exact ⟨a, F2.reverse ++ [p0], by simp, .inr (by simp)⟩
    have haS : a ∈ S := by
      rcases hA with rfl | hA
      · exact h0
      · exact (hFS a hA).1
    have key := C.turn_low (a := a) (b := x) (y := y) h0 hm haS hx hy (g1 x (by simp)) gxy (g1 y (by simp)) hym hxm hpm (by
      rcases hA with rfl | hA
      · exact .inl rfl
      · have ga := hFS a hA
        exact .inr ⟨g1 a (by simp [hA]), g5 a hA x (by simp), g5 a hA y (by simp), ga.2.1, by have := ga.2.2; unfold low at this; simpa using this⟩)
    have hnl : ¬ 0 < d3 p0 x m := fun h => hl (by unfold low; simpa using h)
    have ht : ¬ 0 < d3 a x y := fun h => hnl (key.1 h)
    have hp := C.pop_low (F := F) h0 hm hpm hy hym (by
      refine List.Pairwise.sublist ?_ hF
      refine List.Sublist.cons_cons p0 (List.Sublist.append_left ?_ F)
      exact List.sublist_cons_self x [y]) hFS
    rw [hr] at hp ⊢
    rw [popR_two, if_pos, hp]
    rw [turn_pos (C.den a haS)]
    omega
theorem Conv.chain {post : List Corner} : ∀ {F : List Corner} {x : Corner}, (p0 :: (F ++ x :: post)).Pairwise (Bef th) → (∀ q ∈ F, q ∈ S ∧ Bef th q m ∧ low p0 m q = true) → (∀ q ∈ x :: post, q ∈ S ∧ (q = m ∨ Bef th q m)) →
    post.foldl stepR (x :: (F.reverse ++ [p0])) = (x :: post).getLast (by simp) :: ((F ++ (x :: post).dropLast.filter (low p0 m)).reverse ++ [p0]) := by
  induction post with
  | nil => intro F x h1 h2 h3; simp
  | cons y post ih =>
    intro F x h1 h2 h3
    have hx := h3 x (by simp)
    have hy := h3 y (by simp)
    have g := h1
    rw [List.pairwise_cons] at g
    obtain ⟨g1, g2⟩ := g
    rw [List.pairwise_append] at g2
    obtain ⟨g3, g4, g5⟩ := g2
    have gxy : Bef th x y := (List.pairwise_cons.1 g4).1 y (by simp)
    have hxm : Bef th x m := by
      rcases hx.2 with e | e
      · subst e
        rcases hy.2 with e | e
        · subst e; exact gxy
        · exfalso
          have := gxy.1
          have := e.2
          omega
      · exact e
    rw [List.foldl_cons]
    show post.foldl stepR (y :: popR y (x :: (F.reverse ++ [p0]))) = _
    rw [C.pop_top h0 hm hpm hx.1 hxm hy.1 hy.2 (by
      refine List.Pairwise.sublist ?_ h1
      refine List.Sublist.cons_cons p0 (List.Sublist.append_left ?_ F)
      exact List.Sublist.cons_cons x (List.Sublist.cons_cons y (List.nil_sublist _))) h2]
    rw [ih (F := F ++ [x].filter (low p0 m)) (x := y) ?_ ?_ ?_]
    · simp only [List.getLast_cons_cons, List.dropLast_cons₂]
      by_cases hl : low p0 m x = true <;> simp [hl]
    · refine List.Pairwise.sublist ?_ h1
      refine List.Sublist.cons_cons p0 ?_
      rw [List.append_assoc]
      refine List.Sublist.append_left ?_ F
      show ([x].filter _ ++ y :: post).Sublist ([x] ++ y :: post)
      exact List.Sublist.append_right List.filter_sublist _
    · intro q hq
      rcases List.mem_append.1 hq with hq | hq
      · exact h2 q hq
      · obtain ⟨hq1, hq2⟩ := List.mem_filter.1 hq
        obtain rfl : q = x := by simpa using hq1
        exact ⟨hx.1, hxm, hq2⟩
    · exact fun q hq => h3 q (by simp at hq ⊢; right; exact hq)
end
theorem Conv.half {th : Corner → Half} {p0 m : Corner} {mid : List Corner} (C : Conv th (p0 :: (mid ++ [m]))) : halfL (p0 :: (mid ++ [m])) = p0 :: mid.filter (low p0 m) := by
  have hs : halfL (p0 :: (mid ++ [m])) = ((p0 :: (mid ++ [m])).foldl stepR []).tail.reverse := by unfold halfL chainR; rfl
  have hall : ∀ q ∈ mid ++ [m], q ∈ p0 :: (mid ++ [m]) ∧ (q = m ∨ Bef th q m) := fun q hq => by
    refine ⟨List.mem_cons_of_mem _ hq, ?_⟩
    rcases List.mem_append.1 hq with h | h
    · refine .inr ?_
      have := (List.pairwise_cons.1 C.ord).2
      exact (List.pairwise_append.1 this).2.2 q h m (by simp)
    · exact .inl (by simpa using h)
  have hpm : Bef th p0 m := (List.pairwise_cons.1 C.ord).1 m (by simp)
  have hs2 : (p0 :: (mid ++ [m])).foldl stepR [] = (mid ++ [m]).foldl stepR [p0] := rfl
  obtain ⟨x, post, hx⟩ : ∃ x post, mid ++ [m] = x :: post := by
    cases mid with
    | nil => exact ⟨m, [], rfl⟩
    | cons x r => exact ⟨x, r ++ [m], rfl⟩
  have hs3 : (mid ++ [m]).foldl stepR [p0] = post.foldl stepR (x :: (([] : List Corner).reverse ++ [p0])) := by rw [hx]; rfl
  have hc := C.chain (p0 := p0) (m := m) (by simp) (by simp) hpm (post := post) (F := []) (x := x) (by rw [List.nil_append, ← hx]; exact C.ord) (fun q hq => by cases hq) (by rw [← hx]; exact hall)
  rw [hs, hs2, hs3, hc]
  simp only [← hx]
  simp
end Go.Pg
/-
  Plain geometry: the chain's hull of points in convex position goes around; so does the specification's way of finding the next one. No program in sight.
-/
set_option linter.all false
namespace Go.Pg

def negH (h : Half) : Half := ⟨-h.A, -h.B, -h.C⟩
theorem ef_neg (h : Half) (p : Corner) : ef (negH h) p = -ef h p := by unfold ef negH; grind
theorem Conv.rev {th : Corner → Half} {S : List Corner} (C : Conv th S) : Conv (fun q => negH (th q)) S.reverse where
  out q hq := by
    obtain ⟨φ, f0, ff⟩ := C.out q (List.mem_reverse.1 hq)
    exact ⟨φ, f0, fun p hp => ff p (List.mem_reverse.1 hp)⟩
  th0 q hq := by rw [ef_neg, C.th0 q (List.mem_reverse.1 hq)]; rfl
  ord := by
    rw [List.pairwise_reverse]
    refine C.ord.imp fun {p q} h => ?_
    unfold Bef at *
    rw [ef_neg, ef_neg]
    omega
  non p hp q hq r hr := C.non p (List.mem_reverse.1 hp) q (List.mem_reverse.1 hq) r (List.mem_reverse.1 hr)
  den q hq := C.den q (List.mem_reverse.1 hq)
/-- The hull but for its first corner. -/
def roundT (p0 m : Corner) (mid : List Corner) : List Corner := mid.filter (low p0 m) ++ m :: mid.reverse.filter (low m p0)
theorem Conv.hull {th : Corner → Half} {p0 m : Corner} {mid : List Corner} (C : Conv th (p0 :: (mid ++ [m]))) (hmid : mid ≠ []) : hullL (p0 :: (mid ++ [m])) = p0 :: roundT p0 m mid := by
  have hr : (p0 :: (mid ++ [m])).reverse = m :: (mid.reverse ++ [p0]) := by simp
  have C' := C.rev
  rw [hr] at C'
  have hl : ¬ (p0 :: (mid ++ [m])).length < 3 := by
    have := List.length_pos_iff.2 hmid
    simp; omega
  unfold hullL
  rw [if_neg hl, C.half, hr, C'.half]
  unfold roundT
  simp
theorem low_rev {p0 m q : Corner} : low m p0 q = true ↔ d3 p0 q m < 0 := by
  unfold low
  have h1 := d3_rot p0 m q
  have h2 := d3_swap' p0 q m
  simp only [decide_eq_true_eq]
  omega
theorem Conv.nodup {th : Corner → Half} {S : List Corner} (C : Conv th S) : S.Nodup :=
  List.Pairwise.imp_of_mem (fun {p q} hp hq h => C.ne hp h) C.ord
theorem Conv.round_mem {th : Corner → Half} {p0 m : Corner} {mid : List Corner} (C : Conv th (p0 :: (mid ++ [m]))) (q : Corner) : q ∈ roundT p0 m mid ↔ q ∈ mid ++ [m] := by
  unfold roundT
  have hlow : low m p0 q = true ↔ d3 p0 q m < 0 := low_rev
  rw [List.mem_append, List.mem_cons, List.mem_append, List.mem_filter, List.mem_filter, List.mem_reverse, hlow]
  simp only [List.mem_singleton]
  constructor
  · rintro (h | h | h)
    · exact .inl h.1
    · exact .inr h
    · exact .inl h.1
  · rintro (h | h)
    · have hnd := C.nodup
      have hn : d3 p0 q m ≠ 0 := by
        refine C.non p0 (by simp) q (by simp [h]) m (by simp) ?_ ?_ ?_
        · rintro rfl; exact (List.nodup_cons.1 hnd).1 (by simp [h])
        · rintro rfl; exact (List.nodup_cons.1 hnd).1 (by simp)
        · rintro rfl
          have := (List.nodup_cons.1 hnd).2
          have := (List.pairwise_append.1 this).2.2 q h q (by simp)
          exact this rfl
      rcases Int.lt_or_gt_of_ne hn with g | g
      · exact .inr (.inr ⟨h, g⟩)
      · exact .inl ⟨h, by unfold low; simpa using g⟩
    · exact .inr (.inl h)
theorem Conv.round_len {th : Corner → Half} {p0 m : Corner} {mid : List Corner} (C : Conv th (p0 :: (mid ++ [m]))) : (roundT p0 m mid).length = (mid ++ [m]).length := by
  have key : ∀ l : List Corner, (∀ q ∈ l, q ∈ mid) → (l.filter (low p0 m)).length + (l.filter (low m p0)).length = l.length := by
    intro l
    induction l with
    | nil => intro _; rfl
    | cons q l ih =>
      intro hl
      have ih := ih fun p hp => hl p (List.mem_cons_of_mem _ hp)
      have hq := hl q (by simp)
      have hnd := C.nodup
      have hn : d3 p0 q m ≠ 0 := by
        refine C.non p0 (by simp) q (by simp [hq]) m (by simp) ?_ ?_ ?_
        · rintro rfl; exact (List.nodup_cons.1 hnd).1 (by simp [hq])
        · rintro rfl; exact (List.nodup_cons.1 hnd).1 (by simp)
        · rintro rfl
          have := (List.nodup_cons.1 hnd).2
          have := (List.pairwise_append.1 this).2.2 q hq q (by simp)
          exact this rfl
      have h2 : low m p0 q = true ↔ d3 p0 q m < 0 := low_rev
      have h1 : low p0 m q = true ↔ 0 < d3 p0 q m := by unfold low; simp
      rcases Int.lt_or_gt_of_ne hn with g | g
      · rw [List.filter_cons_of_neg (by rw [h1]; omega), List.filter_cons_of_pos (by rw [h2]; omega)]
        simp only [List.length_cons]; omega
      · rw [List.filter_cons_of_pos (by rw [h1]; omega), List.filter_cons_of_neg (by rw [h2]; omega)]
        simp only [List.length_cons]; omega
  have := key mid fun q hq => hq
  unfold roundT
  rw [List.filter_reverse]
  simp only [List.length_append, List.length_cons, List.length_reverse, List.length_nil]
  omega
theorem Conv.round_ord {th : Corner → Half} {p0 m : Corner} {mid : List Corner} (C : Conv th (p0 :: (mid ++ [m]))) : (roundT p0 m mid).Pairwise fun a b => 0 < d3 p0 a b := by
  have g := C.ord
  rw [List.pairwise_cons] at g
  obtain ⟨g1, g2⟩ := g
  rw [List.pairwise_append] at g2
  obtain ⟨g3, _, g5⟩ := g2
  have hpm : Bef th p0 m := g1 m (by simp)
  have hP : ∀ q ∈ mid, q ∈ p0 :: (mid ++ [m]) ∧ Bef th p0 q ∧ Bef th q m := fun q hq => ⟨by simp [hq], g1 q (by simp [hq]), g5 q hq m (by simp)⟩
  have key : ∀ a ∈ mid, ∀ b ∈ mid, Bef th a b → (0 < d3 p0 a b ↔ 0 < d3 p0 a m) := fun a ha b hb hab => by
    obtain ⟨a1, a2, a3⟩ := hP a ha
    obtain ⟨b1, b2, b3⟩ := hP b hb
    exact C.low_iff (by simp) a1 b1 (by simp) a2 hab a3 b2 hpm
  have hl : ∀ q, low p0 m q = true ↔ 0 < d3 p0 q m := fun q => by unfold low; simp
  have hmm : ∀ q, low m p0 q = true → 0 < d3 p0 m q := fun q hq => by
    have := low_rev.1 hq
    have := d3_swap' p0 q m
    omega
  unfold roundT
  rw [List.pairwise_append]
  refine ⟨?_, ?_, ?_⟩
  · refine List.Pairwise.imp_of_mem ?_ (g3.filter _)
    intro a b ha hb hab
    obtain ⟨ha1, ha2⟩ := List.mem_filter.1 ha
    obtain ⟨hb1, hb2⟩ := List.mem_filter.1 hb
    exact (key a ha1 b hb1 hab).2 ((hl a).1 ha2)
  · rw [List.pairwise_cons]
    refine ⟨fun q hq => hmm q (List.mem_filter.1 hq).2, ?_⟩
    have : mid.reverse.Pairwise fun a b => Bef th b a := List.pairwise_reverse.2 g3
    refine List.Pairwise.imp_of_mem ?_ (this.filter _)
    intro a b ha hb hab
    obtain ⟨ha1, ha2⟩ := List.mem_filter.1 ha
    obtain ⟨hb1, hb2⟩ := List.mem_filter.1 hb
    rw [List.mem_reverse] at ha1 hb1
    have h1 := key b hb1 a ha1 hab
    have h2 := low_rev.1 hb2
    have h3 := d3_swap' p0 b a
    have hn : d3 p0 b a ≠ 0 := C.non p0 (by simp) b (by simp [hb1]) a (by simp [ha1]) (C.ne (by simp) (hP b hb1).2.1) (C.ne (by simp) (hP a ha1).2.1) (C.ne (by simp [hb1]) hab)
    omega
  · intro a ha b hb
    obtain ⟨ha1, ha2⟩ := List.mem_filter.1 ha
    rcases List.mem_cons.1 hb with rfl | hb
    · exact (hl a).1 ha2
    · obtain ⟨hb1, hb2⟩ := List.mem_filter.1 hb
      rw [List.mem_reverse] at hb1
      obtain ⟨φ, f0, ff⟩ := C.out p0 (by simp)
      obtain ⟨a1, a2, _⟩ := hP a ha1
      obtain ⟨b1, b2, _⟩ := hP b hb1
      exact four5 f0 (ff a a1 (C.ne (by simp) a2).symm) (ff m (by simp) (C.ne (by simp) hpm).symm) (ff b b1 (C.ne (by simp) b2).symm) ((hl a).1 ha2) (hmm b hb2)

/-! ### The specification's way around -/
def nextI (l out : List Corner) : Nat → Int
  | 0 => -1
  | i + 1 => if i = 0 then -1 else if l.getD i default ∈ out then nextI l out i else if nextI l out i < 0 ∨ turn (out.getD (out.length - 1) default) (l.getD (max (nextI l out i) 0).toNat default) (l.getD i default) < 0 then (i : Int) else nextI l out i
def aroundTo (l : List Corner) : Nat → List Corner
  | 0 => [l.getD 0 default]
  | n + 1 => aroundTo l n ++ [l.getD (max (nextI l (aroundTo l n) l.length) 0).toNat default]
def aroundL (l : List Corner) : List Corner := aroundTo l (l.length - 1)
theorem next_find {l out : List Corner} {t : Corner} {u : Corner} (hu : out.getD (out.length - 1) default = u) (hden : 0 < u.Den) (ht : t ∉ out)
    (hlt : ∀ i, 1 ≤ i → i < l.length → l.getD i default ∉ out → l.getD i default ≠ t → 0 < d3 u t (l.getD i default)) :
    ∀ i, i ≤ l.length → ((∀ j, 1 ≤ j → j < i → l.getD j default ≠ t) ∧ (nextI l out i = -1 ∨ ∃ j : Nat, nextI l out i = j ∧ 1 ≤ j ∧ j < i ∧ l.getD j default ∉ out)) ∨ (∃ j : Nat, nextI l out i = j ∧ l.getD j default = t)
  | 0, _ => .inl ⟨fun j h1 h2 => by omega, .inl rfl⟩
  | i + 1, hi => by
    have ih := next_find hu hden ht hlt i (by omega)
    by_cases h0 : i = 0
    · subst h0
      exact .inl ⟨fun j h1 h2 => by omega, .inl rfl⟩
    by_cases hin : l.getD i default ∈ out
    · have e : nextI l out (i + 1) = nextI l out i := by simp only [nextI, if_neg h0, if_pos hin]
      rw [e]
      rcases ih with ⟨i1, i2⟩ | i3
      · refine .inl ⟨fun j h1 h2 => ?_, ?_⟩
        · rcases Nat.lt_or_ge j i with h | h
          · exact i1 j h1 h
          · obtain rfl : j = i := by omega
            exact fun e => ht (e ▸ hin)
        · rcases i2 with i2 | ⟨j, h1, h2, h3, h4⟩
          · exact .inl i2
          · exact .inr ⟨j, h1, h2, by omega, h4⟩
      · exact .inr i3
    have e : nextI l out (i + 1) = if nextI l out i < 0 ∨ turn u (l.getD (max (nextI l out i) 0).toNat default) (l.getD i default) < 0 then (i : Int) else nextI l out i := by
      simp only [nextI, if_neg h0, if_neg hin, hu]
    rw [e]
    clear e
    by_cases hit : l.getD i default = t
    · refine .inr ?_
      rcases ih with ⟨i1, i2 | ⟨j, h1, h2, h3, h4⟩⟩ | ⟨j, h1, h2⟩
      · rw [if_pos (.inl (by omega))]
        exact ⟨i, rfl, hit⟩
      · have hj := hlt j h2 (by omega) h4 (i1 j h2 h3)
        have hs := d3_swap' u t (l.getD j default)
        have hc : nextI l out i < 0 ∨ turn u (l.getD (max (nextI l out i) 0).toNat default) (l.getD i default) < 0 := by
          refine .inr ?_
          rw [h1, show (max (j : Int) 0).toNat = j by omega, turn_neg hden, hit]
          omega
        rw [if_pos hc]
        exact ⟨i, rfl, hit⟩
      · by_cases hc : nextI l out i < 0 ∨ turn u (l.getD (max (nextI l out i) 0).toNat default) (l.getD i default) < 0
        · rw [if_pos hc]; exact ⟨i, rfl, hit⟩
        · rw [if_neg hc]; exact ⟨j, h1, h2⟩
    · rcases ih with ⟨i1, i2⟩ | ⟨j, h1, h2⟩
      · refine .inl ⟨fun j h1 h2 => ?_, ?_⟩
        · rcases Nat.lt_or_ge j i with h | h
          · exact i1 j h1 h
          · obtain rfl : j = i := by omega
            exact hit
        · by_cases hc : nextI l out i < 0 ∨ turn u (l.getD (max (nextI l out i) 0).toNat default) (l.getD i default) < 0
          · rw [if_pos hc]
            have a1 : 1 ≤ i := Nat.pos_of_ne_zero h0
            exact .inr ⟨i, rfl, a1, Nat.lt_succ_self i, hin⟩
          · rw [if_neg hc]
            rcases i2 with i2 | ⟨j, h1, h2, h3, h4⟩
            · exact .inl i2
            · exact .inr ⟨j, h1, h2, by omega, h4⟩
      · refine .inr ⟨j, ?_, h2⟩
        have hg := hlt i (by omega) (by omega) hin hit
        rw [if_neg, h1]
        rintro (h | h)
        · omega
        · rw [h1, show (max (j : Int) 0).toNat = j by omega, h2, turn_neg hden] at h
          omega
end Go.Pg
/-
  The points of a polygon in which edges cross, in order: sorted and without repetitions is the same as put in one after the other.
-/
set_option linter.all false
namespace Go.Pg
open Go.Proofs Go.RowKit Go.Sort

theorem ltC_irrefl (p : Corner) : ¬ ltC p p := by unfold ltC; omega
theorem ltC_asymm {p q : Corner} (h : ltC p q) : ¬ ltC q p := by unfold ltC at *; omega
theorem leC_of_ltC {p q : Corner} (h : ltC p q) : leC p q := by unfold ltC at h; unfold leC; omega
theorem ltC_of_le {p q : Corner} (hp : valid p = true) (hq : valid q = true) (h : leC p q) (hn : p ≠ q) : ltC p q := by
  refine Classical.not_not.1 fun h1 => hn (leC_antisymm hp hq h (not_ltC.1 h1))
theorem denV {p : Corner} (h : valid p = true) : 0 < p.Den := by have := (okC_of h).d; omega
theorem lt_le_C {p q r : Corner} (hp : valid p = true) (hq : valid q = true) (hr : valid r = true) (h1 : ltC p q) (h2 : leC q r) : ltC p r := by
  refine Classical.not_not.1 fun h => ?_
  have := leC_trans (denV hq) (denV hr) (denV hp) h2 (not_ltC.1 h)
  exact (not_ltC.2 this) h1
theorem le_lt_C {p q r : Corner} (hp : valid p = true) (hq : valid q = true) (hr : valid r = true) (h1 : leC p q) (h2 : ltC q r) : ltC p r := by
  refine Classical.not_not.1 fun h => ?_
  have := leC_trans (denV hr) (denV hp) (denV hq) (not_ltC.1 h) h1
  exact (not_ltC.2 this) h2
/-- Two lists in strict order with the same elements are one. -/
theorem strict_unique : ∀ {l m : List Corner}, l.Pairwise ltC → m.Pairwise ltC → (∀ q, q ∈ l ↔ q ∈ m) → l = m
  | [], [], _, _, _ => rfl
  | [], b :: m, _, _, h => by have := (h b).2 (by simp); cases this
  | a :: l, [], _, _, h => by have := (h a).1 (by simp); cases this
  | a :: l, b :: m, h1, h2, h => by
    rw [List.pairwise_cons] at h1 h2
    have hab : a = b := by
      rcases List.mem_cons.1 ((h a).1 (by simp)) with e | e
      · exact e
      · rcases List.mem_cons.1 ((h b).2 (by simp)) with g | g
        · exact g.symm
        · exact absurd (h1.1 b g) (ltC_asymm (h2.1 a e))
    subst hab
    congr 1
    refine strict_unique h1.2 h2.2 fun q => ?_
    constructor
    · intro hq
      rcases List.mem_cons.1 ((h q).1 (List.mem_cons_of_mem _ hq)) with e | e
      · subst e; exact absurd (h1.1 q hq) (ltC_irrefl q)
      · exact e
    · intro hq
      rcases List.mem_cons.1 ((h q).2 (List.mem_cons_of_mem _ hq)) with e | e
      · subst e; exact absurd (h2.1 q hq) (ltC_irrefl q)
      · exact e
/-! ### Without repetitions -/
theorem gdI {α : Type} {l : List α} {i : Nat} (h : i < l.length) (d : α) : l.getD i d = l[i] := by rw [List.getD_eq_getElem?_getD, List.getElem?_eq_getElem h]; rfl
theorem compL_all {l : List Corner} : ∀ i, i < l.length → l.getD i default ∈ compL l
  | 0, h => by
    unfold compL compP
    exact List.mem_map.2 ⟨0, List.mem_filter.2 ⟨List.mem_range.2 h, keep0 l (by omega)⟩, rfl⟩
  | i + 1, h => by
    by_cases hk : keepC l (i + 1) = true
    · unfold compL compP
      exact List.mem_map.2 ⟨i + 1, List.mem_filter.2 ⟨List.mem_range.2 h, hk⟩, rfl⟩
    · rw [keepC_eq] at hk
      have e : l.getD (i + 1) default = l.getD i default := by
        simpa using hk
      rw [e]
      exact compL_all i (by omega)
theorem compL_iff {l : List Corner} (q : Corner) : q ∈ compL l ↔ q ∈ l := by
  refine ⟨compL_mem, fun h => ?_⟩
  obtain ⟨i, hi, rfl⟩ := List.getElem_of_mem h
  rw [← gdI hi default]
  exact compL_all i hi
theorem compL_strict {l : List Corner} (hv : ∀ q ∈ l, valid q = true) (h : l.Pairwise leC) : (compL l).Pairwise ltC := by
  have hle : ∀ i j, i < j → j < l.length → leC (l.getD i default) (l.getD j default) := fun i j hij hj => by
    rw [gdI (by omega) default, gdI hj default]
    exact List.pairwise_iff_getElem.1 h i j (by omega) hj hij
  have hlr : ∀ i j, i ≤ j → j < l.length → leC (l.getD i default) (l.getD j default) := fun i j hij hj => by
    rcases Nat.lt_or_ge i j with h | h
    · exact hle i j h hj
    · obtain rfl : i = j := by omega
      unfold leC; omega
  unfold compL compP
  rw [List.pairwise_map]
  refine List.Pairwise.imp_of_mem ?_ ((List.pairwise_lt_range (n := l.length)).filter _)
  intro i j hi hj hij
  obtain ⟨hi1, _⟩ := List.mem_filter.1 hi
  obtain ⟨hj1, hj2⟩ := List.mem_filter.1 hj
  have hj1 := List.mem_range.1 hj1
  have hne : l.getD (j - 1) default ≠ l.getD j default := by
    rw [keepC_eq] at hj2
    have h0 : j ≠ 0 := by omega
    intro e
    rw [e] at hj2
    simp [h0] at hj2
  have v : ∀ k, k < l.length → valid (l.getD k default) = true := fun k hk => hv _ (gd1 hk default)
  refine le_lt_C (v i (by omega)) (v (j - 1) (by omega)) (v j hj1) (hlr i (j - 1) (by omega) (by omega)) ?_
  exact ltC_of_le (v (j - 1) (by omega)) (v j hj1) (hle (j - 1) j (by omega) hj1) hne
/-! ### Put in, one after the other -/
def insC (p : Corner) : List Corner → List Corner
  | [] => [p]
  | q :: r => if cmpC q p < 0 then q :: insC p r else if q = p then q :: r else p :: q :: r
def insL (l : List Corner) (out : List Corner) : List Corner := l.foldl (fun out p => insC p out) out
theorem insC_mem (p x : Corner) : ∀ out : List Corner, x ∈ insC p out ↔ x = p ∨ x ∈ out
  | [] => by simp [insC]
  | q :: r => by
    simp only [insC]
    split
    · rw [List.mem_cons, insC_mem p x r, List.mem_cons]
      exact or_left_comm
    · split
      · rename_i h; subst h; simp
      · simp
theorem insC_strict {p : Corner} (hp : valid p = true) : ∀ {out : List Corner}, (∀ q ∈ out, valid q = true) → out.Pairwise ltC → (insC p out).Pairwise ltC
  | [], _, _ => by simp [insC]
  | q :: r, hv, h => by
    have hq := hv q (by simp)
    have hr := fun x hx => hv x (List.mem_cons_of_mem _ hx)
    rw [List.pairwise_cons] at h
    simp only [insC]
    split
    · rename_i h1
      rw [cmpC_lt hq hp] at h1
      rw [List.pairwise_cons]
      refine ⟨fun x hx => ?_, insC_strict hp hr h.2⟩
      rcases (insC_mem p x r).1 hx with rfl | hx
      · exact h1
      · exact h.1 x hx
    · rename_i h1
      rw [cmpC_lt hq hp] at h1
      split
      · rw [List.pairwise_cons]; exact h
      · rename_i h2
        have h3 : ltC p q := ltC_of_le hp hq (not_ltC.1 h1) fun e => h2 e.symm
        rw [List.pairwise_cons]
        refine ⟨fun x hx => ?_, List.pairwise_cons.2 h⟩
        rcases List.mem_cons.1 hx with rfl | hx
        · exact h3
        · exact lt_le_C hp hq (hr x hx) h3 (leC_of_ltC (h.1 x hx))
theorem insL_ok : ∀ (l out : List Corner), (∀ q ∈ l, valid q = true) → (∀ q ∈ out, valid q = true) → out.Pairwise ltC → (insL l out).Pairwise ltC ∧ ∀ x, x ∈ insL l out ↔ x ∈ l ∨ x ∈ out
  | [], out, _, _, h => ⟨h, fun x => by simp [insL]⟩
  | p :: l, out, hl, ho, h => by
    have hp := hl p (by simp)
    have ih := insL_ok l (insC p out) (fun q hq => hl q (List.mem_cons_of_mem _ hq)) (fun q hq => by
      rcases (insC_mem p q out).1 hq with rfl | hq
      · exact hp
      · exact ho q hq) (insC_strict hp ho h)
    refine ⟨ih.1, fun x => ?_⟩
    have := ih.2 x
    rw [insC_mem] at this
    show x ∈ insL l (insC p out) ↔ _
    rw [this, List.mem_cons, or_assoc]
    exact or_left_comm
/-! ### The points of a polygon -/
def ptL (l : List Half) (x : Num × Num) : Option Corner := if outsideL (allL l) (crossing x.1.h x.2.h) = -5 then some (crossing x.1.h x.2.h) else none
def ptsL (l : List Half) : List Corner := (pairsL (allL l)).filterMap (ptL l)
@[irreducible] def crsL (l : List Half) : List Corner := insL (ptsL l) []
theorem ptsV_val {l : List Half} (hl : ∀ x ∈ l, okH x) : (ptsV l (pairsL (allL l))).map (fun p : VC => p.1) = ptsL l := by
  have hall := allL_ok hl
  have key : ∀ pre : List (Num × Num), (∀ x ∈ pre, x ∈ pairsL (allL l)) → (ptsV l pre).map (fun p : VC => p.1) = pre.filterMap (ptL l) := by
    intro pre
    unfold ptsV
    induction pre with
    | nil => intro _; rfl
    | cons x r ih =>
      intro h
      obtain ⟨m1, m2, m3⟩ := pairsL_mem (h x (by simp))
      have hv := crossing_valid (hall _ m1) (hall _ m2) m3
      have ih := ih fun y hy => h y (List.mem_cons_of_mem _ hy)
      by_cases ho : outsideL (allL l) (crossing x.1.h x.2.h) = -5
      · rw [List.filterMap_cons_some (b := ⟨crossing x.1.h x.2.h, hv⟩) (by unfold ptV; rw [dif_pos ⟨hv, ho⟩]), List.filterMap_cons_some (b := crossing x.1.h x.2.h) (by unfold ptL; rw [if_pos ho]), List.map_cons, ih]
      · rw [List.filterMap_cons_none (by unfold ptV; rw [dif_neg fun hh => ho hh.2]), List.filterMap_cons_none (by unfold ptL; rw [if_neg ho]), ih]
  exact key _ fun x hx => hx
theorem ptsL_valid {l : List Half} (hl : ∀ x ∈ l, okH x) : ∀ q ∈ ptsL l, valid q = true := fun q hq => by
  rw [← ptsV_val hl] at hq
  obtain ⟨p, _, rfl⟩ := List.mem_map.1 hq
  exact p.2
theorem sortV_ok (l : List VC) : (sortV l).Pairwise fun p q => leC p.1 q.1 := by
  have h := List.pairwise_mergeSort (le := fun x y : VC => !(ltOf cmpV) y x) (fun a b c h1 h2 => by
    rw [cmpV_lt] at *
    simp only [Bool.not_eq_true', decide_eq_false_iff_not] at *
    rw [not_ltC] at *
    exact leC_trans a.den b.den c.den h1 h2) (fun a b => by
    rw [cmpV_lt, cmpV_lt]
    simp only [Bool.or_eq_true, Bool.not_eq_true', decide_eq_false_iff_not]
    rw [not_ltC, not_ltC]
    exact leC_total _ _) l
  refine h.imp fun {p q} h => ?_
  rw [cmpV_lt] at h
  simp only [Bool.not_eq_true', decide_eq_false_iff_not] at h
  exact not_ltC.1 h
theorem sortV_mem (l : List VC) (p : VC) : p ∈ sortV l ↔ p ∈ l := List.mem_mergeSort
/-- A sorted row of corners without repetitions: the same as put in one after the other. -/
theorem comp_sort (vs : List VC) : compL ((sortV vs).map fun p : VC => p.1) = insL (vs.map fun p : VC => p.1) [] := by
  have hv : ∀ q ∈ vs.map (fun p : VC => p.1), valid q = true := fun q hq => by
    obtain ⟨p, _, rfl⟩ := List.mem_map.1 hq
    exact p.2
  have hi := insL_ok (vs.map fun p : VC => p.1) [] hv (fun q hq => by cases hq) List.Pairwise.nil
  refine strict_unique (compL_strict (fun q hq => by
    obtain ⟨p, _, rfl⟩ := List.mem_map.1 hq
    exact p.2) (by rw [List.pairwise_map]; exact sortV_ok vs)) hi.1 fun q => ?_
  rw [compL_iff, hi.2 q]
  simp only [List.mem_map, List.not_mem_nil, or_false]
  constructor
  · rintro ⟨p, hp, rfl⟩; exact ⟨p, (sortV_mem vs p).1 hp, rfl⟩
  · rintro ⟨p, hp, rfl⟩; exact ⟨p, (sortV_mem vs p).2 hp, rfl⟩
theorem cornersL_eq {l : List Half} (hl : ∀ x ∈ l, okH x) : cornersL l = hullL (crsL l) := by
  unfold cornersL sortedL crsL
  rw [comp_sort, ptsV_val hl]
theorem crsL_strict {l : List Half} (hl : ∀ x ∈ l, okH x) : (crsL l).Pairwise ltC := by
  unfold crsL
  exact (insL_ok (ptsL l) [] (ptsL_valid hl) (fun q hq => by cases hq) List.Pairwise.nil).1
theorem crsL_mem {l : List Half} (hl : ∀ x ∈ l, okH x) (q : Corner) : q ∈ crsL l ↔ q ∈ ptsL l := by
  unfold crsL
  rw [(insL_ok (ptsL l) [] (ptsL_valid hl) (fun q hq => by cases hq) List.Pairwise.nil).2 q]
  simp
end Go.Pg
/-
  The points of a polygon in which edges cross are in convex position: each one lies in two edges that are not parallel. What they are, without an order.
-/
set_option linter.all false
namespace Go.Pg
open Go.Proofs Go.RowKit Go.Sort

/-! ### A crossing solves both equations -/
theorem lowest_scale {x y d : Int} (hd : d ≠ 0) : ∃ s : Int, s ≠ 0 ∧ (lowest x y d).X * s = x ∧ (lowest x y d).Y * s = y ∧ (lowest x y d).Den * s = d := by
  have hg : 0 < gcdL [x, y, d] := by rw [gcd3]; exact Nat.gcd_pos_of_pos_right _ (by omega)
  have e1 := gcd3 x y d
  generalize hG : gcdL [x, y, d] = G' at *
  have d1 : G' ∣ x.natAbs := by rw [e1]; exact Nat.dvd_trans (Nat.gcd_dvd_left _ _) (Nat.gcd_dvd_left _ _)
  have d2 : G' ∣ y.natAbs := by rw [e1]; exact Nat.dvd_trans (Nat.gcd_dvd_left _ _) (Nat.gcd_dvd_right _ _)
  have d3 : G' ∣ d.natAbs := by rw [e1]; exact Nat.gcd_dvd_right _ _
  obtain ⟨s, hs, hsa⟩ : ∃ s : Int, s = (if d < 0 then -(G' : Int) else (G' : Int)) ∧ s.natAbs = G' := ⟨_, rfl, by split <;> omega⟩
  have hl : lowest x y d = ⟨x.tdiv s, y.tdiv s, d.tdiv s⟩ := by
    unfold lowest
    rw [hs, hG]
  have dv : ∀ a : Int, G' ∣ a.natAbs → s ∣ a := fun a h => by
    rw [← Int.natAbs_dvd_natAbs, hsa]; exact h
  refine ⟨s, by omega, ?_, ?_, ?_⟩
  · rw [hl]; exact Int.tdiv_mul_cancel (dv x d1)
  · rw [hl]; exact Int.tdiv_mul_cancel (dv y d2)
  · rw [hl]; exact Int.tdiv_mul_cancel (dv d d3)
theorem solves {g h : Half} {p : Corner} {s : Int} (h1 : p.X * s = g.C * h.B - h.C * g.B) (h2 : p.Y * s = g.A * h.C - h.A * g.C) (h3 : p.Den * s = g.A * h.B - h.A * g.B) : ef g p * s = 0 ∧ ef h p * s = 0 := by
  unfold ef
  constructor <;> grind
theorem crossing_tight {g h : Half} (hd : det g h ≠ 0) : ef g (crossing g h) = 0 ∧ ef h (crossing g h) = 0 := by
  obtain ⟨s, hs, h1, h2, h3⟩ := lowest_scale (x := g.C * h.B - h.C * g.B) (y := g.A * h.C - h.A * g.C) hd
  have hc : crossing g h = lowest (g.C * h.B - h.C * g.B) (g.A * h.C - h.A * g.C) (det g h) := by unfold crossing; rfl
  rw [← hc] at h1 h2 h3
  obtain ⟨k1, k2⟩ := solves h1 h2 (by rw [h3]; unfold det; rfl)
  constructor
  · rcases Int.mul_eq_zero.1 k1 with h | h
    · exact h
    · exact absurd h hs
  · rcases Int.mul_eq_zero.1 k2 with h | h
    · exact h
    · exact absurd h hs
/-- A valid corner is told by two edges in which it lies. -/
theorem tight_unique {g h : Half} {p q : Corner} (hp : valid p = true) (hq : valid q = true) (hd : det g h ≠ 0) (p1 : ef g p = 0) (p2 : ef h p = 0) (q1 : ef g q = 0) (q2 : ef h q = 0) : p = q := by
  have hdet : det g h = g.A * h.B - h.A * g.B := by unfold det; rfl
  rw [hdet] at hd
  unfold ef at p1 p2 q1 q2
  have kx : (p.X * q.Den - q.X * p.Den) * (g.A * h.B - h.A * g.B) = 0 := by grind
  have ky : (p.Y * q.Den - q.Y * p.Den) * (g.A * h.B - h.A * g.B) = 0 := by grind
  have ex : p.X * q.Den = q.X * p.Den := by
    rcases Int.mul_eq_zero.1 kx with h | h
    · omega
    · exact absurd h hd
  have ey : p.Y * q.Den = q.Y * p.Den := by
    rcases Int.mul_eq_zero.1 ky with h | h
    · omega
    · exact absurd h hd
  exact leC_antisymm hp hq (by unfold leC; omega) (by unfold leC; omega)
theorem det_swap (g h : Half) : det h g = -det g h := by unfold det; grind
theorem crossing_comm {g h : Half} (hg : okH g) (hh : okH h) (hd : det g h ≠ 0) : crossing h g = crossing g h := by
  have hd' : det h g ≠ 0 := by rw [det_swap]; omega
  obtain ⟨a1, a2⟩ := crossing_tight hd
  obtain ⟨b1, b2⟩ := crossing_tight hd'
  exact tight_unique (crossing_valid hh hg hd') (crossing_valid hg hh hd) hd b2 b1 a1 a2
/-! ### All half-planes of a system -/
def hsL (l : List Half) : List Half := l ++ sidesL
theorem allL_h (l : List Half) : (allL l).map (fun x => x.h) = hsL l := by
  unfold allL hsL
  rw [List.map_map]
  refine List.ext_getElem (by simp [sidesL]) fun i h1 h2 => ?_
  simp only [List.getElem_map, List.getElem_range, Function.comp]
  unfold allAt
  by_cases hi : i < l.length
  · rw [if_pos hi, List.getElem_append_left hi]
    exact gdI hi default
  · rw [if_neg hi, List.getElem_append_right (by omega)]
    exact gdI (by simp [hsL, List.length_append] at h2; omega) default
theorem allL_num (l : List Half) : ∀ x ∈ allL l, x.n ≠ -5 := fun x hx => by
  unfold allL at hx
  obtain ⟨i, hi, rfl⟩ := List.mem_map.1 hx
  have hi := List.mem_range.1 hi
  unfold allAt
  split
  · show (i : Int) ≠ -5; omega
  · show -1 - ((i : Int) - l.length) ≠ -5; omega
/-- A point lies in all half-planes of a list. -/
def Fe (hs : List Half) (q : Corner) : Prop := ∀ h ∈ hs, ef h q ≤ 0
theorem outside_iff (L : List Num) (hL : ∀ x ∈ L, x.n ≠ -5) (q : Corner) : outsideL L q = -5 ↔ Fe (L.map fun x => x.h) q := by
  induction L with
  | nil => simp [outsideL, Fe]
  | cons x r ih =>
    have ih := ih fun y hy => hL y (List.mem_cons_of_mem _ hy)
    simp only [outsideL]
    by_cases h : lies x.h q = true
    · rw [if_pos h, ih]
      unfold Fe
      simp only [List.map_cons, List.mem_cons, forall_eq_or_imp]
      exact ⟨fun hh => ⟨(lies_ef _ _).1 h, hh⟩, fun hh => hh.2⟩
    · rw [if_neg h]
      refine ⟨fun hh => absurd hh (hL x (by simp)), fun hh => ?_⟩
      exact absurd ((lies_ef _ _).2 (hh x.h (by simp))) h
theorem outside_fe (l : List Half) (q : Corner) : outsideL (allL l) q = -5 ↔ Fe (hsL l) q := by
  rw [outside_iff (allL l) (allL_num l) q, allL_h]
theorem hsL_ok {l : List Half} (hl : ∀ x ∈ l, okH x) : ∀ x ∈ hsL l, okH x := fun x hx => by
  rw [← allL_h] at hx
  obtain ⟨y, hy, rfl⟩ := List.mem_map.1 hx
  exact allL_ok hl y hy
/-- A point of the polygon, in two edges that are not parallel. -/
structure Vt (hs : List Half) (q : Corner) : Prop where
  fe : Fe hs q
  va : valid q = true
  ti : ∃ g ∈ hs, ∃ h ∈ hs, det g h ≠ 0 ∧ ef g q = 0 ∧ ef h q = 0
theorem pairs_of {L : List Num} {x y : Num} (hx : x ∈ L) (hy : y ∈ L) (hd : det x.h y.h ≠ 0) : (x, y) ∈ pairsL L ∨ (y, x) ∈ pairsL L := by
  obtain ⟨i, hi, rfl⟩ := List.getElem_of_mem hx
  obtain ⟨j, hj, rfl⟩ := List.getElem_of_mem hy
  have e1 := gdI hi default
  have e2 := gdI hj default
  rcases Nat.lt_trichotomy i j with h | h | h
  · left
    have := pairs_get L hj h (by rw [e1, e2]; exact hd)
    rw [e1, e2] at this
    exact List.mem_of_getElem? this
  · subst h
    exact absurd (show det L[i].h L[i].h = 0 by unfold det; grind) hd
  · right
    have := pairs_get L hi h (by rw [e1, e2, det_swap]; omega)
    rw [e1, e2] at this
    exact List.mem_of_getElem? this
theorem ptsL_iff {l : List Half} (hl : ∀ x ∈ l, okH x) (q : Corner) : q ∈ ptsL l ↔ Vt (hsL l) q := by
  have hall := allL_ok hl
  unfold ptsL
  rw [List.mem_filterMap]
  constructor
  · rintro ⟨x, hx, he⟩
    obtain ⟨m1, m2, m3⟩ := pairsL_mem hx
    unfold ptL at he
    split at he
    · rename_i ho
      cases he
      refine ⟨(outside_fe l _).1 ho, crossing_valid (hall _ m1) (hall _ m2) m3, x.1.h, ?_, x.2.h, ?_, m3, crossing_tight m3⟩
      · rw [← allL_h]; exact List.mem_map.2 ⟨_, m1, rfl⟩
      · rw [← allL_h]; exact List.mem_map.2 ⟨_, m2, rfl⟩
    · cases he
  · rintro ⟨h1, h2, g, hg, h, hh, hd, t1, t2⟩
    rw [← allL_h] at hg hh
    obtain ⟨x, hx, rfl⟩ := List.mem_map.1 hg
    obtain ⟨y, hy, rfl⟩ := List.mem_map.1 hh
    have hv := crossing_valid (hall x hx) (hall y hy) hd
    obtain ⟨c1, c2⟩ := crossing_tight hd
    have e : crossing x.h y.h = q := tight_unique hv h2 hd c1 c2 t1 t2
    have ho := (outside_fe l q).2 h1
    rcases pairs_of hx hy hd with hp | hp
    · refine ⟨_, hp, ?_⟩
      unfold ptL
      dsimp only
      rw [e, if_pos ho]
    · refine ⟨_, hp, ?_⟩
      unfold ptL
      dsimp only
      rw [crossing_comm (hall x hx) (hall y hy) hd, e, if_pos ho]
theorem crs_iff {l : List Half} (hl : ∀ x ∈ l, okH x) (q : Corner) : q ∈ crsL l ↔ Vt (hsL l) q := by
  rw [crsL_mem hl, ptsL_iff hl]
/-! ### Convex position -/
def M48 : Int := 281474976710656
def thH (p : Corner) : Half := ⟨M48 * p.Den, p.Den, M48 * p.X + p.Y⟩
theorem thH_self (p : Corner) : ef (thH p) p = 0 := by unfold ef thH; grind
theorem thH_at (p q : Corner) : ef (thH q) p = M48 * (p.X * q.Den - q.X * p.Den) + (p.Y * q.Den - q.Y * p.Den) := by unfold ef thH; grind
theorem side_bd {hs : List Half} (hsub : ∀ h ∈ sidesL, h ∈ hs) {q : Corner} (h : Fe hs q) : (0 ≤ q.X ∧ q.X ≤ 48 * q.Den) ∧ (0 ≤ q.Y ∧ q.Y ≤ 48 * q.Den) := by
  have h1 := h _ (hsub ⟨-1, 0, 0⟩ (by decide))
  have h2 := h _ (hsub ⟨1, 0, 48⟩ (by decide))
  have h3 := h _ (hsub ⟨0, -1, 0⟩ (by decide))
  have h4 := h _ (hsub ⟨0, 1, 48⟩ (by decide))
  unfold ef at *
  simp only at *
  omega
theorem sub_hsL (l : List Half) : ∀ h ∈ sidesL, h ∈ hsL l := fun h hh => List.mem_append_right _ hh
structure InM (q : Corner) : Prop where
  va : valid q = true
  x : 0 ≤ q.X ∧ q.X ≤ 48 * q.Den
  y : 0 ≤ q.Y ∧ q.Y ≤ 48 * q.Den
theorem th_lt {p q : Corner} (hp : InM p) (hq : InM q) (h : ltC p q) : Bef thH p q := by
  have dp := (okC_of hp.va).d
  have dq := (okC_of hq.va).d
  have py := hp.y
  have qy := hq.y
  have b1 := mulB (a := p.Y) (b := q.Den) (x := 100663296) (y := 2097152) (by omega) (by omega)
  have b2 := mulB (a := q.Y) (b := p.Den) (x := 100663296) (y := 2097152) (by omega) (by omega)
  have b3 := Int.mul_nonneg (a := p.Y) (b := q.Den) (by omega) (by omega)
  have b4 := Int.mul_nonneg (a := q.Y) (b := p.Den) (by omega) (by omega)
  unfold Bef
  rw [thH_at, thH_at]
  unfold ltC at h
  unfold M48
  rcases h with h | ⟨h, h'⟩
  · constructor <;> omega
  · rw [h]
    constructor <;> omega
theorem non3 {φ : Half} {p q r : Corner} (f0 : ef φ q = 0) (fp : ef φ p < 0) (fr : ef φ r < 0) (h1 : Bef thH p q) (h2 : Bef thH q r) : d3 p q r ≠ 0 := by
  intro h
  have e1 := plu φ p q r ⟨1, -M48, 0⟩
  have e2 := plu (thH q) p q r ⟨1, -M48, 0⟩
  rw [f0, h] at e1
  rw [thH_self, h] at e2
  have e3 : d3 p q ⟨1, -M48, 0⟩ = ef (thH q) p := by unfold d3 ef thH; grind
  have b0 := h1.1
  have b1 := h2.2
  rw [e3] at e1 e2
  have k1 := Int.mul_neg_of_pos_of_neg b1 b0
  have k2 := Int.mul_pos_of_neg_of_neg fr b0
  have c1 := sn_pos b0 (b := d3 q r ⟨1, -M48, 0⟩) (by omega)
  have c2 := sn_neg fp (b := d3 q r ⟨1, -M48, 0⟩) (by omega)
  omega
def addH (g h : Half) : Half := ⟨g.A + h.A, g.B + h.B, g.C + h.C⟩
theorem ef_add (g h : Half) (p : Corner) : ef (addH g h) p = ef g p + ef h p := by unfold ef addH; grind
theorem Vt.out {hs : List Half} {q : Corner} (hq : Vt hs q) : ∃ φ : Half, ef φ q = 0 ∧ ∀ p, Fe hs p → valid p = true → ef φ p ≤ 0 ∧ (p ≠ q → ef φ p < 0) := by
  obtain ⟨g, hg, h, hh, hd, t1, t2⟩ := hq.ti
  refine ⟨addH g h, by rw [ef_add, t1, t2]; rfl, fun p hp hv => ?_⟩
  rw [ef_add]
  have a1 := hp g hg
  have a2 := hp h hh
  refine ⟨by omega, fun hne => ?_⟩
  have : ¬ (ef g p = 0 ∧ ef h p = 0) := fun ⟨e1, e2⟩ => hne (tight_unique hv hq.va hd e1 e2 t1 t2)
  omega
theorem non_perm {S : List Corner} (h : S.Pairwise ltC) (hv : ∀ p ∈ S, valid p = true) (key : ∀ p ∈ S, ∀ q ∈ S, ∀ r ∈ S, ltC p q → ltC q r → d3 p q r ≠ 0) :
    ∀ p ∈ S, ∀ q ∈ S, ∀ r ∈ S, p ≠ q → p ≠ r → q ≠ r → d3 p q r ≠ 0 := by
  intro p hp q hq r hr h1 h2 h3
  have tri : ∀ a ∈ S, ∀ b ∈ S, a ≠ b → ltC a b ∨ ltC b a := fun a ha b hb hab => by
    rcases leC_total a b with g | g
    · exact .inl (ltC_of_le (hv a ha) (hv b hb) g hab)
    · exact .inr (ltC_of_le (hv b hb) (hv a ha) g hab.symm)
  have r1 := d3_rot p q r
  have r2 := d3_rot q r p
  have s1 := d3_swap p q r
  have s2 := d3_swap' p q r
  have s3 := d3_swap q r p
  have r3 := d3_rot r p q
  rcases tri p hp q hq h1 with a | a <;> rcases tri q hq r hr h3 with b | b <;> rcases tri p hp r hr h2 with c | c
  · exact key p hp q hq r hr a b
  · exact key p hp q hq r hr a b
  · have := key p hp r hr q hq c b; omega
  · have := key r hr p hp q hq c a; omega
  · have := key q hq p hp r hr a c; omega
  · have := key q hq r hr p hp b c; omega
  · have k := key r hr q hq p hp b a
    have s4 := d3_swap' r q p
    have := d3_rot r p q
    omega
  · have k := key r hr q hq p hp b a
    have s4 := d3_swap' r q p
    have := d3_rot r p q
    omega
theorem Vt.inM {l : List Half} {q : Corner} (h : Vt (hsL l) q) : InM q := by
  have := side_bd (sub_hsL l) h.fe
  exact ⟨h.va, this.1, this.2⟩
theorem crs_conv {l : List Half} (hl : ∀ x ∈ l, okH x) : Conv thH (crsL l) := by
  have hV : ∀ q ∈ crsL l, Vt (hsL l) q := fun q hq => (crs_iff hl q).1 hq
  have hout : ∀ q ∈ crsL l, ∃ φ : Half, ef φ q = 0 ∧ ∀ p ∈ crsL l, p ≠ q → ef φ p < 0 := fun q hq => by
    obtain ⟨φ, f0, ff⟩ := (hV q hq).out
    exact ⟨φ, f0, fun p hp hne => (ff p (hV p hp).fe (hV p hp).va).2 hne⟩
  have hlt : ∀ p ∈ crsL l, ∀ q ∈ crsL l, ltC p q → Bef thH p q := fun p hp q hq h => th_lt (hV p hp).inM (hV q hq).inM h
  refine ⟨hout, fun q _ => thH_self q, ?_, ?_, fun q hq => denV (hV q hq).va⟩
  · exact List.Pairwise.imp_of_mem (fun {p q} hp hq h => hlt p hp q hq h) (crsL_strict hl)
  · refine non_perm (crsL_strict hl) (fun p hp => (hV p hp).va) fun p hp q hq r hr h1 h2 => ?_
    obtain ⟨φ, f0, ff⟩ := hout q hq
    refine non3 f0 (ff p hp ?_) (ff r hr ?_) (hlt p hp q hq h1) (hlt q hq r hr h2)
    · rintro rfl; exact ltC_irrefl _ h1
    · rintro rfl; exact ltC_irrefl _ h2
end Go.Pg
/-
  The statements' example: what the functions return for it (values alone).
-/
set_option linter.all false
set_option maxRecDepth 100000
namespace Go.Pg
open Go.Proofs Go.RowKit Go.Sort

def threeL : List Half := [⟨1, 1, 10⟩, ⟨-1, 2, 5⟩, ⟨2, -1, 8⟩]
def fourL : List Half := [⟨1, 1, 10⟩, ⟨-1, 2, 5⟩, ⟨2, -1, 8⟩, ⟨-1, 0, -7⟩]
def wantC : List Corner := [⟨0, 0, 1⟩, ⟨4, 0, 1⟩, ⟨6, 4, 1⟩, ⟨5, 5, 1⟩, ⟨0, 5, 2⟩]
def fewP : List Place := [⟨0, 0⟩, ⟨2, 0⟩, ⟨0, 2⟩, ⟨1, 1⟩]
def wantH : List Half := [⟨0, -2, 0⟩, ⟨2, 2, 4⟩, ⟨-2, 0, 0⟩]
theorem v_check3 : checkL threeL = 0 := by kernel_rfl
theorem v_check4 : checkL fourL = 0 := by kernel_rfl
theorem v_cross : cross ⟨1, 1, 10⟩ ⟨-1, 2, 5⟩ = (⟨5, 5, 1⟩, 0) := by kernel_rfl
theorem v_crs3 : hullL (crsL threeL) = wantC := by kernel_rfl
theorem v_cor3 : cornersL threeL = wantC := by rw [cornersL_eq (checkL_ok v_check3).2.2]; exact v_crs3
theorem v_corners : cornersE threeL = (wantC, 0) := by unfold cornersE; rw [v_cor3]; kernel_rfl
theorem v_bestY : (bestE threeL ⟨0, 1⟩).1.V = ⟨5, 1⟩ ∧ (bestE threeL ⟨0, 1⟩).2 = 0 := by unfold bestE; rw [v_cor3]; exact ⟨by kernel_rfl, by kernel_rfl⟩
theorem v_bestX : (bestE threeL ⟨1, 0⟩).1.V = ⟨6, 1⟩ ∧ (bestE threeL ⟨1, 0⟩).2 = 0 := by unfold bestE; rw [v_cor3]; exact ⟨by kernel_rfl, by kernel_rfl⟩
theorem v_empty : (emptyE fourL).1.length ≠ 0 ∧ (emptyE fourL).2 = 0 := by
  have h : (emptyE fourL).1.length = 3 := by kernel_rfl
  exact ⟨by omega, by kernel_rfl⟩
theorem v_places : (placesE threeL).1.length = 26 ∧ (placesE threeL).2 = 0 := by unfold placesE; rw [v_cor3]; exact ⟨by kernel_rfl, by kernel_rfl⟩
theorem cycL_eq (l : List Place) : cycL l = hullL (insL ((ptsO l l.length).map fun p : VC => p.1) []) := by unfold cycL; rw [comp_sort]
theorem v_hull : hullE fewP = (wantH, 0) := by unfold hullE; rw [cycL_eq]; kernel_rfl
theorem okH_default : okH default := ⟨by decide, by decide, by decide⟩
theorem hullL_nil {m : List Corner} : hullL m = [] ↔ m = [] := by
  constructor
  · intro h
    rcases m with _ | ⟨a, m⟩
    · rfl
    · have := hullL_pos (l := a :: m) (by simp)
      rw [h] at this; simp at this
  · rintro rfl; unfold hullL; rfl
theorem cor_nil {l : List Half} (hl : ∀ x ∈ l, okH x) : cornersL l = [] ↔ crsL l = [] := by rw [cornersL_eq hl, hullL_nil]
/-! ### Core by the points put in one after the other -/
def coreRunC (l : List Half) : Nat → List Int → Nat → List Int
  | 0, left, _ => left
  | n + 1, left, i => if crsL (pickL l (rmL left i)) = [] then coreRunC l n (rmL left i) i else coreRunC l n left (i + 1)
theorem pick_ok {l : List Half} (hl : ∀ x ∈ l, okH x) (js : List Int) : ∀ x ∈ pickL l js, okH x := fun x hx => by
  unfold pickL at hx
  obtain ⟨j, hj, rfl⟩ := List.mem_map.1 hx
  rw [List.getD_eq_getElem?_getD]
  cases h : l[j.toNat]? with
  | none => exact okH_default
  | some y => exact hl y (List.mem_of_getElem? h)
theorem coreRun_eq {l : List Half} (hl : ∀ x ∈ l, okH x) : ∀ (n : Nat) (left : List Int) (i : Nat), coreRun l n left i = coreRunC l n left i
  | 0, _, _ => rfl
  | n + 1, left, i => by
    simp only [coreRun, coreRunC]
    have h := cor_nil (pick_ok hl (rmL left i))
    by_cases hc : crsL (pickL l (rmL left i)) = []
    · rw [if_pos (h.2 hc), if_pos hc]; exact coreRun_eq hl n _ _
    · rw [if_neg fun e => hc (h.1 e), if_neg hc]; exact coreRun_eq hl n _ _
theorem v_core : coreE fourL = ([0, 2, 3], 0) := by
  have h0 := v_check4
  obtain ⟨_, _, h1⟩ := checkL_ok h0
  unfold coreE
  rw [if_pos h0, if_pos ((cor_nil h1).2 (show crsL fourL = [] from by kernel_rfl))]
  unfold coreL
  have h : coreRunC fourL fourL.length (upTo fourL.length) 0 = [0, 2, 3] := by kernel_rfl
  rw [coreRun_eq h1, h]
/-! ### The law's own functions -/
theorem rows3 {f g : Nat → Nat → D} {n : Nat} (h : ∀ i, i < n → ∀ j, j < 3 → f i j = g i j) : D.eqv (.slc 3 n f) (.slc 3 n g) := ⟨rfl, .inr ⟨rfl, fun i hi j hj => by rw [h i hi j hj]; exact D.eqv_refl _⟩⟩
theorem three_row : ∀ i, i < 3 → ∀ j, j < 3 → rowOf 3 [I 1, I 1, I 10, I (-1), I 2, I 5, I 2, I (-1), I 8] i j = rowH threeL i j := fun i hi j hj => by
  match i, j, hi, hj with
  | 0, 0, _, _ => rfl
  | 0, 1, _, _ => rfl
  | 0, 2, _, _ => rfl
  | 1, 0, _, _ => rfl
  | 1, 1, _, _ => rfl
  | 1, 2, _, _ => rfl
  | 2, 0, _, _ => rfl
  | 2, 1, _, _ => rfl
  | 2, 2, _, _ => rfl
theorem flatH (l : List Half) (m j : Nat) : (rowH l m j).flat = true := by
  show ((l.getD m default).at j).flat = true
  unfold Half.at; split <;> rfl
theorem four_row : ∀ i, i < 4 → ∀ j, j < 3 → appRow 3 (rowH threeL) (rowOf 3 [I (-1), I 0, I (-7)]) i j = rowH fourL i j := fun i hi j hj => by
  match i, j, hi, hj with
  | 0, 0, _, _ => rfl
  | 0, 1, _, _ => rfl
  | 0, 2, _, _ => rfl
  | 1, 0, _, _ => rfl
  | 1, 1, _, _ => rfl
  | 1, 2, _, _ => rfl
  | 2, 0, _, _ => rfl
  | 2, 1, _, _ => rfl
  | 2, 2, _, _ => rfl
  | 3, 0, _, _ => rfl
  | 3, 1, _, _ => rfl
  | 3, 2, _, _ => rfl
theorem rowsK {k : Nat} {f g : Nat → Nat → D} {n : Nat} (h : ∀ i, i < n → ∀ j, j < k → f i j = g i j) : D.eqv (.slc k n f) (.slc k n g) := ⟨rfl, .inr ⟨rfl, fun i hi j hj => by rw [h i hi j hj]; exact D.eqv_refl _⟩⟩
theorem few_row : ∀ i, i < 4 → ∀ j, j < 2 → rowOf 2 [I 0, I 0, I 2, I 0, I 0, I 2, I 1, I 1] i j = rowPl fewP i j := fun i hi j hj => by
  match i, j, hi, hj with
  | 0, 0, _, _ => rfl
  | 0, 1, _, _ => rfl
  | 1, 0, _, _ => rfl
  | 1, 1, _, _ => rfl
  | 2, 0, _, _ => rfl
  | 2, 1, _, _ => rfl
  | 3, 0, _, _ => rfl
  | 3, 1, _, _ => rfl
theorem want_row : ∀ i, i < 5 → ∀ j, j < 3 → rowOf 3 [I 0, I 0, I 1, I 4, I 0, I 1, I 6, I 4, I 1, I 5, I 5, I 1, I 0, I 5, I 2] i j = rowC wantC i j := fun i hi j hj => by
  match i, j, hi, hj with
  | 0, 0, _, _ => rfl
  | 0, 1, _, _ => rfl
  | 0, 2, _, _ => rfl
  | 1, 0, _, _ => rfl
  | 1, 1, _, _ => rfl
  | 1, 2, _, _ => rfl
  | 2, 0, _, _ => rfl
  | 2, 1, _, _ => rfl
  | 2, 2, _, _ => rfl
  | 3, 0, _, _ => rfl
  | 3, 1, _, _ => rfl
  | 3, 2, _, _ => rfl
  | 4, 0, _, _ => rfl
  | 4, 1, _, _ => rfl
  | 4, 2, _, _ => rfl
theorem wantI_row : ∀ i, i < 3 → ∀ j, j < 1 → rowOf 1 [I 0, I 2, I 3] i j = rowI [0, 2, 3] i j := fun i hi j hj => by
  match i, j, hi, hj with
  | 0, 0, _, _ => rfl
  | 1, 0, _, _ => rfl
  | 2, 0, _, _ => rfl
theorem wantH_row : ∀ i, i < 3 → ∀ j, j < 3 → rowOf 3 [I 0, I (-2), I 0, I 2, I 2, I 4, I (-2), I 0, I 0] i j = rowH wantH i j := fun i hi j hj => by
  match i, j, hi, hj with
  | 0, 0, _, _ => rfl
  | 0, 1, _, _ => rfl
  | 0, 2, _, _ => rfl
  | 1, 0, _, _ => rfl
  | 1, 1, _, _ => rfl
  | 1, 2, _, _ => rfl
  | 2, 0, _, _ => rfl
  | 2, 1, _, _ => rfl
  | 2, 2, _, _ => rfl
end Go.Pg
/-
  The laws HalfChecks, HalfAllows, HalfPoints: walks.
-/
set_option linter.all false
set_option maxRecDepth 100000
namespace Go.Pg
open Go.Proofs Go.RowKit

/-- A test that is true whatever it compares. -/
theorem ieq (a : Int) : (a == a) = true := by simp
theorem beqb (a : Bool) : (a == a) = true := by simp
end Go.Pg
/-
  Contracts: Allows, of half and of the specification.
-/
set_option linter.all false
set_option maxRecDepth 100000
namespace Go.Pg
open Go.Proofs Go.RowKit

theorem sides_row : ∀ i, i < 4 → ∀ j, j < 3 → rowOf 3 [I (-1), I 0, I 0, I 1, I 0, I 48, I 0, I (-1), I 0, I 0, I 1, I 48] i j = rowH sidesL i j := fun i hi j hj => by
  match i, j, hi, hj with
  | 0, 0, _, _ => rfl
  | 0, 1, _, _ => rfl
  | 0, 2, _, _ => rfl
  | 1, 0, _, _ => rfl
  | 1, 1, _, _ => rfl
  | 1, 2, _, _ => rfl
  | 2, 0, _, _ => rfl
  | 2, 1, _, _ => rfl
  | 2, 2, _, _ => rfl
  | 3, 0, _, _ => rfl
  | 3, 1, _, _ => rfl
  | 3, 2, _, _ => rfl
theorem app_row {k n m : Nat} {α : Type} [Inhabited α] {at_ : α → Nat → D} {a b : List α} {f g : Nat → Nat → D} (hn : n = a.length) (hm : m = b.length) (hf : ∀ i, i < n → ∀ j, j < k → D.eqv (f i j) (at_ (a.getD i default) j)) (hg : ∀ i, i < m → ∀ j, j < k → D.eqv (g i j) (at_ (b.getD i default) j)) :
    D.eqv (.slc k (n + m) (appRow n f g)) (.slc k (a ++ b).length fun i => at_ ((a ++ b).getD i default)) := by
  subst hn; subst hm
  refine ⟨by simp, .inr ⟨rfl, fun i hi j hj => ?_⟩⟩
  show D.eqv (appRow a.length f g i j) (at_ ((a ++ b).getD i default) j)
  unfold appRow
  by_cases h : i < a.length
  · rw [if_pos h, List.getD_eq_getElem?_getD, List.getElem?_append_left h, ← List.getD_eq_getElem?_getD]
    exact hf i h j hj
  · rw [if_neg h, List.getD_eq_getElem?_getD, List.getElem?_append_right (by omega), ← List.getD_eq_getElem?_getD]
    exact hg (i - a.length) (by omega) j hj
/-! ### Allows -/
theorem hsL_at (l : List Half) {i : Nat} (h : i < (hsL l).length) : (hsL l).getD i default = (allAt l i).h := by
  have h4 : (hsL l).length = l.length + 4 := by simp [hsL, sidesL]
  have e : hsL l = (allL l).map fun x => x.h := (allL_h l).symm
  rw [e, List.getD_eq_getElem?_getD, List.getElem?_map]
  unfold allL
  rw [List.getElem?_map, List.getElem?_range (by omega)]
  rfl
theorem outsideL_first {L : List Num} {p : Corner} {i : Nat} (hi : i < L.length) (h1 : ∀ m, m < i → lies (L.getD m default).h p = true) (h2 : lies (L.getD i default).h p = false) : outsideL L p = (L.getD i default).n := by
  induction L generalizing i with
  | nil => exact absurd hi (Nat.not_lt_zero _)
  | cons x r ih =>
    cases i with
    | zero =>
      have h2 : lies x.h p = false := h2
      simp only [outsideL, h2]; rfl
    | succ i =>
      have h0 : lies x.h p = true := h1 0 (by omega)
      simp only [outsideL, h0, if_true]
      exact ih (by simpa using hi) (fun m hm => h1 (m + 1) (by omega)) h2
theorem outsideL_all {L : List Num} {p : Corner} (h : ∀ m, m < L.length → lies (L.getD m default).h p = true) : outsideL L p = -5 := by
  induction L with
  | nil => rfl
  | cons x r ih =>
    have h0 : lies x.h p = true := h 0 (by simp)
    simp only [outsideL, h0, if_true]
    exact ih fun m hm => h (m + 1) (by simpa using hm)
@[irreducible] def allowsE (l : List Half) (p : Corner) : Int × Bool := if checkL l = 0 ∧ valid p = true then (outsideL (allL l) p, outsideL (allL l) p == -5) else (-5, false)
end Go.Pg
