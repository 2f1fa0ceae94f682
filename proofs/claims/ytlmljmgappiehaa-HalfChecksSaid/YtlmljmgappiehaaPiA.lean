/-
  Plain geometry: determinants of three points in homogeneous integers, functionals, points each of which alone is outermost in some direction. No program in sight.
-/
import Derived.Test.YtlmljmgappiehaaPhM
set_option linter.all false
namespace Go.Pg

/-- The value of a half-plane's form at a point, with its bound taken off: not above 0 in the half-plane. -/
def ef (h : Half) (p : Corner) : Int := h.A * p.X + h.B * p.Y - h.C * p.Den
def d3 (a b c : Corner) : Int := a.X * (b.Y * c.Den - b.Den * c.Y) - a.Y * (b.X * c.Den - b.Den * c.X) + a.Den * (b.X * c.Y - b.Y * c.X)
theorem plu (h : Half) (a b c d : Corner) : ef h a * d3 b c d - ef h b * d3 a c d + ef h c * d3 a b d - ef h d * d3 a b c = 0 := by
  unfold ef d3; grind
theorem d3_rot (a b c : Corner) : d3 b c a = d3 a b c := by unfold d3; grind
theorem d3_swap (a b c : Corner) : d3 b a c = -d3 a b c := by unfold d3; grind
theorem d3_swap' (a b c : Corner) : d3 a c b = -d3 a b c := by unfold d3; grind
theorem lies_ef (h : Half) (p : Corner) : lies h p = true ↔ ef h p ≤ 0 := by
  unfold lies ef
  simp only [decide_eq_true_eq]
  omega
theorem dxy (a b c : Corner) : dX a b * dY a c - dY a b * dX a c = a.Den * d3 a b c := by unfold dX dY d3; grind
/-! ### Signs of products -/
theorem sg_pos {a b : Int} (ha : 0 < a) (h : 0 < a * b) : 0 < b := by
  rcases Int.lt_trichotomy b 0 with g | g | g
  · have := Int.mul_neg_of_pos_of_neg ha g; omega
  · subst g; simp at h
  · exact g
theorem sg_neg {a b : Int} (ha : 0 < a) (h : a * b < 0) : b < 0 := by
  rcases Int.lt_trichotomy b 0 with g | g | g
  · exact g
  · subst g; simp at h
  · have := Int.mul_pos ha g; omega
theorem sn_pos {a b : Int} (ha : a < 0) (h : 0 < a * b) : b < 0 := by
  rcases Int.lt_trichotomy b 0 with g | g | g
  · exact g
  · subst g; simp at h
  · have := Int.mul_neg_of_neg_of_pos ha g; omega
theorem sn_neg {a b : Int} (ha : a < 0) (h : a * b < 0) : 0 < b := by
  rcases Int.lt_trichotomy b 0 with g | g | g
  · have := Int.mul_pos_of_neg_of_neg ha g; omega
  · subst g; simp at h
  · exact g
theorem turn_pos {a b c : Corner} (ha : 0 < a.Den) : turn a b c ≤ 0 ↔ d3 a b c ≤ 0 := by
  have h := dxy a b c
  unfold turn ord
  rcases Int.lt_trichotomy (d3 a b c) 0 with g | g | g
  · have := Int.mul_neg_of_pos_of_neg ha g
    rw [if_pos (by omega)]; omega
  · rw [g] at h
    rw [if_neg (by omega), if_neg (by omega)]; omega
  · have := Int.mul_pos ha g
    rw [if_neg (by omega), if_pos (by omega)]; omega
theorem turn_neg {a b c : Corner} (ha : 0 < a.Den) : turn a b c < 0 ↔ d3 a b c < 0 := by
  have h := dxy a b c
  unfold turn ord
  rcases Int.lt_trichotomy (d3 a b c) 0 with g | g | g
  · have := Int.mul_neg_of_pos_of_neg ha g
    rw [if_pos (by omega)]; omega
  · rw [g] at h
    rw [if_neg (by omega), if_neg (by omega)]; omega
  · have := Int.mul_pos ha g
    rw [if_neg (by omega), if_pos (by omega)]; omega
/-! ### Four points -/
section
variable {φ θ : Half} {p q r s : Corner}
/-- q is outermost; p lies ahead of it, r and s behind it: r and s lie on one side of the line from p through q. -/
theorem four1 (f0 : ef φ q = 0) (fp : ef φ p < 0) (fr : ef φ r < 0) (fs : ef φ s < 0) (t0 : ef θ q = 0) (tp : ef θ p < 0) (tr : 0 < ef θ r) (ts : 0 < ef θ s) : ¬ (0 < d3 p q r ∧ d3 p q s < 0) := by
  rintro ⟨h1, h2⟩
  have e1 := plu φ p q r s
  have e2 := plu θ p q r s
  rw [f0, Int.zero_mul] at e1
  rw [t0, Int.zero_mul] at e2
  have a1 := Int.mul_pos_of_neg_of_neg fr h2
  have a2 := Int.mul_neg_of_neg_of_pos fs h1
  have a3 := Int.mul_neg_of_pos_of_neg tr h2
  have a4 := Int.mul_pos ts h1
  have c1 := sn_neg fp (b := d3 q r s) (by omega)
  have c2 := sn_pos tp (b := d3 q r s) (by omega)
  omega
theorem four2 (f0 : ef φ q = 0) (fp : ef φ p < 0) (fr : ef φ r < 0) (fs : ef φ s < 0) (t0 : ef θ q = 0) (tp : ef θ p < 0) (tr : 0 < ef θ r) (ts : 0 < ef θ s) : ¬ (d3 p q r < 0 ∧ 0 < d3 p q s) := by
  rintro ⟨h1, h2⟩
  have e1 := plu φ p q r s
  have e2 := plu θ p q r s
  rw [f0, Int.zero_mul] at e1
  rw [t0, Int.zero_mul] at e2
  have a1 := Int.mul_neg_of_neg_of_pos fr h2
  have a2 := Int.mul_pos_of_neg_of_neg fs h1
  have a3 := Int.mul_pos tr h2
  have a4 := Int.mul_neg_of_pos_of_neg ts h1
  have c1 := sn_pos fp (b := d3 q r s) (by omega)
  have c2 := sn_neg tp (b := d3 q r s) (by omega)
  omega
/-- r is outermost: from p, q lies right of r and r right of s: r turns left on the way from q to s. -/
theorem four3 (f0 : ef φ r = 0) (fp : ef φ p < 0) (fq : ef φ q < 0) (fs : ef φ s < 0) (h1 : 0 < d3 p q r) (h2 : 0 < d3 p r s) : 0 < d3 q r s := by
  have e1 := plu φ p q r s
  rw [f0, Int.zero_mul] at e1
  have a1 := Int.mul_neg_of_neg_of_pos fq h2
  have a2 := Int.mul_neg_of_neg_of_pos fs h1
  exact sn_neg fp (by omega)
/-- The same, by the order of the points. -/
theorem four4 (t0 : ef θ r = 0) (tp : ef θ p < 0) (tq : ef θ q < 0) (ts : 0 < ef θ s) (h1 : 0 < d3 p q r) (h2 : 0 < d3 q r s) : 0 < d3 p r s := by
  have e1 := plu θ p q r s
  rw [t0, Int.zero_mul] at e1
  have a1 := Int.mul_neg_of_neg_of_pos tp h2
  have a2 := Int.mul_pos ts h1
  exact sn_neg tq (by omega)
/-- p is outermost: the order around it is transitive. -/
theorem four5 (f0 : ef φ p = 0) (fq : ef φ q < 0) (fr : ef φ r < 0) (fs : ef φ s < 0) (h1 : 0 < d3 p q r) (h2 : 0 < d3 p r s) : 0 < d3 p q s := by
  have e1 := plu φ p q r s
  rw [f0, Int.zero_mul] at e1
  have a1 := Int.mul_neg_of_neg_of_pos fq h2
  have a2 := Int.mul_neg_of_neg_of_pos fs h1
  exact sn_neg fr (by omega)
end

/-! ### A list of points, in order, each of them outermost in some direction -/
def Bef (th : Corner → Half) (p q : Corner) : Prop := ef (th q) p < 0 ∧ 0 < ef (th p) q
structure Conv (th : Corner → Half) (S : List Corner) : Prop where
  out : ∀ q ∈ S, ∃ φ : Half, ef φ q = 0 ∧ ∀ p ∈ S, p ≠ q → ef φ p < 0
  th0 : ∀ q ∈ S, ef (th q) q = 0
  ord : S.Pairwise (Bef th)
  non : ∀ p ∈ S, ∀ q ∈ S, ∀ r ∈ S, p ≠ q → p ≠ r → q ≠ r → d3 p q r ≠ 0
  den : ∀ q ∈ S, 0 < q.Den
section
variable {th : Corner → Half} {S : List Corner} (C : Conv th S)
include C
theorem Conv.ne {p q : Corner} (hp : p ∈ S) (h : Bef th p q) : p ≠ q := fun e => by
  subst e
  have := C.th0 p hp
  have := h.1
  omega
theorem Conv.low_iff {p q r s : Corner} (hp : p ∈ S) (hq : q ∈ S) (hr : r ∈ S) (hs : s ∈ S) (h1 : Bef th p q) (h2 : Bef th q r) (h3 : Bef th q s) (h4 : Bef th p r) (h5 : Bef th p s) : 0 < d3 p q r ↔ 0 < d3 p q s := by
  obtain ⟨φ, f0, ff⟩ := C.out q hq
  have fp := ff p hp (C.ne hp h1)
  have fr := ff r hr (C.ne hq h2).symm
  have fs := ff s hs (C.ne hq h3).symm
  have n1 := C.non p hp q hq r hr (C.ne hp h1) (C.ne hp h4) (C.ne hq h2)
  have n2 := C.non p hp q hq s hs (C.ne hp h1) (C.ne hp h5) (C.ne hq h3)
  have c1 := four1 f0 fp fr fs (C.th0 q hq) h1.1 h2.2 h3.2
  have c2 := four2 f0 fp fr fs (C.th0 q hq) h1.1 h2.2 h3.2
  omega
/-- a is the first point or a low one; b behind it is low exactly if the way from a through b turns left on to y. -/
theorem Conv.turn_low {p0 m a b y : Corner} (h0 : p0 ∈ S) (hm : m ∈ S) (ha : a ∈ S) (hb : b ∈ S) (hy : y ∈ S) (b1 : Bef th p0 b) (b2 : Bef th b y) (b3 : Bef th p0 y) (b4 : y = m ∨ Bef th y m) (b5 : Bef th b m) (b6 : Bef th p0 m)
    (hA : a = p0 ∨ (Bef th p0 a ∧ Bef th a b ∧ Bef th a y ∧ Bef th a m ∧ 0 < d3 p0 a m)) : 0 < d3 a b y ↔ 0 < d3 p0 b m := by
  have e : 0 < d3 p0 b y ↔ 0 < d3 p0 b m := by
    rcases b4 with rfl | b4
    · exact Iff.rfl
    · exact C.low_iff h0 hb hy hm b1 b2 b5 b3 b6
  rcases hA with rfl | ⟨a1, a2, a3, a4, a5⟩
  · exact e
  rw [← e]
  have g : 0 < d3 p0 a b := (C.low_iff h0 ha hb hm a1 a2 a4 b1 b6).2 a5
  constructor
  · intro h
    exact four4 (C.th0 b hb) b1.1 a2.1 b2.2 g h
  · intro h
    obtain ⟨φ, f0, ff⟩ := C.out b hb
    exact four3 f0 (ff p0 h0 (C.ne h0 b1)) (ff a ha (C.ne ha a2)) (ff y hy (C.ne hb b2).symm) g h
end
def low (p0 m q : Corner) : Bool := decide (0 < d3 p0 q m)
theorem popR_two (p b a : Corner) (r : List Corner) : popR p (b :: a :: r) = if turn a b p ≤ 0 then popR p (a :: r) else b :: a :: r := rfl
section
variable {th : Corner → Half} {S : List Corner} (C : Conv th S) {p0 m : Corner} (h0 : p0 ∈ S) (hm : m ∈ S) (hpm : Bef th p0 m)
include C h0 hm hpm
/-- Nothing is taken off a chain of low points. -/
theorem Conv.pop_low {F : List Corner} {y : Corner} (hy : y ∈ S) (hym : y = m ∨ Bef th y m) (hF : (p0 :: (F ++ [y])).Pairwise (Bef th)) (hFS : ∀ q ∈ F, q ∈ S ∧ Bef th q m ∧ low p0 m q = true) : popR y (F.reverse ++ [p0]) = F.reverse ++ [p0] := by
  rw [List.pairwise_cons] at hF
  obtain ⟨g1, g2⟩ := hF
  rcases List.eq_nil_or_concat F with rfl | ⟨F', b, rfl⟩
  · rfl
  · rw [List.concat_eq_append] at *
    have gb := hFS b (by simp)
    rw [List.append_assoc, List.pairwise_append] at g2
    obtain ⟨g3, g4, g5⟩ := g2
    have gby : Bef th b y := by
      have := (List.pairwise_cons.1 g4).1 y (by simp)
      exact this
    obtain ⟨a, r, hr, hA⟩ : ∃ a r, F'.reverse ++ [p0] = a :: r ∧ (a = p0 ∨ (a ∈ F')) := by
      rcases List.eq_nil_or_concat F' with rfl | ⟨F2, a, rfl⟩
      · exact ⟨p0, [], rfl, .inl rfl⟩
      · exact ⟨a, F2.reverse ++ [p0], by simp, .inr (by simp)⟩
    have hyB : Bef th p0 y := g1 y (by simp)
    have haS : a ∈ S := by
      rcases hA with rfl | hA
      · exact h0
      · exact (hFS a (by simp [hA])).1
    have key := C.turn_low (a := a) (b := b) (y := y) h0 hm haS gb.1 hy (g1 b (by simp)) gby hyB hym gb.2.1 hpm (by
      rcases hA with rfl | hA
      · exact .inl rfl
      · have ga := hFS a (by simp [hA])
        exact .inr ⟨g1 a (by simp [hA]), g5 a hA b (by simp), g5 a hA y (by simp), ga.2.1, by have := ga.2.2; unfold low at this; simpa using this⟩)
    have hl : 0 < d3 p0 b m := by have := gb.2.2; unfold low at this; simpa using this
    have ht := key.2 hl
    rw [List.reverse_append, List.reverse_singleton, List.append_assoc, hr, List.singleton_append, popR_two, if_neg]
    rw [turn_pos (C.den a haS)]
    omega
theorem Conv.pop_top {F : List Corner} {x y : Corner} (hx : x ∈ S) (hxm : Bef th x m) (hy : y ∈ S) (hym : y = m ∨ Bef th y m) (hF : (p0 :: (F ++ [x, y])).Pairwise (Bef th)) (hFS : ∀ q ∈ F, q ∈ S ∧ Bef th q m ∧ low p0 m q = true) :
    popR y (x :: (F.reverse ++ [p0])) = (F ++ [x].filter (low p0 m)).reverse ++ [p0] := by
  by_cases hl : low p0 m x = true
  · have e : [x].filter (low p0 m) = [x] := by simp [hl]
    rw [e]
    have := C.pop_low (F := F ++ [x]) h0 hm hpm hy hym (by simpa using hF) (fun q hq => by
      rcases List.mem_append.1 hq with hq | hq
      · exact hFS q hq
      · obtain rfl : q = x := by simpa using hq
        exact ⟨hx, hxm, hl⟩)
    rw [List.reverse_append, List.reverse_singleton] at this
    simpa using this
  · have e : [x].filter (low p0 m) = [] := by simp [hl]
    rw [e, List.append_nil]
    have g := hF
    rw [List.pairwise_cons] at g
    obtain ⟨g1, g2⟩ := g
    rw [List.pairwise_append] at g2
    obtain ⟨g3, g4, g5⟩ := g2
    have gxy : Bef th x y := (List.pairwise_cons.1 g4).1 y (by simp)
    obtain ⟨a, r, hr, hA⟩ : ∃ a r, F.reverse ++ [p0] = a :: r ∧ (a = p0 ∨ (a ∈ F)) := by
      rcases List.eq_nil_or_concat F with rfl | ⟨F2, a, rfl⟩
      · exact ⟨p0, [], rfl, .inl rfl⟩
      · exact ⟨a, F2.reverse ++ [p0], by simp, .inr (by simp)⟩
    have haS : a ∈ S := by
      rcases hA with rfl | hA
      · exact h0
      · exact (hFS a hA).1
    have key := C.turn_low (a := a) (b := x) (y := y) h0 hm haS hx hy (g1 x (by simp)) gxy (g1 y (by simp)) hym hxm hpm (by
      rcases hA with rfl | hA
      · exact .inl rfl
      · have ga := hFS a hA
        exact .inr ⟨g1 a (by simp [hA]), g5 a hA x (by simp), g5 a hA y (by simp), ga.2.1, by have := ga.2.2; unfold low at this; simpa using this⟩)
    have hnl : ¬ 0 < d3 p0 x m := fun h => hl (by unfold low; simpa using h)
    have ht : ¬ 0 < d3 a x y := fun h => hnl (key.1 h)
    have hp := C.pop_low (F := F) h0 hm hpm hy hym (by
      refine List.Pairwise.sublist ?_ hF
      refine List.Sublist.cons_cons p0 (List.Sublist.append_left ?_ F)
      exact List.sublist_cons_self x [y]) hFS
    rw [hr] at hp ⊢
    rw [popR_two, if_pos, hp]
    rw [turn_pos (C.den a haS)]
    omega
theorem Conv.chain {post : List Corner} : ∀ {F : List Corner} {x : Corner}, (p0 :: (F ++ x :: post)).Pairwise (Bef th) → (∀ q ∈ F, q ∈ S ∧ Bef th q m ∧ low p0 m q = true) → (∀ q ∈ x :: post, q ∈ S ∧ (q = m ∨ Bef th q m)) →
    post.foldl stepR (x :: (F.reverse ++ [p0])) = (x :: post).getLast (by simp) :: ((F ++ (x :: post).dropLast.filter (low p0 m)).reverse ++ [p0]) := by
  induction post with
  | nil => intro F x h1 h2 h3; simp
  | cons y post ih =>
    intro F x h1 h2 h3
    have hx := h3 x (by simp)
    have hy := h3 y (by simp)
    have g := h1
    rw [List.pairwise_cons] at g
    obtain ⟨g1, g2⟩ := g
    rw [List.pairwise_append] at g2
    obtain ⟨g3, g4, g5⟩ := g2
    have gxy : Bef th x y := (List.pairwise_cons.1 g4).1 y (by simp)
    have hxm : Bef th x m := by
      rcases hx.2 with e | e
      · subst e
        rcases hy.2 with e | e
        · subst e; exact gxy
        · exfalso
          have := gxy.1
          have := e.2
          omega
      · exact e
    rw [List.foldl_cons]
    show post.foldl stepR (y :: popR y (x :: (F.reverse ++ [p0]))) = _
    rw [C.pop_top h0 hm hpm hx.1 hxm hy.1 hy.2 (by
      refine List.Pairwise.sublist ?_ h1
      refine List.Sublist.cons_cons p0 (List.Sublist.append_left ?_ F)
      exact List.Sublist.cons_cons x (List.Sublist.cons_cons y (List.nil_sublist _))) h2]
    rw [ih (F := F ++ [x].filter (low p0 m)) (x := y) ?_ ?_ ?_]
    · simp only [List.getLast_cons_cons, List.dropLast_cons₂]
      by_cases hl : low p0 m x = true <;> simp [hl]
    · refine List.Pairwise.sublist ?_ h1
      refine List.Sublist.cons_cons p0 ?_
      rw [List.append_assoc]
      refine List.Sublist.append_left ?_ F
      show ([x].filter _ ++ y :: post).Sublist ([x] ++ y :: post)
      exact List.Sublist.append_right List.filter_sublist _
    · intro q hq
      rcases List.mem_append.1 hq with hq | hq
      · exact h2 q hq
      · obtain ⟨hq1, hq2⟩ := List.mem_filter.1 hq
        obtain rfl : q = x := by simpa using hq1
        exact ⟨hx.1, hxm, hq2⟩
    · exact fun q hq => h3 q (by simp at hq ⊢; right; exact hq)
end
theorem Conv.half {th : Corner → Half} {p0 m : Corner} {mid : List Corner} (C : Conv th (p0 :: (mid ++ [m]))) : halfL (p0 :: (mid ++ [m])) = p0 :: mid.filter (low p0 m) := by
  have hs : halfL (p0 :: (mid ++ [m])) = ((p0 :: (mid ++ [m])).foldl stepR []).tail.reverse := by unfold halfL chainR; rfl
  have hall : ∀ q ∈ mid ++ [m], q ∈ p0 :: (mid ++ [m]) ∧ (q = m ∨ Bef th q m) := fun q hq => by
    refine ⟨List.mem_cons_of_mem _ hq, ?_⟩
    rcases List.mem_append.1 hq with h | h
    · refine .inr ?_
      have := (List.pairwise_cons.1 C.ord).2
      exact (List.pairwise_append.1 this).2.2 q h m (by simp)
    · exact .inl (by simpa using h)
  have hpm : Bef th p0 m := (List.pairwise_cons.1 C.ord).1 m (by simp)
  have hs2 : (p0 :: (mid ++ [m])).foldl stepR [] = (mid ++ [m]).foldl stepR [p0] := rfl
  obtain ⟨x, post, hx⟩ : ∃ x post, mid ++ [m] = x :: post := by
    cases mid with
    | nil => exact ⟨m, [], rfl⟩
    | cons x r => exact ⟨x, r ++ [m], rfl⟩
  have hs3 : (mid ++ [m]).foldl stepR [p0] = post.foldl stepR (x :: (([] : List Corner).reverse ++ [p0])) := by rw [hx]; rfl
  have hc := C.chain (p0 := p0) (m := m) (by simp) (by simp) hpm (post := post) (F := []) (x := x) (by rw [List.nil_append, ← hx]; exact C.ord) (fun q hq => by cases hq) (by rw [← hx]; exact hall)
  rw [hs, hs2, hs3, hc]
  simp only [← hx]
  simp
end Go.Pg
