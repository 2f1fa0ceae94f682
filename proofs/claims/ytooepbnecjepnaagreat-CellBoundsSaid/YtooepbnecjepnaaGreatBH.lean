/- Texts joined and shortened by program. -/
import Derived.Test.YtooepbnecjepnaaGreatBG
import Derived.Test.YtooepbnecjepnaaGreatB8
import Derived.Test.YtooepbnecjepnaaGreatBE
set_option maxHeartbeats 4000000
set_option linter.all false
namespace Go.Pg
open Go.Proofs Go.RowKit
theorem zgf {α : Type} [DecidableEq α] : ∀ (a b : List α), a.Nodup -> (∀ x ∈ a, x ∈ b) -> a.length <= b.length
 | [], b, _, _ => Nat.zero_le _
 | x :: a, b, hn, hs => by
  obtain ⟨h1, h2⟩ := List.nodup_cons.1 hn
  have hx := hs x (List.mem_cons_self ..)
  have := zgf a (b.erase x) h2 fun y hy => (List.mem_erase_of_ne fun e => h1 (by rw [<- e]; exact hy)).2 (hs y (List.mem_cons_of_mem _ hy))
  rw [List.length_erase_of_mem hx] at this
  have := List.length_pos_of_mem hx
  rw [List.length_cons]; omega
section
variable {l : List Place} (hl : ∀ p ∈ l, on p = true) (h2 : 2 <= (sortP l).length)
include hl h2
theorem zp2 {i j : Nat} (h : atP (cycL l) i = atP (cycL l) j) : atP (cycL l) (i + 1) = atP (cycL l) (j + 1) := by
 have c0 : 0 < (cycL l).length := by have := zhA hl h2; omega
 have e1 := zbC hl h2 i
 rw [h] at e1
 exact zmD (zaL hl c0 (i + 1)).2 (zaL hl c0 (j + 1)).2 e1 (zbC hl h2 j)
theorem zol {i j : Nat} (h : atP (cycL l) i = atP (cycL l) j) : ∀ t, atP (cycL l) (i + t) = atP (cycL l) (j + t)
 | 0 => h
 | t + 1 => zp2 hl h2 (zol h t)
theorem zlW {i j : Nat} (hij : i < j) (hj : j < (cycL l).length) : atP (cycL l) i ≠ atP (cycL l) j := fun h => by
 have := zol hl h2 h ((cycL l).length - j)
 rw [show j + ((cycL l).length - j) = (cycL l).length by omega, <- zc3 (cycL l) (cycL l).length, Nat.mod_self] at this
 exact zpM hl h2 (by omega) (by omega) this
end
theorem zll (a b : Place) (q : Corner) : ef (edgeL a b) q = -d3 (co a) (co b) q := by unfold ef edgeL d3 co; grind
theorem zlm (a b r : Place) : ef (edgeL a b) (co r) = crP a b r := by rw [zll, zoh]
theorem ziz {h : Half} (a : -1000 <= h.A /\ h.A <= 1000) (b : -1000 <= h.B /\ h.B <= 1000) (z : h.A ≠ 0 \/ h.B ≠ 0) (c : -262144 <= h.C /\ h.C <= 262144) : fit h = true := by
 unfold fit slope
 simp only [Bool.and_eq_true, Bool.or_eq_true, bne_iff_ne, zab]
 exact ⟨⟨⟨a, b⟩, z⟩, c⟩
theorem zfJ {p q : Place} (hp : on p = true) (hq : on q = true) (hn : p ≠ q) : fit (edgeL p q) = true := by
 obtain ⟨a, b, c⟩ := zpD hp hq
 refine ziz (by omega) (by omega) ?_ (by omega)
 refine Classical.not_not.1 fun hz => hn ?_
 have z1 : (edgeL p q).A = 0 := by omega
 have z2 : (edgeL p q).B = 0 := by omega
 unfold edgeL at z1 z2
 cases p; cases q; simp at z1 z2 ⊢; omega
theorem zcj {c : List Corner} {k : Nat} {h : Half} : h ∈ edgesTo c k ↔ ∃ i, i < k /\ h = edgeL (atP c i) (atP c (i + 1)) := by
 unfold edgesTo
 rw [List.mem_map]
 constructor
 ·rintro ⟨i, hi, rfl⟩; exact ⟨i, List.mem_range.1 hi, rfl⟩
 ·rintro ⟨i, hi, rfl⟩; exact ⟨i, List.mem_range.2 hi, rfl⟩
def hullH (l : List Place) : List Half := if (cycL l).length = 1 then edges1 (atP (cycL l) 0) else if (cycL l).length = 2 then edges2 (atP (cycL l) 0) (atP (cycL l) 1) else edgesTo (cycL l) (cycL l).length
theorem zm5 {l : List Place} (h0 : l ≠ []) (hl : ∀ p ∈ l, on p = true) : hullE l = (hullH l, 0) := by
 unfold hullE hullH; rw [if_neg h0, if_pos (List.all_eq_true.2 hl)]
def dt (p q : Place) : Half := ⟨-(q.X - p.X), -(q.Y - p.Y), -(q.X - p.X) * p.X - (q.Y - p.Y) * p.Y⟩
def dn (p q : Place) : Half := ⟨q.X - p.X, q.Y - p.Y, (q.X - p.X) * q.X + (q.Y - p.Y) * q.Y⟩
theorem edges2_mem {p q : Place} {h : Half} : h ∈ edges2 p q ↔ h = edgeL p q \/ h = edgeL q p \/ h = dt p q \/ h = dn p q := by
 unfold edges2 dt dn; simp
theorem ef_dt (p q r : Place) : ef (dt p q) (co r) = -onL p q r := by unfold ef dt onL co; grind
theorem ef_dn (p q r : Place) : ef (dn p q) (co r) = onL p q r - mostL p q := by unfold ef dn onL mostL co; grind
theorem zrg {p q : Place} (hp : on p = true) (hq : on q = true) (hn : p ≠ q) : fit (dt p q) = true /\ fit (dn p q) = true := by
 have bp := zfv hp
 have bq := zfv hq
 have m1 := mulB (a := -(q.X - p.X)) (b := p.X) (x := 48) (y := 48) (by omega) (by omega)
 have m2 := mulB (a := q.Y - p.Y) (b := p.Y) (x := 48) (y := 48) (by omega) (by omega)
 have m3 := mulB (a := q.X - p.X) (b := q.X) (x := 48) (y := 48) (by omega) (by omega)
 have m4 := mulB (a := q.Y - p.Y) (b := q.Y) (x := 48) (y := 48) (by omega) (by omega)
 have z : ¬ (q.X - p.X = 0 /\ q.Y - p.Y = 0) := fun ⟨a, b⟩ => hn (by cases p; cases q; simp at a b ⊢; omega)
 unfold dt dn
 constructor
 ·exact ziz (show -1000 <= -(q.X - p.X) /\ -(q.X - p.X) <= 1000 by omega) (show -1000 <= -(q.Y - p.Y) /\ -(q.Y - p.Y) <= 1000 by omega) (show -(q.X - p.X) ≠ 0 \/ -(q.Y - p.Y) ≠ 0 by omega) (show -262144 <= -(q.X - p.X) * p.X - (q.Y - p.Y) * p.Y /\ -(q.X - p.X) * p.X - (q.Y - p.Y) * p.Y <= 262144 by omega)
 ·exact ziz (show -1000 <= q.X - p.X /\ q.X - p.X <= 1000 by omega) (show -1000 <= q.Y - p.Y /\ q.Y - p.Y <= 1000 by omega) (show q.X - p.X ≠ 0 \/ q.Y - p.Y ≠ 0 by omega) (show -262144 <= (q.X - p.X) * q.X + (q.Y - p.Y) * q.Y /\ (q.X - p.X) * q.X + (q.Y - p.Y) * q.Y <= 262144 by omega)
theorem e1_mem {p : Place} {h : Half} : h ∈ edges1 p ↔ h = ⟨-1, 0, -p.X⟩ \/ h = ⟨1, 0, p.X⟩ \/ h = ⟨0, -1, -p.Y⟩ \/ h = ⟨0, 1, p.Y⟩ := by unfold edges1; simp
theorem hull_cases {l : List Place} (h0 : l ≠ []) (hl : ∀ p ∈ l, on p = true) :
  ((∀ r ∈ l, r = atP (cycL l) 0) /\ (cycL l).length = 1 /\ hullH l = edges1 (atP (cycL l) 0)) \/
  (2 <= (sortP l).length /\ (cycL l).length = 2 /\ hullH l = edges2 (atP (cycL l) 0) (atP (cycL l) 1)) \/
  (2 <= (sortP l).length /\ 3 <= (cycL l).length /\ hullH l = edgesTo (cycL l) (cycL l).length) := by
 rcases Nat.lt_or_ge (sortP l).length 2 with h | h
 ·obtain ⟨a, b⟩ := zpL hl h0 h
  exact .inl ⟨b, a, by unfold hullH; rw [if_pos a]⟩
 ·have n2 := zhA hl h
  by_cases c : (cycL l).length = 2
  ·exact .inr (.inl ⟨h, c, by unfold hullH; rw [if_neg (by omega), if_pos c]⟩)
  ·exact .inr (.inr ⟨h, by omega, by unfold hullH; rw [if_neg (by omega), if_neg c]⟩)
theorem zhr {l : List Place} (h0 : l ≠ []) (hl : ∀ p ∈ l, on p = true) (hn : 2 <= (sortP l).length -> (cycL l).length <= 40) : checkL (hullH l) = 0 := by
 have key : (hullH l).length <= 40 /\ ∀ h ∈ hullH l, fit h = true := by
  rcases hull_cases h0 hl with ⟨a, b, e⟩ | ⟨h2, b, e⟩ | ⟨h2, b, e⟩
  ·rw [e]
   have m : atP (cycL l) 0 ∈ l := by
    obtain ⟨x, hx⟩ := List.exists_mem_of_ne_nil _ h0
    rw [<- a x hx]; exact hx
   have bp := zfv (hl _ m)
   refine ⟨by unfold edges1; simp, fun h hh => ?_⟩
   rcases e1_mem.1 hh with rfl | rfl | rfl | rfl <;> exact ziz (by simp) (by simp) (by simp) (by simp; omega)
  ·rw [e]
   have c0 : 0 < (cycL l).length := by omega
   have m0 := hl _ (zaL hl c0 0).2
   have m1 := hl _ (zaL hl c0 1).2
   have ne := zlW hl h2 (show 0 < 1 by omega) (by omega)
   refine ⟨by unfold edges2; simp, fun h hh => ?_⟩
   obtain ⟨f1, f2⟩ := zrg m0 m1 ne
   rcases edges2_mem.1 hh with rfl | rfl | rfl | rfl
   ·exact zfJ m0 m1 ne
   ·exact zfJ m1 m0 ne.symm
   ·exact f1
   ·exact f2
  ·rw [e]
   have c0 : 0 < (cycL l).length := by omega
   have := hn h2
   refine ⟨by rw [zd7]; omega, fun h hh => ?_⟩
   obtain ⟨i, hi, rfl⟩ := zcj.1 hh
   exact zfJ (hl _ (zaL hl c0 i).2) (hl _ (zaL hl c0 (i + 1)).2) (zaT.1 (zbC hl h2 i)).2
 unfold checkL
 rw [if_neg (by omega), if_pos (List.all_eq_true.2 key.2)]
theorem zj1 {r : Place} (h : on r = true) : ∀ x ∈ sidesL, ef x (co r) <= 0 := fun x hx => by
 have b := zfv h
 unfold sidesL at hx
 simp only [List.mem_cons, List.not_mem_nil, or_false] at hx
 rcases hx with rfl | rfl | rfl | rfl <;> (unfold ef co; simp; omega)
theorem zhq {l : List Place} (h0 : l ≠ []) (hl : ∀ p ∈ l, on p = true) {r : Place} (hr : r ∈ l) : Fe (hsL (hullH l)) (co r) := fun h hh => by
 rcases List.mem_append.1 hh with hh | hh
 ·rcases hull_cases h0 hl with ⟨a, b, e⟩ | ⟨h2, b, e⟩ | ⟨h2, b, e⟩
  ·rw [e] at hh
   rw [a r hr]
   rcases e1_mem.1 hh with rfl | rfl | rfl | rfl <;> (unfold ef co; simp)
  ·rw [e] at hh
   have e0 := (zaT.1 (zbC hl h2 0)).1 r hr
   have e1 := (zaT.1 (zbC hl h2 1)).1 r hr
   have a2 : atP (cycL l) (1 + 1) = atP (cycL l) 0 := by rw [<- zc3, b]
   rw [a2] at e1
   have sw : crP (atP (cycL l) 1) (atP (cycL l) 0) r = -crP (atP (cycL l) 0) (atP (cycL l) (0 + 1)) r := by
    show crP (atP (cycL l) 1) (atP (cycL l) 0) r = -crP (atP (cycL l) 0) (atP (cycL l) 1) r
    unfold crP edgeL; grind
   have z := e0.2 (by omega)
   rcases edges2_mem.1 hh with rfl | rfl | rfl | rfl
   ·rw [zlm]; exact e0.1
   ·rw [zlm]; exact e1.1
   ·rw [ef_dt]; have : 0 <= onL (atP (cycL l) 0) (atP (cycL l) 1) r := z.1; omega
   ·rw [ef_dn]; have : onL (atP (cycL l) 0) (atP (cycL l) 1) r <= mostL (atP (cycL l) 0) (atP (cycL l) 1) := z.2; omega
  ·rw [e] at hh
   obtain ⟨i, hi, rfl⟩ := zcj.1 hh
   rw [zlm]
   exact ((zaT.1 (zbC hl h2 i)).1 r hr).1
 ·exact zj1 (hl r hr) h hh
theorem zog (g : Nat -> Int) : ∀ m, 0 <= g 1 -> g (m + 2) <= 0 -> ∃ j, 1 <= j /\ j <= m + 1 /\ 0 <= g j /\ g (j + 1) <= 0
 | 0, h1, h2 => ⟨1, Nat.le_refl _, Nat.le_refl _, h1, h2⟩
 | m + 1, h1, h2 => by
  rcases Int.lt_or_le 0 (g (m + 2)) with h | h
  ·exact ⟨m + 2, by omega, by omega, by omega, h2⟩
  ·obtain ⟨j, a, b, c, d⟩ := zog g m h1 h
   exact ⟨j, a, by omega, c, d⟩
theorem zrk (a b c d : Corner) : a.Den * d3 b c d - b.Den * d3 a c d + c.Den * d3 a b d - d.Den * d3 a b c = 0 := by
 have := plu ⟨0, 0, -1⟩ a b c d
 unfold ef at this
 simpa using this
theorem zps {l : List Place} (h0 : l ≠ []) (hl : ∀ p ∈ l, on p = true) {q : Corner} (V : Vt (hsL (hullH l)) q) : ∃ p ∈ l, q = co p := by
 obtain ⟨φ, f0, fn⟩ := V.out
 refine Classical.byContradiction fun hno => ?_
 have neg : ∀ r ∈ l, ef φ (co r) < 0 := fun r hr => by
  have v : valid (co r) = true := by rw [<- zkA (hl r hr)]; exact zcy (hl r hr)
  exact (fn _ (zhq h0 hl hr) v).2 fun e => hno ⟨r, hr, e.symm⟩
 have qd : 0 < q.Den := denV V.va
 have fe : ∀ h ∈ hullH l, ef h q <= 0 := fun h hh => V.fe h (List.mem_append_left _ hh)
 rcases hull_cases h0 hl with ⟨a, b, e⟩ | ⟨h2, b, e⟩ | ⟨h2, b, e⟩
 ·-- one place
  rw [e] at fe
  have m : atP (cycL l) 0 ∈ l := by
   obtain ⟨x, hx⟩ := List.exists_mem_of_ne_nil _ h0
   rw [<- a x hx]; exact hx
  have n := neg _ m
  generalize atP (cycL l) 0 = p at *
  have a1 := fe _ (e1_mem.2 (.inl rfl))
  have a2 := fe _ (e1_mem.2 (.inr (.inl rfl)))
  have a3 := fe _ (e1_mem.2 (.inr (.inr (.inl rfl))))
  have a4 := fe _ (e1_mem.2 (.inr (.inr (.inr rfl))))
  unfold ef at a1 a2 a3 a4
  have x : q.X = p.X * q.Den := by
   have e1 : -p.X * q.Den = -(p.X * q.Den) := Int.neg_mul ..
   simp only [Int.neg_mul, Int.one_mul, Int.zero_mul] at a1 a2
   omega
  have y : q.Y = p.Y * q.Den := by
   simp only [Int.neg_mul, Int.one_mul, Int.zero_mul] at a3 a4
   omega
  have k : ef φ q = q.Den * ef φ (co p) := by unfold ef co; rw [x, y]; grind
  have := Int.mul_neg_of_pos_of_neg qd n
  omega
 ·-- two places
  rw [e] at fe
  have c0 : 0 < (cycL l).length := by omega
  have m0 := neg _ (zaL hl c0 0).2
  have m1 := neg _ (zaL hl c0 1).2
  have ne := zlW hl h2 (show 0 < 1 by omega) (by omega)
  generalize atP (cycL l) 0 = p at *
  generalize atP (cycL l) 1 = r at *
  have a1 := fe _ (edges2_mem.2 (.inl rfl))
  have a2 := fe _ (edges2_mem.2 (.inr (.inl rfl)))
  have a3 := fe _ (edges2_mem.2 (.inr (.inr (.inl rfl))))
  have a4 := fe _ (edges2_mem.2 (.inr (.inr (.inr rfl))))
  have sw : ef (edgeL r p) q = -ef (edgeL p r) q := by unfold ef edgeL; grind
  have z : ef (edgeL p r) q = 0 := by omega
  have key : mostL p r * ef φ q = (-ef (dn p r) q) * ef φ (co p) + (-ef (dt p r) q) * ef φ (co r) := by
   unfold mostL ef dn dt co
   unfold ef edgeL at z
   simp only [Int.mul_one]
   grind
  rw [f0, Int.mul_zero] at key
  have w1 : 0 <= -ef (dn p r) q := by omega
  have w2 : 0 <= -ef (dt p r) q := by omega
  have ws : -ef (dn p r) q + -ef (dt p r) q = mostL p r * q.Den := by unfold ef dn dt mostL; grind
  have mp : 0 < mostL p r := by
   unfold mostL
   have a := msq (r.X - p.X)
   have b := msq (r.Y - p.Y)
   rcases Int.lt_or_le 0 ((r.X - p.X) * (r.X - p.X) + (r.Y - p.Y) * (r.Y - p.Y)) with g | g
   ·exact g
   ·exfalso
    have x := sqz (a := r.X - p.X) (by omega)
    have y := sqz (a := r.Y - p.Y) (by omega)
    apply ne
    cases p; cases r; simp at x y ⊢; omega
  have pos := Int.mul_pos mp qd
  have t1 := Int.mul_nonpos_of_nonneg_of_nonpos w1 (show ef φ (co p) <= 0 by omega)
  have t2 := Int.mul_nonpos_of_nonneg_of_nonpos w2 (show ef φ (co r) <= 0 by omega)
  have z1 : -ef (dn p r) q = 0 := by
   rcases Int.mul_eq_zero.1 (show -ef (dn p r) q * ef φ (co p) = 0 by omega) with h | h
   ·exact h
   ·omega
  have z2 : -ef (dt p r) q = 0 := by
   rcases Int.mul_eq_zero.1 (show -ef (dt p r) q * ef φ (co r) = 0 by omega) with h | h
   ·exact h
   ·omega
  omega
 ·-- at least three
  rw [e] at fe
  have c0 : 0 < (cycL l).length := by omega
  have C := zdt (zdq hl) (zcu hl) h2
  rw [<- zck] at C
  have vs := fun i => zaL hl c0 i
  have ed : ∀ i, 0 <= d3 (co (atP (cycL l) i)) (co (atP (cycL l) (i + 1))) q := fun i => by
   have : edgeL (atP (cycL l) i) (atP (cycL l) (i + 1)) ∈ edgesTo (cycL l) (cycL l).length := by
    refine zcj.2 ⟨i % (cycL l).length, Nat.mod_lt _ c0, ?_⟩
    rw [zc3]
    congr 1
    rw [<- zc3 (cycL l) (i % (cycL l).length + 1), Nat.mod_add_mod, zc3]
   have := fe _ this
   rw [zll] at this
   omega
  obtain ⟨m, hm⟩ : ∃ m, (cycL l).length = m + 3 := ⟨(cycL l).length - 3, by omega⟩
  have g1 := ed 0
  have gl := ed (m + 2)
  have an : atP (cycL l) (m + 2 + 1) = atP (cycL l) 0 := by rw [<- zc3, hm, Nat.mod_self]
  rw [an] at gl
  have sw : d3 (co (atP (cycL l) 0)) (co (atP (cycL l) (m + 2))) q = -d3 (co (atP (cycL l) (m + 2))) (co (atP (cycL l) 0)) q := zhz _ _ _
  obtain ⟨j, j1, j2, ga, gb⟩ := zog (fun j => d3 (co (atP (cycL l) 0)) (co (atP (cycL l) j)) q) m g1 (by show d3 (co (atP (cycL l) 0)) (co (atP (cycL l) (m + 2))) q <= 0; omega)
  have ga : 0 <= d3 (co (atP (cycL l) 0)) (co (atP (cycL l) j)) q := ga
  have gb : d3 (co (atP (cycL l) 0)) (co (atP (cycL l) (j + 1))) q <= 0 := gb
  have gc := ed j
  have n0 := neg _ (vs 0).2
  have nj := neg _ (vs j).2
  have nk := neg _ (vs (j + 1)).2
  have id := plu φ (co (atP (cycL l) 0)) (co (atP (cycL l) j)) (co (atP (cycL l) (j + 1))) q
  rw [f0, Int.zero_mul, Int.sub_zero] at id
  have t1 := Int.mul_nonpos_of_nonpos_of_nonneg (show ef φ (co (atP (cycL l) 0)) <= 0 by omega) gc
  have t2 := Int.mul_nonneg_of_nonpos_of_nonpos (show ef φ (co (atP (cycL l) j)) <= 0 by omega) gb
  have t3 := Int.mul_nonpos_of_nonpos_of_nonneg (show ef φ (co (atP (cycL l) (j + 1))) <= 0 by omega) ga
  have z1 : d3 (co (atP (cycL l) j)) (co (atP (cycL l) (j + 1))) q = 0 := by
   rcases Int.mul_eq_zero.1 (show ef φ (co (atP (cycL l) 0)) * d3 (co (atP (cycL l) j)) (co (atP (cycL l) (j + 1))) q = 0 by omega) with h | h
   ·omega
   ·exact h
  have z2 : d3 (co (atP (cycL l) 0)) (co (atP (cycL l) (j + 1))) q = 0 := by
   rcases Int.mul_eq_zero.1 (show ef φ (co (atP (cycL l) j)) * d3 (co (atP (cycL l) 0)) (co (atP (cycL l) (j + 1))) q = 0 by omega) with h | h
   ·omega
   ·exact h
  have z3 : d3 (co (atP (cycL l) 0)) (co (atP (cycL l) j)) q = 0 := by
   rcases Int.mul_eq_zero.1 (show ef φ (co (atP (cycL l) (j + 1))) * d3 (co (atP (cycL l) 0)) (co (atP (cycL l) j)) q = 0 by omega) with h | h
   ·omega
   ·exact h
  have dd := zrk (co (atP (cycL l) 0)) (co (atP (cycL l) j)) (co (atP (cycL l) (j + 1))) q
  rw [z1, z2, z3] at dd
  have dz : d3 (co (atP (cycL l) 0)) (co (atP (cycL l) j)) (co (atP (cycL l) (j + 1))) = 0 := by
   have : q.Den * d3 (co (atP (cycL l) 0)) (co (atP (cycL l) j)) (co (atP (cycL l) (j + 1))) = 0 := by
    rw [Int.mul_zero, Int.mul_zero, Int.mul_zero] at dd; omega
   rcases Int.mul_eq_zero.1 this with h | h
   ·omega
   ·exact h
  have dr : d3 (co (atP (cycL l) j)) (co (atP (cycL l) (j + 1))) (co (atP (cycL l) 0)) = 0 := by rw [zd8]; exact dz
  have jm : (j + 1) % (cycL l).length = j + 1 := Nat.mod_eq_of_lt (by omega)
  have e0 := (vs 0).1
  have ej := (vs j).1
  have ek := (vs (j + 1)).1
  rw [Nat.zero_mod] at e0
  rw [Nat.mod_eq_of_lt (show j < (cycL l).length by omega)] at ej
  rw [jm] at ek
  have s0 : co (atP (cycL l) 0) ∈ sortP l := (zaV hl _).2 ⟨_, (vs 0).2, rfl⟩
  have u1 := C.far j (by omega) (by omega)
  have u2 := C.far (j + 1) (by omega) (by omega)
  have E := C.edge j (by omega)
  rw [jm, ej, ek] at E
  rw [e0, ej] at u1
  rw [e0, ek] at u2
  rcases E with E | E
  ·have := (E.2 _ s0).2 dr
   omega
  ·have := (E.2 _ s0).2 dr
   rw [za1, za1, za1] at this
   omega
theorem zb8 {s : Svc} {b : Brn} {l : List Rpt} {q : Place} (hq : q ∈ (plcR s b l).1) : givE s b l = 0 /\ on q = true /\ onM s.c.M q = true /\ ∀ r ∈ l, allB s b r q = true := by
 have h1 := zhd (s := s) (b := b) (l := l) q hq
 unfold plcR at hq
 split at hq
 ·cases hq
 ·rename_i h
  have h := Classical.byContradiction h
  have ok := zdd h
  refine ⟨h, h1, znY ok.s.c.m q hq, fun r hr => ?_⟩
  unfold plsL plsK at hq
  obtain ⟨n, hn, rfl⟩ := List.mem_map.1 hq
  have hp := (List.mem_filter.1 hn).2
  unfold metP at hp
  have := List.all_eq_true.1 hp _ (List.mem_map.2 ⟨r, hr, rfl⟩)
  have e : alwP s b r n = (decide (n < s.n) && allB s b r (plc s.c.M n)) := rfl
  rw [e, Bool.and_eq_true] at this
  exact this.2
theorem zoE {r : Rpt} (h : frmB r = true) : 1 <= r.Slack := by
 unfold frmB at h
 simp only [Bool.and_eq_true, Bool.not_eq_true'] at h
 have h2 := h.1
 unfold frmC at h2
 simp only [Bool.or_eq_false_iff, Bool.not_eq_false'] at h2
 exact (zab.1 h2.2).1
theorem zh1 {s : Svc} {b : Brn} {r : Rpt} {q : Place} (h : rptE s r = 0) (hk : r.Kind = 1) (hq : allB s b r q = true) : halvesB (wdgR s.k (rdgO r)).1 (towG s.c.T r.Tower).1.At = true /\ liesW (wdgR s.k (rdgO r)).1 (towG s.c.T r.Tower).1.At q = true := by
 have hl : liesW (wdgR s.k (rdgO r)).1 (towG s.c.T r.Tower).1.At q = true := by
  unfold allB at hq
  rw [if_pos hk] at hq
  unfold seenB secR at hq
  rw [if_pos hk] at hq
  simp only [Bool.and_eq_true] at hq
  exact hq.1.2
 refine ⟨?_, hl⟩
 obtain ⟨f1, f2, f3, f4⟩ := zf7 h
 have hw := rpt_w h hk
 have hs := zoE f1
 have hz := zom f4
 have h2 := hl
 unfold liesW at h2
 simp only [Bool.and_eq_true] at h2
 have hv := h2.1.1.1
 have ha := h2.1.1.2.1
 unfold halvesB
 rw [hv, ha, Bool.true_and, Bool.and_true, decide_eq_true_iff]
 have e : (wdgR s.k (rdgO r)).1 = wdg (r.From - r.Slack - (zerR s.k r.C r.Tick).1.Hi) (2 * r.Slack + (zerR s.k r.C r.Tick).1.Hi - (zerR s.k r.C r.Tick).1.Lo) /\ 2 * r.Slack + (zerR s.k r.C r.Tick).1.Hi - (zerR s.k r.C r.Tick).1.Lo <= 900 := by
  unfold wdgR at hw ⊢
  split at hw
  ·rename_i g; exact absurd hw g
  rename_i g1
  split at hw
  ·rename_i g; exact absurd hw g
  rename_i g2
  split at hw
  ·cases hw
  rename_i g3
  rw [if_neg g1, if_neg g2, if_neg g3]
  refine ⟨rfl, ?_⟩
  have g3 : ¬ 900 < 2 * r.Slack + (zerR s.k r.C r.Tick).1.Hi - (zerR s.k r.C r.Tick).1.Lo := g3
  omega
 rw [e.1, zo7 (by unfold wdg; dsimp only; omega) (by unfold wdg; dsimp only; omega)]
 have := e.2
 unfold wdg; dsimp only; omega
theorem zk1 {s : Svc} {l : List Rpt} {h : Half} : h ∈ hvL s l ↔ ∃ r ∈ l, r.Kind = 1 /\ (h = (hvO s r).1 \/ h = (hvO s r).2) := by
 unfold hvL isSg
 simp only [List.mem_flatMap, List.mem_filter, beq_iff_eq, List.mem_cons, List.not_mem_nil, or_false]
 constructor
 ·rintro ⟨r, ⟨h1, h2⟩, h3⟩; exact ⟨r, h1, h2, h3⟩
 ·rintro ⟨r, h1, h2, h3⟩; exact ⟨r, ⟨h1, h2⟩, h3⟩
theorem zn6 {s : Svc} {r : Rpt} (h : halvesB (wdgR s.k (rdgO r)).1 (towG s.c.T r.Tower).1.At = true) : hvO s r = (hvA (wdgR s.k (rdgO r)).1 (towG s.c.T r.Tower).1.At, hvB (wdgR s.k (rdgO r)).1 (towG s.c.T r.Tower).1.At) := by
 unfold hvO halvesW; rw [if_pos h]
theorem zn7 {s : Svc} {b : Brn} {l : List Rpt} {q : Place} (hq : q ∈ (plcR s b l).1) (hn : l.length <= 20) : checkL (hvL s l) = 0 := by
 obtain ⟨h0, h1, _, h2⟩ := zb8 hq
 have hr := (zk8.1 h0).2.2.2.1
 unfold checkL
 rw [if_neg (by have := zhp s l; omega), if_pos]
 rw [List.all_eq_true]
 intro h hh
 obtain ⟨r, m1, m2, m3⟩ := zk1.1 hh
 obtain ⟨k1, _⟩ := zh1 (hr r m1) m2 (h2 r m1)
 rw [zn6 k1] at m3
 rcases m3 with rfl | rfl
 ·exact (zoa k1).1
 ·exact (zoa k1).2
theorem zk2 {s : Svc} {b : Brn} {l : List Rpt} {q : Place} (hq : q ∈ (plcR s b l).1) : Fe (hsL (hvL s l)) (co q) := fun h hh => by
 obtain ⟨h0, h1, _, h2⟩ := zb8 hq
 have hr := (zk8.1 h0).2.2.2.1
 rcases List.mem_append.1 hh with hh | hh
 ·obtain ⟨r, m1, m2, m3⟩ := zk1.1 hh
  obtain ⟨k1, k2⟩ := zh1 (hr r m1) m2 (h2 r m1)
  rw [zn6 k1] at m3
  have := (zqZ k1 h1).2 (by rw [k2, Bool.or_true])
  rcases m3 with rfl | rfl
  ·exact this.1
  ·exact this.2
 ·exact zj1 h1 h hh
theorem zgz {L : List Half} {q : Place} (hc : checkL L = 0) (hq : on q = true) (h : Fe (hsL L) (co q)) : (allowsE L (ofP q)).2 = true := by
 have ho := (zaK L (co q)).2 h
 unfold allowsE
 rw [if_pos ⟨hc, zcy hq⟩, zkA hq, ho]
 rfl
section
variable {l : List Place} (hl : ∀ p ∈ l, on p = true) (h2 : 2 <= (sortP l).length)
include hl h2
theorem zoP {i : Nat} {a c : Place} (ha : a ∈ l) (hc : c ∈ l) (ya : a.Y = (atP (cycL l) i).Y) (yc : c.Y = (atP (cycL l) i).Y) (xa : a.X < (atP (cycL l) i).X) (xc : (atP (cycL l) i).X < c.X) : False := by
 have e := zbC hl h2 i
 generalize atP (cycL l) i = p at *
 generalize atP (cycL l) (i + 1) = q at *
 rw [zaT] at e
 obtain ⟨e1, e2⟩ := e
 obtain ⟨a1, a2⟩ := e1 a ha
 obtain ⟨c1, c2⟩ := e1 c hc
 have za : crP p q a = (q.Y - p.Y) * (a.X - p.X) := by unfold crP edgeL; rw [ya]; grind
 have zc : crP p q c = (q.Y - p.Y) * (c.X - p.X) := by unfold crP edgeL; rw [yc]; grind
 have qy : q.Y = p.Y := by
  rcases Int.lt_trichotomy q.Y p.Y with g | g | g
  ·have := Int.mul_pos_of_neg_of_neg (show q.Y - p.Y < 0 by omega) (show a.X - p.X < 0 by omega); omega
  ·exact g
  ·have := Int.mul_pos (show 0 < q.Y - p.Y by omega) (show 0 < c.X - p.X by omega); omega
 have oa : onL p q a = (q.X - p.X) * (a.X - p.X) := by unfold onL; rw [ya, qy, Int.sub_self]; simp; exact Int.mul_comm _ _
 have oc : onL p q c = (q.X - p.X) * (c.X - p.X) := by unfold onL; rw [yc, qy, Int.sub_self]; simp; exact Int.mul_comm _ _
 have za0 : crP p q a = 0 := by rw [za, qy, Int.sub_self, Int.zero_mul]
 have zc0 : crP p q c = 0 := by rw [zc, qy, Int.sub_self, Int.zero_mul]
 have u := (a2 za0).1
 have v := (c2 zc0).1
 have qx : q.X = p.X := by
  rcases Int.lt_trichotomy q.X p.X with g | g | g
  ·have := Int.mul_neg_of_neg_of_pos (show q.X - p.X < 0 by omega) (show 0 < c.X - p.X by omega); omega
  ·exact g
  ·have := Int.mul_neg_of_pos_of_neg (show 0 < q.X - p.X by omega) (show a.X - p.X < 0 by omega); omega
 apply e2
 cases p; cases q; simp at qx qy ⊢; omega
theorem zkc {i j k : Nat} (hij : i < j) (hjk : j < k) (hk : k < (cycL l).length) (h1 : (atP (cycL l) i).Y = (atP (cycL l) j).Y) (h3 : (atP (cycL l) k).Y = (atP (cycL l) j).Y) : False := by
 have c0 : 0 < (cycL l).length := by omega
 have mi := (zaL hl c0 i).2
 have mj := (zaL hl c0 j).2
 have mk := (zaL hl c0 k).2
 have nx : ∀ {i j : Nat}, i < j -> j < (cycL l).length -> (atP (cycL l) i).Y = (atP (cycL l) j).Y -> (atP (cycL l) i).X ≠ (atP (cycL l) j).X := fun {i j} hij hj hy hx => zlW hl h2 hij hj (by
  generalize atP (cycL l) i = p at *
  generalize atP (cycL l) j = q at *
  cases p; cases q; simp at hx hy ⊢; omega)
 have x1 := nx hij (by omega) h1
 have x2 := nx hjk hk h3.symm
 have x3 := nx (show i < k by omega) hk (by rw [h1, h3])
 have M := @zoP l hl h2
 rcases Int.lt_or_gt_of_ne x1 with g1 | g1 <;> rcases Int.lt_or_gt_of_ne x2 with g2 | g2
 ·exact M mi mk h1 h3 g1 g2
 ·rcases Int.lt_or_gt_of_ne x3 with g3 | g3
  ·exact M (i := k) mi mj (by rw [h1, h3]) h3.symm g3 g2
  ·exact M (i := i) mk mj (by rw [h1, h3]) h1.symm g3 g1
 ·rcases Int.lt_or_gt_of_ne x3 with g3 | g3
  ·exact M (i := i) mj mk h1.symm (by rw [h1, h3]) g1 g3
  ·exact M (i := k) mj mi h3.symm (by rw [h1, h3]) g2 g3
 ·exact M mk mi h3 h1 g2 g1
theorem zno (hy : ∀ p ∈ l, p.Y <= 12) : (cycL l).length <= 26 := by
 have c0 : 0 < (cycL l).length := by have := zhA hl h2; omega
 have nd : ((List.range (cycL l).length).map fun i => 2 * (atP (cycL l) i).Y.toNat + (if (List.range i).any (fun j => (atP (cycL l) j).Y == (atP (cycL l) i).Y) = true then 1 else 0)).Nodup := by
  unfold List.Nodup
  rw [List.pairwise_map]
  refine List.Pairwise.imp_of_mem ?_ (List.pairwise_lt_range (n := (cycL l).length))
  intro i j hi hj hij e
  have hj := List.mem_range.1 hj
  have yi := (zaM.1 (hl _ (zaL hl c0 i).2)).2
  have yj := (zaM.1 (hl _ (zaL hl c0 j).2)).2
  have ey : (atP (cycL l) i).Y = (atP (cycL l) j).Y := by
   split at e <;> split at e <;> omega
  have fj : (List.range j).any (fun m => (atP (cycL l) m).Y == (atP (cycL l) j).Y) = true := List.any_eq_true.2 ⟨i, List.mem_range.2 hij, by rw [ey]; simp⟩
  rw [if_pos fj] at e
  split at e
  ·rename_i fi
   obtain ⟨m, hm, em⟩ := List.any_eq_true.1 fi
   have hm := List.mem_range.1 hm
   exact zkc hl h2 hm hij hj (by simpa using em) ey.symm
  ·omega
 have := zgf _ (List.range 26) nd fun x hx => by
  obtain ⟨i, _, rfl⟩ := List.mem_map.1 hx
  have m := (zaL hl c0 i).2
  have y1 := hy _ m
  have y2 := (zaM.1 (hl _ m)).2
  rw [List.mem_range]
  split <;> omega
 rw [List.length_map, List.length_range, List.length_range] at this
 exact this
end
theorem bst_mem {fx fy : Int} : ∀ (l : List Place) (p : Place), bstP fx fy l p = p \/ bstP fx fy l p ∈ l
 | [], p => .inl rfl
 | x :: r, p => by
  show bstP fx fy r (if valP fx fy p < valP fx fy x then x else p) = p \/ bstP fx fy r (if valP fx fy p < valP fx fy x then x else p) ∈ x :: r
  rcases bst_mem (fx := fx) (fy := fy) r (if valP fx fy p < valP fx fy x then x else p) with h | h
  ·rw [h]
   split
   ·exact .inr (by simp)
   ·exact .inl rfl
  ·exact .inr (List.mem_cons_of_mem _ h)
theorem zqO {s : Svc} {b : Brn} {l : List Rpt} {fx fy : Int} {q : Place} (hq : q ∈ (plcR s b l).1) : (slope fx fy = false -> (mstR s b l fx fy).2.2 = 1) /\ (slope fx fy = true -> (mstR s b l fx fy).2.2 = 0 /\ (mstR s b l fx fy).2.1 ∈ (plcR s b l).1 /\ (mstR s b l fx fy).1 = valP fx fy (mstR s b l fx fy).2.1) := by
 obtain ⟨h0, -⟩ := zb8 hq
 have eg := ziv s b l
 rw [h0] at eg
 have sl : slope fx fy = (within fx (-1000) 1000 && within fy (-1000) 1000) := by unfold slope; rfl
 have ne : (plcR s b l).1.length ≠ 0 := fun h => by rw [List.length_eq_zero_iff.1 h] at hq; cases hq
 have m0 : (plcR s b l).1.getD 0 default ∈ (plcR s b l).1 := gd1 (by omega) default
 rw [sl]
 constructor
 ·intro h
  unfold mstR
  rw [if_neg (fun hh => hh eg), if_pos h]
 ·intro h
  have e : mstR s b l fx fy = (valP fx fy (bstP fx fy (plcR s b l).1 ((plcR s b l).1.getD 0 default)), bstP fx fy (plcR s b l).1 ((plcR s b l).1.getD 0 default), 0) := by
   unfold mstR; rw [if_neg (fun hh => hh eg), if_neg (by rw [h]; decide), if_neg ne]
  rw [e]
  refine ⟨rfl, ?_, rfl⟩
  dsimp only
  rcases bst_mem (fx := fx) (fy := fy) (plcR s b l).1 ((plcR s b l).1.getD 0 default) with g | g
  ·rw [g]; exact m0
  ·exact g
theorem zn5 {s : Svc} {b : Brn} {l : List Rpt} (h0 : givE s b l = 0) (hn : l.length <= 20) : hvsR s b l = ((hvL s l, hvI l), 0) := by
 have := zhp s l
 unfold hvsR
 rw [if_neg (fun hh => hh h0), if_neg (by omega)]
theorem znA {s : Svc} {b : Brn} {l : List Rpt} {fx fy : Int} {q : Place} (hq : q ∈ (plcR s b l).1) (hn : l.length <= 20) : (mstR s b l fx fy).2.2 = (bndR s b l ⟨fx, fy⟩).2 /\ ((bndR s b l ⟨fx, fy⟩).2 = 0 -> (mstR s b l fx fy).2.1 ∈ (plcR s b l).1 /\ (1 <= (bndR s b l ⟨fx, fy⟩).1.V.Den /\ (bndR s b l ⟨fx, fy⟩).1.V.Den <= 2097152) /\ (-96000 <= (mstR s b l fx fy).1 /\ (mstR s b l fx fy).1 <= 96000) /\ (mstR s b l fx fy).1 * (bndR s b l ⟨fx, fy⟩).1.V.Den <= (bndR s b l ⟨fx, fy⟩).1.V.Num /\ cbE (hvL s l) ⟨fx, fy⟩ (bndR s b l ⟨fx, fy⟩).1 = 0) := by
 obtain ⟨h0, -⟩ := zb8 hq
 have e := zn5 h0 hn
 have ck := zn7 hq hn
 have eb : bndR s b l ⟨fx, fy⟩ = bestE (hvL s l) ⟨fx, fy⟩ := by unfold bndR; rw [e, if_neg (fun hh => hh rfl)]
 obtain ⟨m1, m2⟩ := zqO (fx := fx) (fy := fy) hq
 rw [eb]
 have c0 : cornersL (hvL s l) ≠ [] := fun h => (zkE ck).1 h (co q) ⟨Int.zero_lt_one, zk2 hq⟩
 by_cases hs : slope fx fy = true
 ·obtain ⟨b0, b1⟩ := m2 hs
  obtain ⟨v, ev, _⟩ := ziQ ck c0 (f := ⟨fx, fy⟩) hs
  have z : (bestE (hvL s l) ⟨fx, fy⟩).2 = 0 := by rw [ev]
  refine ⟨by rw [b0, z], fun _ => ?_⟩
  obtain ⟨q1, q2⟩ := b1
  obtain ⟨_, p1, _, _⟩ := zb8 q1
  obtain ⟨px, py⟩ := zaM.1 p1
  generalize hP : (mstR s b l fx fy).2.1 = P at *
  have hin : inP (allL (hvL s l)) P.X.toNat P.Y.toNat = true := by
   unfold inP
   rw [beq_iff_eq, zaK]
   have e1 : (⟨((P.X.toNat : Nat) : Int), ((P.Y.toNat : Nat) : Int), 1⟩ : Corner) = co P := by
    unfold co
    rw [show ((P.X.toNat : Nat) : Int) = P.X by omega, show ((P.Y.toNat : Nat) : Int) = P.Y by omega]
   rw [e1]
   exact zk2 q1
  obtain ⟨s1, s2, s3⟩ := zjk (f := ⟨fx, fy⟩) ck z hin
  rw [show ((P.X.toNat : Nat) : Int) = P.X by omega, show ((P.Y.toNat : Nat) : Int) = P.Y by omega] at s3
  have bx := hs
  unfold slope at bx
  simp only [Bool.and_eq_true, zab] at bx
  have m1 := mulB (a := fx) (b := P.X) (x := 1000) (y := 48) (by omega) (by omega)
  have m2 := mulB (a := fy) (b := P.Y) (x := 1000) (y := 48) (by omega) (by omega)
  refine ⟨q1, s2, ?_, ?_, zp0 z⟩
  ·rw [q2]; unfold valP; omega
  ·rw [q2]; unfold valP; exact Int.not_lt.1 s3
 ·have hs : slope fx fy = false := by simpa using hs
  refine ⟨by rw [m1 hs, zcN ck hs], fun h => ?_⟩
  rw [zcN ck (f := ⟨fx, fy⟩) hs] at h
  cases h
theorem zqc (l : List Place) (p : Place) (hn : l.length <= 1000000) : Spec PP 27 [.d (lP l), p.v] [B (l.contains p)] := by
 refine sA Tryz.func27 ?_
 refine LoopOb.of (σ := Nat) (fun i => ([(3, .box 3 0), (7, .d (lP l)), (8, .d (I l.length)), (9, .d (I i))], [(3, .box ([I p.X, I p.Y].map AV.d))])) (fun i => i <= l.length /\ ∀ j, j < i -> l.getD j default ≠ p) (fun i => l.length - i) 0
  ⟨rfl, ⟨obD [I p.X, I p.Y] rfl, trivial⟩, wq rfl⟩ z0L fun i hi => ?_
 obtain ⟨hi, ha⟩ := hi
 apply bY <;> intro h1
 ·have h1 : i < l.length := by have := dT h1; omega
  refine ⟨⟨rfl, by omega, by omega⟩, ?_⟩
  apply bY <;> intro h2
  ·have h2 : l.getD i default = p := of_decide_eq_true ((eqPW _ _).symm.trans h2)
   refine r1B rfl ?_
   refine (List.contains_iff_mem.2 ?_).symm
   rw [<- h2]; exact gd1 h1 default
  ·have h2 : l.getD i default ≠ p := of_decide_eq_false ((eqPW _ _).symm.trans h2)
   refine ⟨i6, ?_⟩
   refine ⟨i + 1, ⟨rfl, ⟨obD [I p.X, I p.Y] rfl, trivial⟩, wq rfl⟩, ⟨h1, fun j hj => ?_⟩, (msr (by omega))⟩
   by_cases e : j = i
   ·subst e; exact h2
   ·exact ha j (by omega)
 ·have h1 : i = l.length := by have := dF h1; omega
  subst h1
  refine r1B rfl ?_
  cases hc : l.contains p with
  | false => rfl
  | true =>
   obtain ⟨j, hj, e⟩ := zbc default (List.contains_iff_mem.1 hc)
   exact absurd e.symm (ha j hj)
theorem sml_h {s : Svc} (h : smlB s = true) : s.c.M.H <= 12 := by
 unfold smlB at h
 simp only [Bool.and_eq_true, decide_eq_true_eq] at h
 omega
theorem s_CellBounds (s : Svc) (b : Brn) (l : List Rpt) (f : Form) : Spec PP 6 [s.v, b.v, .d (lR l), f.v] [B true] := by
 refine sA Tryz.func6 ?_
 refine cP (zoq s) rfl rfl ?_
 apply bY <;> intro h1
 ·repeat first | apply sT | apply sF
  refine cP zcq rfl rfl ?_
  exact r1B rfl rfl
 repeat first | apply sT | apply sF
 apply bY <;> intro h2
 ·refine cP zcq rfl rfl ?_
  exact r1B rfl rfl
 have hl : l.length <= 7 := by have := dF h2; omega
 have hsm : smlB s = true := by simpa using h1
 refine CallSt.ro (zcE s b l) rfl rfl ?_
 refine CallSt.ro (zit s b l) rfl rfl ?_
 have eg := ziv s b l
 by_cases h0 : givE s b l = 0
 case neg =>
  have e : (hvsR s b l).2 = givE s b l := by unfold hvsR; rw [if_pos h0]
  refine Split.yes (by rw [eg]; simpa using h0) ?_
  repeat first | apply sT | apply sF
  refine cP zcq rfl rfl ?_
  repeat first | apply sT | apply sF
  exact r1B rfl (by rw [eg, e]; simp)
 have eh := zn5 h0 (show l.length <= 20 by omega)
 rw [eh]
 refine Split.no (by rw [eg, h0]; rfl) ?_
 repeat first | apply sT | apply sF
 refine CallSt.ro (zqW s b l) rfl rfl ?_
 have hon := zhd (s := s) (b := b) (l := l)
 have hlen := zfs s b l
 apply bY <;> intro h3
 ·have h3 : (plcR s b l).1.length = 0 := by simpa using h3
  have e : hulR s b l = ([], 9) := by unfold hulR; rw [if_neg (fun h => h (by rw [eg, h0])), if_pos h3]
  refine cP zcq rfl rfl ?_
  repeat first | apply sT | apply sF
  exact r1B rfl (by rw [e]; rfl)
 have h3 : (plcR s b l).1.length ≠ 0 := by
  have : ¬ ((plcR s b l).1.length : Int) = 0 := by simpa using h3
  omega
 have ne : (plcR s b l).1 ≠ [] := fun h => h3 (by rw [h]; rfl)
 obtain ⟨q0, hq0⟩ := List.exists_mem_of_ne_nil _ ne
 have eu : hulR s b l = (hullH (plcR s b l).1, 0) := by unfold hulR; rw [if_neg (fun h => h (by rw [eg, h0])), if_neg h3, zm5 ne hon]
 rw [eu]
 have hck := zn7 hq0 (show l.length <= 20 by omega)
 have hy : ∀ p ∈ (plcR s b l).1, p.Y <= 12 := fun p hp => by
  have := (zaf.1 (zb8 hp).2.2.1).2
  have := sml_h hsm
  omega
 have uck := zhr ne hon fun h => Nat.le_trans (zno hon h hy) (by decide)
 obtain ⟨n1, n2, n3⟩ := zaq uck
 have hal : ∀ p ∈ (plcR s b l).1, (allowsE (hvL s l) (ofP p)).2 = true := fun p hp => zgz hck (hon p hp) (zk2 hp)
 have ual : ∀ p ∈ (plcR s b l).1, (allowsE (hullH (plcR s b l).1) (ofP p)).2 = true := fun p hp => zgz uck (hon p hp) (zhq ne hon hp)
 have key := znA (fx := f.X) (fy := f.Y) hq0 (show l.length <= 20 by omega)
 rw [show (⟨f.X, f.Y⟩ : Form) = f from rfl] at key
 obtain ⟨be, bo⟩ := key
 have c0 : cornersL (hullH (plcR s b l).1) ≠ [] := fun e => (zkE uck).1 e (co q0) ⟨Int.zero_lt_one, zhq ne hon hq0⟩
 have cC := zj8 (hullH (plcR s b l).1)
 have ec : cornersE (hullH (plcR s b l).1) = (cornersL (hullH (plcR s b l).1), 0) := by unfold cornersE; rw [if_pos uck, if_neg c0]
 rw [ec] at cC
 have clen := zdg (l := hullH (plcR s b l).1) (by omega)
 have cm := zn3 s b l f.X f.Y
 generalize hL : (plcR s b l).1 = L at *
 refine LoopOb.of (σ := Nat) (fun i => ([(2, .d (lR l)), (4, .box 4 0), (5, .box 5 0), (7, .box 7 0), (9, .d (lP L)), (11, avOf (slH (hvL s l))), (14, avOf (slH (hullH L))), (15, .d (I 0)), (82, .d (lP L)), (83, .d (I L.length)), (84, .d (I i))], [(4, .box (s.ds.map AV.d)), (5, .box (b.ds.map AV.d)), (7, .box ([I f.X, I f.Y].map AV.d))])) (fun i => i <= L.length) (fun i => L.length - i) 0
  ⟨rfl, ⟨obD s.ds rfl, obD b.ds rfl, obD [I f.X, I f.Y] rfl, trivial⟩, wq rfl⟩ (Nat.zero_le _) fun i hi => ?_
 apply bY <;> intro g1
 ·have g1 : i < L.length := by have := dT g1; omega
  have hm := gd1 g1 (default : Place)
  have cA := zh4 (hvL s l) (ofP (L.getD i default))
  have cB := zh4 (hullH L) (ofP (L.getD i default))
  rw [hal _ hm] at cA
  rw [ual _ hm] at cB
  refine ⟨⟨rfl, by omega, by omega⟩, ?_⟩
  refine cP (s_Of (L.getD i default)) rfl rfl ?_
  refine cP cA rfl rfl ?_
  refine cP (s_Of (L.getD i default)) rfl rfl ?_
  refine cP cB rfl rfl ?_
  repeat first | apply sT | apply sF
  refine ⟨i6, ?_⟩
  exact ⟨i + 1, ⟨rfl, ⟨obD s.ds rfl, obD b.ds rfl, obD [I f.X, I f.Y] rfl, trivial⟩, wq rfl⟩, g1, msr g1⟩
 refine CallSt.ro cC rfl rfl ?_
 repeat first | apply sT | apply sF
 refine LoopOb.of (σ := Nat) (fun i => ([(2, .d (lR l)), (4, .box 4 0), (5, .box 5 0), (7, .box 7 0), (9, .d (lP L)), (11, avOf (slH (hvL s l))), (120, avOf (slC (cornersL (hullH L)))), (121, .d (I (cornersL (hullH L)).length)), (122, .d (I i))], [(4, .box (s.ds.map AV.d)), (5, .box (b.ds.map AV.d)), (7, .box ([I f.X, I f.Y].map AV.d))])) (fun i => i <= (cornersL (hullH L)).length) (fun i => (cornersL (hullH L)).length - i) 0
  ⟨rfl, ⟨obD s.ds rfl, obD b.ds rfl, obD [I f.X, I f.Y] rfl, trivial⟩, wq rfl⟩ (Nat.zero_le _) fun i hi => ?_
 apply bY <;> intro g1
 ·have g1 : i < (cornersL (hullH L)).length := by have := dT g1; omega
  have hm := gd1 g1 (default : Corner)
  have V := (zcl n3 _).1 hm
  obtain ⟨p0, hp0, ep0⟩ := zps ne hon V
  refine ⟨⟨rfl, by omega, by omega⟩, ?_⟩
  refine Split.no (show (((cornersL (hullH L)).getD i default).Den != 1) = false by rw [ep0]; rfl) ?_
  have ch := zqc L p0 (by omega)
  rw [List.contains_iff_mem.2 hp0] at ch
  refine CallSt.pureE ch rfl ⟨dE _, zcW (show ((cornersL (hullH L)).getD i default).X = p0.X by rw [ep0]; rfl) (show ((cornersL (hullH L)).getD i default).Y = p0.Y by rw [ep0]; rfl), trivial⟩ rfl ?_
  repeat first | apply sT | apply sF
  refine ⟨i6, ?_⟩
  exact ⟨i + 1, ⟨rfl, ⟨obD s.ds rfl, obD b.ds rfl, obD [I f.X, I f.Y] rfl, trivial⟩, wq rfl⟩, g1, msr g1⟩
 refine CallSt.ro cm rfl rfl ?_
 refine CallSt.ro (zpn s b l f) rfl rfl ?_
 refine Split.no (by rw [be]; simp) ?_
 refine cP zcq rfl rfl ?_
 repeat first | apply sT | apply sF
 apply bY <;> intro g2
 ·repeat first | apply sT | apply sF
  exact r1B rfl rfl
 have g2 : (mstR s b l f.X f.Y).2.2 = 0 := by simpa using g2
 rw [be] at g2
 obtain ⟨k1, k2, k3, k4, k5⟩ := bo g2
 have ch := zqc L (mstR s b l f.X f.Y).2.1 (by omega)
 rw [List.contains_iff_mem.2 k1] at ch
 refine cP ch rfl rfl ?_
 repeat first | apply sT | apply sF
 have mb := mulB (a := (mstR s b l f.X f.Y).1) (b := (bndR s b l f).1.V.Den) (x := 96000) (y := 2097152) (by omega) (by omega)
 refine ⟨i6, ?_⟩
 repeat first | apply sT | apply sF
 refine Split.yes (decide_eq_true k4) ?_
 have cK := zg1 (hvL s l) f (bndR s b l f).1
 have k5 : cbE (hvL s l) f (bndR s b l f).1 = 0 := k5
 rw [k5] at cK
 refine cP cK rfl rfl ?_
 repeat first | apply sT | apply sF
 exact r1B rfl rfl
end Go.Pg
