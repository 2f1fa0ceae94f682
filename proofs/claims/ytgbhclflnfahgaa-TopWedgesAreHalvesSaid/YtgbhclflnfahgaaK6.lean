/-
  Contracts: a proof that a system is empty.
-/
import Derived.Test.YtgbhclflnfahgaaK5
set_option linter.all false
set_option maxRecDepth 100000
namespace Go.Pg
open Go.Proofs Go.RowKit

def most (h : Half) : Int := max (max (max h.A (-h.A)) h.B) (-h.B)
@[irreducible] def opp (g h : Half) : Bool := det g h == 0 && decide (g.A * h.A + g.B * h.B < 0)
@[irreducible] def scS (g h : Half) : Int := if opp g h = true then most h else 0
@[irreducible] def scT (g h : Half) : Int := if opp g h = true then most g else 0
theorem most_bd {h : Half} (hh : okH h) : 0 ≤ most h ∧ most h ≤ 1000 := by
  have := hh.a
  have := hh.b
  unfold most
  omega
theorem scS_bd {g h : Half} (hh : okH h) : 0 ≤ scS g h ∧ scS g h ≤ 1000 := by
  have := most_bd hh
  unfold scS; split <;> omega
theorem scT_bd {g h : Half} (hg : okH g) : 0 ≤ scT g h ∧ scT g h ≤ 1000 := by
  have := most_bd hg
  unfold scT; split <;> omega
theorem s_scaled (g h : Half) (hg : okH g) (hh : okH h) : Spec PP 41 [g.v, h.v] [N (scS g h), N (scT g h), B (opp g h)] := by
  have a1 := hg.a
  have a2 := hg.b
  have a3 := hh.a
  have a4 := hh.b
  have b1 := mulB hg.a hh.a
  have b2 := mulB hg.b hh.b
  refine spec_at Try.func41 rfl (by kernel_rfl) rfl ?_
  refine CallSt.pure (s_det g h hg hh) rfl rfl ?_
  refine Split.by (fun h1 => ?_) (fun h1 => ?_)
  · have h1 : det g h ≠ 0 := by simpa using h1
    have e : opp g h = false := by unfold opp; simp [h1]
    refine Split.tt ?_
    refine Split.tt ?_
    exact ⟨rtI rfl (by unfold scS; rw [e]; rfl), rtI rfl (by unfold scT; rw [e]; rfl), rtB rfl e.symm, trivial⟩
  · have h1 : det g h = 0 := by simpa using h1
    refine ⟨inI64 (by omega) (by omega), ⟨inI64 (by omega) (by omega), ⟨inI64 (by omega) (by omega), ?_⟩⟩⟩
    refine Split.ff ?_
    refine Split.by (fun h2 => ?_) (fun h2 => ?_)
    · have h2 : 0 ≤ g.A * h.A + g.B * h.B := dT h2
      have e : opp g h = false := by unfold opp; simp; omega
      exact ⟨rtI rfl (by unfold scS; rw [e]; rfl), rtI rfl (by unfold scT; rw [e]; rfl), rtB rfl e.symm, trivial⟩
    · have h2 : ¬ 0 ≤ g.A * h.A + g.B * h.B := dF h2
      have e : opp g h = true := by unfold opp; simp [h1]; omega
      refine Exists.intro (List.range 25) (And.intro (by kernel_rfl) (FzOb.no ?_))
      refine ⟨inI64 (by omega) (by omega), ⟨inI64 (by omega) (by omega), ⟨inI64 (by omega) (by omega), ⟨inI64 (by omega) (by omega), ?_⟩⟩⟩⟩
      exact ⟨rtI rfl (by unfold scS; rw [e]; rfl), rtI rfl (by unfold scT; rw [e]; rfl), rtB rfl e.symm, trivial⟩
/-! ### The search for a proof -/
@[irreducible] def two (g h : Num) : Option (List Use) := if opp g.h h.h = true ∧ scS g.h h.h * g.h.C + scT g.h h.h * h.h.C < 0 then some [⟨g.n, scS g.h h.h⟩, ⟨h.n, scT g.h h.h⟩] else none
/-- -1 where the first number is below 0. -/
@[irreducible] def flip (n m : Int) : Int := if n < 0 then -m else m
@[irreducible] def triA (g h j : Half) : Int := flip (det h j) (det h j)
@[irreducible] def triB (g h j : Half) : Int := flip (det h j) (det j g)
@[irreducible] def triC (g h j : Half) : Int := flip (det h j) (det g h)
@[irreducible] def three (g h j : Num) : Option (List Use) := if (0 < triA g.h h.h j.h ∧ 0 < triB g.h h.h j.h ∧ 0 < triC g.h h.h j.h) ∧ triA g.h h.h j.h * g.h.C + triB g.h h.h j.h * h.h.C + triC g.h h.h j.h * j.h.C < 0 then some [⟨g.n, triA g.h h.h j.h⟩, ⟨h.n, triB g.h h.h j.h⟩, ⟨j.n, triC g.h h.h j.h⟩] else none
def findJ (L : List Num) (i k : Nat) : Nat → Option (List Use)
  | 0 => none
  | m + 1 => (findJ L i k m).or (three (L.getD i default) (L.getD k default) (L.getD m default))
def findK (L : List Num) (i : Nat) : Nat → Option (List Use)
  | 0 => none
  | k + 1 => (findK L i k).or ((two (L.getD i default) (L.getD k default)).or (findJ L i k k))
def findI (L : List Num) : Nat → Option (List Use)
  | 0 => none
  | i + 1 => (findI L i).or (findK L i i)
@[irreducible] def refL (l : List Half) : List Use := (findI (allL l) (allL l).length).getD []
theorem findJ_stay {L : List Num} {i k m : Nat} {x : List Use} (h : findJ L i k m = some x) : ∀ {m'}, m ≤ m' → findJ L i k m' = some x := fun {m'} hm => by
  obtain ⟨d, rfl⟩ := Nat.exists_eq_add_of_le hm
  induction d with
  | zero => exact h
  | succ d ih => rw [← Nat.add_assoc]; simp only [findJ, ih (by omega), Option.some_or]
theorem findK_stay {L : List Num} {i m : Nat} {x : List Use} (h : findK L i m = some x) : ∀ {m'}, m ≤ m' → findK L i m' = some x := fun {m'} hm => by
  obtain ⟨d, rfl⟩ := Nat.exists_eq_add_of_le hm
  induction d with
  | zero => exact h
  | succ d ih => rw [← Nat.add_assoc]; simp only [findK, ih (by omega), Option.some_or]
theorem findI_stay {L : List Num} {m : Nat} {x : List Use} (h : findI L m = some x) : ∀ {m'}, m ≤ m' → findI L m' = some x := fun {m'} hm => by
  obtain ⟨d, rfl⟩ := Nat.exists_eq_add_of_le hm
  induction d with
  | zero => exact h
  | succ d ih => rw [← Nat.add_assoc]; simp only [findI, ih (by omega), Option.some_or]
/-- A hit is the answer. -/
theorem hit2 {l : List Half} {i k : Nat} {x : List Use} (hi : i < (allL l).length) (hk : k < i) (h1 : findI (allL l) i = none) (h2 : findK (allL l) i k = none) (h3 : two ((allL l).getD i default) ((allL l).getD k default) = some x) : refL l = x := by
  have a : findK (allL l) i (k + 1) = some x := by simp only [findK, h2, h3, Option.none_or, Option.some_or]
  have b : findI (allL l) (i + 1) = some x := by simp only [findI, h1, findK_stay a hk, Option.none_or]
  unfold refL
  rw [findI_stay b hi]; rfl
theorem hit3 {l : List Half} {i k j : Nat} {x : List Use} (hi : i < (allL l).length) (hk : k < i) (hj : j < k) (h1 : findI (allL l) i = none) (h2 : findK (allL l) i k = none) (h3 : two ((allL l).getD i default) ((allL l).getD k default) = none) (h4 : findJ (allL l) i k j = none)
    (h5 : three ((allL l).getD i default) ((allL l).getD k default) ((allL l).getD j default) = some x) : refL l = x := by
  have a : findJ (allL l) i k (j + 1) = some x := by simp only [findJ, h4, h5, Option.none_or]
  have b : findK (allL l) i (k + 1) = some x := by simp only [findK, h2, h3, findJ_stay a hj, Option.none_or]
  have c : findI (allL l) (i + 1) = some x := by simp only [findI, h1, findK_stay b hk, Option.none_or]
  unfold refL
  rw [findI_stay c hi]; rfl
theorem eqU2 {a b c d a' b' c' d' : Int} (e1 : a = a') (e2 : b = b') (e3 : c = c') (e4 : d = d') : D.eqv (.slc 2 2 (rowOf 2 [I a, I b, I c, I d])) (.slc 2 [(⟨a', b'⟩ : Use), ⟨c', d'⟩].length fun i => (([(⟨a', b'⟩ : Use), ⟨c', d'⟩]).getD i default).at) := by
  subst e1 e2 e3 e4
  refine ⟨rfl, .inr ⟨rfl, fun i hi j hj => ?_⟩⟩
  match i, j, hi, hj with
  | 0, 0, _, _ => exact ⟨rfl, rfl⟩
  | 0, 1, _, _ => exact ⟨rfl, rfl⟩
  | 1, 0, _, _ => exact ⟨rfl, rfl⟩
  | 1, 1, _, _ => exact ⟨rfl, rfl⟩
theorem eqU3 {a b c d e f a' b' c' d' e' f' : Int} (e1 : a = a') (e2 : b = b') (e3 : c = c') (e4 : d = d') (e5 : e = e') (e6 : f = f') : D.eqv (.slc 2 3 (rowOf 2 [I a, I b, I c, I d, I e, I f])) (.slc 2 [(⟨a', b'⟩ : Use), ⟨c', d'⟩, ⟨e', f'⟩].length fun i => (([(⟨a', b'⟩ : Use), ⟨c', d'⟩, ⟨e', f'⟩]).getD i default).at) := by
  subst e1 e2 e3 e4 e5 e6
  refine ⟨rfl, .inr ⟨rfl, fun i hi j hj => ?_⟩⟩
  match i, j, hi, hj with
  | 0, 0, _, _ => exact ⟨rfl, rfl⟩
  | 0, 1, _, _ => exact ⟨rfl, rfl⟩
  | 1, 0, _, _ => exact ⟨rfl, rfl⟩
  | 1, 1, _, _ => exact ⟨rfl, rfl⟩
  | 2, 0, _, _ => exact ⟨rfl, rfl⟩
  | 2, 1, _, _ => exact ⟨rfl, rfl⟩
theorem obD4 {s : St} {ob : Nat → Option Ob} {x : Num} {o : Option Ob} (h : o = some (.box [.d (I x.n), .d (I x.h.A), .d (I x.h.B), .d (I x.h.C)])) : Oble s ob o (.box [.d (I x.n), .d (I x.h.A), .d (I x.h.B), .d (I x.h.C)]) := obD [I x.n, I x.h.A, I x.h.B, I x.h.C] h
abbrev bxN (x : Num) : Ob := .box [.d (I x.n), .d (I x.h.A), .d (I x.h.B), .d (I x.h.C)]
abbrev row0 : Ob := .row 80 2 0 fun _ _ => dflt
abbrev cut (L : List Num) (i : Nat) : D := .slc 4 i fun i => (L.getD i default).at
theorem two_yes {g h : Num} (h3 : opp g.h h.h = true) (h4 : scS g.h h.h * g.h.C + scT g.h h.h * h.h.C < 0) : two g h = some [⟨g.n, scS g.h h.h⟩, ⟨h.n, scT g.h h.h⟩] := by unfold two; rw [if_pos ⟨h3, h4⟩]
theorem two_no {g h : Num} (h4 : ¬ (opp g.h h.h = true ∧ scS g.h h.h * g.h.C + scT g.h h.h * h.h.C < 0)) : two g h = none := by unfold two; rw [if_neg h4]
theorem flip_neg {n m : Int} (h : n < 0) : flip n m = -m := by unfold flip; rw [if_pos h]
theorem flip_pos {n m : Int} (h : ¬ n < 0) : flip n m = m := by unfold flip; rw [if_neg h]
theorem three_yes {g h j : Num} {a b c : Int} (ha : triA g.h h.h j.h = a) (hb : triB g.h h.h j.h = b) (hc : triC g.h h.h j.h = c) (h0 : 0 < a) (h1 : 0 < b) (h2 : 0 < c) (h3 : a * g.h.C + b * h.h.C + c * j.h.C < 0) : three g h j = some [⟨g.n, a⟩, ⟨h.n, b⟩, ⟨j.n, c⟩] := by
  subst ha hb hc; unfold three; rw [if_pos ⟨⟨h0, h1, h2⟩, h3⟩]
theorem three_no {g h j : Num} {a b c : Int} (ha : triA g.h h.h j.h = a) (hb : triB g.h h.h j.h = b) (hc : triC g.h h.h j.h = c) (h0 : ¬ ((0 < a ∧ 0 < b ∧ 0 < c) ∧ a * g.h.C + b * h.h.C + c * j.h.C < 0)) : three g h j = none := by
  subst ha hb hc; unfold three; rw [if_neg h0]
set_option maxHeartbeats 4000000 in
theorem s_refuted (l : List Half) (hl : ∀ x ∈ l, okH x) (hn : l.length ≤ 60) : Spec PP 19 [slH l] [slU (refL l)] := by
  have hall := allL_ok hl
  have hlen := allL_len l
  refine spec_at Try.func19 rfl (by kernel_rfl) rfl ?_
  refine CallSt.ro (s_all l (by omega)) rfl rfl ?_
  refine LoopOb.of (σ := Nat) (fun i => ([(3, avOf (slN (allL l))), (4, .own 4), (17, avOf (slN (allL l))), (18, .d (I (allL l).length)), (19, .d (I i))], [(4, row0)])) (fun i => i ≤ (allL l).length ∧ findI (allL l) i = none) (fun i => (allL l).length - i) 0
    ⟨rfl, ⟨obR rfl ⟨rfl, .inl rfl⟩, trivial⟩, avR _ rfl, avQ rfl, avR _ rfl, avR _ rfl, avR _ rfl, trivial⟩ ⟨Nat.zero_le _, rfl⟩ fun i hi => ?_
  obtain ⟨i1, i2⟩ := hi
  refine Split.by (fun h1 => ?_) (fun h1 => ?_)
  · have h1 : i < (allL l).length := by simpa using h1
    have og := hall _ (gd1 h1 default)
    refine ⟨⟨rfl, by omega, by omega⟩, ?_⟩
    refine ⟨⟨.inr rfl, by omega, by omega⟩, ?_⟩
    refine LoopOb.of (σ := Nat) (fun k => ([(3, avOf (slN (allL l))), (4, .own 4), (5, .d (I i)), (6, .box 6 0), (17, avOf (slN (allL l))), (18, .d (I (allL l).length)), (19, .d (I i)), (26, .d (cut (allL l) i)), (27, .d (I i)), (28, .d (I k))], [(4, row0), (6, bxN ((allL l).getD i default))])) (fun k => k ≤ i ∧ findK (allL l) i k = none) (fun k => i - k) 0
      ⟨rfl, ⟨obR rfl ⟨rfl, .inl rfl⟩, obD4 rfl, trivial⟩, avR _ rfl, avQ rfl, avR _ rfl, avQ rfl, avR _ rfl, avR _ rfl, avR _ rfl, avE rfl ⟨by omega, .inr ⟨rfl, fun _ _ _ _ => D.eqv_refl _⟩⟩, avI rfl (by omega), avR _ rfl, trivial⟩ ⟨Nat.zero_le _, rfl⟩ fun k hk => ?_
    obtain ⟨k1, k2⟩ := hk
    refine Split.by (fun h2 => ?_) (fun h2 => ?_)
    · have h2 : k < i := by simpa using h2
      have oh := hall _ (gd1 (show k < (allL l).length by omega) default)
      refine ⟨⟨rfl, by omega, by omega⟩, ?_⟩
      refine CallSt.pure (s_scaled ((allL l).getD i default).h ((allL l).getD k default).h og oh) rfl rfl ?_
      have bs := scS_bd (g := ((allL l).getD i default).h) oh
      have bt := scT_bd (h := ((allL l).getD k default).h) og
      have cg := og.c
      have ch := oh.c
      have p1 := mulB (a := scS ((allL l).getD i default).h ((allL l).getD k default).h) (x := 1000) (by omega) cg
      have p2 := mulB (a := scT ((allL l).getD i default).h ((allL l).getD k default).h) (x := 1000) (by omega) ch
      have p2' : -(1000 * 262144) ≤ scT ((allL l).getD i default).h ((allL l).getD k default).h * ((allL l).getD (k : Int).toNat default).h.C ∧ scT ((allL l).getD i default).h ((allL l).getD k default).h * ((allL l).getD (k : Int).toNat default).h.C ≤ 1000 * 262144 := by rw [Int.toNat_natCast]; exact p2
      refine Split.by (fun h3 => ?_) (fun h3 => ?_)
      · refine ⟨inI64 (by omega) (by omega), ⟨inI64 (by omega) (by omega), ⟨inI64 (by omega) (by omega), ?_⟩⟩⟩
        refine Split.tt ?_
        refine Split.by (fun h4 => ?_) (fun h4 => ?_)
        · rw [hit2 h1 h2 i2 k2 (two_yes h3 (dT h4))]
          exact ⟨⟨_, _, _, _, rfl, eqU2 rfl rfl rfl rfl⟩, trivial⟩
        · have e0 : two ((allL l).getD i default) ((allL l).getD k default) = none := two_no fun hh => dF h4 hh.2
          refine ⟨⟨.inr rfl, by omega, by omega⟩, ?_⟩
          refine LoopOb.of (σ := Nat) (fun j => ([(3, avOf (slN (allL l))), (4, .own 4), (5, .d (I i)), (6, .box 6 0), (7, .d (I k)), (8, .box 8 0), (17, avOf (slN (allL l))), (18, .d (I (allL l).length)), (19, .d (I i)), (26, .d (cut (allL l) i)), (27, .d (I i)), (28, .d (I k)), (68, .d (cut (allL l) k)), (69, .d (I k)), (70, .d (I j))], [(4, row0), (6, bxN ((allL l).getD i default)), (8, bxN ((allL l).getD k default))])) (fun j => j ≤ k ∧ findJ (allL l) i k j = none) (fun j => k - j) 0
            ⟨rfl, ⟨obR rfl ⟨rfl, .inl rfl⟩, obD4 rfl, obD4 rfl, trivial⟩, avR _ rfl, avQ rfl, avR _ rfl, avQ rfl, avR _ rfl, avQ rfl, avR _ rfl, avR _ rfl, avR _ rfl, avR _ rfl, avR _ rfl, avR _ rfl, avE rfl ⟨by omega, .inr ⟨rfl, fun _ _ _ _ => D.eqv_refl _⟩⟩, avI rfl (by omega), avR _ rfl, trivial⟩ ⟨Nat.zero_le _, rfl⟩ fun j hj => ?_
          obtain ⟨j1, j2⟩ := hj
          refine Split.by (fun h5 => ?_) (fun h5 => ?_)
          · have h5 : j < k := by simpa using h5
            have oj := hall _ (gd1 (show j < (allL l).length by omega) default)
            have cj : -262144 ≤ ((allL l).getD (j : Int).toNat default).h.C ∧ ((allL l).getD (j : Int).toNat default).h.C ≤ 262144 := by rw [Int.toNat_natCast]; exact oj.c
            have d0 := det_bd oh oj
            have d1 := det_bd oj og
            have d2 := det_bd og oh
            refine ⟨⟨rfl, by omega, by omega⟩, ?_⟩
            refine Exists.intro (List.range 18) (And.intro (by kernel_rfl) (FzOb.no ?_))
            refine CallOb.pure (s_det ((allL l).getD k default).h ((allL l).getD j default).h oh oj) rfl rfl ?_
            refine CallOb.pure (s_det ((allL l).getD j default).h ((allL l).getD i default).h oj og) rfl rfl ?_
            refine CallOb.pure (s_det ((allL l).getD i default).h ((allL l).getD k default).h og oh) rfl rfl ?_
            refine ⟨⟨by decide, by decide⟩, ?_⟩
            refine Split.by (fun h6 => ?_) (fun h6 => ?_)
            · have h6 : det ((allL l).getD k default).h ((allL l).getD j default).h < 0 := dT h6
              refine ⟨⟨by decide, by decide⟩, ⟨inI64 (by omega) (by omega), ⟨⟨by decide, by decide⟩, ⟨inI64 (by omega) (by omega), ⟨⟨by decide, by decide⟩, ⟨inI64 (by omega) (by omega), ?_⟩⟩⟩⟩⟩⟩
              have ta : triA ((allL l).getD i default).h ((allL l).getD k default).h ((allL l).getD j default).h = -det ((allL l).getD k default).h ((allL l).getD j default).h := by unfold triA; exact flip_neg h6
              have tb : triB ((allL l).getD i default).h ((allL l).getD k default).h ((allL l).getD j default).h = -det ((allL l).getD j default).h ((allL l).getD i default).h := by unfold triB; exact flip_neg h6
              have tc : triC ((allL l).getD i default).h ((allL l).getD k default).h ((allL l).getD j default).h = -det ((allL l).getD i default).h ((allL l).getD k default).h := by unfold triC; exact flip_neg h6
              have q0 := mulB (a := -det ((allL l).getD k default).h ((allL l).getD j default).h) (x := 2000000) (by omega) cg
              have q1 := mulB (a := -det ((allL l).getD j default).h ((allL l).getD i default).h) (x := 2000000) (by omega) ch
              have q2 := mulB (a := -det ((allL l).getD i default).h ((allL l).getD k default).h) (x := 2000000) (by omega) cj
              refine ⟨⟨by decide, by decide⟩, ?_⟩
              refine Split.by (fun g1 => ?_) (fun g1 => ?_)
              · refine ⟨⟨by decide, by decide⟩, ?_⟩
                refine Split.tt ?_
                refine Split.by (fun g2 => ?_) (fun g2 => ?_)
                · refine ⟨⟨by decide, by decide⟩, ?_⟩
                  refine Split.tt ?_
                  refine Split.by (fun g3 => ?_) (fun g3 => ?_)
                  · refine ⟨⟨by decide, by decide⟩, ⟨inI64 (by omega) (by omega), ⟨⟨by decide, by decide⟩, ⟨inI64 (by omega) (by omega), ⟨inI64 (by omega) (by omega), ⟨⟨by decide, by decide⟩, ⟨inI64 (by omega) (by omega), ⟨inI64 (by omega) (by omega), ?_⟩⟩⟩⟩⟩⟩⟩⟩
                    refine Split.tt ?_
                    refine Split.by (fun g4 => ?_) (fun g4 => ?_)
                    · refine ⟨⟨by decide, by decide⟩, ⟨⟨by decide, by decide⟩, ⟨⟨by decide, by decide⟩, ?_⟩⟩⟩
                      rw [hit3 h1 h2 h5 i2 k2 e0 j2 (three_yes ta tb tc (dT g1) (dT g2) (dT g3) (dT g4))]
                      exact ⟨⟨_, _, _, _, rfl, eqU3 rfl rfl rfl rfl rfl rfl⟩, trivial⟩
                    · have e3 : three ((allL l).getD i default) ((allL l).getD k default) ((allL l).getD j default) = none := three_no ta tb tc fun hh => dF g4 hh.2
                      refine ⟨inI64 (by omega) (by omega), ?_⟩
                      refine ⟨j + 1, ⟨rfl, ⟨obR rfl ⟨rfl, .inl rfl⟩, obD4 rfl, obD4 rfl, trivial⟩, avR _ rfl, avQ rfl, avR _ rfl, avQ rfl, avR _ rfl, avQ rfl, avR _ rfl, avR _ rfl, avR _ rfl, avR _ rfl, avR _ rfl, avR _ rfl, avR _ rfl, avR _ rfl, avI rfl rfl, trivial⟩, ⟨h5, ?_⟩, ?_⟩
                      · simp only [findJ, j2, e3, Option.none_or]
                      · show k - (j + 1) < k - j
                        omega
                  · have e3 : three ((allL l).getD i default) ((allL l).getD k default) ((allL l).getD j default) = none := three_no ta tb tc fun hh => dF g3 hh.1.2.2
                    refine Split.ff ?_
                    refine Split.ff ?_
                    refine ⟨inI64 (by omega) (by omega), ?_⟩
                    refine ⟨j + 1, ⟨rfl, ⟨obR rfl ⟨rfl, .inl rfl⟩, obD4 rfl, obD4 rfl, trivial⟩, avR _ rfl, avQ rfl, avR _ rfl, avQ rfl, avR _ rfl, avQ rfl, avR _ rfl, avR _ rfl, avR _ rfl, avR _ rfl, avR _ rfl, avR _ rfl, avR _ rfl, avR _ rfl, avI rfl rfl, trivial⟩, ⟨h5, ?_⟩, ?_⟩
                    · simp only [findJ, j2, e3, Option.none_or]
                    · show k - (j + 1) < k - j
                      omega
                · have e3 : three ((allL l).getD i default) ((allL l).getD k default) ((allL l).getD j default) = none := three_no ta tb tc fun hh => dF g2 hh.1.2.1
                  refine Split.ff ?_
                  refine Split.ff ?_
                  refine Split.ff ?_
                  refine Split.ff ?_
                  refine ⟨inI64 (by omega) (by omega), ?_⟩
                  refine ⟨j + 1, ⟨rfl, ⟨obR rfl ⟨rfl, .inl rfl⟩, obD4 rfl, obD4 rfl, trivial⟩, avR _ rfl, avQ rfl, avR _ rfl, avQ rfl, avR _ rfl, avQ rfl, avR _ rfl, avR _ rfl, avR _ rfl, avR _ rfl, avR _ rfl, avR _ rfl, avR _ rfl, avR _ rfl, avI rfl rfl, trivial⟩, ⟨h5, ?_⟩, ?_⟩
                  · simp only [findJ, j2, e3, Option.none_or]
                  · show k - (j + 1) < k - j
                    omega
              · have e3 : three ((allL l).getD i default) ((allL l).getD k default) ((allL l).getD j default) = none := three_no ta tb tc fun hh => dF g1 hh.1.1
                refine Split.ff ?_
                refine Split.ff ?_
                refine Split.ff ?_
                refine Split.ff ?_
                refine Split.ff ?_
                refine Split.ff ?_
                refine ⟨inI64 (by omega) (by omega), ?_⟩
                refine ⟨j + 1, ⟨rfl, ⟨obR rfl ⟨rfl, .inl rfl⟩, obD4 rfl, obD4 rfl, trivial⟩, avR _ rfl, avQ rfl, avR _ rfl, avQ rfl, avR _ rfl, avQ rfl, avR _ rfl, avR _ rfl, avR _ rfl, avR _ rfl, avR _ rfl, avR _ rfl, avR _ rfl, avR _ rfl, avI rfl rfl, trivial⟩, ⟨h5, ?_⟩, ?_⟩
                · simp only [findJ, j2, e3, Option.none_or]
                · show k - (j + 1) < k - j
                  omega
            · have h6 : ¬ det ((allL l).getD k default).h ((allL l).getD j default).h < 0 := dF h6
              have ta : triA ((allL l).getD i default).h ((allL l).getD k default).h ((allL l).getD j default).h = det ((allL l).getD k default).h ((allL l).getD j default).h := by unfold triA; exact flip_pos h6
              have tb : triB ((allL l).getD i default).h ((allL l).getD k default).h ((allL l).getD j default).h = det ((allL l).getD j default).h ((allL l).getD i default).h := by unfold triB; exact flip_pos h6
              have tc : triC ((allL l).getD i default).h ((allL l).getD k default).h ((allL l).getD j default).h = det ((allL l).getD i default).h ((allL l).getD k default).h := by unfold triC; exact flip_pos h6
              have q0 := mulB (a := det ((allL l).getD k default).h ((allL l).getD j default).h) (x := 2000000) (by omega) cg
              have q1 := mulB (a := det ((allL l).getD j default).h ((allL l).getD i default).h) (x := 2000000) (by omega) ch
              have q2 := mulB (a := det ((allL l).getD i default).h ((allL l).getD k default).h) (x := 2000000) (by omega) cj
              refine ⟨⟨by decide, by decide⟩, ?_⟩
              refine Split.by (fun g1 => ?_) (fun g1 => ?_)
              · refine ⟨⟨by decide, by decide⟩, ?_⟩
                refine Split.tt ?_
                refine Split.by (fun g2 => ?_) (fun g2 => ?_)
                · refine ⟨⟨by decide, by decide⟩, ?_⟩
                  refine Split.tt ?_
                  refine Split.by (fun g3 => ?_) (fun g3 => ?_)
                  · refine ⟨⟨by decide, by decide⟩, ⟨inI64 (by omega) (by omega), ⟨⟨by decide, by decide⟩, ⟨inI64 (by omega) (by omega), ⟨inI64 (by omega) (by omega), ⟨⟨by decide, by decide⟩, ⟨inI64 (by omega) (by omega), ⟨inI64 (by omega) (by omega), ?_⟩⟩⟩⟩⟩⟩⟩⟩
                    refine Split.tt ?_
                    refine Split.by (fun g4 => ?_) (fun g4 => ?_)
                    · refine ⟨⟨by decide, by decide⟩, ⟨⟨by decide, by decide⟩, ⟨⟨by decide, by decide⟩, ?_⟩⟩⟩
                      rw [hit3 h1 h2 h5 i2 k2 e0 j2 (three_yes ta tb tc (dT g1) (dT g2) (dT g3) (dT g4))]
                      exact ⟨⟨_, _, _, _, rfl, eqU3 rfl rfl rfl rfl rfl rfl⟩, trivial⟩
                    · have e3 : three ((allL l).getD i default) ((allL l).getD k default) ((allL l).getD j default) = none := three_no ta tb tc fun hh => dF g4 hh.2
                      refine ⟨inI64 (by omega) (by omega), ?_⟩
                      refine ⟨j + 1, ⟨rfl, ⟨obR rfl ⟨rfl, .inl rfl⟩, obD4 rfl, obD4 rfl, trivial⟩, avR _ rfl, avQ rfl, avR _ rfl, avQ rfl, avR _ rfl, avQ rfl, avR _ rfl, avR _ rfl, avR _ rfl, avR _ rfl, avR _ rfl, avR _ rfl, avR _ rfl, avR _ rfl, avI rfl rfl, trivial⟩, ⟨h5, ?_⟩, ?_⟩
                      · simp only [findJ, j2, e3, Option.none_or]
                      · show k - (j + 1) < k - j
                        omega
                  · have e3 : three ((allL l).getD i default) ((allL l).getD k default) ((allL l).getD j default) = none := three_no ta tb tc fun hh => dF g3 hh.1.2.2
                    refine Split.ff ?_
                    refine Split.ff ?_
                    refine ⟨inI64 (by omega) (by omega), ?_⟩
                    refine ⟨j + 1, ⟨rfl, ⟨obR rfl ⟨rfl, .inl rfl⟩, obD4 rfl, obD4 rfl, trivial⟩, avR _ rfl, avQ rfl, avR _ rfl, avQ rfl, avR _ rfl, avQ rfl, avR _ rfl, avR _ rfl, avR _ rfl, avR _ rfl, avR _ rfl, avR _ rfl, avR _ rfl, avR _ rfl, avI rfl rfl, trivial⟩, ⟨h5, ?_⟩, ?_⟩
                    · simp only [findJ, j2, e3, Option.none_or]
                    · show k - (j + 1) < k - j
                      omega
                · have e3 : three ((allL l).getD i default) ((allL l).getD k default) ((allL l).getD j default) = none := three_no ta tb tc fun hh => dF g2 hh.1.2.1
                  refine Split.ff ?_
                  refine Split.ff ?_
                  refine Split.ff ?_
                  refine Split.ff ?_
                  refine ⟨inI64 (by omega) (by omega), ?_⟩
                  refine ⟨j + 1, ⟨rfl, ⟨obR rfl ⟨rfl, .inl rfl⟩, obD4 rfl, obD4 rfl, trivial⟩, avR _ rfl, avQ rfl, avR _ rfl, avQ rfl, avR _ rfl, avQ rfl, avR _ rfl, avR _ rfl, avR _ rfl, avR _ rfl, avR _ rfl, avR _ rfl, avR _ rfl, avR _ rfl, avI rfl rfl, trivial⟩, ⟨h5, ?_⟩, ?_⟩
                  · simp only [findJ, j2, e3, Option.none_or]
                  · show k - (j + 1) < k - j
                    omega
              · have e3 : three ((allL l).getD i default) ((allL l).getD k default) ((allL l).getD j default) = none := three_no ta tb tc fun hh => dF g1 hh.1.1
                refine Split.ff ?_
                refine Split.ff ?_
                refine Split.ff ?_
                refine Split.ff ?_
                refine Split.ff ?_
                refine Split.ff ?_
                refine ⟨inI64 (by omega) (by omega), ?_⟩
                refine ⟨j + 1, ⟨rfl, ⟨obR rfl ⟨rfl, .inl rfl⟩, obD4 rfl, obD4 rfl, trivial⟩, avR _ rfl, avQ rfl, avR _ rfl, avQ rfl, avR _ rfl, avQ rfl, avR _ rfl, avR _ rfl, avR _ rfl, avR _ rfl, avR _ rfl, avR _ rfl, avR _ rfl, avR _ rfl, avI rfl rfl, trivial⟩, ⟨h5, ?_⟩, ?_⟩
                · simp only [findJ, j2, e3, Option.none_or]
                · show k - (j + 1) < k - j
                  omega
          · have h5 : j = k := by
              have : ¬ j < k := by simpa using h5
              omega
            refine ⟨inI64 (by omega) (by omega), ?_⟩
            refine ⟨k + 1, ⟨rfl, ⟨obR rfl ⟨rfl, .inl rfl⟩, obD4 rfl, trivial⟩, avR _ rfl, avQ rfl, avR _ rfl, avQ rfl, avR _ rfl, avR _ rfl, avR _ rfl, avR _ rfl, avR _ rfl, avI rfl rfl, trivial⟩, ⟨h2, ?_⟩, ?_⟩
            · rw [h5] at j2
              simp only [findK, k2, e0, j2, Option.none_or]
            · show i - (k + 1) < i - k
              omega
      · have e0 : two ((allL l).getD i default) ((allL l).getD k default) = none := two_no fun hh => by rw [hh.1] at h3; cases h3
        refine Split.ff ?_
        refine Split.ff ?_
        refine ⟨⟨.inr rfl, by omega, by omega⟩, ?_⟩
        refine LoopOb.of (σ := Nat) (fun j => ([(3, avOf (slN (allL l))), (4, .own 4), (5, .d (I i)), (6, .box 6 0), (7, .d (I k)), (8, .box 8 0), (17, avOf (slN (allL l))), (18, .d (I (allL l).length)), (19, .d (I i)), (26, .d (cut (allL l) i)), (27, .d (I i)), (28, .d (I k)), (68, .d (cut (allL l) k)), (69, .d (I k)), (70, .d (I j))], [(4, row0), (6, bxN ((allL l).getD i default)), (8, bxN ((allL l).getD k default))])) (fun j => j ≤ k ∧ findJ (allL l) i k j = none) (fun j => k - j) 0
          ⟨rfl, ⟨obR rfl ⟨rfl, .inl rfl⟩, obD4 rfl, obD4 rfl, trivial⟩, avR _ rfl, avQ rfl, avR _ rfl, avQ rfl, avR _ rfl, avQ rfl, avR _ rfl, avR _ rfl, avR _ rfl, avR _ rfl, avR _ rfl, avR _ rfl, avE rfl ⟨by omega, .inr ⟨rfl, fun _ _ _ _ => D.eqv_refl _⟩⟩, avI rfl (by omega), avR _ rfl, trivial⟩ ⟨Nat.zero_le _, rfl⟩ fun j hj => ?_
        obtain ⟨j1, j2⟩ := hj
        refine Split.by (fun h5 => ?_) (fun h5 => ?_)
        · have h5 : j < k := by simpa using h5
          have oj := hall _ (gd1 (show j < (allL l).length by omega) default)
          have cj : -262144 ≤ ((allL l).getD (j : Int).toNat default).h.C ∧ ((allL l).getD (j : Int).toNat default).h.C ≤ 262144 := by rw [Int.toNat_natCast]; exact oj.c
          have d0 := det_bd oh oj
          have d1 := det_bd oj og
          have d2 := det_bd og oh
          refine ⟨⟨rfl, by omega, by omega⟩, ?_⟩
          refine Exists.intro (List.range 18) (And.intro (by kernel_rfl) (FzOb.no ?_))
          refine CallOb.pure (s_det ((allL l).getD k default).h ((allL l).getD j default).h oh oj) rfl rfl ?_
          refine CallOb.pure (s_det ((allL l).getD j default).h ((allL l).getD i default).h oj og) rfl rfl ?_
          refine CallOb.pure (s_det ((allL l).getD i default).h ((allL l).getD k default).h og oh) rfl rfl ?_
          refine ⟨⟨by decide, by decide⟩, ?_⟩
          refine Split.by (fun h6 => ?_) (fun h6 => ?_)
          · have h6 : det ((allL l).getD k default).h ((allL l).getD j default).h < 0 := dT h6
            refine ⟨⟨by decide, by decide⟩, ⟨inI64 (by omega) (by omega), ⟨⟨by decide, by decide⟩, ⟨inI64 (by omega) (by omega), ⟨⟨by decide, by decide⟩, ⟨inI64 (by omega) (by omega), ?_⟩⟩⟩⟩⟩⟩
            have ta : triA ((allL l).getD i default).h ((allL l).getD k default).h ((allL l).getD j default).h = -det ((allL l).getD k default).h ((allL l).getD j default).h := by unfold triA; exact flip_neg h6
            have tb : triB ((allL l).getD i default).h ((allL l).getD k default).h ((allL l).getD j default).h = -det ((allL l).getD j default).h ((allL l).getD i default).h := by unfold triB; exact flip_neg h6
            have tc : triC ((allL l).getD i default).h ((allL l).getD k default).h ((allL l).getD j default).h = -det ((allL l).getD i default).h ((allL l).getD k default).h := by unfold triC; exact flip_neg h6
            have q0 := mulB (a := -det ((allL l).getD k default).h ((allL l).getD j default).h) (x := 2000000) (by omega) cg
            have q1 := mulB (a := -det ((allL l).getD j default).h ((allL l).getD i default).h) (x := 2000000) (by omega) ch
            have q2 := mulB (a := -det ((allL l).getD i default).h ((allL l).getD k default).h) (x := 2000000) (by omega) cj
            refine ⟨⟨by decide, by decide⟩, ?_⟩
            refine Split.by (fun g1 => ?_) (fun g1 => ?_)
            · refine ⟨⟨by decide, by decide⟩, ?_⟩
              refine Split.tt ?_
              refine Split.by (fun g2 => ?_) (fun g2 => ?_)
              · refine ⟨⟨by decide, by decide⟩, ?_⟩
                refine Split.tt ?_
                refine Split.by (fun g3 => ?_) (fun g3 => ?_)
                · refine ⟨⟨by decide, by decide⟩, ⟨inI64 (by omega) (by omega), ⟨⟨by decide, by decide⟩, ⟨inI64 (by omega) (by omega), ⟨inI64 (by omega) (by omega), ⟨⟨by decide, by decide⟩, ⟨inI64 (by omega) (by omega), ⟨inI64 (by omega) (by omega), ?_⟩⟩⟩⟩⟩⟩⟩⟩
                  refine Split.tt ?_
                  refine Split.by (fun g4 => ?_) (fun g4 => ?_)
                  · refine ⟨⟨by decide, by decide⟩, ⟨⟨by decide, by decide⟩, ⟨⟨by decide, by decide⟩, ?_⟩⟩⟩
                    rw [hit3 h1 h2 h5 i2 k2 e0 j2 (three_yes ta tb tc (dT g1) (dT g2) (dT g3) (dT g4))]
                    exact ⟨⟨_, _, _, _, rfl, eqU3 rfl rfl rfl rfl rfl rfl⟩, trivial⟩
                  · have e3 : three ((allL l).getD i default) ((allL l).getD k default) ((allL l).getD j default) = none := three_no ta tb tc fun hh => dF g4 hh.2
                    refine ⟨inI64 (by omega) (by omega), ?_⟩
                    refine ⟨j + 1, ⟨rfl, ⟨obR rfl ⟨rfl, .inl rfl⟩, obD4 rfl, obD4 rfl, trivial⟩, avR _ rfl, avQ rfl, avR _ rfl, avQ rfl, avR _ rfl, avQ rfl, avR _ rfl, avR _ rfl, avR _ rfl, avR _ rfl, avR _ rfl, avR _ rfl, avR _ rfl, avR _ rfl, avI rfl rfl, trivial⟩, ⟨h5, ?_⟩, ?_⟩
                    · simp only [findJ, j2, e3, Option.none_or]
                    · show k - (j + 1) < k - j
                      omega
                · have e3 : three ((allL l).getD i default) ((allL l).getD k default) ((allL l).getD j default) = none := three_no ta tb tc fun hh => dF g3 hh.1.2.2
                  refine Split.ff ?_
                  refine Split.ff ?_
                  refine ⟨inI64 (by omega) (by omega), ?_⟩
                  refine ⟨j + 1, ⟨rfl, ⟨obR rfl ⟨rfl, .inl rfl⟩, obD4 rfl, obD4 rfl, trivial⟩, avR _ rfl, avQ rfl, avR _ rfl, avQ rfl, avR _ rfl, avQ rfl, avR _ rfl, avR _ rfl, avR _ rfl, avR _ rfl, avR _ rfl, avR _ rfl, avR _ rfl, avR _ rfl, avI rfl rfl, trivial⟩, ⟨h5, ?_⟩, ?_⟩
                  · simp only [findJ, j2, e3, Option.none_or]
                  · show k - (j + 1) < k - j
                    omega
              · have e3 : three ((allL l).getD i default) ((allL l).getD k default) ((allL l).getD j default) = none := three_no ta tb tc fun hh => dF g2 hh.1.2.1
                refine Split.ff ?_
                refine Split.ff ?_
                refine Split.ff ?_
                refine Split.ff ?_
                refine ⟨inI64 (by omega) (by omega), ?_⟩
                refine ⟨j + 1, ⟨rfl, ⟨obR rfl ⟨rfl, .inl rfl⟩, obD4 rfl, obD4 rfl, trivial⟩, avR _ rfl, avQ rfl, avR _ rfl, avQ rfl, avR _ rfl, avQ rfl, avR _ rfl, avR _ rfl, avR _ rfl, avR _ rfl, avR _ rfl, avR _ rfl, avR _ rfl, avR _ rfl, avI rfl rfl, trivial⟩, ⟨h5, ?_⟩, ?_⟩
                · simp only [findJ, j2, e3, Option.none_or]
                · show k - (j + 1) < k - j
                  omega
            · have e3 : three ((allL l).getD i default) ((allL l).getD k default) ((allL l).getD j default) = none := three_no ta tb tc fun hh => dF g1 hh.1.1
              refine Split.ff ?_
              refine Split.ff ?_
              refine Split.ff ?_
              refine Split.ff ?_
              refine Split.ff ?_
              refine Split.ff ?_
              refine ⟨inI64 (by omega) (by omega), ?_⟩
              refine ⟨j + 1, ⟨rfl, ⟨obR rfl ⟨rfl, .inl rfl⟩, obD4 rfl, obD4 rfl, trivial⟩, avR _ rfl, avQ rfl, avR _ rfl, avQ rfl, avR _ rfl, avQ rfl, avR _ rfl, avR _ rfl, avR _ rfl, avR _ rfl, avR _ rfl, avR _ rfl, avR _ rfl, avR _ rfl, avI rfl rfl, trivial⟩, ⟨h5, ?_⟩, ?_⟩
              · simp only [findJ, j2, e3, Option.none_or]
              · show k - (j + 1) < k - j
                omega
          · have h6 : ¬ det ((allL l).getD k default).h ((allL l).getD j default).h < 0 := dF h6
            have ta : triA ((allL l).getD i default).h ((allL l).getD k default).h ((allL l).getD j default).h = det ((allL l).getD k default).h ((allL l).getD j default).h := by unfold triA; exact flip_pos h6
            have tb : triB ((allL l).getD i default).h ((allL l).getD k default).h ((allL l).getD j default).h = det ((allL l).getD j default).h ((allL l).getD i default).h := by unfold triB; exact flip_pos h6
            have tc : triC ((allL l).getD i default).h ((allL l).getD k default).h ((allL l).getD j default).h = det ((allL l).getD i default).h ((allL l).getD k default).h := by unfold triC; exact flip_pos h6
            have q0 := mulB (a := det ((allL l).getD k default).h ((allL l).getD j default).h) (x := 2000000) (by omega) cg
            have q1 := mulB (a := det ((allL l).getD j default).h ((allL l).getD i default).h) (x := 2000000) (by omega) ch
            have q2 := mulB (a := det ((allL l).getD i default).h ((allL l).getD k default).h) (x := 2000000) (by omega) cj
            refine ⟨⟨by decide, by decide⟩, ?_⟩
            refine Split.by (fun g1 => ?_) (fun g1 => ?_)
            · refine ⟨⟨by decide, by decide⟩, ?_⟩
              refine Split.tt ?_
              refine Split.by (fun g2 => ?_) (fun g2 => ?_)
              · refine ⟨⟨by decide, by decide⟩, ?_⟩
                refine Split.tt ?_
                refine Split.by (fun g3 => ?_) (fun g3 => ?_)
                · refine ⟨⟨by decide, by decide⟩, ⟨inI64 (by omega) (by omega), ⟨⟨by decide, by decide⟩, ⟨inI64 (by omega) (by omega), ⟨inI64 (by omega) (by omega), ⟨⟨by decide, by decide⟩, ⟨inI64 (by omega) (by omega), ⟨inI64 (by omega) (by omega), ?_⟩⟩⟩⟩⟩⟩⟩⟩
                  refine Split.tt ?_
                  refine Split.by (fun g4 => ?_) (fun g4 => ?_)
                  · refine ⟨⟨by decide, by decide⟩, ⟨⟨by decide, by decide⟩, ⟨⟨by decide, by decide⟩, ?_⟩⟩⟩
                    rw [hit3 h1 h2 h5 i2 k2 e0 j2 (three_yes ta tb tc (dT g1) (dT g2) (dT g3) (dT g4))]
                    exact ⟨⟨_, _, _, _, rfl, eqU3 rfl rfl rfl rfl rfl rfl⟩, trivial⟩
                  · have e3 : three ((allL l).getD i default) ((allL l).getD k default) ((allL l).getD j default) = none := three_no ta tb tc fun hh => dF g4 hh.2
                    refine ⟨inI64 (by omega) (by omega), ?_⟩
                    refine ⟨j + 1, ⟨rfl, ⟨obR rfl ⟨rfl, .inl rfl⟩, obD4 rfl, obD4 rfl, trivial⟩, avR _ rfl, avQ rfl, avR _ rfl, avQ rfl, avR _ rfl, avQ rfl, avR _ rfl, avR _ rfl, avR _ rfl, avR _ rfl, avR _ rfl, avR _ rfl, avR _ rfl, avR _ rfl, avI rfl rfl, trivial⟩, ⟨h5, ?_⟩, ?_⟩
                    · simp only [findJ, j2, e3, Option.none_or]
                    · show k - (j + 1) < k - j
                      omega
                · have e3 : three ((allL l).getD i default) ((allL l).getD k default) ((allL l).getD j default) = none := three_no ta tb tc fun hh => dF g3 hh.1.2.2
                  refine Split.ff ?_
                  refine Split.ff ?_
                  refine ⟨inI64 (by omega) (by omega), ?_⟩
                  refine ⟨j + 1, ⟨rfl, ⟨obR rfl ⟨rfl, .inl rfl⟩, obD4 rfl, obD4 rfl, trivial⟩, avR _ rfl, avQ rfl, avR _ rfl, avQ rfl, avR _ rfl, avQ rfl, avR _ rfl, avR _ rfl, avR _ rfl, avR _ rfl, avR _ rfl, avR _ rfl, avR _ rfl, avR _ rfl, avI rfl rfl, trivial⟩, ⟨h5, ?_⟩, ?_⟩
                  · simp only [findJ, j2, e3, Option.none_or]
                  · show k - (j + 1) < k - j
                    omega
              · have e3 : three ((allL l).getD i default) ((allL l).getD k default) ((allL l).getD j default) = none := three_no ta tb tc fun hh => dF g2 hh.1.2.1
                refine Split.ff ?_
                refine Split.ff ?_
                refine Split.ff ?_
                refine Split.ff ?_
                refine ⟨inI64 (by omega) (by omega), ?_⟩
                refine ⟨j + 1, ⟨rfl, ⟨obR rfl ⟨rfl, .inl rfl⟩, obD4 rfl, obD4 rfl, trivial⟩, avR _ rfl, avQ rfl, avR _ rfl, avQ rfl, avR _ rfl, avQ rfl, avR _ rfl, avR _ rfl, avR _ rfl, avR _ rfl, avR _ rfl, avR _ rfl, avR _ rfl, avR _ rfl, avI rfl rfl, trivial⟩, ⟨h5, ?_⟩, ?_⟩
                · simp only [findJ, j2, e3, Option.none_or]
                · show k - (j + 1) < k - j
                  omega
            · have e3 : three ((allL l).getD i default) ((allL l).getD k default) ((allL l).getD j default) = none := three_no ta tb tc fun hh => dF g1 hh.1.1
              refine Split.ff ?_
              refine Split.ff ?_
              refine Split.ff ?_
              refine Split.ff ?_
              refine Split.ff ?_
              refine Split.ff ?_
              refine ⟨inI64 (by omega) (by omega), ?_⟩
              refine ⟨j + 1, ⟨rfl, ⟨obR rfl ⟨rfl, .inl rfl⟩, obD4 rfl, obD4 rfl, trivial⟩, avR _ rfl, avQ rfl, avR _ rfl, avQ rfl, avR _ rfl, avQ rfl, avR _ rfl, avR _ rfl, avR _ rfl, avR _ rfl, avR _ rfl, avR _ rfl, avR _ rfl, avR _ rfl, avI rfl rfl, trivial⟩, ⟨h5, ?_⟩, ?_⟩
              · simp only [findJ, j2, e3, Option.none_or]
              · show k - (j + 1) < k - j
                omega
        · have h5 : j = k := by
            have : ¬ j < k := by simpa using h5
            omega
          refine ⟨inI64 (by omega) (by omega), ?_⟩
          refine ⟨k + 1, ⟨rfl, ⟨obR rfl ⟨rfl, .inl rfl⟩, obD4 rfl, trivial⟩, avR _ rfl, avQ rfl, avR _ rfl, avQ rfl, avR _ rfl, avR _ rfl, avR _ rfl, avR _ rfl, avR _ rfl, avI rfl rfl, trivial⟩, ⟨h2, ?_⟩, ?_⟩
          · rw [h5] at j2
            simp only [findK, k2, e0, j2, Option.none_or]
          · show i - (k + 1) < i - k
            omega
    · have h2 : k = i := by
        have : ¬ k < i := by simpa using h2
        omega
      refine ⟨inI64 (by omega) (by omega), ?_⟩
      refine ⟨i + 1, ⟨rfl, ⟨obR rfl ⟨rfl, .inl rfl⟩, trivial⟩, avR _ rfl, avQ rfl, avR _ rfl, avR _ rfl, avI rfl rfl, trivial⟩, ⟨h1, ?_⟩, ?_⟩
      · simp only [findI, i2, Option.none_or]; rw [← h2] at k2 ⊢; exact k2
      · show (allL l).length - (i + 1) < (allL l).length - i
        omega
  · have h1 : i = (allL l).length := by
      have : ¬ i < (allL l).length := by simpa using h1
      omega
    have e : refL l = [] := by unfold refL; rw [← h1, i2]; rfl
    rw [e]
    exact ⟨⟨_, _, _, _, rfl, ⟨rfl, .inl rfl⟩⟩, trivial⟩
end Go.Pg
/-
  Contracts: Empty; uses without those that are never used.
-/
set_option linter.all false
set_option maxRecDepth 100000
namespace Go.Pg
open Go.Proofs Go.RowKit

@[irreducible] def emptyE (l : List Half) : List Use × Int := if checkL l = 0 then (refL l, 0) else ([], checkL l)
theorem s_Empty (l : List Half) : Spec PP 7 [slH l] [slU (emptyE l).1, B (decide (0 < (emptyE l).1.length)), N (emptyE l).2] := by
  refine spec_at Try.func7 rfl (by kernel_rfl) rfl ?_
  refine CallSt.pure (s_Check l) rfl rfl ?_
  refine Split.by (fun h1 => ?_) (fun h1 => ?_)
  · have h1 : checkL l ≠ 0 := by simpa using h1
    have e : emptyE l = ([], checkL l) := by unfold emptyE; rw [if_neg h1]
    rw [e]
    exact ⟨⟨_, _, _, _, rfl, rfl, .inl rfl⟩, rtB rfl rfl, rtI rfl rfl, trivial⟩
  · have h1 : checkL l = 0 := by simpa using h1
    obtain ⟨n1, n2, n3⟩ := checkL_ok h1
    have e : emptyE l = (refL l, 0) := by unfold emptyE; rw [if_pos h1]
    rw [e]
    refine CallSt.ro (s_refuted l n3 (by omega)) rfl rfl ?_
    refine ⟨D.eqv_refl _, rtB rfl ?_, rtI rfl rfl, trivial⟩
    exact decide_eq_decide.2 (by show (0 : Int) < ((refL l).length : Int) ↔ 0 < (refL l).length; omega)

abbrev rowU (l : List Use) : Nat → Nat → D := fun i => (l.getD i default).at
theorem flatU (l : List Use) (m j : Nat) : (rowU l m j).flat = true := by
  show ((l.getD m default).at j).flat = true
  unfold Use.at; split <;> rfl
theorem eqAtU (p : Use) : ∀ j, j < 2 → D.eqv (rowOf 2 [I p.H, I p.T] 0 j) (p.at j)
  | 0, _ => ⟨rfl, rfl⟩
  | 1, _ => ⟨rfl, rfl⟩
theorem setU {m : List Use} {n k k' : Nat} {p q : Use} (hk : k < m.length) (e1 : k' = k) (e2 : q = p) : D.eqv (.slc 2 n (storeRow (rowU m) k' 0 [I q.H, I q.T])) (.slc 2 n (rowU (m.set k p))) := by
  subst e1; subst e2
  refine ⟨rfl, .inr ⟨rfl, fun i hi j hj => ?_⟩⟩
  show D.eqv (storeRow (rowU m) k' 0 [I q.H, I q.T] i j) (((m.set k' q).getD i default).at j)
  rw [getDl_set m k' i q default hk]
  unfold storeRow
  by_cases h : i = k'
  · rw [if_pos h, if_pos ⟨h, by omega, by simpa using hj⟩]
    match j, hj with
    | 0, _ => exact ⟨rfl, rfl⟩
    | 1, _ => exact ⟨rfl, rfl⟩
  · rw [if_neg h, if_neg fun hh => h hh.1]
    exact D.eqv_refl _
/-- Where the first element is for which p holds. -/
def IsIdx {α : Type} [Inhabited α] (p : α → Bool) (l : List α) (r : Int) : Prop :=
  (r = -1 ∧ ∀ i, i < l.length → p (l.getD i default) = false) ∨ (∃ i : Nat, r = i ∧ i < l.length ∧ p (l.getD i default) = true ∧ ∀ m, m < i → p (l.getD m default) = false)
theorem IsIdx.hit {α : Type} [Inhabited α] {p : α → Bool} {l : List α} {r : Int} (h : IsIdx p l r) {i : Nat} (hi : i < l.length) (h1 : p (l.getD i default) = true) (h2 : ∀ m, m < i → p (l.getD m default) = false) : r = i := by
  rcases h with ⟨_, h4⟩ | ⟨j, rfl, h4, h5, h6⟩
  · rw [h4 i hi] at h1; cases h1
  · rcases Nat.lt_trichotomy i j with h | h | h
    · rw [h6 i h] at h1; cases h1
    · rw [h]
    · rw [h2 j h] at h5; cases h5
theorem IsIdx.miss {α : Type} [Inhabited α] {p : α → Bool} {l : List α} {r : Int} (h : IsIdx p l r) (h2 : ∀ m, m < l.length → p (l.getD m default) = false) : r = -1 := by
  rcases h with ⟨h3, _⟩ | ⟨j, rfl, h4, h5, h6⟩
  · exact h3
  · rw [h2 j h4] at h5; cases h5
theorem isIdx_ex {α : Type} [Inhabited α] (p : α → Bool) (l : List α) : ∃ r, IsIdx p l r := by
  have : ∀ n, n ≤ l.length → (∀ m, m < n → p (l.getD m default) = false) ∨ ∃ i : Nat, i < l.length ∧ p (l.getD i default) = true ∧ ∀ m, m < i → p (l.getD m default) = false := by
    intro n
    induction n with
    | zero => exact fun _ => .inl fun m hm => absurd hm (Nat.not_lt_zero _)
    | succ n ih =>
      intro hn
      rcases ih (by omega) with h | h
      · cases hp : p (l.getD n default) with
        | true => exact .inr ⟨n, by omega, hp, h⟩
        | false =>
          refine .inl fun m hm => ?_
          rcases Nat.lt_or_ge m n with h1 | h1
          · exact h m h1
          · obtain rfl : m = n := by omega
            exact hp
      · exact .inr h
  rcases this l.length (Nat.le_refl _) with h | ⟨i, h1, h2, h3⟩
  · exact ⟨-1, .inl ⟨rfl, h⟩⟩
  · exact ⟨i, .inr ⟨i, rfl, h1, h2, h3⟩⟩
theorem s_indexU (p : Use → Bool) (g : FuncId) (hg : ∀ u, Spec PP g [u.v] [B (p u)]) (l : List Use) (hn : l.length ≤ 1000000) (r : Int) (hr : IsIdx p l r) : Spec PP 64 [slU l, .d (.fn g)] [N r] := by
  refine spec_at Try.func64 rfl (by kernel_rfl) rfl ?_
  refine LoopOb.of (σ := Nat) (fun i => ([(0, avOf (slU l)), (1, .d (.fn g)), (7, .d (I l.length)), (8, .d (I i))], [])) (fun i => i ≤ l.length ∧ ∀ m, m < i → p (l.getD m default) = false) (fun i => l.length - i) 0 ⟨rfl, trivial, avR _ rfl, avR _ rfl, avR _ rfl, avR _ rfl, trivial⟩ ⟨Nat.zero_le _, fun m hm => absurd hm (Nat.not_lt_zero _)⟩ fun i hi => ?_
  obtain ⟨i1, i2⟩ := hi
  refine Split.by (fun h1 => ?_) (fun h1 => ?_)
  · have h1 : i < l.length := by simpa using h1
    refine ⟨⟨rfl, by omega, by omega⟩, ?_⟩
    refine CallSt.pure (hg (l.getD i default)) rfl rfl ?_
    refine Split.by (fun h2 => ?_) (fun h2 => ?_)
    · exact r1I rfl (hr.hit h1 h2 i2).symm
    · refine ⟨inI64 (by omega) (by omega), ?_⟩
      refine ⟨i + 1, ⟨rfl, trivial, avR _ rfl, avR _ rfl, avR _ rfl, avI rfl rfl, trivial⟩, ⟨h1, fun m hm => ?_⟩, ?_⟩
      · rcases Nat.lt_or_ge m i with h | h
        · exact i2 m h
        · obtain rfl : m = i := by omega
          exact h2
      · show l.length - (i + 1) < l.length - i
        omega
  · have h1 : i = l.length := by
      have : ¬ i < l.length := by simpa using h1
      omega
    exact r1I rfl (hr.miss fun m hm => i2 m (by omega)).symm
/-- The elements ahead of j for which p does not hold. -/
@[irreducible] def filtP (p : Use → Bool) (l : List Use) (j : Nat) : List Use := ((List.range j).filter fun i => !p (l.getD i default)).map fun i => l.getD i default
theorem filtP_zero (p : Use → Bool) (l : List Use) : filtP p l 0 = [] := by unfold filtP; rfl
theorem filtP_succ (p : Use → Bool) (l : List Use) (j : Nat) : filtP p l (j + 1) = filtP p l j ++ (if p (l.getD j default) = true then [] else [l.getD j default]) := by
  unfold filtP
  rw [List.range_succ, List.filter_append, List.map_append]
  congr 1
  by_cases h : p (l.getD j default) = true
  · rw [if_pos h, List.filter_cons_of_neg (by rw [h]; decide)]; rfl
  · rw [if_neg h, List.filter_cons_of_pos (by rw [Bool.eq_false_iff.2 h]; rfl)]; rfl
theorem filtP_len (p : Use → Bool) (l : List Use) (j : Nat) : (filtP p l j).length ≤ j := by
  unfold filtP
  rw [List.length_map]
  exact Nat.le_trans (List.length_filter_le _ _) (by simp)
theorem filtP_all (p : Use → Bool) (l : List Use) {j : Nat} (hj : j ≤ l.length) (h : ∀ i, i < j → p (l.getD i default) = false) : filtP p l j = l.take j := by
  induction j with
  | zero => rw [filtP_zero]; simp
  | succ j ih => rw [filtP_succ, if_neg (by rw [h j (by omega)]; decide), ih (by omega) fun i hi => h i (by omega), take1 (by omega) default]
theorem t_deleteU (p : Use → Bool) (g : FuncId) (hg : ∀ u, Spec PP g [u.v] [B (p u)]) (l : List Use) (hn : l.length ≤ 1000000) : SpecT PP 47 [] [.d (.fn g)] 80 2 l.length (rowU l) (filtP p l l.length).length (rowU (filtP p l l.length)) := by
  obtain ⟨r, hr⟩ := isIdx_ex p l
  refine specT_at Try.func47 rfl (by kernel_rfl) (fun i _ j _ => flatU _ i j) rfl fun v => ?_
  refine CallSt.pure (s_indexU p g hg l hn r hr) rfl rfl ?_
  rcases hr with ⟨rfl, h1⟩ | ⟨i, rfl, h1, h2, h3⟩
  · refine Split.tt ?_
    have e : filtP p l l.length = l := by rw [filtP_all p l (Nat.le_refl _) h1, List.take_length]
    rw [e]
    exact ⟨rfl, rfl, rfl, fun i hi j hj => D.eqv_refl _⟩
  · refine Split.by (fun h4 => ?_) (fun h4 => ?_)
    · have : (i : Int) = -1 := by simpa using h4
      omega
    · have ck : filtP p l (i + 1) = l.take i := by rw [filtP_succ, if_pos h2, List.append_nil, filtP_all p l (by omega) h3]
      refine ⟨inI64 (by omega) (by omega), ?_⟩
      refine LoopOb.of (σ := Nat × Nat × List Use) (fun x => ([(0, .own 0), (1, .d (.fn g)), (5, .d (I x.2.1)), (6, .d (I x.1))], [(0, .row 80 2 l.length (rowU x.2.2))]))
        (fun x => i + 1 ≤ x.1 ∧ x.1 ≤ l.length ∧ x.2.2.length = l.length ∧ x.2.1 ≤ x.1 - 1 ∧ x.2.2.take x.2.1 = filtP p l x.1 ∧ ∀ m, x.1 ≤ m → x.2.2.getD m default = l.getD m default) (fun x => l.length - x.1) (i + 1, i, l)
        ⟨rfl, ⟨obR rfl (D.eqv_refl _), trivial⟩, rfl, avR _ rfl, avI rfl rfl, avI rfl rfl, trivial⟩ ⟨Nat.le_refl _, h1, rfl, by simp, ck.symm, fun _ _ => rfl⟩ fun x hx => ?_
      obtain ⟨x1, x2, x3, x4, x5, x6⟩ := hx
      refine Split.by (fun g1 => ?_) (fun g1 => ?_)
      · have g1 : x.1 < l.length := by have := dT g1; omega
        have e1 : x.2.2.getD (x.1 : Int).toNat default = l.getD x.1 default := by rw [Int.toNat_natCast, x6 x.1 (Nat.le_refl _)]
        refine ⟨⟨by omega, by omega⟩, ⟨by omega, ?_⟩⟩
        refine CallSt.pure (hg (x.2.2.getD (x.1 : Int).toNat default)) rfl rfl ?_
        refine Split.by (fun g2 => ?_) (fun g2 => ?_)
        · have g2 : p (l.getD x.1 default) = false := by rw [e1] at g2; simpa using g2
          refine ⟨⟨by omega, by omega⟩, ⟨by omega, ?_⟩⟩
          refine ⟨inI64 (by omega) (by omega), ?_⟩
          refine ⟨inI64 (by omega) (by omega), ?_⟩
          refine ⟨(x.1 + 1, x.2.1 + 1, x.2.2.set x.2.1 (l.getD x.1 default)), ⟨rfl, ⟨obR rfl (setU (by omega) (Int.toNat_natCast _) e1), trivial⟩, rfl, avR _ rfl, avI rfl rfl, avI rfl rfl, trivial⟩, ⟨by omega, by omega, by simp; omega, (show x.2.1 + 1 ≤ x.1 + 1 - 1 by omega), ?_, fun m hm => ?_⟩, ?_⟩
          · show (x.2.2.set x.2.1 (l.getD x.1 default)).take (x.2.1 + 1) = filtP p l (x.1 + 1)
            rw [filtP_succ, if_neg (by rw [g2]; decide), take1 (i := x.2.1) (by simp; omega) default, getDl_set _ _ _ _ _ (by omega), if_pos rfl, ← x5, List.take_set_of_le (Nat.le_refl _)]
          · have hm : x.1 + 1 ≤ m := hm
            show (x.2.2.set x.2.1 (l.getD x.1 default)).getD m default = _
            rw [getDl_set _ _ _ _ _ (by omega), if_neg (by omega)]
            exact x6 m (by omega)
          · show l.length - (x.1 + 1) < l.length - x.1
            omega
        · have g2 : p (l.getD x.1 default) = true := by rw [e1] at g2; simpa using g2
          refine ⟨inI64 (by omega) (by omega), ?_⟩
          refine ⟨(x.1 + 1, x.2.1, x.2.2), ⟨rfl, ⟨obR rfl (D.eqv_refl _), trivial⟩, rfl, avR _ rfl, avI rfl rfl, avI rfl rfl, trivial⟩, ⟨by omega, by omega, x3, (show x.2.1 ≤ x.1 + 1 - 1 by omega), ?_, fun m hm => x6 m (by have : x.1 + 1 ≤ m := hm; omega)⟩, ?_⟩
          · show x.2.2.take x.2.1 = filtP p l (x.1 + 1)
            rw [filtP_succ, if_pos g2, List.append_nil, x5]
          · show l.length - (x.1 + 1) < l.length - x.1
            omega
      · have g1 : x.1 = l.length := by have := dF g1; omega
        have hk' : x.2.1 = (filtP p l l.length).length := by
          have := congrArg List.length x5
          rw [List.length_take, g1] at this
          omega
        refine ⟨⟨rfl, by omega, by omega⟩, ?_⟩
        refine ⟨by omega, ?_⟩
        refine ⟨⟨by omega, by omega⟩, ?_⟩
        refine ⟨rfl, rfl, ?_, fun i hi j hj => ?_⟩
        · show (x.2.1 : Int).toNat = _
          omega
        · have e3 : (filtP p l l.length).getD i default = x.2.2.getD i default := by
            rw [← g1, ← x5, List.getD_eq_getElem?_getD, List.getElem?_take, if_pos (by omega), ← List.getD_eq_getElem?_getD]
          show D.eqv (clrRow (rowU x.2.2) (x.2.1 : Int).toNat (l.length - (x.2.1 : Int).toNat) _ i j) (((filtP p l l.length).getD i default).at j)
          unfold clrRow
          rw [if_neg (by omega), e3]
          exact D.eqv_refl _
def unused (u : Use) : Bool := u.T == 0
theorem s_used1 (u : Use) : Spec PP 48 [u.v] [B (unused u)] := by
  refine spec_at Try.func48 rfl (by kernel_rfl) rfl ?_
  exact r1B rfl rfl
@[irreducible] def usedL (l : List Use) : List Use := filtP unused l l.length
theorem t_used (l : List Use) (hn : l.length ≤ 1000000) : SpecT PP 27 [] [] 80 2 l.length (rowU l) (usedL l).length (rowU (usedL l)) := by
  refine specT_at Try.func27 rfl (by kernel_rfl) (fun i _ j _ => flatU _ i j) rfl fun v => ?_
  refine CallSt.tk rfl (t_deleteU unused 48 s_used1 l hn) ⟨⟨[], .tmp 3, [.func 48], [], rfl, rfl, rfl, rfl, rfl, rfl, rfl⟩⟩ rfl ?_
  have e : usedL l = filtP unused l l.length := by unfold usedL; rfl
  rw [e]
  exact ⟨rfl, rfl, rfl, fun i hi j hj => D.eqv_refl _⟩
end Go.Pg
/-
  Contracts: Best.
-/
set_option linter.all false
set_option maxRecDepth 100000
namespace Go.Pg
open Go.Proofs Go.RowKit

/-- A bound. -/
structure Bound where
  V : Frac
  At : Corner
  Scale : Int
  Uses : List Use
  deriving DecidableEq, Inhabited
abbrev Bound.v (b : Bound) : V1 := .agg [I b.V.Num, I b.V.Den, I b.At.X, I b.At.Y, I b.At.Den, I b.Scale, .slc 2 b.Uses.length (rowU b.Uses)]
def noBound : Bound := ⟨⟨0, 0⟩, ⟨0, 0, 0⟩, 0, []⟩
def stepB (f : Form) (a p : Corner) : Corner := if less (value f a) (value f p) < 0 then p else a
@[irreducible] def bestTo (f : Form) (l : List Corner) (i : Nat) : Corner := (l.take i).foldl (stepB f) (l.getD 0 default)
@[irreducible] def bestAt (f : Form) (l : List Corner) : Corner := bestTo f l l.length
theorem bestTo_zero (f : Form) (l : List Corner) : bestTo f l 0 = l.getD 0 default := by unfold bestTo; rfl
theorem bestTo_succ (f : Form) (l : List Corner) {i : Nat} (h : i < l.length) : bestTo f l (i + 1) = stepB f (bestTo f l i) (l.getD i default) := by
  unfold bestTo
  rw [take1 h default, List.foldl_append]; rfl
theorem bestTo_mem (f : Form) (l : List Corner) (h0 : 0 < l.length) : ∀ i, i ≤ l.length → bestTo f l i ∈ l
  | 0, _ => by rw [bestTo_zero]; exact gd1 h0 default
  | i + 1, h => by
    rw [bestTo_succ f l (by omega)]
    unfold stepB
    split
    · exact gd1 (by omega) default
    · exact bestTo_mem f l h0 i (by omega)
@[irreducible] def usesB (f : Form) (a : Corner) (x : Num × Num) : Option (Int × List Use) :=
  if (tight x.1.h a = true ∧ tight x.2.h a = true) ∧ 0 ≤ flip (det x.1.h x.2.h) (f.X * x.2.h.B - f.Y * x.2.h.A) ∧ 0 ≤ flip (det x.1.h x.2.h) (f.Y * x.1.h.A - f.X * x.1.h.B) then
    some (flip (det x.1.h x.2.h) (det x.1.h x.2.h), usedL [⟨x.1.n, flip (det x.1.h x.2.h) (f.X * x.2.h.B - f.Y * x.2.h.A)⟩, ⟨x.2.n, flip (det x.1.h x.2.h) (f.Y * x.1.h.A - f.X * x.1.h.B)⟩]) else none
theorem usesB_no {f : Form} {a : Corner} {x : Num × Num} (h : ¬ ((tight x.1.h a = true ∧ tight x.2.h a = true) ∧ 0 ≤ flip (det x.1.h x.2.h) (f.X * x.2.h.B - f.Y * x.2.h.A) ∧ 0 ≤ flip (det x.1.h x.2.h) (f.Y * x.1.h.A - f.X * x.1.h.B))) : usesB f a x = none := by unfold usesB; rw [if_neg h]
theorem usesB_yes {f : Form} {a : Corner} {x : Num × Num} {d s t : Int} (h1 : tight x.1.h a = true) (h2 : tight x.2.h a = true) (ed : flip (det x.1.h x.2.h) (det x.1.h x.2.h) = d) (es : flip (det x.1.h x.2.h) (f.X * x.2.h.B - f.Y * x.2.h.A) = s) (et : flip (det x.1.h x.2.h) (f.Y * x.1.h.A - f.X * x.1.h.B) = t) (h3 : 0 ≤ s) (h4 : 0 ≤ t) :
    usesB f a x = some (d, usedL [⟨x.1.n, s⟩, ⟨x.2.n, t⟩]) := by
  subst ed es et; unfold usesB; rw [if_pos ⟨⟨h1, h2⟩, h3, h4⟩]
theorem pre_no {α β : Type} {g : α → Option β} {pre : List α} {x : α} (h : pre.findSome? g = none) (hx : g x = none) : (pre ++ [x]).findSome? g = none := by
  rw [List.findSome?_append, h]; simp [hx]
theorem pre_yes {α β : Type} {g : α → Option β} {pre xs : List α} {x : α} {y : β} (hp : pre ++ [x] <+: xs) (h : pre.findSome? g = none) (hx : g x = some y) : xs.findSome? g = some y := by
  obtain ⟨r, rfl⟩ := hp
  rw [List.findSome?_append, List.findSome?_append, h]; simp [hx]
@[irreducible] def bestE (l : List Half) (f : Form) : Bound × Int :=
  if checkL l = 0 then
    if slope f.X f.Y = true then
      if cornersL l = [] then (noBound, 9)
      else if f = ⟨0, 0⟩ then (⟨value f (bestAt f (cornersL l)), bestAt f (cornersL l), 1, []⟩, 0)
      else match (pairsL (allL l)).findSome? (usesB f (bestAt f (cornersL l))) with
        | some (d, u) => (⟨value f (bestAt f (cornersL l)), bestAt f (cornersL l), d, u⟩, 0)
        | none => (⟨value f (bestAt f (cornersL l)), bestAt f (cornersL l), 1, []⟩, 0)
    else (noBound, 1)
  else (noBound, checkL l)
theorem avles_rfl {s : St} {ob : Nat → Option Ob} : ∀ cs : List AV, avles s ob cs cs
  | [] => trivial
  | c :: cs => ⟨AVle_refl s ob c, avles_rfl cs⟩
theorem obX {s : St} {ob : Nat → Option Ob} {cs : List AV} {o : Option Ob} (h : o = some (.box cs)) : Oble s ob o (.box cs) := by subst h; exact avles_rfl cs
/-- The last cell becomes plain data. -/
theorem ob7 {s : St} {ob : Nat → Option Ob} {a b c d e f : AV} {i e' k n : Nat} {g : Nat → Nat → D} {y : D} {o : Option Ob} (h : o = some (.box [a, b, c, d, e, f, .own i])) (h1 : s.ob i = some (.row e' k n g)) (h2 : ob i = none) (q : D.eqv (.slc k n g) y) : Oble s ob o (.box [a, b, c, d, e, f, .d y]) := by
  subst h
  exact ⟨AVle_refl _ _ _, AVle_refl _ _ _, AVle_refl _ _ _, AVle_refl _ _ _, AVle_refl _ _ _, AVle_refl _ _ _, ⟨h2, _, _, _, _, h1, q⟩, trivial⟩
theorem eqvB {a b c d e f : Int} {x y : D} (h : D.eqv x y) : eqvs [I a, I b, I c, I d, I e, I f, x] [I a, I b, I c, I d, I e, I f, y] := ⟨D.eqv_refl _, D.eqv_refl _, D.eqv_refl _, D.eqv_refl _, D.eqv_refl _, D.eqv_refl _, h, trivial⟩
theorem eqvBn {a b c d e f : Int} {g' : Nat → Nat → D} : eqvs [I a, I b, I c, I d, I e, I f, .nil] [I a, I b, I c, I d, I e, I f, .slc 2 ([] : List Use).length g'] := ⟨D.eqv_refl _, D.eqv_refl _, D.eqv_refl _, D.eqv_refl _, D.eqv_refl _, D.eqv_refl _, rfl, trivial⟩
theorem rowU2 {a b c d : Int} : ∀ m, m < [(⟨a, b⟩ : Use), ⟨c, d⟩].length → ∀ j, j < 2 → rowOf 2 [I a, I b, I c, I d] m j = rowU [⟨a, b⟩, ⟨c, d⟩] m j := fun m hm j hj => by
  match m, j, hm, hj with
  | 0, 0, _, _ => rfl
  | 0, 1, _, _ => rfl
  | 1, 0, _, _ => rfl
  | 1, 1, _, _ => rfl
theorem cornersL_ok {l : List Half} (hl : ∀ x ∈ l, okH x) : ∀ q ∈ cornersL l, valid q = true := fun q hq => by
  unfold cornersL at hq
  have sub : ∀ {m : List Corner} {q : Corner}, q ∈ hullL m → q ∈ m := fun {m q} h => by
    unfold hullL at h
    have hh : ∀ {m : List Corner} {q : Corner}, q ∈ halfL m → q ∈ m := fun {m q} h => by
      unfold halfL at h
      have := (chainR_mem m m.length (Nat.le_refl _)).1 q
      rw [List.take_length] at this
      exact this (List.mem_of_mem_tail (List.mem_reverse.1 h))
    split at h
    · exact h
    · rcases List.mem_append.1 h with h | h
      · exact hh h
      · exact List.mem_reverse.1 (hh h)
  have h2 := compL_mem (sub hq)
  unfold sortedL at h2
  obtain ⟨p, _, rfl⟩ := List.mem_map.1 h2
  exact p.2
theorem cornersL_len {l : List Half} (hn : l.length ≤ 60) : (cornersL l).length ≤ 8192 := by
  have hl := allL_len l
  have h1 : (sortedL l).length ≤ 4096 := by
    unfold sortedL
    rw [List.length_map, sortV_len]
    exact Nat.le_trans (ptsV_len l _) (Nat.le_trans (pairsL_len _) (Nat.mul_le_mul (show (allL l).length ≤ 64 by omega) (show (allL l).length ≤ 64 by omega)))
  have h2 := compL_len (sortedL l)
  have h3 := halfL_len (compL (sortedL l))
  have h4 := halfL_len (compL (sortedL l)).reverse
  rw [List.length_reverse] at h4
  unfold cornersL hullL
  split
  · omega
  · rw [List.length_append]; omega
set_option maxHeartbeats 4000000 in
theorem s_Best (l : List Half) (f : Form) : Spec PP 9 [slH l, f.v] [(bestE l f).1.v, N (bestE l f).2] := by
  refine spec_at Try.func9 rfl (by kernel_rfl) rfl ?_
  refine CallSt.pure (s_Check l) rfl rfl ?_
  refine Split.by (fun h0 => ?_) (fun h0 => ?_)
  · have h0 : checkL l ≠ 0 := by simpa using h0
    have e : bestE l f = (noBound, checkL l) := by unfold bestE; rw [if_neg h0]
    rw [e]
    exact r2CI rfl rfl rfl rfl rfl rfl rfl (eqvBn) rfl
  have h0 : checkL l = 0 := by simpa using h0
  obtain ⟨n1, n2, n3⟩ := checkL_ok h0
  refine CallSt.pure (s_slope f.X f.Y) rfl rfl ?_
  refine Split.by (fun hs => ?_) (fun hs => ?_)
  · have hs : ¬ slope f.X f.Y = true := by simpa using hs
    have e : bestE l f = (noBound, 1) := by unfold bestE; rw [if_pos h0, if_neg hs]
    rw [e]
    exact r2CI rfl rfl rfl rfl rfl rfl rfl (eqvBn) rfl
  have hs : slope f.X f.Y = true := by simpa using hs
  have of := okF_of hs
  refine CallSt.ro (s_corners l n3 (by omega)) rfl rfl ?_
  refine Split.by (fun hc => ?_) (fun hc => ?_)
  · have hc : cornersL l = [] := by
      have : (cornersL l).length = 0 := by simpa using hc
      exact List.length_eq_zero_iff.1 this
    have e : bestE l f = (noBound, 9) := by unfold bestE; rw [if_pos h0, if_pos hs, if_pos hc]
    rw [e]
    exact r2CI rfl rfl rfl rfl rfl rfl rfl (eqvBn) rfl
  have hc : cornersL l ≠ [] := fun hh => by rw [hh] at hc; cases hc
  have hpos : 0 < (cornersL l).length := List.length_pos_iff.2 hc
  have hcl := cornersL_len (l := l) (by omega)
  have hcv := cornersL_ok n3
  have hat : ∀ i, i ≤ (cornersL l).length → okC (bestTo f (cornersL l) i) := fun i hi => okC_of (hcv _ (bestTo_mem f _ hpos i hi))
  refine ⟨⟨rfl, by omega, by omega⟩, ?_⟩
  refine LoopOb.of (σ := Nat) (fun i => ([(0, avOf (slH l)), (3, .box 3 0), (4, .box 4 0), (7, avOf (slC (cornersL l))), (8, .box 8 0), (39, avOf (slC (cornersL l))), (40, .d (I (cornersL l).length)), (41, .d (I i))], [(3, .box [.d (I f.X), .d (I f.Y)]), (4, .box [.d (I 0), .d (I 0), .d (I 0), .d (I 0), .d (I 0), .d (I 0), .nilsl]), (8, .box [.d (I (bestTo f (cornersL l) i).X), .d (I (bestTo f (cornersL l) i).Y), .d (I (bestTo f (cornersL l) i).Den)])])) (fun i => i ≤ (cornersL l).length) (fun i => (cornersL l).length - i) 0
    ⟨rfl, ⟨obX rfl, obX rfl, ?_, trivial⟩, avR _ rfl, avQ rfl, avQ rfl, avR _ rfl, avQ rfl, avR _ rfl, avR _ rfl, avR _ rfl, trivial⟩ (Nat.zero_le _) fun i hi => ?_
  · rw [bestTo_zero]; exact obX rfl
  refine Split.by (fun h1 => ?_) (fun h1 => ?_)
  · have h1 : i < (cornersL l).length := by simpa using h1
    refine ⟨⟨rfl, by omega, by omega⟩, ?_⟩
    refine Exists.intro (List.range 8) (And.intro (by kernel_rfl) (FzOb.no ?_))
    refine CallOb.pure (s_value f (bestTo f (cornersL l) i) of (hat i hi)) rfl rfl ?_
    refine CallOb.pure (s_value f ((cornersL l).getD i default) of (okC_of (hcv _ (gd1 h1 default)))) rfl rfl ?_
    refine CallOb.pure (s_Less _ _) rfl rfl ?_
    refine Split.by (fun h2 => ?_) (fun h2 => ?_)
    · have e : bestTo f (cornersL l) (i + 1) = (cornersL l).getD i default := by rw [bestTo_succ f _ h1]; unfold stepB; rw [if_pos (dT h2)]
      refine ⟨inI64 (by omega) (by omega), ?_⟩
      refine ⟨i + 1, ⟨rfl, ⟨obX rfl, obX rfl, ?_, trivial⟩, avR _ rfl, avQ rfl, avQ rfl, avR _ rfl, avQ rfl, avR _ rfl, avR _ rfl, avI rfl rfl, trivial⟩, h1, ?_⟩
      · rw [e]; exact obX rfl
      · show (cornersL l).length - (i + 1) < (cornersL l).length - i
        omega
    · have e : bestTo f (cornersL l) (i + 1) = bestTo f (cornersL l) i := by rw [bestTo_succ f _ h1]; unfold stepB; rw [if_neg (dF h2)]
      refine ⟨inI64 (by omega) (by omega), ?_⟩
      refine ⟨i + 1, ⟨rfl, ⟨obX rfl, obX rfl, ?_, trivial⟩, avR _ rfl, avQ rfl, avQ rfl, avR _ rfl, avQ rfl, avR _ rfl, avR _ rfl, avI rfl rfl, trivial⟩, h1, ?_⟩
      · rw [e]; exact obX rfl
      · show (cornersL l).length - (i + 1) < (cornersL l).length - i
        omega
  have h1 : i = (cornersL l).length := by
    have : ¬ i < (cornersL l).length := by simpa using h1
    omega
  have eat : bestTo f (cornersL l) i = (bestAt f (cornersL l)) := by rw [h1]; unfold bestAt; rfl
  have oat : okC (bestAt f (cornersL l)) := by rw [← eat]; exact hat i hi
  rw [eat]
  refine Exists.intro (List.range 7) (And.intro (by kernel_rfl) (FzOb.no ?_))
  refine CallOb.pure (s_value f (bestAt f (cornersL l)) of oat) rfl rfl ?_
  refine Split.by (fun hz => ?_) (fun hz => ?_)
  · have hz : f = ⟨0, 0⟩ := by
      simp only [Bool.and_eq_true, beq_iff_eq, and_true] at hz
      cases f; simp_all
    have e : bestE l f = (⟨value f (bestAt f (cornersL l)), (bestAt f (cornersL l)), 1, []⟩, 0) := by unfold bestE; rw [if_pos h0, if_pos hs, if_neg hc, if_pos hz]
    rw [e]
    exact r2CI rfl rfl rfl rfl rfl rfl rfl (eqvBn) rfl
  have hz : f ≠ ⟨0, 0⟩ := fun hh => by subst hh; cases hz
  have hall := allL_ok n3
  have hlen := allL_len l
  refine CallSt.ro (s_all l (by omega)) rfl rfl ?_
  refine CallSt.ro (s_pairs (allL l)) rfl rfl ?_
  refine CodeOb.rangeAt (s_pairs1 (allL l) hall (by omega)) rfl pairsEnc val_pair (fun _ => rfl) (by decide) [(3, .box 3 0), (4, .box 4 0), (8, .box 8 0), (11, .box 11 0)] [] (fun _ => [(3, .box [.d (I f.X), .d (I f.Y)]), (4, .box [.d (I 0), .d (I 0), .d (I 0), .d (I 0), .d (I 0), .d (I 0), .nilsl]), (8, .box [.d (I (bestAt f (cornersL l)).X), .d (I (bestAt f (cornersL l)).Y), .d (I (bestAt f (cornersL l)).Den)]), (11, .box [.d (I (value f (bestAt f (cornersL l))).Num), .d (I (value f (bestAt f (cornersL l))).Den), .d (I (bestAt f (cornersL l)).X), .d (I (bestAt f (cornersL l)).Y), .d (I (bestAt f (cornersL l)).Den), .d (I (1)), .d .nil])]) rfl (fun _ => rfl) ?_ (Iv := fun pre => pre.findSome? (usesB f (bestAt f (cornersL l))) = none) rfl (fun v pre x hx hI => ?_) (fun hI => ?_)
  · exact ⟨rfl, ⟨obX rfl, obX rfl, obX rfl, obX rfl, trivial⟩, avQ rfl, avQ rfl, avQ rfl, avQ rfl, trivial⟩
  · have hxm : x ∈ pairsL (allL l) := hx.subset (by simp)
    obtain ⟨m1, m2, m3⟩ := pairsL_mem hxm
    have o1 := hall _ m1
    have o2 := hall _ m2
    have dd := det_bd o1 o2
    have b1 := mulB of.x o2.b
    have b2 := mulB of.y o2.a
    have b3 := mulB of.y o1.a
    have b4 := mulB of.x o1.b
    refine CallSt.pure (s_tight x.1.h (bestAt f (cornersL l)) o1 oat) rfl rfl ?_
    refine Split.by (fun h3 => ?_) (fun h3 => ?_)
    · have h3 : tight x.1.h (bestAt f (cornersL l)) = false := by simpa using h3
      refine Split.tt ?_
      refine Split.tt ?_
      exact ⟨pre_no hI (usesB_no fun hh => by rw [hh.1.1] at h3; cases h3), rfl, ⟨obX rfl, obX rfl, obX rfl, obX rfl, trivial⟩, avQ rfl, avQ rfl, avQ rfl, avQ rfl, trivial⟩
    have h3 : tight x.1.h (bestAt f (cornersL l)) = true := by simpa using h3
    refine CallSt.pure (s_tight x.2.h (bestAt f (cornersL l)) o2 oat) rfl rfl ?_
    refine Split.ff ?_
    refine Split.by (fun h4 => ?_) (fun h4 => ?_)
    · have h4 : tight x.2.h (bestAt f (cornersL l)) = false := by simpa using h4
      exact ⟨pre_no hI (usesB_no fun hh => by rw [hh.1.2] at h4; cases h4), rfl, ⟨obX rfl, obX rfl, obX rfl, obX rfl, trivial⟩, avQ rfl, avQ rfl, avQ rfl, avQ rfl, trivial⟩
    have h4 : tight x.2.h (bestAt f (cornersL l)) = true := by simpa using h4
    refine CallSt.pure (s_det x.1.h x.2.h o1 o2) rfl rfl ?_
    refine Exists.intro (List.range 28) (And.intro (by kernel_rfl) (FzOb.no ?_))
    refine ⟨inI64 (by omega) (by omega), ⟨inI64 (by omega) (by omega), ⟨inI64 (by omega) (by omega), ⟨inI64 (by omega) (by omega), ⟨inI64 (by omega) (by omega), ⟨inI64 (by omega) (by omega), ?_⟩⟩⟩⟩⟩⟩
    refine Split.by (fun h5 => ?_) (fun h5 => ?_)
    · have h5 : det x.1.h x.2.h < 0 := dT h5
      refine ⟨inI64 (by omega) (by omega), ⟨inI64 (by omega) (by omega), ⟨inI64 (by omega) (by omega), ?_⟩⟩⟩
      have ed : flip (det x.1.h x.2.h) (det x.1.h x.2.h) = -det x.1.h x.2.h := flip_neg h5
      have es : flip (det x.1.h x.2.h) (f.X * x.2.h.B - f.Y * x.2.h.A) = -(f.X * x.2.h.B - f.Y * x.2.h.A) := flip_neg h5
      have et : flip (det x.1.h x.2.h) (f.Y * x.1.h.A - f.X * x.1.h.B) = -(f.Y * x.1.h.A - f.X * x.1.h.B) := flip_neg h5
      refine Split.by (fun h6 => ?_) (fun h6 => ?_)
      · refine Split.tt ?_
        refine Split.by (fun h7 => ?_) (fun h7 => ?_)
        · refine CallSt.tk rfl ((t_used [⟨x.1.n, -(f.X * x.2.h.B - f.Y * x.2.h.A)⟩, ⟨x.2.n, -(f.Y * x.1.h.A - f.X * x.1.h.B)⟩] (Nat.le_of_ble_eq_true rfl)).congr rowU2) ⟨⟨[], .tmp 135, [], [], rfl, rfl, rfl, rfl, rfl, rfl, rfl⟩⟩ rfl ?_
          have hf := pre_yes hx hI (usesB_yes h3 h4 ed es et (dT h6) (dT h7))
          refine ⟨[(3, .box [.d (I f.X), .d (I f.Y)]), (4, .box [.d (I 0), .d (I 0), .d (I 0), .d (I 0), .d (I 0), .d (I 0), .nilsl]), (8, .box [.d (I (bestAt f (cornersL l)).X), .d (I (bestAt f (cornersL l)).Y), .d (I (bestAt f (cornersL l)).Den)]), (11, .box [.d (I (value f (bestAt f (cornersL l))).Num), .d (I (value f (bestAt f (cornersL l))).Den), .d (I (bestAt f (cornersL l)).X), .d (I (bestAt f (cornersL l)).Y), .d (I (bestAt f (cornersL l)).Den), .d (I (-det x.1.h x.2.h)), .d (.slc 2 (usedL [⟨x.1.n, -(f.X * x.2.h.B - f.Y * x.2.h.A)⟩, ⟨x.2.n, -(f.Y * x.1.h.A - f.X * x.1.h.B)⟩]).length (rowU (usedL [⟨x.1.n, -(f.X * x.2.h.B - f.Y * x.2.h.A)⟩, ⟨x.2.n, -(f.Y * x.1.h.A - f.X * x.1.h.B)⟩])))])], rfl, ⟨rfl, ⟨obX rfl, obX rfl, obX rfl, ?_, trivial⟩, avQ rfl, avQ rfl, avQ rfl, avQ rfl, trivial⟩, ?_⟩
          · exact ob7 rfl rfl rfl (D.eqv_refl _)
          · have e : bestE l f = (⟨value f (bestAt f (cornersL l)), (bestAt f (cornersL l)), -det x.1.h x.2.h, usedL [⟨x.1.n, -(f.X * x.2.h.B - f.Y * x.2.h.A)⟩, ⟨x.2.n, -(f.Y * x.1.h.A - f.X * x.1.h.B)⟩]⟩, 0) := by unfold bestE; rw [if_pos h0, if_pos hs, if_neg hc, if_neg hz, hf]
            rw [e]
            exact r2CI rfl rfl rfl rfl rfl rfl rfl (eqvB (D.eqv_refl _)) rfl
        · exact ⟨pre_no hI (usesB_no fun hh => dF h7 (by rw [← et]; exact hh.2.2)), rfl, ⟨obX rfl, obX rfl, obX rfl, obX rfl, trivial⟩, avQ rfl, avQ rfl, avQ rfl, avQ rfl, trivial⟩
      · refine Split.ff ?_
        refine Split.ff ?_
        exact ⟨pre_no hI (usesB_no fun hh => dF h6 (by rw [← es]; exact hh.2.1)), rfl, ⟨obX rfl, obX rfl, obX rfl, obX rfl, trivial⟩, avQ rfl, avQ rfl, avQ rfl, avQ rfl, trivial⟩
    · have h5 : ¬ det x.1.h x.2.h < 0 := dF h5
      have ed : flip (det x.1.h x.2.h) (det x.1.h x.2.h) = det x.1.h x.2.h := flip_pos h5
      have es : flip (det x.1.h x.2.h) (f.X * x.2.h.B - f.Y * x.2.h.A) = (f.X * x.2.h.B - f.Y * x.2.h.A) := flip_pos h5
      have et : flip (det x.1.h x.2.h) (f.Y * x.1.h.A - f.X * x.1.h.B) = (f.Y * x.1.h.A - f.X * x.1.h.B) := flip_pos h5
      refine Split.by (fun h6 => ?_) (fun h6 => ?_)
      · refine Split.tt ?_
        refine Split.by (fun h7 => ?_) (fun h7 => ?_)
        · refine CallSt.tk rfl ((t_used [⟨x.1.n, (f.X * x.2.h.B - f.Y * x.2.h.A)⟩, ⟨x.2.n, (f.Y * x.1.h.A - f.X * x.1.h.B)⟩] (Nat.le_of_ble_eq_true rfl)).congr rowU2) ⟨⟨[], .tmp 135, [], [], rfl, rfl, rfl, rfl, rfl, rfl, rfl⟩⟩ rfl ?_
          have hf := pre_yes hx hI (usesB_yes h3 h4 ed es et (dT h6) (dT h7))
          refine ⟨[(3, .box [.d (I f.X), .d (I f.Y)]), (4, .box [.d (I 0), .d (I 0), .d (I 0), .d (I 0), .d (I 0), .d (I 0), .nilsl]), (8, .box [.d (I (bestAt f (cornersL l)).X), .d (I (bestAt f (cornersL l)).Y), .d (I (bestAt f (cornersL l)).Den)]), (11, .box [.d (I (value f (bestAt f (cornersL l))).Num), .d (I (value f (bestAt f (cornersL l))).Den), .d (I (bestAt f (cornersL l)).X), .d (I (bestAt f (cornersL l)).Y), .d (I (bestAt f (cornersL l)).Den), .d (I (det x.1.h x.2.h)), .d (.slc 2 (usedL [⟨x.1.n, (f.X * x.2.h.B - f.Y * x.2.h.A)⟩, ⟨x.2.n, (f.Y * x.1.h.A - f.X * x.1.h.B)⟩]).length (rowU (usedL [⟨x.1.n, (f.X * x.2.h.B - f.Y * x.2.h.A)⟩, ⟨x.2.n, (f.Y * x.1.h.A - f.X * x.1.h.B)⟩])))])], rfl, ⟨rfl, ⟨obX rfl, obX rfl, obX rfl, ?_, trivial⟩, avQ rfl, avQ rfl, avQ rfl, avQ rfl, trivial⟩, ?_⟩
          · exact ob7 rfl rfl rfl (D.eqv_refl _)
          · have e : bestE l f = (⟨value f (bestAt f (cornersL l)), (bestAt f (cornersL l)), det x.1.h x.2.h, usedL [⟨x.1.n, (f.X * x.2.h.B - f.Y * x.2.h.A)⟩, ⟨x.2.n, (f.Y * x.1.h.A - f.X * x.1.h.B)⟩]⟩, 0) := by unfold bestE; rw [if_pos h0, if_pos hs, if_neg hc, if_neg hz, hf]
            rw [e]
            exact r2CI rfl rfl rfl rfl rfl rfl rfl (eqvB (D.eqv_refl _)) rfl
        · exact ⟨pre_no hI (usesB_no fun hh => dF h7 (by rw [← et]; exact hh.2.2)), rfl, ⟨obX rfl, obX rfl, obX rfl, obX rfl, trivial⟩, avQ rfl, avQ rfl, avQ rfl, avQ rfl, trivial⟩
      · refine Split.ff ?_
        refine Split.ff ?_
        exact ⟨pre_no hI (usesB_no fun hh => dF h6 (by rw [← es]; exact hh.2.1)), rfl, ⟨obX rfl, obX rfl, obX rfl, obX rfl, trivial⟩, avQ rfl, avQ rfl, avQ rfl, avQ rfl, trivial⟩
  · have e : bestE l f = (⟨value f (bestAt f (cornersL l)), (bestAt f (cornersL l)), 1, []⟩, 0) := by unfold bestE; rw [if_pos h0, if_pos hs, if_neg hc, if_neg hz, hI]
    rw [e]
    exact r2CI rfl rfl rfl rfl rfl rfl rfl (eqvBn) rfl
end Go.Pg
/-
  Contracts: lists of indices; Core.
-/
set_option linter.all false
set_option maxRecDepth 100000
namespace Go.Pg
open Go.Proofs Go.RowKit

@[irreducible] def upTo (n : Nat) : List Int := (List.range n).map fun i : Nat => (i : Int)
theorem upTo_succ (n : Nat) : upTo (n + 1) = upTo n ++ [(n : Int)] := by unfold upTo; rw [List.range_succ, List.map_append]; rfl
theorem upTo_len (n : Nat) : (upTo n).length = n := by unfold upTo; simp
theorem upTo_mem {n : Nat} {x : Int} (h : x ∈ upTo n) : 0 ≤ x ∧ x < n := by
  unfold upTo at h
  obtain ⟨i, hi, rfl⟩ := List.mem_map.1 h
  have := List.mem_range.1 hi
  omega
theorem pushI {vs : List Int} {p : Int} {n : Nat} {g : Nat → Nat → D} (hn : n = vs.length) (hg : g 0 0 = I p) : D.eqv (.slc 1 (n + 1) (appRow n (rowI vs) g)) (.slc 1 (vs ++ [p]).length (rowI (vs ++ [p]))) := by
  subst hn
  rw [List.length_append]
  refine app1 (fun i hi j hj => ?_) fun j hj => ?_
  · show D.eqv (I (vs.getD i 0)) (I ((vs ++ [p]).getD i 0))
    have e : (vs ++ [p]).getD i 0 = vs.getD i 0 := by rw [List.getD_eq_getElem?_getD, List.getElem?_append_left hi, ← List.getD_eq_getElem?_getD]
    rw [e]
    exact D.eqv_refl _
  · obtain rfl : j = 0 := by omega
    show D.eqv (g 0 0) (I ((vs ++ [p]).getD vs.length 0))
    rw [List.getD_eq_getElem?_getD, List.getElem?_append_right (Nat.le_refl _), Nat.sub_self, hg]
    exact ⟨rfl, rfl⟩
theorem flatI (l : List Int) (m j : Nat) : (rowI l m j).flat = true := rfl
/-- A list without one of its elements. -/
@[irreducible] def rmL (l : List Int) (i : Nat) : List Int := l.take i ++ l.drop (i + 1)
theorem rmL_len (l : List Int) {i : Nat} (h : i < l.length) : (rmL l i).length = l.length - 1 := by unfold rmL; simp; omega
theorem rmL_mem {l : List Int} {i : Nat} {x : Int} (h : x ∈ rmL l i) : x ∈ l := by
  unfold rmL at h
  rcases List.mem_append.1 h with h | h
  · exact List.mem_of_mem_take h
  · exact List.mem_of_mem_drop h
/-- Some half-planes of a system. -/
@[irreducible] def pickL (l : List Half) (js : List Int) : List Half := js.map fun j => l.getD j.toNat default
theorem pickL_len (l : List Half) (js : List Int) : (pickL l js).length = js.length := by unfold pickL; simp
theorem pickL_mem {l : List Half} {js : List Int} (hj : ∀ j ∈ js, 0 ≤ j ∧ j < l.length) : ∀ x ∈ pickL l js, x ∈ l := fun x hx => by
  unfold pickL at hx
  obtain ⟨j, hjm, rfl⟩ := List.mem_map.1 hx
  have := hj j hjm
  exact gd1 (by omega) default
theorem pickL_snoc (l : List Half) (js : List Int) (j : Int) : pickL l (js ++ [j]) = pickL l js ++ [l.getD j.toNat default] := by unfold pickL; simp
abbrev rowH (l : List Half) : Nat → Nat → D := fun i => (l.getD i default).at
theorem pushH {vs : List Half} {p : Half} {n : Nat} {g : Nat → Nat → D} (hn : n = vs.length) (hg : ∀ j, j < 3 → D.eqv (g 0 j) (p.at j)) : D.eqv (.slc 3 (n + 1) (appRow n (rowH vs) g)) (.slc 3 (vs ++ [p]).length (rowH (vs ++ [p]))) := by
  subst hn
  rw [List.length_append]
  refine app1 (fun i hi j hj => ?_) fun j hj => ?_
  · show D.eqv ((vs.getD i default).at j) (((vs ++ [p]).getD i default).at j)
    have e : (vs ++ [p]).getD i default = vs.getD i default := by rw [List.getD_eq_getElem?_getD, List.getElem?_append_left hi, ← List.getD_eq_getElem?_getD]
    rw [e]
    exact D.eqv_refl _
  · show D.eqv (g 0 j) (((vs ++ [p]).getD vs.length default).at j)
    rw [List.getD_eq_getElem?_getD, List.getElem?_append_right (Nat.le_refl _), Nat.sub_self]
    exact hg j hj
theorem eqAtH (p : Half) : ∀ j, j < 3 → D.eqv (rowOf 3 [I p.A, I p.B, I p.C] 0 j) (p.at j)
  | 0, _ => ⟨rfl, rfl⟩
  | 1, _ => ⟨rfl, rfl⟩
  | 2, _ => ⟨rfl, rfl⟩
/-- Half-planes are left out as long as there is no common point. -/
def coreRun (l : List Half) : Nat → List Int → Nat → List Int
  | 0, left, _ => left
  | n + 1, left, i => if cornersL (pickL l (rmL left i)) = [] then coreRun l n (rmL left i) i else coreRun l n left (i + 1)
@[irreducible] def coreL (l : List Half) : List Int := coreRun l l.length (upTo l.length) 0
@[irreducible] def coreE (l : List Half) : List Int × Int := if checkL l = 0 then if cornersL l = [] then (coreL l, 0) else ([], 5) else ([], checkL l)
end Go.Pg
/-
  Contracts: Hull.
-/
set_option linter.all false
set_option maxRecDepth 100000
namespace Go.Pg
open Go.Proofs Go.RowKit Go.Sort

@[irreducible] def edgeL (p q : Place) : Half := ⟨q.Y - p.Y, p.X - q.X, (q.Y - p.Y) * p.X + (p.X - q.X) * p.Y⟩
structure okP (p : Place) : Prop where
  x : -1073741824 ≤ p.X ∧ p.X ≤ 1073741824
  y : -1073741824 ≤ p.Y ∧ p.Y ≤ 1073741824
/-- The i-th corner, around, as a place. -/
@[irreducible] def atP (c : List Corner) (i : Nat) : Place := ⟨(c.getD (i % c.length) default).X, (c.getD (i % c.length) default).Y⟩
abbrev ptrC (c : List Corner) : V1 := .d (.ptr 1 fun _ => .slc 3 c.length fun i => (c.getD i default).at)
theorem popR_ne (p : Corner) : ∀ st : List Corner, st ≠ [] → popR p st ≠ []
  | [b], _ => by simp [popR]
  | b :: a :: r, _ => by
    simp only [popR]
    split
    · exact popR_ne p (a :: r) (by simp)
    · simp
theorem chainR_two (l : List Corner) : ∀ i, i ≤ l.length → min i 2 ≤ (chainR (l.take i)).length
  | 0, _ => by simp
  | i + 1, h => by
    rw [chainR_take l (by omega)]
    have ih := chainR_two l i (by omega)
    show _ ≤ (popR _ _).length + 1
    rcases Nat.eq_zero_or_pos i with h0 | h0
    · subst h0; simp
    · have : popR (l.getD i default) (chainR (l.take i)) ≠ [] := popR_ne _ _ fun hh => by rw [hh] at ih; simp at ih; omega
      have := List.length_pos_iff.2 this
      omega
theorem halfL_pos {l : List Corner} (h : 2 ≤ l.length) : 0 < (halfL l).length := by
  have := chainR_two l l.length (Nat.le_refl _)
  rw [List.take_length] at this
  unfold halfL
  rw [List.length_reverse, List.length_tail]
  omega
theorem hullL_pos {l : List Corner} (h : 0 < l.length) : 0 < (hullL l).length := by
  unfold hullL
  split
  · exact h
  · rw [List.length_append]
    have := halfL_pos (l := l) (by omega)
    omega
theorem compL_pos {l : List Corner} (h : 0 < l.length) : 0 < (compL l).length := by
  have : l.getD 0 default ∈ compL l := by
    unfold compL compP
    exact List.mem_map.2 ⟨0, List.mem_filter.2 ⟨List.mem_range.2 h, keep0 l (by omega)⟩, rfl⟩
  exact List.length_pos_of_mem this
theorem hullL_mem {m : List Corner} {q : Corner} (h : q ∈ hullL m) : q ∈ m := by
  unfold hullL at h
  have hh : ∀ {m : List Corner} {q : Corner}, q ∈ halfL m → q ∈ m := fun {m q} h => by
    unfold halfL at h
    have := (chainR_mem m m.length (Nat.le_refl _)).1 q
    rw [List.take_length] at this
    exact this (List.mem_of_mem_tail (List.mem_reverse.1 h))
  split at h
  · exact h
  · rcases List.mem_append.1 h with h | h
    · exact hh h
    · exact List.mem_reverse.1 (hh h)
theorem hullL_len (l : List Corner) : (hullL l).length ≤ 2 * l.length := by
  have h3 := halfL_len l
  have h4 := halfL_len l.reverse
  rw [List.length_reverse] at h4
  unfold hullL
  split
  · omega
  · rw [List.length_append]; omega
/-! ### The places as corners -/
theorem on_bd {p : Place} (h : on p = true) : (0 ≤ p.X ∧ p.X ≤ 48) ∧ (0 ≤ p.Y ∧ p.Y ≤ 48) := by
  unfold on at h
  simp only [Bool.and_eq_true, within_spec] at h
  exact h
theorem ofP_valid {p : Place} (h : on p = true) : valid (ofP p) = true := by
  have hb := on_bd h
  have e : ofP p = ⟨p.X, p.Y, 1⟩ := by unfold ofP; rw [if_pos h]
  rw [e]
  unfold valid
  simp only [Bool.and_eq_true, within_spec, beq_iff_eq]
  refine ⟨⟨⟨by omega, by omega⟩, by omega⟩, ?_⟩
  rw [gcd3]
  simp
@[irreducible] def ofV (p : Place) : VC := if h : valid (ofP p) = true then ⟨ofP p, h⟩ else default
theorem ofV_eq {p : Place} (h : on p = true) : ofV p = ⟨ofP p, ofP_valid h⟩ := by unfold ofV; rw [dif_pos (ofP_valid h)]
@[irreducible] def ptsO (l : List Place) (i : Nat) : List VC := (l.take i).map ofV
theorem ptsO_zero (l : List Place) : ptsO l 0 = [] := by unfold ptsO; simp
theorem ptsO_len (l : List Place) {i : Nat} (h : i ≤ l.length) : (ptsO l i).length = i := by unfold ptsO; simp; omega
theorem ptsO_succ (l : List Place) {i : Nat} (h : i < l.length) : ptsO l (i + 1) = ptsO l i ++ [ofV (l.getD i default)] := by unfold ptsO; rw [take1 h default, List.map_append]; rfl
@[irreducible] def cycL (l : List Place) : List Corner := hullL (compL ((sortV (ptsO l l.length)).map fun p : VC => p.1))
@[irreducible] def edges1 (p : Place) : List Half := [⟨-1, 0, -p.X⟩, ⟨1, 0, p.X⟩, ⟨0, -1, -p.Y⟩, ⟨0, 1, p.Y⟩]
@[irreducible] def edges2 (p q : Place) : List Half := [edgeL p q, edgeL q p, ⟨-(q.X - p.X), -(q.Y - p.Y), -(q.X - p.X) * p.X - (q.Y - p.Y) * p.Y⟩, ⟨q.X - p.X, q.Y - p.Y, (q.X - p.X) * q.X + (q.Y - p.Y) * q.Y⟩]
@[irreducible] def edgesTo (c : List Corner) (i : Nat) : List Half := (List.range i).map fun i => edgeL (atP c i) (atP c (i + 1))
theorem edgesTo_zero (c : List Corner) : edgesTo c 0 = [] := by unfold edgesTo; rfl
theorem edgesTo_succ (c : List Corner) (i : Nat) : edgesTo c (i + 1) = edgesTo c i ++ [edgeL (atP c i) (atP c (i + 1))] := by unfold edgesTo; rw [List.range_succ, List.map_append]; rfl
theorem edgesTo_len (c : List Corner) (i : Nat) : (edgesTo c i).length = i := by unfold edgesTo; simp
@[irreducible] def hullE (l : List Place) : List Half × Int :=
  if l = [] then ([], 5) else if l.all on = true then
    (if (cycL l).length = 1 then edges1 (atP (cycL l) 0) else if (cycL l).length = 2 then edges2 (atP (cycL l) 0) (atP (cycL l) 1) else edgesTo (cycL l) (cycL l).length, 0)
  else ([], 1)
theorem eqH4 {a0 a1 a2 a3 a4 a5 a6 a7 a8 a9 b0 b1 : Int} : D.eqv (.slc 3 4 (rowOf 3 [I a0, I a1, I a2, I a3, I a4, I a5, I a6, I a7, I a8, I a9, I b0, I b1])) (.slc 3 [(⟨a0, a1, a2⟩ : Half), ⟨a3, a4, a5⟩, ⟨a6, a7, a8⟩, ⟨a9, b0, b1⟩].length fun i => (([(⟨a0, a1, a2⟩ : Half), ⟨a3, a4, a5⟩, ⟨a6, a7, a8⟩, ⟨a9, b0, b1⟩]).getD i default).at) := by
  refine ⟨rfl, .inr ⟨rfl, fun i hi j hj => ?_⟩⟩
  match i, j, hi, hj with
  | 0, 0, _, _ => exact ⟨rfl, rfl⟩
  | 0, 1, _, _ => exact ⟨rfl, rfl⟩
  | 0, 2, _, _ => exact ⟨rfl, rfl⟩
  | 1, 0, _, _ => exact ⟨rfl, rfl⟩
  | 1, 1, _, _ => exact ⟨rfl, rfl⟩
  | 1, 2, _, _ => exact ⟨rfl, rfl⟩
  | 2, 0, _, _ => exact ⟨rfl, rfl⟩
  | 2, 1, _, _ => exact ⟨rfl, rfl⟩
  | 2, 2, _, _ => exact ⟨rfl, rfl⟩
  | 3, 0, _, _ => exact ⟨rfl, rfl⟩
  | 3, 1, _, _ => exact ⟨rfl, rfl⟩
  | 3, 2, _, _ => exact ⟨rfl, rfl⟩
end Go.Pg
/-
  Contracts: the specification's comparisons of lists.
-/
set_option linter.all false
set_option maxRecDepth 100000
namespace Go.Pg
open Go.Proofs Go.RowKit

theorem eqCs (p q : Corner) : (p.X == q.X && (p.Y == q.Y && (p.Den == q.Den && (true)))) = (p == q) := by
  rw [Bool.eq_iff_iff]
  simp only [Bool.and_eq_true, beq_iff_eq, and_true]
  cases p; cases q; simp
theorem eqPs (p q : Place) : (p.X == q.X && (p.Y == q.Y && (true))) = (p == q) := by
  rw [Bool.eq_iff_iff]
  simp only [Bool.and_eq_true, beq_iff_eq, and_true]
  cases p; cases q; simp
theorem eqHs (p q : Half) : (p.A == q.A && (p.B == q.B && (p.C == q.C && (true)))) = (p == q) := by
  rw [Bool.eq_iff_iff]
  simp only [Bool.and_eq_true, beq_iff_eq, and_true]
  cases p; cases q; simp
theorem eqIs : True := trivial
end Go.Pg
