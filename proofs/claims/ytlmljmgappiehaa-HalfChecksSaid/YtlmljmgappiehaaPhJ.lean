/-
  Contracts: a proof that a system is empty.
-/
import Derived.Test.YtlmljmgappiehaaPhI
set_option linter.all false
set_option maxRecDepth 100000
namespace Go.Pg
open Go.Proofs Go.RowKit

def most (h : Half) : Int := max (max (max h.A (-h.A)) h.B) (-h.B)
@[irreducible] def opp (g h : Half) : Bool := det g h == 0 && decide (g.A * h.A + g.B * h.B < 0)
@[irreducible] def scS (g h : Half) : Int := if opp g h = true then most h else 0
@[irreducible] def scT (g h : Half) : Int := if opp g h = true then most g else 0
theorem most_bd {h : Half} (hh : okH h) : 0 ≤ most h ∧ most h ≤ 1000 := by
  have := hh.a
  have := hh.b
  unfold most
  omega
theorem scS_bd {g h : Half} (hh : okH h) : 0 ≤ scS g h ∧ scS g h ≤ 1000 := by
  have := most_bd hh
  unfold scS; split <;> omega
theorem scT_bd {g h : Half} (hg : okH g) : 0 ≤ scT g h ∧ scT g h ≤ 1000 := by
  have := most_bd hg
  unfold scT; split <;> omega
theorem s_scaled (g h : Half) (hg : okH g) (hh : okH h) : Spec PP 102 [g.v, h.v] [N (scS g h), N (scT g h), B (opp g h)] := by
  have a1 := hg.a
  have a2 := hg.b
  have a3 := hh.a
  have a4 := hh.b
  have b1 := mulB hg.a hh.a
  have b2 := mulB hg.b hh.b
  refine spec_at Try.func102 rfl (by kernel_rfl) rfl ?_
  refine CallSt.pure (s_det g h hg hh) rfl rfl ?_
  refine Split.by (fun h1 => ?_) (fun h1 => ?_)
  · have h1 : det g h ≠ 0 := by simpa using h1
    have e : opp g h = false := by unfold opp; simp [h1]
    refine Split.tt ?_
    refine Split.tt ?_
    exact ⟨rtI rfl (by unfold scS; rw [e]; rfl), rtI rfl (by unfold scT; rw [e]; rfl), rtB rfl e.symm, trivial⟩
  · have h1 : det g h = 0 := by simpa using h1
    refine ⟨inI64 (by omega) (by omega), ⟨inI64 (by omega) (by omega), ⟨inI64 (by omega) (by omega), ?_⟩⟩⟩
    refine Split.ff ?_
    refine Split.by (fun h2 => ?_) (fun h2 => ?_)
    · have h2 : 0 ≤ g.A * h.A + g.B * h.B := dT h2
      have e : opp g h = false := by unfold opp; simp; omega
      exact ⟨rtI rfl (by unfold scS; rw [e]; rfl), rtI rfl (by unfold scT; rw [e]; rfl), rtB rfl e.symm, trivial⟩
    · have h2 : ¬ 0 ≤ g.A * h.A + g.B * h.B := dF h2
      have e : opp g h = true := by unfold opp; simp [h1]; omega
      refine Exists.intro (List.range 25) (And.intro (by kernel_rfl) (FzOb.no ?_))
      refine ⟨inI64 (by omega) (by omega), ⟨inI64 (by omega) (by omega), ⟨inI64 (by omega) (by omega), ⟨inI64 (by omega) (by omega), ?_⟩⟩⟩⟩
      exact ⟨rtI rfl (by unfold scS; rw [e]; rfl), rtI rfl (by unfold scT; rw [e]; rfl), rtB rfl e.symm, trivial⟩
/-! ### The search for a proof -/
@[irreducible] def two (g h : Num) : Option (List Use) := if opp g.h h.h = true ∧ scS g.h h.h * g.h.C + scT g.h h.h * h.h.C < 0 then some [⟨g.n, scS g.h h.h⟩, ⟨h.n, scT g.h h.h⟩] else none
/-- -1 where the first number is below 0. -/
@[irreducible] def flip (n m : Int) : Int := if n < 0 then -m else m
@[irreducible] def triA (g h j : Half) : Int := flip (det h j) (det h j)
@[irreducible] def triB (g h j : Half) : Int := flip (det h j) (det j g)
@[irreducible] def triC (g h j : Half) : Int := flip (det h j) (det g h)
@[irreducible] def three (g h j : Num) : Option (List Use) := if (0 < triA g.h h.h j.h ∧ 0 < triB g.h h.h j.h ∧ 0 < triC g.h h.h j.h) ∧ triA g.h h.h j.h * g.h.C + triB g.h h.h j.h * h.h.C + triC g.h h.h j.h * j.h.C < 0 then some [⟨g.n, triA g.h h.h j.h⟩, ⟨h.n, triB g.h h.h j.h⟩, ⟨j.n, triC g.h h.h j.h⟩] else none
def findJ (L : List Num) (i k : Nat) : Nat → Option (List Use)
  | 0 => none
  | m + 1 => (findJ L i k m).or (three (L.getD i default) (L.getD k default) (L.getD m default))
def findK (L : List Num) (i : Nat) : Nat → Option (List Use)
  | 0 => none
  | k + 1 => (findK L i k).or ((two (L.getD i default) (L.getD k default)).or (findJ L i k k))
def findI (L : List Num) : Nat → Option (List Use)
  | 0 => none
  | i + 1 => (findI L i).or (findK L i i)
@[irreducible] def refL (l : List Half) : List Use := (findI (allL l) (allL l).length).getD []
theorem findJ_stay {L : List Num} {i k m : Nat} {x : List Use} (h : findJ L i k m = some x) : ∀ {m'}, m ≤ m' → findJ L i k m' = some x := fun {m'} hm => by
  obtain ⟨d, rfl⟩ := Nat.exists_eq_add_of_le hm
  induction d with
  | zero => exact h
  | succ d ih => rw [← Nat.add_assoc]; simp only [findJ, ih (by omega), Option.some_or]
theorem findK_stay {L : List Num} {i m : Nat} {x : List Use} (h : findK L i m = some x) : ∀ {m'}, m ≤ m' → findK L i m' = some x := fun {m'} hm => by
  obtain ⟨d, rfl⟩ := Nat.exists_eq_add_of_le hm
  induction d with
  | zero => exact h
  | succ d ih => rw [← Nat.add_assoc]; simp only [findK, ih (by omega), Option.some_or]
theorem findI_stay {L : List Num} {m : Nat} {x : List Use} (h : findI L m = some x) : ∀ {m'}, m ≤ m' → findI L m' = some x := fun {m'} hm => by
  obtain ⟨d, rfl⟩ := Nat.exists_eq_add_of_le hm
  induction d with
  | zero => exact h
  | succ d ih => rw [← Nat.add_assoc]; simp only [findI, ih (by omega), Option.some_or]
/-- A hit is the answer. -/
theorem hit2 {l : List Half} {i k : Nat} {x : List Use} (hi : i < (allL l).length) (hk : k < i) (h1 : findI (allL l) i = none) (h2 : findK (allL l) i k = none) (h3 : two ((allL l).getD i default) ((allL l).getD k default) = some x) : refL l = x := by
  have a : findK (allL l) i (k + 1) = some x := by simp only [findK, h2, h3, Option.none_or, Option.some_or]
  have b : findI (allL l) (i + 1) = some x := by simp only [findI, h1, findK_stay a hk, Option.none_or]
  unfold refL
  rw [findI_stay b hi]; rfl
theorem hit3 {l : List Half} {i k j : Nat} {x : List Use} (hi : i < (allL l).length) (hk : k < i) (hj : j < k) (h1 : findI (allL l) i = none) (h2 : findK (allL l) i k = none) (h3 : two ((allL l).getD i default) ((allL l).getD k default) = none) (h4 : findJ (allL l) i k j = none)
    (h5 : three ((allL l).getD i default) ((allL l).getD k default) ((allL l).getD j default) = some x) : refL l = x := by
  have a : findJ (allL l) i k (j + 1) = some x := by simp only [findJ, h4, h5, Option.none_or]
  have b : findK (allL l) i (k + 1) = some x := by simp only [findK, h2, h3, findJ_stay a hj, Option.none_or]
  have c : findI (allL l) (i + 1) = some x := by simp only [findI, h1, findK_stay b hk, Option.none_or]
  unfold refL
  rw [findI_stay c hi]; rfl
theorem eqU2 {a b c d a' b' c' d' : Int} (e1 : a = a') (e2 : b = b') (e3 : c = c') (e4 : d = d') : D.eqv (.slc 2 2 (rowOf 2 [I a, I b, I c, I d])) (.slc 2 [(⟨a', b'⟩ : Use), ⟨c', d'⟩].length fun i => (([(⟨a', b'⟩ : Use), ⟨c', d'⟩]).getD i default).at) := by
  subst e1 e2 e3 e4
  refine ⟨rfl, .inr ⟨rfl, fun i hi j hj => ?_⟩⟩
  match i, j, hi, hj with
  | 0, 0, _, _ => exact ⟨rfl, rfl⟩
  | 0, 1, _, _ => exact ⟨rfl, rfl⟩
  | 1, 0, _, _ => exact ⟨rfl, rfl⟩
  | 1, 1, _, _ => exact ⟨rfl, rfl⟩
theorem eqU3 {a b c d e f a' b' c' d' e' f' : Int} (e1 : a = a') (e2 : b = b') (e3 : c = c') (e4 : d = d') (e5 : e = e') (e6 : f = f') : D.eqv (.slc 2 3 (rowOf 2 [I a, I b, I c, I d, I e, I f])) (.slc 2 [(⟨a', b'⟩ : Use), ⟨c', d'⟩, ⟨e', f'⟩].length fun i => (([(⟨a', b'⟩ : Use), ⟨c', d'⟩, ⟨e', f'⟩]).getD i default).at) := by
  subst e1 e2 e3 e4 e5 e6
  refine ⟨rfl, .inr ⟨rfl, fun i hi j hj => ?_⟩⟩
  match i, j, hi, hj with
  | 0, 0, _, _ => exact ⟨rfl, rfl⟩
  | 0, 1, _, _ => exact ⟨rfl, rfl⟩
  | 1, 0, _, _ => exact ⟨rfl, rfl⟩
  | 1, 1, _, _ => exact ⟨rfl, rfl⟩
  | 2, 0, _, _ => exact ⟨rfl, rfl⟩
  | 2, 1, _, _ => exact ⟨rfl, rfl⟩
theorem obD4 {s : St} {ob : Nat → Option Ob} {x : Num} {o : Option Ob} (h : o = some (.box [.d (I x.n), .d (I x.h.A), .d (I x.h.B), .d (I x.h.C)])) : Oble s ob o (.box [.d (I x.n), .d (I x.h.A), .d (I x.h.B), .d (I x.h.C)]) := obD [I x.n, I x.h.A, I x.h.B, I x.h.C] h
abbrev bxN (x : Num) : Ob := .box [.d (I x.n), .d (I x.h.A), .d (I x.h.B), .d (I x.h.C)]
abbrev row0 : Ob := .row 62 2 0 fun _ _ => dflt
abbrev cut (L : List Num) (i : Nat) : D := .slc 4 i fun i => (L.getD i default).at
theorem two_yes {g h : Num} (h3 : opp g.h h.h = true) (h4 : scS g.h h.h * g.h.C + scT g.h h.h * h.h.C < 0) : two g h = some [⟨g.n, scS g.h h.h⟩, ⟨h.n, scT g.h h.h⟩] := by unfold two; rw [if_pos ⟨h3, h4⟩]
theorem two_no {g h : Num} (h4 : ¬ (opp g.h h.h = true ∧ scS g.h h.h * g.h.C + scT g.h h.h * h.h.C < 0)) : two g h = none := by unfold two; rw [if_neg h4]
theorem flip_neg {n m : Int} (h : n < 0) : flip n m = -m := by unfold flip; rw [if_pos h]
theorem flip_pos {n m : Int} (h : ¬ n < 0) : flip n m = m := by unfold flip; rw [if_neg h]
theorem three_yes {g h j : Num} {a b c : Int} (ha : triA g.h h.h j.h = a) (hb : triB g.h h.h j.h = b) (hc : triC g.h h.h j.h = c) (h0 : 0 < a) (h1 : 0 < b) (h2 : 0 < c) (h3 : a * g.h.C + b * h.h.C + c * j.h.C < 0) : three g h j = some [⟨g.n, a⟩, ⟨h.n, b⟩, ⟨j.n, c⟩] := by
  subst ha hb hc; unfold three; rw [if_pos ⟨⟨h0, h1, h2⟩, h3⟩]
theorem three_no {g h j : Num} {a b c : Int} (ha : triA g.h h.h j.h = a) (hb : triB g.h h.h j.h = b) (hc : triC g.h h.h j.h = c) (h0 : ¬ ((0 < a ∧ 0 < b ∧ 0 < c) ∧ a * g.h.C + b * h.h.C + c * j.h.C < 0)) : three g h j = none := by
  subst ha hb hc; unfold three; rw [if_neg h0]
set_option maxHeartbeats 4000000 in
theorem s_refuted (l : List Half) (hl : ∀ x ∈ l, okH x) (hn : l.length ≤ 60) : Spec PP 73 [slH l] [slU (refL l)] := by
  have hall := allL_ok hl
  have hlen := allL_len l
  refine spec_at Try.func73 rfl (by kernel_rfl) rfl ?_
  refine CallSt.ro (s_all l (by omega)) rfl rfl ?_
  refine LoopOb.of (σ := Nat) (fun i => ([(3, avOf (slN (allL l))), (4, .own 4), (17, avOf (slN (allL l))), (18, .d (I (allL l).length)), (19, .d (I i))], [(4, row0)])) (fun i => i ≤ (allL l).length ∧ findI (allL l) i = none) (fun i => (allL l).length - i) 0
    ⟨rfl, ⟨obR rfl ⟨rfl, .inl rfl⟩, trivial⟩, avR _ rfl, avQ rfl, avR _ rfl, avR _ rfl, avR _ rfl, trivial⟩ ⟨Nat.zero_le _, rfl⟩ fun i hi => ?_
  obtain ⟨i1, i2⟩ := hi
  refine Split.by (fun h1 => ?_) (fun h1 => ?_)
  · have h1 : i < (allL l).length := by simpa using h1
    have og := hall _ (gd1 h1 default)
    refine ⟨⟨rfl, by omega, by omega⟩, ?_⟩
    refine ⟨⟨.inr rfl, by omega, by omega⟩, ?_⟩
    refine LoopOb.of (σ := Nat) (fun k => ([(3, avOf (slN (allL l))), (4, .own 4), (5, .d (I i)), (6, .box 6 0), (17, avOf (slN (allL l))), (18, .d (I (allL l).length)), (19, .d (I i)), (26, .d (cut (allL l) i)), (27, .d (I i)), (28, .d (I k))], [(4, row0), (6, bxN ((allL l).getD i default))])) (fun k => k ≤ i ∧ findK (allL l) i k = none) (fun k => i - k) 0
      ⟨rfl, ⟨obR rfl ⟨rfl, .inl rfl⟩, obD4 rfl, trivial⟩, avR _ rfl, avQ rfl, avR _ rfl, avQ rfl, avR _ rfl, avR _ rfl, avR _ rfl, avE rfl ⟨by omega, .inr ⟨rfl, fun _ _ _ _ => D.eqv_refl _⟩⟩, avI rfl (by omega), avR _ rfl, trivial⟩ ⟨Nat.zero_le _, rfl⟩ fun k hk => ?_
    obtain ⟨k1, k2⟩ := hk
    refine Split.by (fun h2 => ?_) (fun h2 => ?_)
    · have h2 : k < i := by simpa using h2
      have oh := hall _ (gd1 (show k < (allL l).length by omega) default)
      refine ⟨⟨rfl, by omega, by omega⟩, ?_⟩
      refine CallSt.pure (s_scaled ((allL l).getD i default).h ((allL l).getD k default).h og oh) rfl rfl ?_
      have bs := scS_bd (g := ((allL l).getD i default).h) oh
      have bt := scT_bd (h := ((allL l).getD k default).h) og
      have cg := og.c
      have ch := oh.c
      have p1 := mulB (a := scS ((allL l).getD i default).h ((allL l).getD k default).h) (x := 1000) (by omega) cg
      have p2 := mulB (a := scT ((allL l).getD i default).h ((allL l).getD k default).h) (x := 1000) (by omega) ch
      have p2' : -(1000 * 262144) ≤ scT ((allL l).getD i default).h ((allL l).getD k default).h * ((allL l).getD (k : Int).toNat default).h.C ∧ scT ((allL l).getD i default).h ((allL l).getD k default).h * ((allL l).getD (k : Int).toNat default).h.C ≤ 1000 * 262144 := by rw [Int.toNat_natCast]; exact p2
      refine Split.by (fun h3 => ?_) (fun h3 => ?_)
      · refine ⟨inI64 (by omega) (by omega), ⟨inI64 (by omega) (by omega), ⟨inI64 (by omega) (by omega), ?_⟩⟩⟩
        refine Split.tt ?_
        refine Split.by (fun h4 => ?_) (fun h4 => ?_)
        · rw [hit2 h1 h2 i2 k2 (two_yes h3 (dT h4))]
          exact ⟨⟨_, _, _, _, rfl, eqU2 rfl rfl rfl rfl⟩, trivial⟩
        · have e0 : two ((allL l).getD i default) ((allL l).getD k default) = none := two_no fun hh => dF h4 hh.2
          refine ⟨⟨.inr rfl, by omega, by omega⟩, ?_⟩
          refine LoopOb.of (σ := Nat) (fun j => ([(3, avOf (slN (allL l))), (4, .own 4), (5, .d (I i)), (6, .box 6 0), (7, .d (I k)), (8, .box 8 0), (17, avOf (slN (allL l))), (18, .d (I (allL l).length)), (19, .d (I i)), (26, .d (cut (allL l) i)), (27, .d (I i)), (28, .d (I k)), (68, .d (cut (allL l) k)), (69, .d (I k)), (70, .d (I j))], [(4, row0), (6, bxN ((allL l).getD i default)), (8, bxN ((allL l).getD k default))])) (fun j => j ≤ k ∧ findJ (allL l) i k j = none) (fun j => k - j) 0
            ⟨rfl, ⟨obR rfl ⟨rfl, .inl rfl⟩, obD4 rfl, obD4 rfl, trivial⟩, avR _ rfl, avQ rfl, avR _ rfl, avQ rfl, avR _ rfl, avQ rfl, avR _ rfl, avR _ rfl, avR _ rfl, avR _ rfl, avR _ rfl, avR _ rfl, avE rfl ⟨by omega, .inr ⟨rfl, fun _ _ _ _ => D.eqv_refl _⟩⟩, avI rfl (by omega), avR _ rfl, trivial⟩ ⟨Nat.zero_le _, rfl⟩ fun j hj => ?_
          obtain ⟨j1, j2⟩ := hj
          refine Split.by (fun h5 => ?_) (fun h5 => ?_)
          · have h5 : j < k := by simpa using h5
            have oj := hall _ (gd1 (show j < (allL l).length by omega) default)
            have cj : -262144 ≤ ((allL l).getD (j : Int).toNat default).h.C ∧ ((allL l).getD (j : Int).toNat default).h.C ≤ 262144 := by rw [Int.toNat_natCast]; exact oj.c
            have d0 := det_bd oh oj
            have d1 := det_bd oj og
            have d2 := det_bd og oh
            refine ⟨⟨rfl, by omega, by omega⟩, ?_⟩
            refine Exists.intro (List.range 18) (And.intro (by kernel_rfl) (FzOb.no ?_))
            refine CallOb.pure (s_det ((allL l).getD k default).h ((allL l).getD j default).h oh oj) rfl rfl ?_
            refine CallOb.pure (s_det ((allL l).getD j default).h ((allL l).getD i default).h oj og) rfl rfl ?_
            refine CallOb.pure (s_det ((allL l).getD i default).h ((allL l).getD k default).h og oh) rfl rfl ?_
            refine ⟨⟨by decide, by decide⟩, ?_⟩
            refine Split.by (fun h6 => ?_) (fun h6 => ?_)
            · have h6 : det ((allL l).getD k default).h ((allL l).getD j default).h < 0 := dT h6
              refine ⟨⟨by decide, by decide⟩, ⟨inI64 (by omega) (by omega), ⟨⟨by decide, by decide⟩, ⟨inI64 (by omega) (by omega), ⟨⟨by decide, by decide⟩, ⟨inI64 (by omega) (by omega), ?_⟩⟩⟩⟩⟩⟩
              have ta : triA ((allL l).getD i default).h ((allL l).getD k default).h ((allL l).getD j default).h = -det ((allL l).getD k default).h ((allL l).getD j default).h := by unfold triA; exact flip_neg h6
              have tb : triB ((allL l).getD i default).h ((allL l).getD k default).h ((allL l).getD j default).h = -det ((allL l).getD j default).h ((allL l).getD i default).h := by unfold triB; exact flip_neg h6
              have tc : triC ((allL l).getD i default).h ((allL l).getD k default).h ((allL l).getD j default).h = -det ((allL l).getD i default).h ((allL l).getD k default).h := by unfold triC; exact flip_neg h6
              have q0 := mulB (a := -det ((allL l).getD k default).h ((allL l).getD j default).h) (x := 2000000) (by omega) cg
              have q1 := mulB (a := -det ((allL l).getD j default).h ((allL l).getD i default).h) (x := 2000000) (by omega) ch
              have q2 := mulB (a := -det ((allL l).getD i default).h ((allL l).getD k default).h) (x := 2000000) (by omega) cj
              refine ⟨⟨by decide, by decide⟩, ?_⟩
              refine Split.by (fun g1 => ?_) (fun g1 => ?_)
              · refine ⟨⟨by decide, by decide⟩, ?_⟩
                refine Split.tt ?_
                refine Split.by (fun g2 => ?_) (fun g2 => ?_)
                · refine ⟨⟨by decide, by decide⟩, ?_⟩
                  refine Split.tt ?_
                  refine Split.by (fun g3 => ?_) (fun g3 => ?_)
                  · refine ⟨⟨by decide, by decide⟩, ⟨inI64 (by omega) (by omega), ⟨⟨by decide, by decide⟩, ⟨inI64 (by omega) (by omega), ⟨inI64 (by omega) (by omega), ⟨⟨by decide, by decide⟩, ⟨inI64 (by omega) (by omega), ⟨inI64 (by omega) (by omega), ?_⟩⟩⟩⟩⟩⟩⟩⟩
                    refine Split.tt ?_
                    refine Split.by (fun g4 => ?_) (fun g4 => ?_)
                    · refine ⟨⟨by decide, by decide⟩, ⟨⟨by decide, by decide⟩, ⟨⟨by decide, by decide⟩, ?_⟩⟩⟩
                      rw [hit3 h1 h2 h5 i2 k2 e0 j2 (three_yes ta tb tc (dT g1) (dT g2) (dT g3) (dT g4))]
                      exact ⟨⟨_, _, _, _, rfl, eqU3 rfl rfl rfl rfl rfl rfl⟩, trivial⟩
                    · have e3 : three ((allL l).getD i default) ((allL l).getD k default) ((allL l).getD j default) = none := three_no ta tb tc fun hh => dF g4 hh.2
                      refine ⟨inI64 (by omega) (by omega), ?_⟩
                      refine ⟨j + 1, ⟨rfl, ⟨obR rfl ⟨rfl, .inl rfl⟩, obD4 rfl, obD4 rfl, trivial⟩, avR _ rfl, avQ rfl, avR _ rfl, avQ rfl, avR _ rfl, avQ rfl, avR _ rfl, avR _ rfl, avR _ rfl, avR _ rfl, avR _ rfl, avR _ rfl, avR _ rfl, avR _ rfl, avI rfl rfl, trivial⟩, ⟨h5, ?_⟩, ?_⟩
                      · simp only [findJ, j2, e3, Option.none_or]
                      · show k - (j + 1) < k - j
                        omega
                  · have e3 : three ((allL l).getD i default) ((allL l).getD k default) ((allL l).getD j default) = none := three_no ta tb tc fun hh => dF g3 hh.1.2.2
                    refine Split.ff ?_
                    refine Split.ff ?_
                    refine ⟨inI64 (by omega) (by omega), ?_⟩
                    refine ⟨j + 1, ⟨rfl, ⟨obR rfl ⟨rfl, .inl rfl⟩, obD4 rfl, obD4 rfl, trivial⟩, avR _ rfl, avQ rfl, avR _ rfl, avQ rfl, avR _ rfl, avQ rfl, avR _ rfl, avR _ rfl, avR _ rfl, avR _ rfl, avR _ rfl, avR _ rfl, avR _ rfl, avR _ rfl, avI rfl rfl, trivial⟩, ⟨h5, ?_⟩, ?_⟩
                    · simp only [findJ, j2, e3, Option.none_or]
                    · show k - (j + 1) < k - j
                      omega
                · have e3 : three ((allL l).getD i default) ((allL l).getD k default) ((allL l).getD j default) = none := three_no ta tb tc fun hh => dF g2 hh.1.2.1
                  refine Split.ff ?_
                  refine Split.ff ?_
                  refine Split.ff ?_
                  refine Split.ff ?_
                  refine ⟨inI64 (by omega) (by omega), ?_⟩
                  refine ⟨j + 1, ⟨rfl, ⟨obR rfl ⟨rfl, .inl rfl⟩, obD4 rfl, obD4 rfl, trivial⟩, avR _ rfl, avQ rfl, avR _ rfl, avQ rfl, avR _ rfl, avQ rfl, avR _ rfl, avR _ rfl, avR _ rfl, avR _ rfl, avR _ rfl, avR _ rfl, avR _ rfl, avR _ rfl, avI rfl rfl, trivial⟩, ⟨h5, ?_⟩, ?_⟩
                  · simp only [findJ, j2, e3, Option.none_or]
                  · show k - (j + 1) < k - j
                    omega
              · have e3 : three ((allL l).getD i default) ((allL l).getD k default) ((allL l).getD j default) = none := three_no ta tb tc fun hh => dF g1 hh.1.1
                refine Split.ff ?_
                refine Split.ff ?_
                refine Split.ff ?_
                refine Split.ff ?_
                refine Split.ff ?_
                refine Split.ff ?_
                refine ⟨inI64 (by omega) (by omega), ?_⟩
                refine ⟨j + 1, ⟨rfl, ⟨obR rfl ⟨rfl, .inl rfl⟩, obD4 rfl, obD4 rfl, trivial⟩, avR _ rfl, avQ rfl, avR _ rfl, avQ rfl, avR _ rfl, avQ rfl, avR _ rfl, avR _ rfl, avR _ rfl, avR _ rfl, avR _ rfl, avR _ rfl, avR _ rfl, avR _ rfl, avI rfl rfl, trivial⟩, ⟨h5, ?_⟩, ?_⟩
                · simp only [findJ, j2, e3, Option.none_or]
                · show k - (j + 1) < k - j
                  omega
            · have h6 : ¬ det ((allL l).getD k default).h ((allL l).getD j default).h < 0 := dF h6
              have ta : triA ((allL l).getD i default).h ((allL l).getD k default).h ((allL l).getD j default).h = det ((allL l).getD k default).h ((allL l).getD j default).h := by unfold triA; exact flip_pos h6
              have tb : triB ((allL l).getD i default).h ((allL l).getD k default).h ((allL l).getD j default).h = det ((allL l).getD j default).h ((allL l).getD i default).h := by unfold triB; exact flip_pos h6
              have tc : triC ((allL l).getD i default).h ((allL l).getD k default).h ((allL l).getD j default).h = det ((allL l).getD i default).h ((allL l).getD k default).h := by unfold triC; exact flip_pos h6
              have q0 := mulB (a := det ((allL l).getD k default).h ((allL l).getD j default).h) (x := 2000000) (by omega) cg
              have q1 := mulB (a := det ((allL l).getD j default).h ((allL l).getD i default).h) (x := 2000000) (by omega) ch
              have q2 := mulB (a := det ((allL l).getD i default).h ((allL l).getD k default).h) (x := 2000000) (by omega) cj
              refine ⟨⟨by decide, by decide⟩, ?_⟩
              refine Split.by (fun g1 => ?_) (fun g1 => ?_)
              · refine ⟨⟨by decide, by decide⟩, ?_⟩
                refine Split.tt ?_
                refine Split.by (fun g2 => ?_) (fun g2 => ?_)
                · refine ⟨⟨by decide, by decide⟩, ?_⟩
                  refine Split.tt ?_
                  refine Split.by (fun g3 => ?_) (fun g3 => ?_)
                  · refine ⟨⟨by decide, by decide⟩, ⟨inI64 (by omega) (by omega), ⟨⟨by decide, by decide⟩, ⟨inI64 (by omega) (by omega), ⟨inI64 (by omega) (by omega), ⟨⟨by decide, by decide⟩, ⟨inI64 (by omega) (by omega), ⟨inI64 (by omega) (by omega), ?_⟩⟩⟩⟩⟩⟩⟩⟩
                    refine Split.tt ?_
                    refine Split.by (fun g4 => ?_) (fun g4 => ?_)
                    · refine ⟨⟨by decide, by decide⟩, ⟨⟨by decide, by decide⟩, ⟨⟨by decide, by decide⟩, ?_⟩⟩⟩
                      rw [hit3 h1 h2 h5 i2 k2 e0 j2 (three_yes ta tb tc (dT g1) (dT g2) (dT g3) (dT g4))]
                      exact ⟨⟨_, _, _, _, rfl, eqU3 rfl rfl rfl rfl rfl rfl⟩, trivial⟩
                    · have e3 : three ((allL l).getD i default) ((allL l).getD k default) ((allL l).getD j default) = none := three_no ta tb tc fun hh => dF g4 hh.2
                      refine ⟨inI64 (by omega) (by omega), ?_⟩
                      refine ⟨j + 1, ⟨rfl, ⟨obR rfl ⟨rfl, .inl rfl⟩, obD4 rfl, obD4 rfl, trivial⟩, avR _ rfl, avQ rfl, avR _ rfl, avQ rfl, avR _ rfl, avQ rfl, avR _ rfl, avR _ rfl, avR _ rfl, avR _ rfl, avR _ rfl, avR _ rfl, avR _ rfl, avR _ rfl, avI rfl rfl, trivial⟩, ⟨h5, ?_⟩, ?_⟩
                      · simp only [findJ, j2, e3, Option.none_or]
                      · show k - (j + 1) < k - j
                        omega
                  · have e3 : three ((allL l).getD i default) ((allL l).getD k default) ((allL l).getD j default) = none := three_no ta tb tc fun hh => dF g3 hh.1.2.2
                    refine Split.ff ?_
                    refine Split.ff ?_
                    refine ⟨inI64 (by omega) (by omega), ?_⟩
                    refine ⟨j + 1, ⟨rfl, ⟨obR rfl ⟨rfl, .inl rfl⟩, obD4 rfl, obD4 rfl, trivial⟩, avR _ rfl, avQ rfl, avR _ rfl, avQ rfl, avR _ rfl, avQ rfl, avR _ rfl, avR _ rfl, avR _ rfl, avR _ rfl, avR _ rfl, avR _ rfl, avR _ rfl, avR _ rfl, avI rfl rfl, trivial⟩, ⟨h5, ?_⟩, ?_⟩
                    · simp only [findJ, j2, e3, Option.none_or]
                    · show k - (j + 1) < k - j
                      omega
                · have e3 : three ((allL l).getD i default) ((allL l).getD k default) ((allL l).getD j default) = none := three_no ta tb tc fun hh => dF g2 hh.1.2.1
                  refine Split.ff ?_
                  refine Split.ff ?_
                  refine Split.ff ?_
                  refine Split.ff ?_
                  refine ⟨inI64 (by omega) (by omega), ?_⟩
                  refine ⟨j + 1, ⟨rfl, ⟨obR rfl ⟨rfl, .inl rfl⟩, obD4 rfl, obD4 rfl, trivial⟩, avR _ rfl, avQ rfl, avR _ rfl, avQ rfl, avR _ rfl, avQ rfl, avR _ rfl, avR _ rfl, avR _ rfl, avR _ rfl, avR _ rfl, avR _ rfl, avR _ rfl, avR _ rfl, avI rfl rfl, trivial⟩, ⟨h5, ?_⟩, ?_⟩
                  · simp only [findJ, j2, e3, Option.none_or]
                  · show k - (j + 1) < k - j
                    omega
              · have e3 : three ((allL l).getD i default) ((allL l).getD k default) ((allL l).getD j default) = none := three_no ta tb tc fun hh => dF g1 hh.1.1
                refine Split.ff ?_
                refine Split.ff ?_
                refine Split.ff ?_
                refine Split.ff ?_
                refine Split.ff ?_
                refine Split.ff ?_
                refine ⟨inI64 (by omega) (by omega), ?_⟩
                refine ⟨j + 1, ⟨rfl, ⟨obR rfl ⟨rfl, .inl rfl⟩, obD4 rfl, obD4 rfl, trivial⟩, avR _ rfl, avQ rfl, avR _ rfl, avQ rfl, avR _ rfl, avQ rfl, avR _ rfl, avR _ rfl, avR _ rfl, avR _ rfl, avR _ rfl, avR _ rfl, avR _ rfl, avR _ rfl, avI rfl rfl, trivial⟩, ⟨h5, ?_⟩, ?_⟩
                · simp only [findJ, j2, e3, Option.none_or]
                · show k - (j + 1) < k - j
                  omega
          · have h5 : j = k := by
              have : ¬ j < k := by simpa using h5
              omega
            refine ⟨inI64 (by omega) (by omega), ?_⟩
            refine ⟨k + 1, ⟨rfl, ⟨obR rfl ⟨rfl, .inl rfl⟩, obD4 rfl, trivial⟩, avR _ rfl, avQ rfl, avR _ rfl, avQ rfl, avR _ rfl, avR _ rfl, avR _ rfl, avR _ rfl, avR _ rfl, avI rfl rfl, trivial⟩, ⟨h2, ?_⟩, ?_⟩
            · rw [h5] at j2
              simp only [findK, k2, e0, j2, Option.none_or]
            · show i - (k + 1) < i - k
              omega
      · have e0 : two ((allL l).getD i default) ((allL l).getD k default) = none := two_no fun hh => by rw [hh.1] at h3; cases h3
        refine Split.ff ?_
        refine Split.ff ?_
        refine ⟨⟨.inr rfl, by omega, by omega⟩, ?_⟩
        refine LoopOb.of (σ := Nat) (fun j => ([(3, avOf (slN (allL l))), (4, .own 4), (5, .d (I i)), (6, .box 6 0), (7, .d (I k)), (8, .box 8 0), (17, avOf (slN (allL l))), (18, .d (I (allL l).length)), (19, .d (I i)), (26, .d (cut (allL l) i)), (27, .d (I i)), (28, .d (I k)), (68, .d (cut (allL l) k)), (69, .d (I k)), (70, .d (I j))], [(4, row0), (6, bxN ((allL l).getD i default)), (8, bxN ((allL l).getD k default))])) (fun j => j ≤ k ∧ findJ (allL l) i k j = none) (fun j => k - j) 0
          ⟨rfl, ⟨obR rfl ⟨rfl, .inl rfl⟩, obD4 rfl, obD4 rfl, trivial⟩, avR _ rfl, avQ rfl, avR _ rfl, avQ rfl, avR _ rfl, avQ rfl, avR _ rfl, avR _ rfl, avR _ rfl, avR _ rfl, avR _ rfl, avR _ rfl, avE rfl ⟨by omega, .inr ⟨rfl, fun _ _ _ _ => D.eqv_refl _⟩⟩, avI rfl (by omega), avR _ rfl, trivial⟩ ⟨Nat.zero_le _, rfl⟩ fun j hj => ?_
        obtain ⟨j1, j2⟩ := hj
        refine Split.by (fun h5 => ?_) (fun h5 => ?_)
        · have h5 : j < k := by simpa using h5
          have oj := hall _ (gd1 (show j < (allL l).length by omega) default)
          have cj : -262144 ≤ ((allL l).getD (j : Int).toNat default).h.C ∧ ((allL l).getD (j : Int).toNat default).h.C ≤ 262144 := by rw [Int.toNat_natCast]; exact oj.c
          have d0 := det_bd oh oj
          have d1 := det_bd oj og
          have d2 := det_bd og oh
          refine ⟨⟨rfl, by omega, by omega⟩, ?_⟩
          refine Exists.intro (List.range 18) (And.intro (by kernel_rfl) (FzOb.no ?_))
          refine CallOb.pure (s_det ((allL l).getD k default).h ((allL l).getD j default).h oh oj) rfl rfl ?_
          refine CallOb.pure (s_det ((allL l).getD j default).h ((allL l).getD i default).h oj og) rfl rfl ?_
          refine CallOb.pure (s_det ((allL l).getD i default).h ((allL l).getD k default).h og oh) rfl rfl ?_
          refine ⟨⟨by decide, by decide⟩, ?_⟩
          refine Split.by (fun h6 => ?_) (fun h6 => ?_)
          · have h6 : det ((allL l).getD k default).h ((allL l).getD j default).h < 0 := dT h6
            refine ⟨⟨by decide, by decide⟩, ⟨inI64 (by omega) (by omega), ⟨⟨by decide, by decide⟩, ⟨inI64 (by omega) (by omega), ⟨⟨by decide, by decide⟩, ⟨inI64 (by omega) (by omega), ?_⟩⟩⟩⟩⟩⟩
            have ta : triA ((allL l).getD i default).h ((allL l).getD k default).h ((allL l).getD j default).h = -det ((allL l).getD k default).h ((allL l).getD j default).h := by unfold triA; exact flip_neg h6
            have tb : triB ((allL l).getD i default).h ((allL l).getD k default).h ((allL l).getD j default).h = -det ((allL l).getD j default).h ((allL l).getD i default).h := by unfold triB; exact flip_neg h6
            have tc : triC ((allL l).getD i default).h ((allL l).getD k default).h ((allL l).getD j default).h = -det ((allL l).getD i default).h ((allL l).getD k default).h := by unfold triC; exact flip_neg h6
            have q0 := mulB (a := -det ((allL l).getD k default).h ((allL l).getD j default).h) (x := 2000000) (by omega) cg
            have q1 := mulB (a := -det ((allL l).getD j default).h ((allL l).getD i default).h) (x := 2000000) (by omega) ch
            have q2 := mulB (a := -det ((allL l).getD i default).h ((allL l).getD k default).h) (x := 2000000) (by omega) cj
            refine ⟨⟨by decide, by decide⟩, ?_⟩
            refine Split.by (fun g1 => ?_) (fun g1 => ?_)
            · refine ⟨⟨by decide, by decide⟩, ?_⟩
              refine Split.tt ?_
              refine Split.by (fun g2 => ?_) (fun g2 => ?_)
              · refine ⟨⟨by decide, by decide⟩, ?_⟩
                refine Split.tt ?_
                refine Split.by (fun g3 => ?_) (fun g3 => ?_)
                · refine ⟨⟨by decide, by decide⟩, ⟨inI64 (by omega) (by omega), ⟨⟨by decide, by decide⟩, ⟨inI64 (by omega) (by omega), ⟨inI64 (by omega) (by omega), ⟨⟨by decide, by decide⟩, ⟨inI64 (by omega) (by omega), ⟨inI64 (by omega) (by omega), ?_⟩⟩⟩⟩⟩⟩⟩⟩
                  refine Split.tt ?_
                  refine Split.by (fun g4 => ?_) (fun g4 => ?_)
                  · refine ⟨⟨by decide, by decide⟩, ⟨⟨by decide, by decide⟩, ⟨⟨by decide, by decide⟩, ?_⟩⟩⟩
                    rw [hit3 h1 h2 h5 i2 k2 e0 j2 (three_yes ta tb tc (dT g1) (dT g2) (dT g3) (dT g4))]
                    exact ⟨⟨_, _, _, _, rfl, eqU3 rfl rfl rfl rfl rfl rfl⟩, trivial⟩
                  · have e3 : three ((allL l).getD i default) ((allL l).getD k default) ((allL l).getD j default) = none := three_no ta tb tc fun hh => dF g4 hh.2
                    refine ⟨inI64 (by omega) (by omega), ?_⟩
                    refine ⟨j + 1, ⟨rfl, ⟨obR rfl ⟨rfl, .inl rfl⟩, obD4 rfl, obD4 rfl, trivial⟩, avR _ rfl, avQ rfl, avR _ rfl, avQ rfl, avR _ rfl, avQ rfl, avR _ rfl, avR _ rfl, avR _ rfl, avR _ rfl, avR _ rfl, avR _ rfl, avR _ rfl, avR _ rfl, avI rfl rfl, trivial⟩, ⟨h5, ?_⟩, ?_⟩
                    · simp only [findJ, j2, e3, Option.none_or]
                    · show k - (j + 1) < k - j
                      omega
                · have e3 : three ((allL l).getD i default) ((allL l).getD k default) ((allL l).getD j default) = none := three_no ta tb tc fun hh => dF g3 hh.1.2.2
                  refine Split.ff ?_
                  refine Split.ff ?_
                  refine ⟨inI64 (by omega) (by omega), ?_⟩
                  refine ⟨j + 1, ⟨rfl, ⟨obR rfl ⟨rfl, .inl rfl⟩, obD4 rfl, obD4 rfl, trivial⟩, avR _ rfl, avQ rfl, avR _ rfl, avQ rfl, avR _ rfl, avQ rfl, avR _ rfl, avR _ rfl, avR _ rfl, avR _ rfl, avR _ rfl, avR _ rfl, avR _ rfl, avR _ rfl, avI rfl rfl, trivial⟩, ⟨h5, ?_⟩, ?_⟩
                  · simp only [findJ, j2, e3, Option.none_or]
                  · show k - (j + 1) < k - j
                    omega
              · have e3 : three ((allL l).getD i default) ((allL l).getD k default) ((allL l).getD j default) = none := three_no ta tb tc fun hh => dF g2 hh.1.2.1
                refine Split.ff ?_
                refine Split.ff ?_
                refine Split.ff ?_
                refine Split.ff ?_
                refine ⟨inI64 (by omega) (by omega), ?_⟩
                refine ⟨j + 1, ⟨rfl, ⟨obR rfl ⟨rfl, .inl rfl⟩, obD4 rfl, obD4 rfl, trivial⟩, avR _ rfl, avQ rfl, avR _ rfl, avQ rfl, avR _ rfl, avQ rfl, avR _ rfl, avR _ rfl, avR _ rfl, avR _ rfl, avR _ rfl, avR _ rfl, avR _ rfl, avR _ rfl, avI rfl rfl, trivial⟩, ⟨h5, ?_⟩, ?_⟩
                · simp only [findJ, j2, e3, Option.none_or]
                · show k - (j + 1) < k - j
                  omega
            · have e3 : three ((allL l).getD i default) ((allL l).getD k default) ((allL l).getD j default) = none := three_no ta tb tc fun hh => dF g1 hh.1.1
              refine Split.ff ?_
              refine Split.ff ?_
              refine Split.ff ?_
              refine Split.ff ?_
              refine Split.ff ?_
              refine Split.ff ?_
              refine ⟨inI64 (by omega) (by omega), ?_⟩
              refine ⟨j + 1, ⟨rfl, ⟨obR rfl ⟨rfl, .inl rfl⟩, obD4 rfl, obD4 rfl, trivial⟩, avR _ rfl, avQ rfl, avR _ rfl, avQ rfl, avR _ rfl, avQ rfl, avR _ rfl, avR _ rfl, avR _ rfl, avR _ rfl, avR _ rfl, avR _ rfl, avR _ rfl, avR _ rfl, avI rfl rfl, trivial⟩, ⟨h5, ?_⟩, ?_⟩
              · simp only [findJ, j2, e3, Option.none_or]
              · show k - (j + 1) < k - j
                omega
          · have h6 : ¬ det ((allL l).getD k default).h ((allL l).getD j default).h < 0 := dF h6
            have ta : triA ((allL l).getD i default).h ((allL l).getD k default).h ((allL l).getD j default).h = det ((allL l).getD k default).h ((allL l).getD j default).h := by unfold triA; exact flip_pos h6
            have tb : triB ((allL l).getD i default).h ((allL l).getD k default).h ((allL l).getD j default).h = det ((allL l).getD j default).h ((allL l).getD i default).h := by unfold triB; exact flip_pos h6
            have tc : triC ((allL l).getD i default).h ((allL l).getD k default).h ((allL l).getD j default).h = det ((allL l).getD i default).h ((allL l).getD k default).h := by unfold triC; exact flip_pos h6
            have q0 := mulB (a := det ((allL l).getD k default).h ((allL l).getD j default).h) (x := 2000000) (by omega) cg
            have q1 := mulB (a := det ((allL l).getD j default).h ((allL l).getD i default).h) (x := 2000000) (by omega) ch
            have q2 := mulB (a := det ((allL l).getD i default).h ((allL l).getD k default).h) (x := 2000000) (by omega) cj
            refine ⟨⟨by decide, by decide⟩, ?_⟩
            refine Split.by (fun g1 => ?_) (fun g1 => ?_)
            · refine ⟨⟨by decide, by decide⟩, ?_⟩
              refine Split.tt ?_
              refine Split.by (fun g2 => ?_) (fun g2 => ?_)
              · refine ⟨⟨by decide, by decide⟩, ?_⟩
                refine Split.tt ?_
                refine Split.by (fun g3 => ?_) (fun g3 => ?_)
                · refine ⟨⟨by decide, by decide⟩, ⟨inI64 (by omega) (by omega), ⟨⟨by decide, by decide⟩, ⟨inI64 (by omega) (by omega), ⟨inI64 (by omega) (by omega), ⟨⟨by decide, by decide⟩, ⟨inI64 (by omega) (by omega), ⟨inI64 (by omega) (by omega), ?_⟩⟩⟩⟩⟩⟩⟩⟩
                  refine Split.tt ?_
                  refine Split.by (fun g4 => ?_) (fun g4 => ?_)
                  · refine ⟨⟨by decide, by decide⟩, ⟨⟨by decide, by decide⟩, ⟨⟨by decide, by decide⟩, ?_⟩⟩⟩
                    rw [hit3 h1 h2 h5 i2 k2 e0 j2 (three_yes ta tb tc (dT g1) (dT g2) (dT g3) (dT g4))]
                    exact ⟨⟨_, _, _, _, rfl, eqU3 rfl rfl rfl rfl rfl rfl⟩, trivial⟩
                  · have e3 : three ((allL l).getD i default) ((allL l).getD k default) ((allL l).getD j default) = none := three_no ta tb tc fun hh => dF g4 hh.2
                    refine ⟨inI64 (by omega) (by omega), ?_⟩
                    refine ⟨j + 1, ⟨rfl, ⟨obR rfl ⟨rfl, .inl rfl⟩, obD4 rfl, obD4 rfl, trivial⟩, avR _ rfl, avQ rfl, avR _ rfl, avQ rfl, avR _ rfl, avQ rfl, avR _ rfl, avR _ rfl, avR _ rfl, avR _ rfl, avR _ rfl, avR _ rfl, avR _ rfl, avR _ rfl, avI rfl rfl, trivial⟩, ⟨h5, ?_⟩, ?_⟩
                    · simp only [findJ, j2, e3, Option.none_or]
                    · show k - (j + 1) < k - j
                      omega
                · have e3 : three ((allL l).getD i default) ((allL l).getD k default) ((allL l).getD j default) = none := three_no ta tb tc fun hh => dF g3 hh.1.2.2
                  refine Split.ff ?_
                  refine Split.ff ?_
                  refine ⟨inI64 (by omega) (by omega), ?_⟩
                  refine ⟨j + 1, ⟨rfl, ⟨obR rfl ⟨rfl, .inl rfl⟩, obD4 rfl, obD4 rfl, trivial⟩, avR _ rfl, avQ rfl, avR _ rfl, avQ rfl, avR _ rfl, avQ rfl, avR _ rfl, avR _ rfl, avR _ rfl, avR _ rfl, avR _ rfl, avR _ rfl, avR _ rfl, avR _ rfl, avI rfl rfl, trivial⟩, ⟨h5, ?_⟩, ?_⟩
                  · simp only [findJ, j2, e3, Option.none_or]
                  · show k - (j + 1) < k - j
                    omega
              · have e3 : three ((allL l).getD i default) ((allL l).getD k default) ((allL l).getD j default) = none := three_no ta tb tc fun hh => dF g2 hh.1.2.1
                refine Split.ff ?_
                refine Split.ff ?_
                refine Split.ff ?_
                refine Split.ff ?_
                refine ⟨inI64 (by omega) (by omega), ?_⟩
                refine ⟨j + 1, ⟨rfl, ⟨obR rfl ⟨rfl, .inl rfl⟩, obD4 rfl, obD4 rfl, trivial⟩, avR _ rfl, avQ rfl, avR _ rfl, avQ rfl, avR _ rfl, avQ rfl, avR _ rfl, avR _ rfl, avR _ rfl, avR _ rfl, avR _ rfl, avR _ rfl, avR _ rfl, avR _ rfl, avI rfl rfl, trivial⟩, ⟨h5, ?_⟩, ?_⟩
                · simp only [findJ, j2, e3, Option.none_or]
                · show k - (j + 1) < k - j
                  omega
            · have e3 : three ((allL l).getD i default) ((allL l).getD k default) ((allL l).getD j default) = none := three_no ta tb tc fun hh => dF g1 hh.1.1
              refine Split.ff ?_
              refine Split.ff ?_
              refine Split.ff ?_
              refine Split.ff ?_
              refine Split.ff ?_
              refine Split.ff ?_
              refine ⟨inI64 (by omega) (by omega), ?_⟩
              refine ⟨j + 1, ⟨rfl, ⟨obR rfl ⟨rfl, .inl rfl⟩, obD4 rfl, obD4 rfl, trivial⟩, avR _ rfl, avQ rfl, avR _ rfl, avQ rfl, avR _ rfl, avQ rfl, avR _ rfl, avR _ rfl, avR _ rfl, avR _ rfl, avR _ rfl, avR _ rfl, avR _ rfl, avR _ rfl, avI rfl rfl, trivial⟩, ⟨h5, ?_⟩, ?_⟩
              · simp only [findJ, j2, e3, Option.none_or]
              · show k - (j + 1) < k - j
                omega
        · have h5 : j = k := by
            have : ¬ j < k := by simpa using h5
            omega
          refine ⟨inI64 (by omega) (by omega), ?_⟩
          refine ⟨k + 1, ⟨rfl, ⟨obR rfl ⟨rfl, .inl rfl⟩, obD4 rfl, trivial⟩, avR _ rfl, avQ rfl, avR _ rfl, avQ rfl, avR _ rfl, avR _ rfl, avR _ rfl, avR _ rfl, avR _ rfl, avI rfl rfl, trivial⟩, ⟨h2, ?_⟩, ?_⟩
          · rw [h5] at j2
            simp only [findK, k2, e0, j2, Option.none_or]
          · show i - (k + 1) < i - k
            omega
    · have h2 : k = i := by
        have : ¬ k < i := by simpa using h2
        omega
      refine ⟨inI64 (by omega) (by omega), ?_⟩
      refine ⟨i + 1, ⟨rfl, ⟨obR rfl ⟨rfl, .inl rfl⟩, trivial⟩, avR _ rfl, avQ rfl, avR _ rfl, avR _ rfl, avI rfl rfl, trivial⟩, ⟨h1, ?_⟩, ?_⟩
      · simp only [findI, i2, Option.none_or]; rw [← h2] at k2 ⊢; exact k2
      · show (allL l).length - (i + 1) < (allL l).length - i
        omega
  · have h1 : i = (allL l).length := by
      have : ¬ i < (allL l).length := by simpa using h1
      omega
    have e : refL l = [] := by unfold refL; rw [← h1, i2]; rfl
    rw [e]
    exact ⟨⟨_, _, _, _, rfl, ⟨rfl, .inl rfl⟩⟩, trivial⟩
end Go.Pg
