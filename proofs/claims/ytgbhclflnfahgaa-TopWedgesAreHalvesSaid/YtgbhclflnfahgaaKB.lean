/-
  Contracts: half.sum (it keeps a map of what it has seen).
-/
import Derived.Test.YtgbhclflnfahgaaKA
set_option linter.all false
set_option maxRecDepth 100000
namespace Go.Pg
open Go.Proofs Go.RowKit

theorem ret2CB {T : TT} {s : St} {a t i u : Nat} {ti : TI} {cs : List AV} {xs ys : List D} (h1 : s.sl a = .box i 0) (h2 : T t = some ti) (h3 : s.ob i = some (.box cs)) (h4 : Nat.beq cs.length ti.size = true) (h5 : ti.agg = true) (h6 : allD cs = some xs) {b c : Bool} (h7 : s.sl u = .d (.bool b)) (he : eqvs xs ys) (e : b = c) :
    RetAll T s [.cell a t, .tmp u] [.agg ys, .d (.bool c)] := ⟨rtC (a := a) h1 h2 h3 h4 h5 h6 he, rtB h7 e, trivial⟩
theorem obM {s : St} {ob : Nat → Option Ob} {ks ks' : List Int} {o : Option Ob} (h : o = some (.mp ks)) (e : ks = ks') : Oble s ob o (.mp ks') := by subst h; exact e
abbrev bxHs (h : Half) : Ob := .box [.d (I h.A), .d (I h.B), .d (I h.C)]
theorem obHs {s : St} {ob : Nat → Option Ob} {a b c : Int} {h : Half} {o : Option Ob} (g : o = some (.box [.d (I a), .d (I b), .d (I c)])) (e : (⟨a, b, c⟩ : Half) = h) : Oble s ob o (bxHs h) := by
  subst e; exact obD [I a, I b, I c] g
/-- May a use stand behind uses of ks? -/
def useOk (n : Nat) (u : Use) (ks : List Int) : Bool := within u.H (-4) ((n : Int) - 1) && !ks.contains u.H && within u.T 1 2097152
@[irreducible] def keysTo (U : List Use) (i : Nat) : List Int := (U.take i).map fun u => u.H
theorem keysTo_zero (U : List Use) : keysTo U 0 = [] := by unfold keysTo; rfl
theorem keysTo_succ (U : List Use) {i : Nat} (h : i < U.length) : keysTo U (i + 1) = keysTo U i ++ [(U.getD i default).H] := by
  unfold keysTo
  rw [take1 h default, List.map_append]; rfl
@[irreducible] def okTo (n : Nat) (U : List Use) (i : Nat) : Bool := (List.range i).all fun j => useOk n (U.getD j default) (keysTo U j)
theorem okTo_zero (n : Nat) (U : List Use) : okTo n U 0 = true := by unfold okTo; rfl
theorem okTo_succ (n : Nat) (U : List Use) (i : Nat) : okTo n U (i + 1) = (okTo n U i && useOk n (U.getD i default) (keysTo U i)) := by
  unfold okTo
  rw [List.range_succ, List.all_append]; simp
theorem okTo_no {n : Nat} {U : List Use} {i m : Nat} (hi : i < m) (h : useOk n (U.getD i default) (keysTo U i) = false) : okTo n U m = false := by
  unfold okTo
  exact List.all_eq_false.2 ⟨i, List.mem_range.2 hi, by rw [h]; decide⟩
@[irreducible] def formedL (n : Nat) (U : List Use) : Bool := decide (U.length ≤ 4) && okTo n U U.length
@[irreducible] def sumE (l : List Half) (U : List Use) : Half × Bool := if formedL l.length U = true then (sumU l U, true) else (⟨0, 0, 0⟩, false)
@[irreducible] def sumAt (l : List Half) (U : List Use) (i : Nat) : Half := sumU l (U.take i)
theorem sumAt_zero (l : List Half) (U : List Use) : sumAt l U 0 = ⟨0, 0, 0⟩ := by unfold sumAt; rfl
theorem sumAt_succ (l : List Half) (U : List Use) {i : Nat} (h : i < U.length) : sumAt l U (i + 1) = plusH (sumAt l U i) (U.getD i default).T (useH l (U.getD i default).H) := by
  unfold sumAt sumU
  rw [take1 h default, List.foldl_append]; rfl
theorem sumAt_all (l : List Half) (U : List Use) : sumAt l U U.length = sumU l U := by unfold sumAt; rw [List.take_length]
structure SmallU (i : Nat) (h : Half) : Prop where
  a : -(2097152000 * i : Int) ≤ h.A ∧ h.A ≤ 2097152000 * i
  b : -(2097152000 * i : Int) ≤ h.B ∧ h.B ≤ 2097152000 * i
  c : -(549755813888 * i : Int) ≤ h.C ∧ h.C ≤ 549755813888 * i
theorem prod_bdU {t : Int} {h : Half} (ht : 1 ≤ t ∧ t ≤ 2097152) (hh : okH h) : (-2097152000 ≤ t * h.A ∧ t * h.A ≤ 2097152000) ∧ (-2097152000 ≤ t * h.B ∧ t * h.B ≤ 2097152000) ∧ (-549755813888 ≤ t * h.C ∧ t * h.C ≤ 549755813888) := by
  have q : -2097152 ≤ t ∧ t ≤ 2097152 := by omega
  exact ⟨mulB q hh.a, mulB q hh.b, mulB q hh.c⟩
theorem SmallU.plus {i : Nat} {a h : Half} {t : Int} (s : SmallU i a) (ht : 1 ≤ t ∧ t ≤ 2097152) (hh : okH h) : SmallU (i + 1) (plusH a t h) := by
  obtain ⟨b1, b2, b3⟩ := prod_bdU ht hh
  have := s.a; have := s.b; have := s.c
  exact ⟨(by show _ ≤ a.A + t * h.A ∧ a.A + t * h.A ≤ _; omega), (by show _ ≤ a.B + t * h.B ∧ a.B + t * h.B ≤ _; omega), (by show _ ≤ a.C + t * h.C ∧ a.C + t * h.C ≤ _; omega)⟩
theorem plus_inU {i : Nat} {a h : Half} {t : Int} (hi : i ≤ 4) (s : SmallU i a) (ht : 1 ≤ t ∧ t ≤ 2097152) (hh : okH h) :
    inR .i64 (t * h.A) ∧ inR .i64 (a.A + t * h.A) ∧ inR .i64 (t * h.B) ∧ inR .i64 (a.B + t * h.B) ∧ inR .i64 (t * h.C) ∧ inR .i64 (a.C + t * h.C) := by
  obtain ⟨b1, b2, b3⟩ := prod_bdU ht hh
  have := s.a; have := s.b; have := s.c
  exact ⟨inI64 (by omega) (by omega), inI64 (by omega) (by omega), inI64 (by omega) (by omega), inI64 (by omega) (by omega), inI64 (by omega) (by omega), inI64 (by omega) (by omega)⟩
theorem useOk_parts {n : Nat} {u : Use} {ks : List Int} (h : useOk n u ks = true) : (-4 ≤ u.H ∧ u.H < n) ∧ ks.contains u.H = false ∧ 1 ≤ u.T ∧ u.T ≤ 2097152 := by
  unfold useOk at h
  simp only [Bool.and_eq_true, within_spec, Bool.not_eq_true'] at h
  exact ⟨⟨h.1.1.1, by omega⟩, h.1.2, h.2⟩
theorem useH_ok {l : List Half} (hl : ∀ x ∈ l, okH x) {n : Int} (h : -4 ≤ n ∧ n < l.length) : okH (useH l n) := by
  unfold useH
  split
  · rename_i hn
    have : sidesL.getD (-1 - n).toNat default ∈ sidesL := gd1 (by show (-1 - n).toNat < 4; omega) default
    have all : ∀ x ∈ sidesL, okH x := fun x hx => by
      simp only [sidesL, List.mem_cons, List.not_mem_nil, or_false] at hx
      rcases hx with rfl | rfl | rfl | rfl <;> exact ⟨by decide, by decide, by decide⟩
    exact all _ this
  · exact hl _ (gd1 (by omega) default)
theorem sum_small {l : List Half} (hl : ∀ x ∈ l, okH x) {U : List Use} : ∀ i, i ≤ U.length → okTo l.length U i = true → SmallU i (sumAt l U i)
  | 0, _, _ => by rw [sumAt_zero]; exact ⟨by decide, by decide, by decide⟩
  | i + 1, hi, h => by
    rw [okTo_succ, Bool.and_eq_true] at h
    obtain ⟨h1, h2⟩ := h
    obtain ⟨p1, p2, p3⟩ := useOk_parts h2
    rw [sumAt_succ l U (by omega)]
    exact (sum_small hl i (by omega) h1).plus p3 (useH_ok hl p1)
set_option maxHeartbeats 4000000 in
theorem s_sum (l : List Half) (U : List Use) (hl : ∀ x ∈ l, okH x) (hn : l.length ≤ 60) : Spec PP 20 [slH l, slU U] [(sumE l U).1.v, B (sumE l U).2] := by
  refine spec_at Try.func20 rfl (by kernel_rfl) rfl ?_
  refine Split.by (fun h1 => ?_) (fun h1 => ?_)
  · have h1 : 4 < U.length := by have := dT h1; omega
    have e : sumE l U = (⟨0, 0, 0⟩, false) := by unfold sumE formedL; rw [if_neg]; rw [Bool.and_eq_true, decide_eq_true_iff]; omega
    rw [e]
    exact ret2CB rfl rfl rfl rfl rfl rfl rfl (eqvs_refl _) rfl
  have h1 : U.length ≤ 4 := by have := dF h1; omega
  refine LoopOb.of (σ := Nat) (fun i => ([(0, avOf (slH l)), (4, .box 4 0), (6, .box 6 0), (7, .own 15), (16, avOf (slU U)), (17, .d (I U.length)), (18, .d (I i))], [(4, bxHs ⟨0, 0, 0⟩), (6, bxHs (sumAt l U i)), (15, .mp (keysTo U i))])) (fun i => i ≤ U.length ∧ okTo l.length U i = true) (fun i => U.length - i) 0
    ⟨rfl, ⟨obHs rfl rfl, obHs rfl (by rw [sumAt_zero]), obM rfl (by rw [keysTo_zero]), trivial⟩, avR _ rfl, avQ rfl, avQ rfl, avQ rfl, avR _ rfl, avR _ rfl, avR _ rfl, trivial⟩ ⟨Nat.zero_le _, okTo_zero _ _⟩ fun i hi => ?_
  obtain ⟨i1, i2⟩ := hi
  have sm := sum_small hl i i1 i2
  refine Split.by (fun g1 => ?_) (fun g1 => ?_)
  · have g1 : i < U.length := by have := dT g1; omega
    have bad : useOk l.length (U.getD i default) (keysTo U i) = false → sumE l U = (⟨0, 0, 0⟩, false) := fun h => by
      unfold sumE formedL; rw [if_neg]; rw [Bool.and_eq_true, okTo_no g1 h]; simp
    refine ⟨⟨rfl, by omega, by omega⟩, ?_⟩
    refine ⟨inI64 (by omega) (by omega), ?_⟩
    refine CallSt.pure (s_within (U.getD i default).H (-4) ((l.length : Int) - 1)) rfl rfl ?_
    refine Split.by (fun g2 => ?_) (fun g2 => ?_)
    · have g2 : within (U.getD i default).H (-4) ((l.length : Int) - 1) = false := by simpa using g2
      refine Split.tt ?_
      refine Split.tt ?_
      refine Split.tt ?_
      refine Split.tt ?_
      rw [bad (by unfold useOk; rw [g2]; rfl)]
      exact ret2CB rfl rfl rfl rfl rfl rfl rfl (eqvs_refl _) rfl
    have g2 : within (U.getD i default).H (-4) ((l.length : Int) - 1) = true := by simpa using g2
    refine Split.ff ?_
    refine Split.by (fun g3 => ?_) (fun g3 => ?_)
    · have g3 : (keysTo U i).contains (U.getD i default).H = true := g3
      refine Split.tt ?_
      refine Split.tt ?_
      rw [bad (by unfold useOk; rw [g2, g3]; rfl)]
      exact ret2CB rfl rfl rfl rfl rfl rfl rfl (eqvs_refl _) rfl
    have g3 : (keysTo U i).contains (U.getD i default).H = false := g3
    refine CallSt.pure (s_within (U.getD i default).T 1 2097152) rfl rfl ?_
    refine Split.ff ?_
    refine Split.by (fun g4 => ?_) (fun g4 => ?_)
    · have g4 : within (U.getD i default).T 1 2097152 = false := by simpa using g4
      rw [bad (by unfold useOk; rw [g2, g3, g4]; rfl)]
      exact ret2CB rfl rfl rfl rfl rfl rfl rfl (eqvs_refl _) rfl
    have g4 : within (U.getD i default).T 1 2097152 = true := by simpa using g4
    have uok : useOk l.length (U.getD i default) (keysTo U i) = true := by unfold useOk; rw [g2, g3, g4]; rfl
    have next : okTo l.length U (i + 1) = true := by rw [okTo_succ, i2, uok]; rfl
    obtain ⟨p1, p2, p3⟩ := useOk_parts uok
    have hk := useH_ok hl p1
    obtain ⟨r1, r2, r3, r4, r5, r6⟩ := plus_inU (by omega) sm p3 hk
    have es := sumAt_succ l U g1
    have ek := keysTo_succ U g1
    refine ⟨p2, ?_⟩
    refine CallSt.pure s_sides rfl rfl ?_
    refine ⟨⟨by decide, by decide⟩, ?_⟩
    refine Split.by (fun g5 => ?_) (fun g5 => ?_)
    · have g5 : (U.getD i default).H < 0 := dT g5
      refine Exists.intro (List.range 6) (And.intro (by kernel_rfl) (FzOb.no ?_))
      refine CallOb.pure s_sides rfl rfl ?_
      refine ⟨(show inR .i64 (-1 - (U.getD i default).H) from inI64 (by omega) (by omega)), ?_⟩
      refine ⟨⟨(show 0 ≤ -1 - (U.getD i default).H by omega), (show -1 - (U.getD i default).H < 4 by omega)⟩, ?_⟩
      have neg : useH l (U.getD i default).H = sidesL.getD (-1 - (U.getD i default).H).toNat default := by unfold useH; rw [if_pos g5]
      have rr := And.intro r1 (And.intro r2 (And.intro r3 (And.intro r4 (And.intro r5 r6))))
      rw [neg] at rr es
      by_cases c1 : (U.getD i default).H = -1
      · have cc : (U.getD (i : Int).toNat default).H = -1 := c1
        rw [c1] at rr es
        obtain ⟨q1, q2, q3, q4, q5, q6⟩ := rr
        rw [cc]
        refine ⟨q1, ⟨q2, ⟨q3, ⟨q4, ⟨q5, ⟨q6, ?_⟩⟩⟩⟩⟩⟩
        refine ⟨inI64 (by omega) (by omega), ?_⟩
        refine ⟨i + 1, ⟨rfl, ⟨obHs rfl rfl, obHs rfl (by rw [es]; rfl), obM rfl (by rw [ek, c1]), trivial⟩, avR _ rfl, avQ rfl, avQ rfl, avQ rfl, avR _ rfl, avR _ rfl, avI rfl rfl, trivial⟩, ⟨g1, next⟩, (show U.length - (i + 1) < U.length - i by omega)⟩
      by_cases c2 : (U.getD i default).H = -2
      · have cc : (U.getD (i : Int).toNat default).H = -2 := c2
        rw [c2] at rr es
        obtain ⟨q1, q2, q3, q4, q5, q6⟩ := rr
        rw [cc]
        refine ⟨q1, ⟨q2, ⟨q3, ⟨q4, ⟨q5, ⟨q6, ?_⟩⟩⟩⟩⟩⟩
        refine ⟨inI64 (by omega) (by omega), ?_⟩
        refine ⟨i + 1, ⟨rfl, ⟨obHs rfl rfl, obHs rfl (by rw [es]; rfl), obM rfl (by rw [ek, c2]), trivial⟩, avR _ rfl, avQ rfl, avQ rfl, avQ rfl, avR _ rfl, avR _ rfl, avI rfl rfl, trivial⟩, ⟨g1, next⟩, (show U.length - (i + 1) < U.length - i by omega)⟩
      by_cases c3 : (U.getD i default).H = -3
      · have cc : (U.getD (i : Int).toNat default).H = -3 := c3
        rw [c3] at rr es
        obtain ⟨q1, q2, q3, q4, q5, q6⟩ := rr
        rw [cc]
        refine ⟨q1, ⟨q2, ⟨q3, ⟨q4, ⟨q5, ⟨q6, ?_⟩⟩⟩⟩⟩⟩
        refine ⟨inI64 (by omega) (by omega), ?_⟩
        refine ⟨i + 1, ⟨rfl, ⟨obHs rfl rfl, obHs rfl (by rw [es]; rfl), obM rfl (by rw [ek, c3]), trivial⟩, avR _ rfl, avQ rfl, avQ rfl, avQ rfl, avR _ rfl, avR _ rfl, avI rfl rfl, trivial⟩, ⟨g1, next⟩, (show U.length - (i + 1) < U.length - i by omega)⟩
      have c4 : (U.getD i default).H = -4 := by omega
      have cc : (U.getD (i : Int).toNat default).H = -4 := c4
      rw [c4] at rr es
      obtain ⟨q1, q2, q3, q4, q5, q6⟩ := rr
      rw [cc]
      refine ⟨q1, ⟨q2, ⟨q3, ⟨q4, ⟨q5, ⟨q6, ?_⟩⟩⟩⟩⟩⟩
      refine ⟨inI64 (by omega) (by omega), ?_⟩
      refine ⟨i + 1, ⟨rfl, ⟨obHs rfl rfl, obHs rfl (by rw [es]; rfl), obM rfl (by rw [ek, c4]), trivial⟩, avR _ rfl, avQ rfl, avQ rfl, avQ rfl, avR _ rfl, avR _ rfl, avI rfl rfl, trivial⟩, ⟨g1, next⟩, (show U.length - (i + 1) < U.length - i by omega)⟩
    · have g5 : ¬ (U.getD i default).H < 0 := dF g5
      have neg : useH l (U.getD i default).H = l.getD (U.getD i default).H.toNat default := by unfold useH; rw [if_neg g5]
      rw [neg] at r1 r2 r3 r4 r5 r6
      refine ⟨⟨rfl, (show (0 : Int) ≤ (U.getD i default).H by omega), (show (U.getD i default).H < (l.length : Int) by omega)⟩, ?_⟩
      refine ⟨r1, ⟨r2, ⟨r3, ⟨r4, ⟨r5, ⟨r6, ?_⟩⟩⟩⟩⟩⟩
      refine ⟨inI64 (by omega) (by omega), ?_⟩
      refine ⟨i + 1, ⟨rfl, ⟨obHs rfl rfl, obHs rfl (by rw [es]; unfold useH; rw [if_neg g5]; rfl), obM rfl ek.symm, trivial⟩, avR _ rfl, avQ rfl, avQ rfl, avQ rfl, avR _ rfl, avR _ rfl, avI rfl rfl, trivial⟩, ⟨g1, next⟩, (show U.length - (i + 1) < U.length - i by omega)⟩
  · have g1 : i = U.length := by have := dF g1; omega
    subst g1
    have e : sumE l U = (sumU l U, true) := by unfold sumE formedL; rw [if_pos]; rw [Bool.and_eq_true, decide_eq_true_iff]; exact ⟨h1, i2⟩
    rw [e, ← sumAt_all]
    exact ret2CB rfl rfl rfl rfl rfl rfl rfl (eqvs_refl _) rfl
end Go.Pg
/-
  Contracts: half.CheckEmpty; what refuted finds is accepted.
-/
set_option linter.all false
set_option maxRecDepth 100000
namespace Go.Pg
open Go.Proofs Go.RowKit

def zeroS (h : Half) : Bool := h.A == 0 && h.B == 0 && decide (h.C < 0)
@[irreducible] def cheE (l : List Half) (U : List Use) : Int := if checkL l = 0 then if (sumE l U).2 = true ∧ zeroS (sumE l U).1 = true then 0 else 8 else checkL l
theorem s_CheckEmpty (l : List Half) (U : List Use) : Spec PP 8 [slH l, slU U] [N (cheE l U)] := by
  refine spec_at Try.func8 rfl (by kernel_rfl) rfl ?_
  refine CallSt.pure (s_Check l) rfl rfl ?_
  refine Split.by (fun h1 => ?_) (fun h1 => ?_)
  · have h1 : checkL l ≠ 0 := by simpa using h1
    exact r1I rfl (by unfold cheE; rw [if_neg h1])
  have h1 : checkL l = 0 := by simpa using h1
  obtain ⟨n1, n2, n3⟩ := checkL_ok h1
  have bad : ¬ ((sumE l U).2 = true ∧ zeroS (sumE l U).1 = true) → cheE l U = 8 := fun h => by unfold cheE; rw [if_pos h1, if_neg h]
  have good : (sumE l U).2 = true ∧ zeroS (sumE l U).1 = true → cheE l U = 0 := fun h => by unfold cheE; rw [if_pos h1, if_pos h]
  refine CallSt.pure (s_sum l U n3 (by omega)) rfl rfl ?_
  refine Split.by (fun g1 => ?_) (fun g1 => ?_)
  · have g1 : (sumE l U).2 = false := by simpa using g1
    refine Split.tt ?_
    refine Split.tt ?_
    refine Split.tt ?_
    refine Split.tt ?_
    refine Split.tt ?_
    refine Split.tt ?_
    exact r1I rfl (bad (fun h => by rw [g1] at h; cases h.1)).symm
  have g1 : (sumE l U).2 = true := by simpa using g1
  refine Split.ff ?_
  refine Split.by (fun g2 => ?_) (fun g2 => ?_)
  · have g2 : (sumE l U).1.A ≠ 0 := by simpa using g2
    refine Split.tt ?_
    refine Split.tt ?_
    refine Split.tt ?_
    refine Split.tt ?_
    exact r1I rfl (bad (fun h => by have := h.2; unfold zeroS at this; simp [g2] at this)).symm
  have g2 : (sumE l U).1.A = 0 := by simpa using g2
  refine Split.ff ?_
  refine Split.by (fun g3 => ?_) (fun g3 => ?_)
  · have g3 : (sumE l U).1.B ≠ 0 := by simpa using g3
    refine Split.tt ?_
    refine Split.tt ?_
    exact r1I rfl (bad (fun h => by have := h.2; unfold zeroS at this; simp [g3] at this)).symm
  have g3 : (sumE l U).1.B = 0 := by simpa using g3
  refine Split.ff ?_
  refine Split.by (fun g4 => ?_) (fun g4 => ?_)
  · have g4 : ¬ (sumE l U).1.C < 0 := by have := dT g4; omega
    exact r1I rfl (bad (fun h => by have := h.2; unfold zeroS at this; simp [g4] at this)).symm
  · have g4 : (sumE l U).1.C < 0 := by have := dF g4; omega
    exact r1I rfl (good ⟨g1, by unfold zeroS; simp [g2, g3, g4]⟩).symm
/-! ### What refuted finds is accepted -/
theorem okTo_of {n : Nat} {U : List Use} (h : ∀ u ∈ U, (-4 ≤ u.H ∧ u.H < n) ∧ 1 ≤ u.T ∧ u.T ≤ 2097152) (hd : (U.map fun u => u.H).Nodup) : ∀ i, i ≤ U.length → okTo n U i = true
  | 0, _ => okTo_zero n U
  | i + 1, hi => by
    rw [okTo_succ, okTo_of h hd i (by omega), Bool.true_and]
    have hm := h _ (gd1 (show i < U.length by omega) default)
    unfold useOk
    simp only [Bool.and_eq_true, within_spec, Bool.not_eq_true']
    refine ⟨⟨⟨hm.1.1, by omega⟩, ?_⟩, hm.2⟩
    rw [Bool.eq_false_iff]
    intro hc
    have hc : (U.getD i default).H ∈ keysTo U i := by simpa using hc
    unfold keysTo at hc
    rw [List.map_take] at hc
    obtain ⟨j, hj, e⟩ := List.getElem_of_mem hc
    rw [List.length_take, List.length_map] at hj
    rw [List.getElem_take, gdI (show i < U.length by omega)] at e
    have hp := List.pairwise_iff_getElem.1 hd j i (by rw [List.length_map]; omega) (by rw [List.length_map]; omega) (by omega)
    exact hp (by rw [e]; simp)
theorem prf_formed {l : List Half} {U : List Use} (P : Prf l U) : formedL l.length U = true := by
  unfold formedL
  rw [Bool.and_eq_true, decide_eq_true_iff]
  refine ⟨by have := P.len; omega, okTo_of (fun u hu => ⟨(P.mem u hu).1, ?_⟩) P.dis _ (Nat.le_refl _)⟩
  have := (P.mem u hu).2
  omega
theorem prf_che {l : List Half} {U : List Use} (h1 : checkL l = 0) (P : Prf l U) : cheE l U = 0 := by
  unfold cheE sumE
  rw [if_pos h1, if_pos (prf_formed P), if_pos]
  refine ⟨rfl, ?_⟩
  unfold zeroS
  simp [P.A, P.B, P.C]
end Go.Pg
