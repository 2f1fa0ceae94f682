/-
  Contracts: half.sum (it keeps a map of what it has seen).
-/
import Derived.Test.YtlmljmgappiehaaKB
import Derived.Test.YtlmljmgappiehaaK6
import Derived.Test.YtlmljmgappiehaaKC
import Derived.Test.YtlmljmgappiehaaK4
import Derived.Test.YtlmljmgappiehaaKE
set_option linter.all false
set_option maxRecDepth 100000
namespace Go.Pg
open Go.Proofs Go.RowKit

theorem ret2CB {T : TT} {s : St} {a t i u : Nat} {ti : TI} {cs : List AV} {xs ys : List D} (h1 : s.sl a = .box i 0) (h2 : T t = some ti) (h3 : s.ob i = some (.box cs)) (h4 : Nat.beq cs.length ti.size = true) (h5 : ti.agg = true) (h6 : allD cs = some xs) {b c : Bool} (h7 : s.sl u = .d (.bool b)) (he : eqvs xs ys) (e : b = c) :
    RetAll T s [.cell a t, .tmp u] [.agg ys, .d (.bool c)] := ⟨rtC (a := a) h1 h2 h3 h4 h5 h6 he, rtB h7 e, trivial⟩
theorem obM {s : St} {ob : Nat → Option Ob} {ks ks' : List Int} {o : Option Ob} (h : o = some (.mp ks)) (e : ks = ks') : Oble s ob o (.mp ks') := by subst h; exact e
abbrev bxHs (h : Half) : Ob := .box [.d (I h.A), .d (I h.B), .d (I h.C)]
theorem obHs {s : St} {ob : Nat → Option Ob} {a b c : Int} {h : Half} {o : Option Ob} (g : o = some (.box [.d (I a), .d (I b), .d (I c)])) (e : (⟨a, b, c⟩ : Half) = h) : Oble s ob o (bxHs h) := by
  subst e; exact obD [I a, I b, I c] g
/-- May a use stand behind uses of ks? -/
def useOk (n : Nat) (u : Use) (ks : List Int) : Bool := within u.H (-4) ((n : Int) - 1) && !ks.contains u.H && within u.T 1 2097152
@[irreducible] def keysTo (U : List Use) (i : Nat) : List Int := (U.take i).map fun u => u.H
theorem keysTo_zero (U : List Use) : keysTo U 0 = [] := by unfold keysTo; rfl
theorem keysTo_succ (U : List Use) {i : Nat} (h : i < U.length) : keysTo U (i + 1) = keysTo U i ++ [(U.getD i default).H] := by
  unfold keysTo
  rw [take1 h default, List.map_append]; rfl
@[irreducible] def okTo (n : Nat) (U : List Use) (i : Nat) : Bool := (List.range i).all fun j => useOk n (U.getD j default) (keysTo U j)
theorem okTo_zero (n : Nat) (U : List Use) : okTo n U 0 = true := by unfold okTo; rfl
theorem okTo_succ (n : Nat) (U : List Use) (i : Nat) : okTo n U (i + 1) = (okTo n U i && useOk n (U.getD i default) (keysTo U i)) := by
  unfold okTo
  rw [List.range_succ, List.all_append]; simp
theorem okTo_no {n : Nat} {U : List Use} {i m : Nat} (hi : i < m) (h : useOk n (U.getD i default) (keysTo U i) = false) : okTo n U m = false := by
  unfold okTo
  exact List.all_eq_false.2 ⟨i, List.mem_range.2 hi, by rw [h]; decide⟩
@[irreducible] def formedL (n : Nat) (U : List Use) : Bool := decide (U.length ≤ 4) && okTo n U U.length
@[irreducible] def sumE (l : List Half) (U : List Use) : Half × Bool := if formedL l.length U = true then (sumU l U, true) else (⟨0, 0, 0⟩, false)
@[irreducible] def sumAt (l : List Half) (U : List Use) (i : Nat) : Half := sumU l (U.take i)
theorem sumAt_zero (l : List Half) (U : List Use) : sumAt l U 0 = ⟨0, 0, 0⟩ := by unfold sumAt; rfl
theorem sumAt_succ (l : List Half) (U : List Use) {i : Nat} (h : i < U.length) : sumAt l U (i + 1) = plusH (sumAt l U i) (U.getD i default).T (useH l (U.getD i default).H) := by
  unfold sumAt sumU
  rw [take1 h default, List.foldl_append]; rfl
theorem sumAt_all (l : List Half) (U : List Use) : sumAt l U U.length = sumU l U := by unfold sumAt; rw [List.take_length]
structure SmallU (i : Nat) (h : Half) : Prop where
  a : -(2097152000 * i : Int) ≤ h.A ∧ h.A ≤ 2097152000 * i
  b : -(2097152000 * i : Int) ≤ h.B ∧ h.B ≤ 2097152000 * i
  c : -(549755813888 * i : Int) ≤ h.C ∧ h.C ≤ 549755813888 * i
theorem prod_bdU {t : Int} {h : Half} (ht : 1 ≤ t ∧ t ≤ 2097152) (hh : okH h) : (-2097152000 ≤ t * h.A ∧ t * h.A ≤ 2097152000) ∧ (-2097152000 ≤ t * h.B ∧ t * h.B ≤ 2097152000) ∧ (-549755813888 ≤ t * h.C ∧ t * h.C ≤ 549755813888) := by
  have q : -2097152 ≤ t ∧ t ≤ 2097152 := by omega
  exact ⟨mulB q hh.a, mulB q hh.b, mulB q hh.c⟩
theorem SmallU.plus {i : Nat} {a h : Half} {t : Int} (s : SmallU i a) (ht : 1 ≤ t ∧ t ≤ 2097152) (hh : okH h) : SmallU (i + 1) (plusH a t h) := by
  obtain ⟨b1, b2, b3⟩ := prod_bdU ht hh
  have := s.a; have := s.b; have := s.c
  exact ⟨(by show _ ≤ a.A + t * h.A ∧ a.A + t * h.A ≤ _; omega), (by show _ ≤ a.B + t * h.B ∧ a.B + t * h.B ≤ _; omega), (by show _ ≤ a.C + t * h.C ∧ a.C + t * h.C ≤ _; omega)⟩
theorem plus_inU {i : Nat} {a h : Half} {t : Int} (hi : i ≤ 4) (s : SmallU i a) (ht : 1 ≤ t ∧ t ≤ 2097152) (hh : okH h) :
    inR .i64 (t * h.A) ∧ inR .i64 (a.A + t * h.A) ∧ inR .i64 (t * h.B) ∧ inR .i64 (a.B + t * h.B) ∧ inR .i64 (t * h.C) ∧ inR .i64 (a.C + t * h.C) := by
  obtain ⟨b1, b2, b3⟩ := prod_bdU ht hh
  have := s.a; have := s.b; have := s.c
  exact ⟨inI64 (by omega) (by omega), inI64 (by omega) (by omega), inI64 (by omega) (by omega), inI64 (by omega) (by omega), inI64 (by omega) (by omega), inI64 (by omega) (by omega)⟩
theorem useOk_parts {n : Nat} {u : Use} {ks : List Int} (h : useOk n u ks = true) : (-4 ≤ u.H ∧ u.H < n) ∧ ks.contains u.H = false ∧ 1 ≤ u.T ∧ u.T ≤ 2097152 := by
  unfold useOk at h
  simp only [Bool.and_eq_true, within_spec, Bool.not_eq_true'] at h
  exact ⟨⟨h.1.1.1, by omega⟩, h.1.2, h.2⟩
theorem useH_ok {l : List Half} (hl : ∀ x ∈ l, okH x) {n : Int} (h : -4 ≤ n ∧ n < l.length) : okH (useH l n) := by
  unfold useH
  split
  · rename_i hn
    have : sidesL.getD (-1 - n).toNat default ∈ sidesL := gd1 (by show (-1 - n).toNat < 4; omega) default
    have all : ∀ x ∈ sidesL, okH x := fun x hx => by
      simp only [sidesL, List.mem_cons, List.not_mem_nil, or_false] at hx
      rcases hx with rfl | rfl | rfl | rfl <;> exact ⟨by decide, by decide, by decide⟩
    exact all _ this
  · exact hl _ (gd1 (by omega) default)
theorem sum_small {l : List Half} (hl : ∀ x ∈ l, okH x) {U : List Use} : ∀ i, i ≤ U.length → okTo l.length U i = true → SmallU i (sumAt l U i)
  | 0, _, _ => by rw [sumAt_zero]; exact ⟨by decide, by decide, by decide⟩
  | i + 1, hi, h => by
    rw [okTo_succ, Bool.and_eq_true] at h
    obtain ⟨h1, h2⟩ := h
    obtain ⟨p1, p2, p3⟩ := useOk_parts h2
    rw [sumAt_succ l U (by omega)]
    exact (sum_small hl i (by omega) h1).plus p3 (useH_ok hl p1)
set_option maxHeartbeats 4000000 in
theorem s_sum (l : List Half) (U : List Use) (hl : ∀ x ∈ l, okH x) (hn : l.length ≤ 60) : Spec PP 86 [slH l, slU U] [(sumE l U).1.v, B (sumE l U).2] := by
  refine spec_at Try.func86 rfl (by kernel_rfl) rfl ?_
  refine Split.by (fun h1 => ?_) (fun h1 => ?_)
  · have h1 : 4 < U.length := by have := dT h1; omega
    have e : sumE l U = (⟨0, 0, 0⟩, false) := by unfold sumE formedL; rw [if_neg]; rw [Bool.and_eq_true, decide_eq_true_iff]; omega
    rw [e]
    exact ret2CB rfl rfl rfl rfl rfl rfl rfl (eqvs_refl _) rfl
  have h1 : U.length ≤ 4 := by have := dF h1; omega
  refine LoopOb.of (σ := Nat) (fun i => ([(0, avOf (slH l)), (4, .box 4 0), (6, .box 6 0), (7, .own 15), (16, avOf (slU U)), (17, .d (I U.length)), (18, .d (I i))], [(4, bxHs ⟨0, 0, 0⟩), (6, bxHs (sumAt l U i)), (15, .mp (keysTo U i))])) (fun i => i ≤ U.length ∧ okTo l.length U i = true) (fun i => U.length - i) 0
    ⟨rfl, ⟨obHs rfl rfl, obHs rfl (by rw [sumAt_zero]), obM rfl (by rw [keysTo_zero]), trivial⟩, avR _ rfl, avQ rfl, avQ rfl, avQ rfl, avR _ rfl, avR _ rfl, avR _ rfl, trivial⟩ ⟨Nat.zero_le _, okTo_zero _ _⟩ fun i hi => ?_
  obtain ⟨i1, i2⟩ := hi
  have sm := sum_small hl i i1 i2
  refine Split.by (fun g1 => ?_) (fun g1 => ?_)
  · have g1 : i < U.length := by have := dT g1; omega
    have bad : useOk l.length (U.getD i default) (keysTo U i) = false → sumE l U = (⟨0, 0, 0⟩, false) := fun h => by
      unfold sumE formedL; rw [if_neg]; rw [Bool.and_eq_true, okTo_no g1 h]; simp
    refine ⟨⟨rfl, by omega, by omega⟩, ?_⟩
    refine ⟨inI64 (by omega) (by omega), ?_⟩
    refine CallSt.pure (s_within (U.getD i default).H (-4) ((l.length : Int) - 1)) rfl rfl ?_
    refine Split.by (fun g2 => ?_) (fun g2 => ?_)
    · have g2 : within (U.getD i default).H (-4) ((l.length : Int) - 1) = false := by simpa using g2
      refine Split.tt ?_
      refine Split.tt ?_
      refine Split.tt ?_
      refine Split.tt ?_
      rw [bad (by unfold useOk; rw [g2]; rfl)]
      exact ret2CB rfl rfl rfl rfl rfl rfl rfl (eqvs_refl _) rfl
    have g2 : within (U.getD i default).H (-4) ((l.length : Int) - 1) = true := by simpa using g2
    refine Split.ff ?_
    refine Split.by (fun g3 => ?_) (fun g3 => ?_)
    · have g3 : (keysTo U i).contains (U.getD i default).H = true := g3
      refine Split.tt ?_
      refine Split.tt ?_
      rw [bad (by unfold useOk; rw [g2, g3]; rfl)]
      exact ret2CB rfl rfl rfl rfl rfl rfl rfl (eqvs_refl _) rfl
    have g3 : (keysTo U i).contains (U.getD i default).H = false := g3
    refine CallSt.pure (s_within (U.getD i default).T 1 2097152) rfl rfl ?_
    refine Split.ff ?_
    refine Split.by (fun g4 => ?_) (fun g4 => ?_)
    · have g4 : within (U.getD i default).T 1 2097152 = false := by simpa using g4
      rw [bad (by unfold useOk; rw [g2, g3, g4]; rfl)]
      exact ret2CB rfl rfl rfl rfl rfl rfl rfl (eqvs_refl _) rfl
    have g4 : within (U.getD i default).T 1 2097152 = true := by simpa using g4
    have uok : useOk l.length (U.getD i default) (keysTo U i) = true := by unfold useOk; rw [g2, g3, g4]; rfl
    have next : okTo l.length U (i + 1) = true := by rw [okTo_succ, i2, uok]; rfl
    obtain ⟨p1, p2, p3⟩ := useOk_parts uok
    have hk := useH_ok hl p1
    obtain ⟨r1, r2, r3, r4, r5, r6⟩ := plus_inU (by omega) sm p3 hk
    have es := sumAt_succ l U g1
    have ek := keysTo_succ U g1
    refine ⟨p2, ?_⟩
    refine CallSt.pure s_sides rfl rfl ?_
    refine ⟨⟨by decide, by decide⟩, ?_⟩
    refine Split.by (fun g5 => ?_) (fun g5 => ?_)
    · have g5 : (U.getD i default).H < 0 := dT g5
      refine Exists.intro (List.range 6) (And.intro (by kernel_rfl) (FzOb.no ?_))
      refine CallOb.pure s_sides rfl rfl ?_
      refine ⟨(show inR .i64 (-1 - (U.getD i default).H) from inI64 (by omega) (by omega)), ?_⟩
      refine ⟨⟨(show 0 ≤ -1 - (U.getD i default).H by omega), (show -1 - (U.getD i default).H < 4 by omega)⟩, ?_⟩
      have neg : useH l (U.getD i default).H = sidesL.getD (-1 - (U.getD i default).H).toNat default := by unfold useH; rw [if_pos g5]
      have rr := And.intro r1 (And.intro r2 (And.intro r3 (And.intro r4 (And.intro r5 r6))))
      rw [neg] at rr es
      by_cases c1 : (U.getD i default).H = -1
      · have cc : (U.getD (i : Int).toNat default).H = -1 := c1
        rw [c1] at rr es
        obtain ⟨q1, q2, q3, q4, q5, q6⟩ := rr
        rw [cc]
        refine ⟨q1, ⟨q2, ⟨q3, ⟨q4, ⟨q5, ⟨q6, ?_⟩⟩⟩⟩⟩⟩
        refine ⟨inI64 (by omega) (by omega), ?_⟩
        refine ⟨i + 1, ⟨rfl, ⟨obHs rfl rfl, obHs rfl (by rw [es]; rfl), obM rfl (by rw [ek, c1]), trivial⟩, avR _ rfl, avQ rfl, avQ rfl, avQ rfl, avR _ rfl, avR _ rfl, avI rfl rfl, trivial⟩, ⟨g1, next⟩, (show U.length - (i + 1) < U.length - i by omega)⟩
      by_cases c2 : (U.getD i default).H = -2
      · have cc : (U.getD (i : Int).toNat default).H = -2 := c2
        rw [c2] at rr es
        obtain ⟨q1, q2, q3, q4, q5, q6⟩ := rr
        rw [cc]
        refine ⟨q1, ⟨q2, ⟨q3, ⟨q4, ⟨q5, ⟨q6, ?_⟩⟩⟩⟩⟩⟩
        refine ⟨inI64 (by omega) (by omega), ?_⟩
        refine ⟨i + 1, ⟨rfl, ⟨obHs rfl rfl, obHs rfl (by rw [es]; rfl), obM rfl (by rw [ek, c2]), trivial⟩, avR _ rfl, avQ rfl, avQ rfl, avQ rfl, avR _ rfl, avR _ rfl, avI rfl rfl, trivial⟩, ⟨g1, next⟩, (show U.length - (i + 1) < U.length - i by omega)⟩
      by_cases c3 : (U.getD i default).H = -3
      · have cc : (U.getD (i : Int).toNat default).H = -3 := c3
        rw [c3] at rr es
        obtain ⟨q1, q2, q3, q4, q5, q6⟩ := rr
        rw [cc]
        refine ⟨q1, ⟨q2, ⟨q3, ⟨q4, ⟨q5, ⟨q6, ?_⟩⟩⟩⟩⟩⟩
        refine ⟨inI64 (by omega) (by omega), ?_⟩
        refine ⟨i + 1, ⟨rfl, ⟨obHs rfl rfl, obHs rfl (by rw [es]; rfl), obM rfl (by rw [ek, c3]), trivial⟩, avR _ rfl, avQ rfl, avQ rfl, avQ rfl, avR _ rfl, avR _ rfl, avI rfl rfl, trivial⟩, ⟨g1, next⟩, (show U.length - (i + 1) < U.length - i by omega)⟩
      have c4 : (U.getD i default).H = -4 := by omega
      have cc : (U.getD (i : Int).toNat default).H = -4 := c4
      rw [c4] at rr es
      obtain ⟨q1, q2, q3, q4, q5, q6⟩ := rr
      rw [cc]
      refine ⟨q1, ⟨q2, ⟨q3, ⟨q4, ⟨q5, ⟨q6, ?_⟩⟩⟩⟩⟩⟩
      refine ⟨inI64 (by omega) (by omega), ?_⟩
      refine ⟨i + 1, ⟨rfl, ⟨obHs rfl rfl, obHs rfl (by rw [es]; rfl), obM rfl (by rw [ek, c4]), trivial⟩, avR _ rfl, avQ rfl, avQ rfl, avQ rfl, avR _ rfl, avR _ rfl, avI rfl rfl, trivial⟩, ⟨g1, next⟩, (show U.length - (i + 1) < U.length - i by omega)⟩
    · have g5 : ¬ (U.getD i default).H < 0 := dF g5
      have neg : useH l (U.getD i default).H = l.getD (U.getD i default).H.toNat default := by unfold useH; rw [if_neg g5]
      rw [neg] at r1 r2 r3 r4 r5 r6
      refine ⟨⟨rfl, (show (0 : Int) ≤ (U.getD i default).H by omega), (show (U.getD i default).H < (l.length : Int) by omega)⟩, ?_⟩
      refine ⟨r1, ⟨r2, ⟨r3, ⟨r4, ⟨r5, ⟨r6, ?_⟩⟩⟩⟩⟩⟩
      refine ⟨inI64 (by omega) (by omega), ?_⟩
      refine ⟨i + 1, ⟨rfl, ⟨obHs rfl rfl, obHs rfl (by rw [es]; unfold useH; rw [if_neg g5]; rfl), obM rfl ek.symm, trivial⟩, avR _ rfl, avQ rfl, avQ rfl, avQ rfl, avR _ rfl, avR _ rfl, avI rfl rfl, trivial⟩, ⟨g1, next⟩, (show U.length - (i + 1) < U.length - i by omega)⟩
  · have g1 : i = U.length := by have := dF g1; omega
    subst g1
    have e : sumE l U = (sumU l U, true) := by unfold sumE formedL; rw [if_pos]; rw [Bool.and_eq_true, decide_eq_true_iff]; exact ⟨h1, i2⟩
    rw [e, ← sumAt_all]
    exact ret2CB rfl rfl rfl rfl rfl rfl rfl (eqvs_refl _) rfl
end Go.Pg
/-
  Contracts: half.CheckEmpty; what refuted finds is accepted.
-/
set_option linter.all false
set_option maxRecDepth 100000
namespace Go.Pg
open Go.Proofs Go.RowKit

def zeroS (h : Half) : Bool := h.A == 0 && h.B == 0 && decide (h.C < 0)
@[irreducible] def cheE (l : List Half) (U : List Use) : Int := if checkL l = 0 then if (sumE l U).2 = true ∧ zeroS (sumE l U).1 = true then 0 else 8 else checkL l
theorem s_CheckEmpty (l : List Half) (U : List Use) : Spec PP 42 [slH l, slU U] [N (cheE l U)] := by
  refine spec_at Try.func42 rfl (by kernel_rfl) rfl ?_
  refine CallSt.pure (s_Check l) rfl rfl ?_
  refine Split.by (fun h1 => ?_) (fun h1 => ?_)
  · have h1 : checkL l ≠ 0 := by simpa using h1
    exact r1I rfl (by unfold cheE; rw [if_neg h1])
  have h1 : checkL l = 0 := by simpa using h1
  obtain ⟨n1, n2, n3⟩ := checkL_ok h1
  have bad : ¬ ((sumE l U).2 = true ∧ zeroS (sumE l U).1 = true) → cheE l U = 8 := fun h => by unfold cheE; rw [if_pos h1, if_neg h]
  have good : (sumE l U).2 = true ∧ zeroS (sumE l U).1 = true → cheE l U = 0 := fun h => by unfold cheE; rw [if_pos h1, if_pos h]
  refine CallSt.pure (s_sum l U n3 (by omega)) rfl rfl ?_
  refine Split.by (fun g1 => ?_) (fun g1 => ?_)
  · have g1 : (sumE l U).2 = false := by simpa using g1
    refine Split.tt ?_
    refine Split.tt ?_
    refine Split.tt ?_
    refine Split.tt ?_
    refine Split.tt ?_
    refine Split.tt ?_
    exact r1I rfl (bad (fun h => by rw [g1] at h; cases h.1)).symm
  have g1 : (sumE l U).2 = true := by simpa using g1
  refine Split.ff ?_
  refine Split.by (fun g2 => ?_) (fun g2 => ?_)
  · have g2 : (sumE l U).1.A ≠ 0 := by simpa using g2
    refine Split.tt ?_
    refine Split.tt ?_
    refine Split.tt ?_
    refine Split.tt ?_
    exact r1I rfl (bad (fun h => by have := h.2; unfold zeroS at this; simp [g2] at this)).symm
  have g2 : (sumE l U).1.A = 0 := by simpa using g2
  refine Split.ff ?_
  refine Split.by (fun g3 => ?_) (fun g3 => ?_)
  · have g3 : (sumE l U).1.B ≠ 0 := by simpa using g3
    refine Split.tt ?_
    refine Split.tt ?_
    exact r1I rfl (bad (fun h => by have := h.2; unfold zeroS at this; simp [g3] at this)).symm
  have g3 : (sumE l U).1.B = 0 := by simpa using g3
  refine Split.ff ?_
  refine Split.by (fun g4 => ?_) (fun g4 => ?_)
  · have g4 : ¬ (sumE l U).1.C < 0 := by have := dT g4; omega
    exact r1I rfl (bad (fun h => by have := h.2; unfold zeroS at this; simp [g4] at this)).symm
  · have g4 : (sumE l U).1.C < 0 := by have := dF g4; omega
    exact r1I rfl (good ⟨g1, by unfold zeroS; simp [g2, g3, g4]⟩).symm
/-! ### What refuted finds is accepted -/
theorem okTo_of {n : Nat} {U : List Use} (h : ∀ u ∈ U, (-4 ≤ u.H ∧ u.H < n) ∧ 1 ≤ u.T ∧ u.T ≤ 2097152) (hd : (U.map fun u => u.H).Nodup) : ∀ i, i ≤ U.length → okTo n U i = true
  | 0, _ => okTo_zero n U
  | i + 1, hi => by
    rw [okTo_succ, okTo_of h hd i (by omega), Bool.true_and]
    have hm := h _ (gd1 (show i < U.length by omega) default)
    unfold useOk
    simp only [Bool.and_eq_true, within_spec, Bool.not_eq_true']
    refine ⟨⟨⟨hm.1.1, by omega⟩, ?_⟩, hm.2⟩
    rw [Bool.eq_false_iff]
    intro hc
    have hc : (U.getD i default).H ∈ keysTo U i := by simpa using hc
    unfold keysTo at hc
    rw [List.map_take] at hc
    obtain ⟨j, hj, e⟩ := List.getElem_of_mem hc
    rw [List.length_take, List.length_map] at hj
    rw [List.getElem_take, gdI (show i < U.length by omega)] at e
    have hp := List.pairwise_iff_getElem.1 hd j i (by rw [List.length_map]; omega) (by rw [List.length_map]; omega) (by omega)
    exact hp (by rw [e]; simp)
theorem prf_formed {l : List Half} {U : List Use} (P : Prf l U) : formedL l.length U = true := by
  unfold formedL
  rw [Bool.and_eq_true, decide_eq_true_iff]
  refine ⟨by have := P.len; omega, okTo_of (fun u hu => ⟨(P.mem u hu).1, ?_⟩) P.dis _ (Nat.le_refl _)⟩
  have := (P.mem u hu).2
  omega
theorem prf_che {l : List Half} {U : List Use} (h1 : checkL l = 0) (P : Prf l U) : cheE l U = 0 := by
  unfold cheE sumE
  rw [if_pos h1, if_pos (prf_formed P), if_pos]
  refine ⟨rfl, ?_⟩
  unfold zeroS
  simp [P.A, P.B, P.C]
end Go.Pg
/-
  Contracts: half.CheckBest.
-/
set_option linter.all false
set_option maxRecDepth 100000
namespace Go.Pg
open Go.Proofs Go.RowKit

/-- What a bound has to be. -/
structure Bst (l : List Half) (f : Form) (b : Bound) : Prop where
  sm : (sumE l b.Uses).2 = true
  sc : within b.Scale 1 2097152 = true
  fr : fraction b.V = true
  va : valid b.At = true
  A : (sumE l b.Uses).1.A = b.Scale * f.X
  B : (sumE l b.Uses).1.B = b.Scale * f.Y
  C : (sumE l b.Uses).1.C * b.V.Den = b.Scale * b.V.Num
  inn : outsideL (allL l) b.At = -5
  at_ : value f b.At = b.V
theorem bst_iff (l : List Half) (f : Form) (b : Bound) : Bst l f b ↔ ((sumE l b.Uses).2 = true ∧ within b.Scale 1 2097152 = true ∧ fraction b.V = true ∧ valid b.At = true ∧ (sumE l b.Uses).1.A = b.Scale * f.X ∧ (sumE l b.Uses).1.B = b.Scale * f.Y ∧ (sumE l b.Uses).1.C * b.V.Den = b.Scale * b.V.Num ∧ outsideL (allL l) b.At = -5 ∧ value f b.At = b.V) :=
  ⟨fun h => ⟨h.sm, h.sc, h.fr, h.va, h.A, h.B, h.C, h.inn, h.at_⟩, fun ⟨a, b, c, d, e, f, g, h, i⟩ => ⟨a, b, c, d, e, f, g, h, i⟩⟩
noncomputable instance (l : List Half) (f : Form) (b : Bound) : Decidable (Bst l f b) := decidable_of_iff' _ (bst_iff l f b)
@[irreducible] noncomputable def cbE (l : List Half) (f : Form) (b : Bound) : Int := if checkL l = 0 then if slope f.X f.Y = true then if Bst l f b then 0 else 8 else 1 else checkL l
theorem sum_bd {l : List Half} {U : List Use} (hl : ∀ x ∈ l, okH x) : (-8388608000 ≤ (sumE l U).1.A ∧ (sumE l U).1.A ≤ 8388608000) ∧ (-8388608000 ≤ (sumE l U).1.B ∧ (sumE l U).1.B ≤ 8388608000) ∧ (-2199023255552 ≤ (sumE l U).1.C ∧ (sumE l U).1.C ≤ 2199023255552) := by
  unfold sumE
  split
  · rename_i h
    unfold formedL at h
    rw [Bool.and_eq_true, decide_eq_true_iff] at h
    have s := sum_small hl U.length (Nat.le_refl _) h.2
    rw [sumAt_all] at s
    have := s.a; have := s.b; have := s.c
    have hl := h.1
    show (-8388608000 ≤ (sumU l U).A ∧ (sumU l U).A ≤ 8388608000) ∧ (-8388608000 ≤ (sumU l U).B ∧ (sumU l U).B ≤ 8388608000) ∧ (-2199023255552 ≤ (sumU l U).C ∧ (sumU l U).C ≤ 2199023255552)
    omega
  · exact ⟨⟨by decide, by decide⟩, ⟨by decide, by decide⟩, ⟨by decide, by decide⟩⟩
theorem ord_zero {a b : Int} : ord a b = 0 ↔ a = b := by
  unfold ord
  constructor
  · intro h
    split at h
    · cases h
    · split at h
      · cases h
      · omega
  · rintro rfl; simp
set_option maxHeartbeats 4000000 in
theorem s_CheckBest (l : List Half) (f : Form) (b : Bound) : Spec PP 43 [slH l, f.v, b.v] [N (cbE l f b)] := by
  refine spec_at Try.func43 rfl (by kernel_rfl) rfl ?_
  refine CallSt.pure (s_Check l) rfl rfl ?_
  refine Split.by (fun h1 => ?_) (fun h1 => ?_)
  · have h1 : checkL l ≠ 0 := by simpa using h1
    exact r1I rfl (by unfold cbE; rw [if_neg h1])
  have h1 : checkL l = 0 := by simpa using h1
  obtain ⟨n1, n2, n3⟩ := checkL_ok h1
  refine CallSt.pure (s_slope f.X f.Y) rfl rfl ?_
  refine Split.by (fun h2 => ?_) (fun h2 => ?_)
  · have h2 : slope f.X f.Y = false := by simpa using h2
    exact r1I rfl (by unfold cbE; rw [if_pos h1, if_neg (by rw [h2]; decide)])
  have h2 : slope f.X f.Y = true := by simpa using h2
  have oF := okF_of h2
  have fx := oF.x
  have fy := oF.y
  have bad : ¬ Bst l f b → cbE l f b = 8 := fun h => by unfold cbE; rw [if_pos h1, if_pos h2, if_neg h]
  obtain ⟨sA, sB, sC⟩ := sum_bd (U := b.Uses) n3
  refine CallSt.pure (s_sum l b.Uses n3 (by omega)) rfl rfl ?_
  refine Split.by (fun g1 => ?_) (fun g1 => ?_)
  · have g1 : (sumE l b.Uses).2 = false := by simpa using g1
    refine Split.tt ?_
    refine Split.tt ?_
    refine Split.tt ?_
    refine Split.tt ?_
    refine Split.tt ?_
    refine Split.tt ?_
    exact r1I rfl (bad fun h => by have := h.sm; rw [g1] at this; cases this).symm
  have g1 : (sumE l b.Uses).2 = true := by simpa using g1
  refine CallSt.pure (s_within b.Scale 1 2097152) rfl rfl ?_
  refine Split.ff ?_
  refine Split.by (fun g2 => ?_) (fun g2 => ?_)
  · have g2 : within b.Scale 1 2097152 = false := by simpa using g2
    refine Split.tt ?_
    refine Split.tt ?_
    refine Split.tt ?_
    refine Split.tt ?_
    exact r1I rfl (bad fun h => by have := h.sc; rw [g2] at this; cases this).symm
  have g2 : within b.Scale 1 2097152 = true := by simpa using g2
  have sc := within_spec.1 g2
  refine CallSt.pure (s_fraction b.V) rfl rfl ?_
  refine Split.ff ?_
  refine Split.by (fun g3 => ?_) (fun g3 => ?_)
  · have g3 : fraction b.V = false := by simpa using g3
    refine Split.tt ?_
    refine Split.tt ?_
    exact r1I rfl (bad fun h => by have := h.fr; rw [g3] at this; cases this).symm
  have g3 : fraction b.V = true := by simpa using g3
  obtain ⟨vd, vn⟩ := fraction_bd g3
  refine CallSt.pure (s_Valid b.At) rfl rfl ?_
  refine Split.ff ?_
  refine Split.by (fun g4 => ?_) (fun g4 => ?_)
  · have g4 : valid b.At = false := by simpa using g4
    exact r1I rfl (bad fun h => by have := h.va; rw [g4] at this; cases this).symm
  have g4 : valid b.At = true := by simpa using g4
  have q : -2097152 ≤ b.Scale ∧ b.Scale ≤ 2097152 := by omega
  have m1 := mulB q fx
  have m2 := mulB q fy
  refine Exists.intro (List.range 35) (And.intro (by kernel_rfl) (FzOb.no ?_))
  refine ⟨inI64 (by omega) (by omega), ?_⟩
  refine Split.by (fun g5 => ?_) (fun g5 => ?_)
  case refine_2 =>
    have g5 : (sumE l b.Uses).1.A ≠ b.Scale * f.X := by simpa using g5
    refine Split.ff ?_
    refine Split.ff ?_
    refine Split.ff ?_
    refine Exists.intro (List.range 19) (And.intro (by kernel_rfl) (FzOb.no ?_))
    refine Split.tt ?_
    refine Split.tt ?_
    refine Split.tt ?_
    refine Split.tt ?_
    refine Split.tt ?_
    exact r1I rfl (bad fun h => g5 h.A).symm
  have g5 : (sumE l b.Uses).1.A = b.Scale * f.X := by simpa using g5
  refine ⟨inI64 (by omega) (by omega), ?_⟩
  refine Split.tt ?_
  refine Split.by (fun g6 => ?_) (fun g6 => ?_)
  case refine_2 =>
    have g6 : (sumE l b.Uses).1.B ≠ b.Scale * f.Y := by simpa using g6
    refine Split.ff ?_
    refine Exists.intro (List.range 19) (And.intro (by kernel_rfl) (FzOb.no ?_))
    refine Split.tt ?_
    refine Split.tt ?_
    refine Split.tt ?_
    refine Split.tt ?_
    refine Split.tt ?_
    exact r1I rfl (bad fun h => g6 h.B).symm
  have g6 : (sumE l b.Uses).1.B = b.Scale * f.Y := by simpa using g6
  refine CallOb.pure (s_times (sumE l b.Uses).1.C b.V.Den (by omega) (by omega)) rfl rfl ?_
  refine CallOb.pure (s_times b.Scale b.V.Num (by omega) (by omega)) rfl rfl ?_
  refine CallOb.pure (s_than ((sumE l b.Uses).1.C * b.V.Den) (b.Scale * b.V.Num)) rfl rfl ?_
  refine Split.tt ?_
  refine Exists.intro (List.range 19) (And.intro (by kernel_rfl) (FzOb.no ?_))
  refine Split.by (fun g7 => ?_) (fun g7 => ?_)
  · have g7 : ord ((sumE l b.Uses).1.C * b.V.Den) (b.Scale * b.V.Num) ≠ 0 := by simpa using g7
    refine Split.tt ?_
    refine Split.tt ?_
    refine Split.tt ?_
    refine Split.tt ?_
    exact r1I rfl (bad fun h => g7 (ord_zero.2 h.C)).symm
  have g7 : (sumE l b.Uses).1.C * b.V.Den = b.Scale * b.V.Num := by
    have : ord ((sumE l b.Uses).1.C * b.V.Den) (b.Scale * b.V.Num) = 0 := by simpa using g7
    exact ord_zero.1 this
  have hlen := allL_len l
  refine CallOb.ro (s_all l (by omega)) rfl rfl ?_
  refine CallOb.pure (s_outside (allL l) b.At (allL_ok n3) (okC_of g4) (by omega)) rfl rfl ?_
  refine Split.ff ?_
  refine Split.by (fun g8 => ?_) (fun g8 => ?_)
  · have g8 : outsideL (allL l) b.At ≠ -5 := by simpa using g8
    refine Split.tt ?_
    refine Split.tt ?_
    exact r1I rfl (bad fun h => g8 h.inn).symm
  have g8 : outsideL (allL l) b.At = -5 := by simpa using g8
  refine CallOb.pure (s_value f b.At oF (okC_of g4)) rfl rfl ?_
  refine Split.ff ?_
  refine Split.by (fun g9 => ?_) (fun g9 => ?_)
  · have g9 : value f b.At ≠ b.V := fun e => by
      have g9 : (!((value f b.At).Num == b.V.Num && ((value f b.At).Den == b.V.Den && true))) = true := g9
      rw [e] at g9; simp at g9
    exact r1I rfl (bad fun h => g9 h.at_).symm
  have g9 : value f b.At = b.V := by
    have g9 : (!((value f b.At).Num == b.V.Num && ((value f b.At).Den == b.V.Den && true))) = false := g9
    simp only [Bool.not_eq_false', Bool.and_eq_true, beq_iff_eq, and_true] at g9
    cases hv : value f b.At; cases hb : b.V; rw [hv, hb] at g9; simp at g9; rw [g9.1, g9.2]
  exact r1I rfl (by unfold cbE; rw [if_pos h1, if_pos h2, if_pos ⟨g1, g2, g3, g4, g5, g6, g7, g8, g9⟩])
end Go.Pg
/-
  Best's bound is accepted. Plain.
-/
set_option linter.all false
namespace Go.Pg
open Go.Proofs Go.RowKit

theorem tight_ef (h : Half) (q : Corner) : tight h q = true ↔ ef h q = 0 := by
  unfold tight ef
  rw [beq_iff_eq]; omega
theorem flip_negs {n m : Int} (h : n ≠ 0) : flip (-n) (-m) = flip n m := by unfold flip; split <;> split <;> omega
theorem flip_self_pos {n : Int} (h : n ≠ 0) : 0 < flip n n := by unfold flip; split <;> omega
theorem flip_mul (n a b : Int) : flip n (a * b) = flip n a * b := by
  unfold flip
  split
  · rw [Int.neg_mul]
  · rfl
theorem flip_add (n a b : Int) : flip n (a + b) = flip n a + flip n b := by unfold flip; split <;> omega
theorem flip_bd {n m b : Int} (h : -b ≤ m ∧ m ≤ b) : flip n m ≤ b := by unfold flip; split <;> omega
/-- The form lies between both normals. -/
def Cn (f : Form) (g h : Half) : Prop := 0 ≤ flip (det g h) (fx f h) ∧ 0 ≤ flip (det g h) (-fx f g)
theorem Cn.symm {f : Form} {g h : Half} (hd : det g h ≠ 0) (c : Cn f g h) : Cn f h g := by
  unfold Cn at *
  have e : det h g = -det g h := by rw [det_swap]
  have e1 := flip_negs (n := det g h) (m := -fx f g) hd
  have e2 := flip_negs (n := det g h) (m := fx f h) hd
  rw [Int.neg_neg] at e1
  rw [e, e1, e2]
  exact ⟨c.2, c.1⟩
theorem uses_some {f : Form} {a : Corner} {x : Num × Num} (h1 : ef x.1.h a = 0) (h2 : ef x.2.h a = 0) (c : Cn f x.1.h x.2.h) : usesB f a x ≠ none := by
  unfold usesB
  have e : f.Y * x.1.h.A - f.X * x.1.h.B = -fx f x.1.h := by unfold fx; omega
  have c2 : 0 ≤ flip (det x.1.h x.2.h) (f.Y * x.1.h.A - f.X * x.1.h.B) := by rw [e]; exact c.2
  rw [if_pos ⟨⟨(tight_ef _ _).2 h1, (tight_ef _ _).2 h2⟩, c.1, c2⟩]
  exact fun e => by cases e
theorem pair_some {l : List Half} {f : Form} {a : Corner} {g h : Half} (hg : g ∈ hsL l) (hh : h ∈ hsL l) (hd : det g h ≠ 0) (h1 : ef g a = 0) (h2 : ef h a = 0) (c : Cn f g h) : ∃ x ∈ pairsL (allL l), usesB f a x ≠ none := by
  rw [← allL_h] at hg hh
  obtain ⟨x, hx, rfl⟩ := List.mem_map.1 hg
  obtain ⟨y, hy, rfl⟩ := List.mem_map.1 hh
  rcases pairs_of hx hy hd with hp | hp
  · exact ⟨_, hp, uses_some h1 h2 c⟩
  · exact ⟨_, hp, uses_some h2 h1 (c.symm hd)⟩
/-- A form along h's normal lies between h and whatever is not parallel to it. -/
theorem cn_par {f : Form} {h j : Half} (hd : det h j ≠ 0) (h0 : fx f h = 0) (hp : 0 ≤ f.X * h.A + f.Y * h.B) : Cn f h j := by
  have hz : h.A ≠ 0 ∨ h.B ≠ 0 := by
    refine Classical.not_not.1 fun hn => hd ?_
    have e1 : h.A = 0 := by omega
    have e2 : h.B = 0 := by omega
    rw [det_def, e1, e2]; simp
  have sq := sq_pos hz
  have e : (h.A * h.A + h.B * h.B) * fx f j = (f.X * h.A + f.Y * h.B) * det h j := by
    unfold fx at h0 ⊢
    rw [det_def]
    have h0' : f.X * h.B = f.Y * h.A := by omega
    grind
  unfold Cn
  rw [h0]
  refine ⟨?_, by unfold flip; split <;> omega⟩
  unfold flip
  split
  · rename_i hn
    have : (f.X * h.A + f.Y * h.B) * det h j ≤ 0 := Int.mul_nonpos_of_nonneg_of_nonpos hp (by omega)
    rcases Int.lt_or_le 0 (fx f j) with g | g
    · have := Int.mul_pos sq g; omega
    · omega
  · have : 0 ≤ (f.X * h.A + f.Y * h.B) * det h j := Int.mul_nonneg hp (by omega)
    rcases Int.lt_or_le (fx f j) 0 with g | g
    · have := Int.mul_neg_of_pos_of_neg sq g; omega
    · omega
/-- One of two edges that are not parallel is not parallel to h. -/
theorem other_edge {h g1 g2 : Half} (hz : h.A ≠ 0 ∨ h.B ≠ 0) (hd : det g1 g2 ≠ 0) : det h g1 ≠ 0 ∨ det h g2 ≠ 0 := by
  refine Classical.not_not.1 fun hn => hd ?_
  have e1 : det h g1 = 0 := by omega
  have e2 : det h g2 = 0 := by omega
  rw [det_def] at e1 e2 ⊢
  rcases hz with hz | hz
  · have : h.A * (g1.A * g2.B - g2.A * g1.B) = 0 := by
      have q1 : h.A * g1.B = g1.A * h.B := by omega
      have q2 : h.A * g2.B = g2.A * h.B := by omega
      grind
    rcases Int.mul_eq_zero.1 this with e | e
    · exact absurd e hz
    · exact e
  · have : h.B * (g1.A * g2.B - g2.A * g1.B) = 0 := by
      have q1 : h.A * g1.B = g1.A * h.B := by omega
      have q2 : h.A * g2.B = g2.A * h.B := by omega
      grind
    rcases Int.mul_eq_zero.1 this with e | e
    · exact absurd e hz
    · exact e
theorem par_pair {l : List Half} {f : Form} {a : Corner} (V : Vt (hsL l) a) {h : Half} (hh : h ∈ hsL l) (hz : h.A ≠ 0 ∨ h.B ≠ 0) (ht : ef h a = 0) (h0 : fx f h = 0) (hp : 0 ≤ f.X * h.A + f.Y * h.B) : ∃ x ∈ pairsL (allL l), usesB f a x ≠ none := by
  obtain ⟨g1, m1, g2, m2, hd, t1, t2⟩ := V.ti
  rcases other_edge hz hd with e | e
  · exact pair_some hh m1 e ht t1 (cn_par e h0 hp)
  · exact pair_some hh m2 e ht t2 (cn_par e h0 hp)
/-- In the greatest corner some pair of edges proves it. -/
theorem best_found {l : List Half} {f : Form} {a : Corner} (h1 : checkL l = 0) (hf : slope f.X f.Y = true) (h0 : f ≠ ⟨0, 0⟩) (V : Vt (hsL l) a) (hmax : ∀ q, Pt l q → vle f q a) : ∃ x ∈ pairsL (allL l), usesB f a x ≠ none := by
  have S := okS_of h1
  have aD : 0 < a.Den := by have := (okC_of V.va).d; omega
  rcases lp S (f := f) (okF_of hf).to4 with c | ⟨g, hg, h, hh, D, hV⟩
  · exact (cert_no c aD V.fe).elim
  · have pD : 0 < (crossing g h).Den := by have := (okC_of hV.va).d; omega
    have dp := D.d
    obtain ⟨t1, t2⟩ := crossing_tight (g := g) (h := h) (by omega)
    have slack : ∀ q : Corner, det g h * fv f q - num f g h * q.Den = fx f h * ef g q - fx f g * ef h q := fun q => by
      unfold num fx ef fv
      simp only [det_def]
      grind
    have sp := slack (crossing g h)
    rw [t1, t2, Int.mul_zero, Int.mul_zero] at sp
    have sa := slack a
    have hm := hmax (crossing g h) ⟨pD, hV.fe⟩
    unfold vle at hm
    have k1 := Int.mul_le_mul_of_nonneg_left hm (Int.le_of_lt dp)
    have e1 : det g h * (fv f (crossing g h) * a.Den) = (num f g h * (crossing g h).Den) * a.Den := by
      have : det g h * fv f (crossing g h) = num f g h * (crossing g h).Den := by omega
      rw [← Int.mul_assoc, this]
    have e2 : num f g h * (crossing g h).Den * a.Den = (crossing g h).Den * (num f g h * a.Den) := by grind
    have e3 : det g h * (fv f a * (crossing g h).Den) = (crossing g h).Den * (det g h * fv f a) := by grind
    have k2 : num f g h * a.Den ≤ det g h * fv f a := Int.le_of_mul_le_mul_left (by omega) pD
    have ga := V.fe g hg
    have ha := V.fe h hh
    have u1 : fx f h * ef g a ≤ 0 := Int.mul_nonpos_of_nonneg_of_nonpos D.s ga
    have u2 : 0 ≤ fx f g * ef h a := Int.mul_nonneg_of_nonpos_of_nonpos D.t ha
    have z1 : fx f h * ef g a = 0 := by omega
    have z2 : fx f g * ef h a = 0 := by omega
    have gz := S.nz g hg
    have hz := S.nz h hh
    by_cases c1 : fx f h = 0
    · -- the form lies along h's normal
      have hp : 0 ≤ f.X * h.A + f.Y * h.B := by
        have e : (h.A * h.A + h.B * h.B) * fx f g = -((f.X * h.A + f.Y * h.B) * det g h) := by
          unfold fx at c1 ⊢
          rw [det_def]
          have c1' : f.X * h.B = f.Y * h.A := by omega
          grind
        have hs := Int.mul_nonpos_of_nonneg_of_nonpos (Int.le_of_lt (sq_pos hz)) D.t
        rcases Int.lt_or_le (f.X * h.A + f.Y * h.B) 0 with q | q
        · have := Int.mul_neg_of_neg_of_pos q dp; omega
        · exact q
      by_cases c2 : fx f g = 0
      · exfalso
        apply h0
        have q1 : det g h * f.X = 0 := by
          have : det g h * f.X = fx f h * g.A - fx f g * h.A := by unfold fx; rw [det_def]; grind
          rw [this, c1, c2]; simp
        have q2 : det g h * f.Y = 0 := by
          have : det g h * f.Y = fx f h * g.B - fx f g * h.B := by unfold fx; rw [det_def]; grind
          rw [this, c1, c2]; simp
        have r1 : f.X = 0 := by rcases Int.mul_eq_zero.1 q1 with e | e <;> omega
        have r2 : f.Y = 0 := by rcases Int.mul_eq_zero.1 q2 with e | e <;> omega
        cases f; simp at r1 r2; rw [r1, r2]
      · have th : ef h a = 0 := by rcases Int.mul_eq_zero.1 z2 with e | e; exact absurd e c2; exact e
        exact par_pair V hh hz th c1 hp
    · have tg : ef g a = 0 := by rcases Int.mul_eq_zero.1 z1 with e | e; exact absurd e c1; exact e
      by_cases c2 : fx f g = 0
      · have hp : 0 ≤ f.X * g.A + f.Y * g.B := by
          have e : (g.A * g.A + g.B * g.B) * fx f h = (f.X * g.A + f.Y * g.B) * det g h := by
            unfold fx at c2 ⊢
            rw [det_def]
            have c2' : f.X * g.B = f.Y * g.A := by omega
            grind
          have hs := Int.mul_nonneg (Int.le_of_lt (sq_pos gz)) D.s
          rcases Int.lt_or_le (f.X * g.A + f.Y * g.B) 0 with q | q
          · have := Int.mul_neg_of_neg_of_pos q dp; omega
          · exact q
        exact par_pair V hg gz tg c2 hp
      · have th : ef h a = 0 := by rcases Int.mul_eq_zero.1 z2 with e | e; exact absurd e c2; exact e
        refine pair_some hg hh (by omega) tg th ⟨?_, ?_⟩
        · unfold flip; rw [if_neg (by omega)]; exact D.s
        · unfold flip; rw [if_neg (by omega)]; have := D.t; omega
/-! ### What is found is accepted -/
theorem used_two (u v : Use) : usedL [u, v] = (if u.T = 0 then [] else [u]) ++ (if v.T = 0 then [] else [v]) := by
  have e : usedL [u, v] = filtP unused [u, v] 2 := by unfold usedL; rfl
  rw [e, filtP_succ, filtP_succ, filtP_zero, List.nil_append]
  have e1 : unused ([u, v].getD 0 default) = (u.T == 0) := rfl
  have e2 : unused ([u, v].getD 1 default) = (v.T == 0) := rfl
  rw [e1, e2]
  simp only [beq_iff_eq]
  rfl
theorem sum_two (l : List Half) (u v : Use) : sumU l (usedL [u, v]) = ⟨u.T * (useH l u.H).A + v.T * (useH l v.H).A, u.T * (useH l u.H).B + v.T * (useH l v.H).B, u.T * (useH l u.H).C + v.T * (useH l v.H).C⟩ := by
  rw [used_two]
  split
  · rename_i h1
    split
    · rename_i h2; simp [sumU, h1, h2]
    · simp [sumU, plusH, h1]
  · split
    · rename_i h2; simp [sumU, plusH, h2]
    · simp [sumU, plusH]
theorem found_ok {l : List Half} {f : Form} {a : Corner} (h1 : checkL l = 0) (hf : slope f.X f.Y = true) (V : Vt (hsL l) a) {x : Num × Num} (hx : x ∈ pairsL (allL l)) {d : Int} {u : List Use} (hu : usesB f a x = some (d, u)) : Bst l f ⟨value f a, a, d, u⟩ := by
  obtain ⟨_, _, n3⟩ := checkL_ok h1
  obtain ⟨m1, m2, m3⟩ := pairsL_mem hx
  have a1 := allL_use m1
  have a2 := allL_use m2
  have o1 := allL_ok n3 _ m1
  have o2 := allL_ok n3 _ m2
  have oF := okF_of hf
  unfold usesB at hu
  split at hu
  case isFalse => cases hu
  rename_i hc
  obtain ⟨⟨t1, t2⟩, c1, c2⟩ := hc
  rw [tight_ef] at t1 t2
  simp only [Option.some.injEq, Prod.mk.injEq] at hu
  obtain ⟨rfl, rfl⟩ := hu
  generalize hs : flip (det x.1.h x.2.h) (f.X * x.2.h.B - f.Y * x.2.h.A) = s at *
  generalize ht : flip (det x.1.h x.2.h) (f.Y * x.1.h.A - f.X * x.1.h.B) = t at *
  have bs : s ≤ 2000000 := by
    rw [← hs]
    have b1 := mulB oF.x o2.b
    have b2 := mulB oF.y o2.a
    exact flip_bd (by omega)
  have bt : t ≤ 2000000 := by
    rw [← ht]
    have b1 := mulB oF.y o1.a
    have b2 := mulB oF.x o1.b
    exact flip_bd (by omega)
  have dp := flip_self_pos m3
  have db : flip (det x.1.h x.2.h) (det x.1.h x.2.h) ≤ 2000000 := flip_bd (det_bd2 o1 o2)
  have hne : x.1.n ≠ x.2.n := num_inj m1 m2 fun e => m3 (by rw [e, det_self])
  have fm : formedL l.length (usedL [⟨x.1.n, s⟩, ⟨x.2.n, t⟩]) = true := by
    unfold formedL
    rw [Bool.and_eq_true, decide_eq_true_iff, used_two]
    refine ⟨?_, okTo_of (fun u hu => ?_) ?_ _ (Nat.le_refl _)⟩
    · split <;> split <;> simp
    · rcases List.mem_append.1 hu with hu | hu
      · split at hu
        · cases hu
        · rename_i h0
          obtain rfl := List.mem_singleton.1 hu
          exact ⟨a1.2, (by show 1 ≤ s; have : s ≠ 0 := h0; omega), (by show s ≤ 2097152; omega)⟩
      · split at hu
        · cases hu
        · rename_i h0
          obtain rfl := List.mem_singleton.1 hu
          exact ⟨a2.2, (by show 1 ≤ t; have : t ≠ 0 := h0; omega), (by show t ≤ 2097152; omega)⟩
    · split <;> split <;> simp [hne]
  have es : sumE l (usedL [⟨x.1.n, s⟩, ⟨x.2.n, t⟩]) = (⟨s * x.1.h.A + t * x.2.h.A, s * x.1.h.B + t * x.2.h.B, s * x.1.h.C + t * x.2.h.C⟩, true) := by
    unfold sumE
    rw [if_pos fm, sum_two, ← a1.1, ← a2.1]
  have idA : s * x.1.h.A + t * x.2.h.A = flip (det x.1.h x.2.h) (det x.1.h x.2.h) * f.X := by
    rw [← hs, ← ht, ← flip_mul, ← flip_mul, ← flip_add, ← flip_mul]
    congr 1
    rw [det_def]; grind
  have idB : s * x.1.h.B + t * x.2.h.B = flip (det x.1.h x.2.h) (det x.1.h x.2.h) * f.Y := by
    rw [← hs, ← ht, ← flip_mul, ← flip_mul, ← flip_add, ← flip_mul]
    congr 1
    rw [det_def]; grind
  obtain ⟨vf, g, gp, vn, vd⟩ := value_spec hf V.va
  refine ⟨by rw [es], ?_, vf, V.va, by rw [es]; exact idA, by rw [es]; exact idB, ?_, (outside_fe l a).2 V.fe, rfl⟩
  · rw [within_spec]
    show 1 ≤ flip (det x.1.h x.2.h) (det x.1.h x.2.h) ∧ flip (det x.1.h x.2.h) (det x.1.h x.2.h) ≤ 2097152
    omega
  · rw [es]
    show (s * x.1.h.C + t * x.2.h.C) * (value f a).Den = flip (det x.1.h x.2.h) (det x.1.h x.2.h) * (value f a).Num
    generalize flip (det x.1.h x.2.h) (det x.1.h x.2.h) = d at *
    unfold ef at t1 t2
    unfold fv at vn
    have e1 : (s * x.1.h.C + t * x.2.h.C) * a.Den = d * (f.X * a.X + f.Y * a.Y) := by
      have q1 : x.1.h.C * a.Den = x.1.h.A * a.X + x.1.h.B * a.Y := by omega
      have q2 : x.2.h.C * a.Den = x.2.h.A * a.X + x.2.h.B * a.Y := by omega
      grind
    rw [vn, vd] at e1
    have e2 : g * ((s * x.1.h.C + t * x.2.h.C) * (value f a).Den) = g * (d * (value f a).Num) := by grind
    exact Int.eq_of_mul_eq_mul_left (by omega) e2
/-- The bound of Best is accepted. -/
theorem best_ok {l : List Half} {f : Form} (e : (bestE l f).2 = 0) : cbE l f (bestE l f).1 = 0 := by
  by_cases h1 : checkL l = 0
  case neg => unfold bestE at e; rw [if_neg h1] at e; exact absurd e h1
  by_cases hf : slope f.X f.Y = true
  case neg => rw [best_none h1 (by simpa using hf)] at e; cases e
  by_cases h0 : cornersL l = []
  · rw [show bestE l f = (noBound, 9) by unfold bestE; rw [if_pos h1, if_pos hf, if_pos h0]] at e; cases e
  obtain ⟨n1, n2, n3⟩ := checkL_ok h1
  have V := (cor_mem n3 _).1 (bestAt_mem f h0)
  have B : Bst l f (bestE l f).1 := by
    unfold bestE
    rw [if_pos h1, if_pos hf, if_neg h0]
    by_cases hz : f = ⟨0, 0⟩
    · rw [if_pos hz]
      obtain ⟨vf, g, gp, vn, vd⟩ := value_spec hf V.va
      have fm : formedL l.length [] = true := by
        unfold formedL
        rw [Bool.and_eq_true, decide_eq_true_iff]
        exact ⟨by simp, okTo_zero _ _⟩
      have es : sumE l [] = (⟨0, 0, 0⟩, true) := by unfold sumE; rw [if_pos fm]; rfl
      refine ⟨by rw [es], within_spec.2 (show (1 : Int) ≤ 1 ∧ (1 : Int) ≤ 2097152 by decide), vf, V.va, ?_, ?_, ?_, (outside_fe l _).2 V.fe, rfl⟩
      · rw [es, hz]; rfl
      · rw [es, hz]; rfl
      · rw [es]
        show 0 * _ = 1 * (value f (bestAt f (cornersL l))).Num
        have : fv f (bestAt f (cornersL l)) = 0 := by unfold fv; rw [hz]; simp
        rw [this] at vn
        rcases Int.mul_eq_zero.1 vn.symm with q | q
        · omega
        · rw [q]; simp
    · rw [if_neg hz]
      obtain ⟨x, hx, hn⟩ := best_found h1 hf hz V fun q hq => best_all h1 hf hq
      cases hfs : (pairsL (allL l)).findSome? (usesB f (bestAt f (cornersL l))) with
      | none =>
        exfalso
        have := List.findSome?_eq_none_iff.1 hfs x hx
        exact hn this
      | some p =>
        obtain ⟨d, u⟩ := p
        obtain ⟨y, hy, hyu⟩ := List.exists_of_findSome?_eq_some hfs
        exact found_ok h1 hf V hy hyu
  unfold cbE
  rw [if_pos h1, if_pos hf, if_pos B]
end Go.Pg
/-
  The law HalfDual: weak duality (plain); the law's own function.
-/
set_option linter.all false
set_option maxRecDepth 100000
namespace Go.Pg
open Go.Proofs Go.RowKit

/-! ### Weak duality -/
theorem ef_sum {l : List Half} {q : Corner} : ∀ (U : List Use) (a : Half), (∀ u ∈ U, 0 ≤ u.T ∧ ef (useH l u.H) q ≤ 0) → ef a q ≤ 0 → ef (U.foldl (fun a u => plusH a u.T (useH l u.H)) a) q ≤ 0
  | [], a, _, ha => ha
  | u :: U, a, h, ha => by
    rw [List.foldl_cons]
    refine ef_sum U _ (fun v hv => h v (List.mem_cons_of_mem _ hv)) ?_
    rw [ef_plus]
    have hu := h u (List.mem_cons_self ..)
    have := Int.mul_nonpos_of_nonneg_of_nonpos hu.1 hu.2
    omega
theorem use_fe {l : List Half} {q : Corner} (hq : Fe (hsL l) q) {n : Int} (h : -4 ≤ n ∧ n < l.length) : ef (useH l n) q ≤ 0 := by
  refine hq _ ?_
  unfold useH
  split
  · rcases sides_get h.1 (by omega) with ⟨_, e⟩ | ⟨_, e⟩ | ⟨_, e⟩ | ⟨_, e⟩ <;> rw [e] <;> exact List.mem_append_right _ (by decide)
  · exact List.mem_append_left _ (gd1 (by omega) default)
/-- The sums of formed uses hold at every point of the polygon. -/
theorem sum_fe {l : List Half} {U : List Use} {q : Corner} (hq : Fe (hsL l) q) (hf : (sumE l U).2 = true) : ef (sumE l U).1 q ≤ 0 := by
  unfold sumE at hf ⊢
  split at hf
  case isFalse => cases hf
  rename_i h
  rw [if_pos h]
  unfold formedL at h
  rw [Bool.and_eq_true, decide_eq_true_iff] at h
  refine ef_sum U _ (fun u hu => ?_) (by unfold ef; simp)
  obtain ⟨k, hk, rfl⟩ := List.getElem_of_mem hu
  have h2 := h.2
  unfold okTo at h2
  have := List.all_eq_true.1 h2 k (List.mem_range.2 hk)
  obtain ⟨p1, p2, p3⟩ := useOk_parts this
  rw [gdI hk] at p1 p2 p3
  exact ⟨by omega, use_fe hq (by omega)⟩
theorem cb_bst {l : List Half} {f : Form} {b : Bound} (h : cbE l f b = 0) : checkL l = 0 ∧ slope f.X f.Y = true ∧ Bst l f b := by
  unfold cbE at h
  split at h
  · rename_i h1
    split at h
    · rename_i h2
      split at h
      · rename_i h3; exact ⟨h1, h2, h3⟩
      · cases h
    · cases h
  · rename_i h1; exact absurd h h1
/-- No point of the polygon goes beyond an accepted bound. -/
theorem weak {l : List Half} {f : Form} {b : Bound} (h : cbE l f b = 0) {q : Corner} (hq : Fe (hsL l) q) : fv f q * b.V.Den ≤ b.V.Num * q.Den := by
  obtain ⟨_, _, B⟩ := cb_bst h
  have s := sum_fe hq B.sm
  have sc := within_spec.1 B.sc
  have vd := (fraction_bd B.fr).1
  unfold ef at s
  rw [B.A, B.B] at s
  have e0 : b.Scale * fv f q ≤ (sumE l b.Uses).1.C * q.Den := by
    have : b.Scale * fv f q = b.Scale * f.X * q.X + b.Scale * f.Y * q.Y := by unfold fv; grind
    omega
  have e1 := Int.mul_le_mul_of_nonneg_right e0 (show 0 ≤ b.V.Den by omega)
  have e2 : b.Scale * fv f q * b.V.Den = b.Scale * (fv f q * b.V.Den) := by grind
  have e3 : (sumE l b.Uses).1.C * q.Den * b.V.Den = b.Scale * (b.V.Num * q.Den) := by
    have := B.C
    grind
  rw [e2, e3] at e1
  exact Int.le_of_mul_le_mul_left e1 (by omega)
/-- Where uses are accepted there is no point. -/
theorem weak_empty {l : List Half} {U : List Use} (h : cheE l U = 0) {q : Corner} (hd : 0 < q.Den) (hq : Fe (hsL l) q) : False := by
  unfold cheE at h
  split at h
  case isFalse => rename_i h1; exact h1 h
  split at h
  case isFalse => cases h
  rename_i h2
  have s := sum_fe hq h2.1
  have z := h2.2
  unfold zeroS at z
  simp only [Bool.and_eq_true, beq_iff_eq, decide_eq_true_eq] at z
  unfold ef at s
  rw [z.1.1, z.1.2] at s
  have := Int.mul_neg_of_neg_of_pos z.2 hd
  omega
def feB (hs : List Half) (q : Corner) : Bool := hs.all fun h => lies h q
theorem feB_iff {hs : List Half} {q : Corner} : feB hs q = true ↔ Fe hs q := by
  unfold feB Fe
  rw [List.all_eq_true]
  exact ⟨fun h x hx => (lies_ef _ _).1 (h x hx), fun h x hx => (lies_ef _ _).2 (h x hx)⟩
/-! ### within -/
theorem v_withinG (l : List Half) (p : Corner) (hl : ∀ x ∈ l, okH x) (hp : okC p) (hn : l.length ≤ 1000000) : Spec PP 31 [slH l, p.v] [B (feB (hsL l) p)] := by
  have d := hp.d
  have bad : ∀ h ∈ hsL l, ¬ ef h p ≤ 0 → false = feB (hsL l) p := fun h hh hn => by
    refine (Bool.eq_false_iff.2 fun e => hn (feB_iff.1 e h hh)).symm
  have mem : ∀ h ∈ sidesL, h ∈ hsL l := sub_hsL l
  refine spec_at Try.func31 rfl (by kernel_rfl) rfl ?_
  refine Split.by (fun g1 => ?_) (fun g1 => ?_)
  · have g1 : p.X < 0 := dT g1
    repeat refine Split.tt ?_
    exact r1B rfl (bad ⟨-1, 0, 0⟩ (mem _ (by decide)) (by unfold ef; simp; omega))
  have g1 : ¬ p.X < 0 := dF g1
  repeat refine Split.ff ?_
  refine Split.by (fun g2 => ?_) (fun g2 => ?_)
  · have g2 : p.Y < 0 := dT g2
    repeat refine Split.tt ?_
    exact r1B rfl (bad ⟨0, -1, 0⟩ (mem _ (by decide)) (by unfold ef; simp; omega))
  have g2 : ¬ p.Y < 0 := dF g2
  refine ⟨inI64 (by omega) (by omega), ?_⟩
  repeat refine Split.ff ?_
  refine Split.by (fun g3 => ?_) (fun g3 => ?_)
  · have g3 : 48 * p.Den < p.X := dT g3
    repeat refine Split.tt ?_
    exact r1B rfl (bad ⟨1, 0, 48⟩ (mem _ (by decide)) (by unfold ef; simp; omega))
  have g3 : ¬ 48 * p.Den < p.X := dF g3
  refine ⟨inI64 (by omega) (by omega), ?_⟩
  repeat refine Split.ff ?_
  refine Split.by (fun g4 => ?_) (fun g4 => ?_)
  · have g4 : 48 * p.Den < p.Y := dT g4
    repeat refine Split.tt ?_
    exact r1B rfl (bad ⟨0, 1, 48⟩ (mem _ (by decide)) (by unfold ef; simp; omega))
  have g4 : ¬ 48 * p.Den < p.Y := dF g4
  refine LoopOb.of (σ := Nat) (fun i => ([(3, .box 3 0), (31, avOf (slH l)), (32, .d (I l.length)), (33, .d (I i))], [(3, .box [.d (I p.X), .d (I p.Y), .d (I p.Den)])])) (fun i => i ≤ l.length ∧ ∀ j, j < i → ef (l.getD j default) p ≤ 0) (fun i => l.length - i) 0
    ⟨rfl, ⟨obD [I p.X, I p.Y, I p.Den] rfl, trivial⟩, avQ rfl, avR _ rfl, avR _ rfl, avR _ rfl, trivial⟩ ⟨Nat.zero_le _, fun j hj => absurd hj (Nat.not_lt_zero _)⟩ fun i hi => ?_
  obtain ⟨i1, i2⟩ := hi
  refine Split.by (fun k1 => ?_) (fun k1 => ?_)
  · have k1 : i < l.length := by have := dT k1; omega
    have m := gd1 k1 (default : Half)
    refine ⟨⟨rfl, by omega, by omega⟩, ?_⟩
    refine CallSt.pure (v_inside (l.getD i default) p (hl _ m) hp) rfl rfl ?_
    refine Split.by (fun k2 => ?_) (fun k2 => ?_)
    · have k2 : lies (l.getD i default) p = false := by simpa using k2
      exact r1B rfl (bad _ (List.mem_append_left _ m) fun h => by rw [(lies_ef _ _).2 h] at k2; cases k2)
    have k2 : lies (l.getD i default) p = true := by simpa using k2
    refine ⟨inI64 (by omega) (by omega), ?_⟩
    refine ⟨i + 1, ⟨rfl, ⟨obD [I p.X, I p.Y, I p.Den] rfl, trivial⟩, avQ rfl, avR _ rfl, avR _ rfl, avI rfl rfl, trivial⟩, ⟨k1, fun j hj => ?_⟩, (show l.length - (i + 1) < l.length - i by omega)⟩
    rcases Nat.lt_or_ge j i with h | h
    · exact i2 j h
    · obtain rfl : j = i := by omega
      exact (lies_ef _ _).1 k2
  · have k1 : i = l.length := by have := dF k1; omega
    subst k1
    refine r1B rfl (feB_iff.2 fun h hh => ?_).symm
    rcases List.mem_append.1 hh with hh | hh
    · obtain ⟨j, hj, rfl⟩ := List.getElem_of_mem hh
      have := i2 j hj
      rwa [gdI hj] at this
    · unfold sidesL at hh
      simp only [List.mem_cons, List.not_mem_nil, or_false] at hh
      rcases hh with rfl | rfl | rfl | rfl <;> (unfold ef; simp; omega)
end Go.Pg
/-
  The law HalfDual: walk.
-/
set_option linter.all false
set_option maxRecDepth 100000
namespace Go.Pg
open Go.Proofs Go.RowKit

def Bound.at (b : Bound) (j : Nat) : D := match j with
  | 0 => I b.V.Num
  | 1 => I b.V.Den
  | 2 => I b.At.X
  | 3 => I b.At.Y
  | 4 => I b.At.Den
  | 5 => I b.Scale
  | _ => .slc 2 b.Uses.length (rowU b.Uses)
abbrev rowB (l : List Bound) : Nat → Nat → D := fun i => (l.getD i default).at
abbrev bxB (b : Bound) : Ob := .box [.d (I b.V.Num), .d (I b.V.Den), .d (I b.At.X), .d (I b.At.Y), .d (I b.At.Den), .d (I b.Scale), .d (.slc 2 b.Uses.length (rowU b.Uses))]
abbrev bxCr (p : Corner) : Ob := .box [.d (I p.X), .d (I p.Y), .d (I p.Den)]
theorem rowB2 (a b : Bound) : ∀ i, i < 2 → ∀ j, j < 7 → D.eqv (rowOf 7 [I a.V.Num, I a.V.Den, I a.At.X, I a.At.Y, I a.At.Den, I a.Scale, .slc 2 a.Uses.length (rowU a.Uses), I b.V.Num, I b.V.Den, I b.At.X, I b.At.Y, I b.At.Den, I b.Scale, .slc 2 b.Uses.length (rowU b.Uses)] i j) (rowB [a, b] i j) := fun i hi j hj => by
  match i, j, hi, hj with
  | 0, 0, _, _ | 0, 1, _, _ | 0, 2, _, _ | 0, 3, _, _ | 0, 4, _, _ | 0, 5, _, _ | 0, 6, _, _ => exact D.eqv_refl _
  | 1, 0, _, _ | 1, 1, _, _ | 1, 2, _, _ | 1, 3, _, _ | 1, 4, _, _ | 1, 5, _, _ | 1, 6, _, _ => exact D.eqv_refl _
theorem best_cb {l : List Half} {f : Form} (h : (bestE l f).2 = 0) : cbE l f (bestE l f).1 = 0 := best_ok h
/-- At a valid corner, with an accepted bound, the products fit. -/
theorem dual_bd {l : List Half} {f : Form} {x : Bound} (h : cbE l f x = 0) {q : Corner} (hq : okC q) :
    inR .i64 (f.X * q.X) ∧ inR .i64 (f.Y * q.Y) ∧ inR .i64 (f.X * q.X + f.Y * q.Y) ∧ inR .i64 ((f.X * q.X + f.Y * q.Y) * x.V.Den) ∧ inR .i64 (x.V.Num * q.Den) := by
  obtain ⟨_, hs, B⟩ := cb_bst h
  have oF := okF_of hs
  obtain ⟨vd, vn⟩ := fraction_bd B.fr
  have d := hq.d
  have m1 := mulB oF.x hq.x
  have m2 := mulB oF.y hq.y
  have m3 := mulB (a := f.X * q.X + f.Y * q.Y) (b := x.V.Den) (x := 2147483648000) (y := 2097152) (by omega) (by omega)
  have m4 := mulB vn (b := q.Den) (y := 2097152) (by omega)
  exact ⟨inI64 (by omega) (by omega), inI64 (by omega) (by omega), inI64 (by omega) (by omega), inI64 (by omega) (by omega), inI64 (by omega) (by omega)⟩
set_option maxHeartbeats 4000000 in
theorem s_HalfDual (l : List Half) (f : Form) (p : Corner) (b : Bound) (_ : ∀ u ∈ b.Uses, (-9223372036854775808 ≤ u.H ∧ u.H ≤ 9223372036854775807) ∧ (-9223372036854775808 ≤ u.T ∧ u.T ≤ 9223372036854775807)) (U : List Use) (_ : ∀ u ∈ U, (-9223372036854775808 ≤ u.H ∧ u.H ≤ 9223372036854775807) ∧ (-9223372036854775808 ≤ u.T ∧ u.T ≤ 9223372036854775807)) : Spec PP 12 [slH l, f.v, p.v, b.v, slU U] [B true] := by
  refine spec_at Try.func12 rfl (by kernel_rfl) rfl ?_
  refine Split.by (fun h1 => ?_) (fun h1 => ?_)
  · repeat refine Split.tt ?_
    refine CallSt.pure s_sanity rfl rfl ?_
    exact r1B rfl rfl
  have hn : l.length ≤ 12 := by have := dF h1; omega
  refine CallSt.pure (s_Check l) rfl rfl ?_
  repeat refine Split.ff ?_
  refine Split.by (fun h1 => ?_) (fun h1 => ?_)
  · repeat refine Split.tt ?_
    refine CallSt.pure s_sanity rfl rfl ?_
    exact r1B rfl rfl
  have h1 : checkL l = 0 := by simpa using h1
  obtain ⟨n1, n2, n3⟩ := checkL_ok h1
  repeat refine Split.ff ?_
  refine Split.by (fun h2 => ?_) (fun h2 => ?_)
  · repeat refine Split.tt ?_
    refine CallSt.pure s_sanity rfl rfl ?_
    exact r1B rfl rfl
  repeat refine Split.ff ?_
  refine Split.by (fun h3 => ?_) (fun h3 => ?_)
  · repeat refine Split.tt ?_
    refine CallSt.pure s_sanity rfl rfl ?_
    exact r1B rfl rfl
  obtain ⟨lies, hlies⟩ : ∃ x, x = (valid p && feB (hsL l) p) := ⟨_, rfl⟩
  have lfe : lies = true → okC p ∧ Fe (hsL l) p := fun h => by
    rw [hlies, Bool.and_eq_true] at h
    exact ⟨okC_of h.1, feB_iff.1 h.2⟩
  have cC := corners_spec h1
  have cE := empty_eq h1
  have cR := s_CheckEmpty l (refL l)
  have cor := fun q (hq : q ∈ cornersL l) => corner_bd h1 hq
  have best := s_Best l f
  have clen := cornersL_len (l := l) (by omega)
  by_cases h0 : cornersL l = []
  · rw [if_pos h0] at cC
    rw [decide_eq_true h0] at cE
    rw [prf_che h1 (ref_prf n3 ((ref_nil h1).2 h0))] at cR
    have no := (nil_pt h1).1 h0
    refine CallSt.ro cC rfl rfl ?_
    refine CallSt.ro cE rfl rfl ?_
    have e5 : ((cornersL l).length : Int) = 0 := by rw [h0]; rfl
    repeat first | refine Split.ff ?_ | refine Split.tt ?_
    refine Split.no (show (true != (((cornersL l).length : Int) == 0)) = false by rw [e5]; rfl) ?_
    repeat first | refine Split.ff ?_ | refine Split.tt ?_
    refine CallSt.pure cR rfl rfl ?_
    repeat first | refine Split.ff ?_ | refine Split.tt ?_
    by_cases va : valid p = true
    · have cV := s_Valid p
      rw [va] at cV
      have fF : feB (hsL l) p = false := Bool.eq_false_iff.2 fun h => no p ⟨by have := (okC_of va).d; omega, feB_iff.1 h⟩
      have cW := v_withinG l p n3 (okC_of va) (by omega)
      rw [fF] at cW
      have el : false = lies := by rw [hlies, va, fF]; rfl
      refine CallSt.pure cV rfl rfl ?_
      repeat first | refine Split.ff ?_ | refine Split.tt ?_
      refine CallSt.pure cW rfl rfl ?_
      repeat first | refine Split.ff ?_ | refine Split.tt ?_
      refine CallSt.pure (s_CheckEmpty l U) rfl rfl ?_
      refine Split.by (fun g1 => ?_) (fun g1 => ?_)
      · repeat first | refine Split.ff ?_ | refine Split.tt ?_
        refine CallSt.ro best rfl rfl ?_
        refine LoopOb.of (σ := Nat) (fun i => ([(0, avOf (slH l)), (6, .box 6 0), (7, .box 7 0), (11, avOf (slC (cornersL l))), (16, .d (.bool lies)), (17, .box 17 0), (18, .d (I (bestE l f).2)), (110, .own 110), (111, .d (I 2)), (112, .d (I i))], [(6, bxF f), (7, bxCr p), (17, bxB (bestE l f).1), (110, .row 53 7 2 (rowB [b, (bestE l f).1]))])) (fun i => i ≤ 2) (fun i => 2 - i) 0
          ⟨rfl, ⟨obF rfl, obX rfl, obX rfl, obR rfl ⟨rfl, .inr ⟨rfl, rowB2 b (bestE l f).1⟩⟩, trivial⟩, avR _ rfl, avQ rfl, avQ rfl, avR _ rfl, avBb rfl el, avQ rfl, avR _ rfl, avQ rfl, avR _ rfl, avR _ rfl, trivial⟩ (Nat.zero_le _) fun i hi => ?_
        refine Split.by (fun g2 => ?_) (fun g2 => ?_)
        · have g2 : i < 2 := by have := dT g2; omega
          refine ⟨⟨by omega, by omega⟩, ⟨(show i < 2 from g2), ?_⟩⟩
          obtain ⟨x, hx⟩ : ∃ x : Bound, x = [b, (bestE l f).1].getD i default := ⟨_, rfl⟩
          have cB := s_CheckBest l f x
          rw [hx] at cB
          refine CallSt.pure cB rfl rfl ?_
          refine Split.by (fun g3 => ?_) (fun g3 => ?_)
          · refine ⟨inI64 (by omega) (by omega), ?_⟩
            exact ⟨i + 1, ⟨rfl, ⟨obF rfl, obX rfl, obX rfl, obR rfl (D.eqv_refl _), trivial⟩, avR _ rfl, avQ rfl, avQ rfl, avR _ rfl, avR _ rfl, avQ rfl, avR _ rfl, avQ rfl, avR _ rfl, avI rfl rfl, trivial⟩, g2, (show 2 - (i + 1) < 2 - i by omega)⟩
          have g3 : cbE l f ([b, (bestE l f).1].getD i default) = 0 := by simpa using g3
          rw [← hx] at g3
          have hp := fun q (h : okC q) => dual_bd g3 h
          have hw := fun q (h : Fe (hsL l) q) => weak g3 h
          rw [hx] at g3 hp hw
          refine Split.by (fun g4 => ?_) (fun g4 => ?_)
          · obtain ⟨o1, o2⟩ := lfe g4
            obtain ⟨e1, e2, e3, e4, e5⟩ := hp p o1
            have w := hw p o2
            refine ⟨e1, ?_⟩
            repeat refine Split.tt ?_
            refine ⟨e2, ?_⟩
            repeat refine Split.tt ?_
            refine ⟨e3, ?_⟩
            repeat refine Split.tt ?_
            refine ⟨e4, ?_⟩
            repeat refine Split.tt ?_
            refine ⟨e5, ?_⟩
            repeat refine Split.tt ?_
            refine Split.no (decide_eq_false (Int.not_lt.2 w)) ?_
            refine LoopOb.of (σ := Nat) (fun k => ([(0, avOf (slH l)), (6, .box 6 0), (7, .box 7 0), (11, avOf (slC (cornersL l))), (16, .d (.bool lies)), (17, .box 17 0), (18, .d (I (bestE l f).2)), (20, .box 20 0), (110, .own 110), (111, .d (I 2)), (112, .d (I i)), (146, avOf (slC (cornersL l))), (147, .d (I (cornersL l).length)), (148, .d (I k))], [(6, bxF f), (7, bxCr p), (17, bxB (bestE l f).1), (20, bxB ([b, (bestE l f).1].getD i default)), (110, .row 53 7 2 (rowB [b, (bestE l f).1]))])) (fun k => k ≤ (cornersL l).length) (fun k => (cornersL l).length - k) 0
              ⟨rfl, ⟨obF rfl, obX rfl, obX rfl, obX rfl, obR rfl (D.eqv_refl _), trivial⟩, avR _ rfl, avQ rfl, avQ rfl, avR _ rfl, avBb rfl (by first | rfl | exact g4.symm), avQ rfl, avR _ rfl, avQ rfl, avQ rfl, avR _ rfl, avR _ rfl, avR _ rfl, avR _ rfl, avR _ rfl, trivial⟩ (Nat.zero_le _) fun k hk => ?_
            refine Split.by (fun k1 => ?_) (fun k1 => ?_)
            · have k1 : k < (cornersL l).length := by have := dT k1; omega
              have m := gd1 k1 (default : Corner)
              have cb := cor _ m
              have va := cornersL_ok n3 _ m
              obtain ⟨e1, e2, e3, e4, e5⟩ := hp _ (okC_of va)
              have w := hw _ cb.2.2
              refine ⟨⟨rfl, by omega, by omega⟩, ?_⟩
              refine ⟨e1, ⟨e2, ⟨e3, ⟨e4, ⟨e5, ?_⟩⟩⟩⟩⟩
              refine Split.no (decide_eq_false (Int.not_lt.2 w)) ?_
              refine ⟨inI64 (by omega) (by omega), ?_⟩
              exact ⟨k + 1, ⟨rfl, ⟨obF rfl, obX rfl, obX rfl, obX rfl, obR rfl (D.eqv_refl _), trivial⟩, avR _ rfl, avQ rfl, avQ rfl, avR _ rfl, avR _ rfl, avQ rfl, avR _ rfl, avQ rfl, avQ rfl, avR _ rfl, avR _ rfl, avR _ rfl, avR _ rfl, avI rfl rfl, trivial⟩, k1, (show (cornersL l).length - (k + 1) < (cornersL l).length - k by omega)⟩
            · refine ⟨inI64 (by omega) (by omega), ?_⟩
              exact ⟨i + 1, ⟨rfl, ⟨obF rfl, obX rfl, obX rfl, obR rfl (D.eqv_refl _), trivial⟩, avR _ rfl, avQ rfl, avQ rfl, avR _ rfl, avR _ rfl, avQ rfl, avR _ rfl, avQ rfl, avR _ rfl, avI rfl rfl, trivial⟩, g2, (show 2 - (i + 1) < 2 - i by omega)⟩
          · repeat first | refine Split.ff ?_ | refine Split.tt ?_
            refine LoopOb.of (σ := Nat) (fun k => ([(0, avOf (slH l)), (6, .box 6 0), (7, .box 7 0), (11, avOf (slC (cornersL l))), (16, .d (.bool lies)), (17, .box 17 0), (18, .d (I (bestE l f).2)), (20, .box 20 0), (110, .own 110), (111, .d (I 2)), (112, .d (I i)), (146, avOf (slC (cornersL l))), (147, .d (I (cornersL l).length)), (148, .d (I k))], [(6, bxF f), (7, bxCr p), (17, bxB (bestE l f).1), (20, bxB ([b, (bestE l f).1].getD i default)), (110, .row 53 7 2 (rowB [b, (bestE l f).1]))])) (fun k => k ≤ (cornersL l).length) (fun k => (cornersL l).length - k) 0
              ⟨rfl, ⟨obF rfl, obX rfl, obX rfl, obX rfl, obR rfl (D.eqv_refl _), trivial⟩, avR _ rfl, avQ rfl, avQ rfl, avR _ rfl, avBb rfl (by first | rfl | exact g4.symm), avQ rfl, avR _ rfl, avQ rfl, avQ rfl, avR _ rfl, avR _ rfl, avR _ rfl, avR _ rfl, avR _ rfl, trivial⟩ (Nat.zero_le _) fun k hk => ?_
            refine Split.by (fun k1 => ?_) (fun k1 => ?_)
            · have k1 : k < (cornersL l).length := by have := dT k1; omega
              have m := gd1 k1 (default : Corner)
              have cb := cor _ m
              have va := cornersL_ok n3 _ m
              obtain ⟨e1, e2, e3, e4, e5⟩ := hp _ (okC_of va)
              have w := hw _ cb.2.2
              refine ⟨⟨rfl, by omega, by omega⟩, ?_⟩
              refine ⟨e1, ⟨e2, ⟨e3, ⟨e4, ⟨e5, ?_⟩⟩⟩⟩⟩
              refine Split.no (decide_eq_false (Int.not_lt.2 w)) ?_
              refine ⟨inI64 (by omega) (by omega), ?_⟩
              exact ⟨k + 1, ⟨rfl, ⟨obF rfl, obX rfl, obX rfl, obX rfl, obR rfl (D.eqv_refl _), trivial⟩, avR _ rfl, avQ rfl, avQ rfl, avR _ rfl, avR _ rfl, avQ rfl, avR _ rfl, avQ rfl, avQ rfl, avR _ rfl, avR _ rfl, avR _ rfl, avR _ rfl, avI rfl rfl, trivial⟩, k1, (show (cornersL l).length - (k + 1) < (cornersL l).length - k by omega)⟩
            · refine ⟨inI64 (by omega) (by omega), ?_⟩
              exact ⟨i + 1, ⟨rfl, ⟨obF rfl, obX rfl, obX rfl, obR rfl (D.eqv_refl _), trivial⟩, avR _ rfl, avQ rfl, avQ rfl, avR _ rfl, avR _ rfl, avQ rfl, avR _ rfl, avQ rfl, avR _ rfl, avI rfl rfl, trivial⟩, g2, (show 2 - (i + 1) < 2 - i by omega)⟩
        have hi2 : i = 2 := by have := dF g2; omega
        refine CallSt.pure s_sanity rfl rfl ?_
        repeat first | refine Split.ff ?_ | refine Split.tt ?_
        refine Split.by (fun g5 => ?_) (fun g5 => ?_)
        · repeat first | refine Split.ff ?_ | refine Split.tt ?_
          exact r1B rfl rfl
        have g5 : (bestE l f).2 = 0 := by simpa using g5
        have cB := s_CheckBest l f (bestE l f).1
        rw [best_ok g5] at cB
        repeat first | refine Split.ff ?_ | refine Split.tt ?_
        refine CallSt.pure cB rfl rfl ?_
        repeat first | refine Split.ff ?_ | refine Split.tt ?_
        exact r1B rfl rfl
      · repeat first | refine Split.ff ?_ | refine Split.tt ?_
        refine CallSt.ro best rfl rfl ?_
        refine LoopOb.of (σ := Nat) (fun i => ([(0, avOf (slH l)), (6, .box 6 0), (7, .box 7 0), (11, avOf (slC (cornersL l))), (16, .d (.bool lies)), (17, .box 17 0), (18, .d (I (bestE l f).2)), (110, .own 110), (111, .d (I 2)), (112, .d (I i))], [(6, bxF f), (7, bxCr p), (17, bxB (bestE l f).1), (110, .row 53 7 2 (rowB [b, (bestE l f).1]))])) (fun i => i ≤ 2) (fun i => 2 - i) 0
          ⟨rfl, ⟨obF rfl, obX rfl, obX rfl, obR rfl ⟨rfl, .inr ⟨rfl, rowB2 b (bestE l f).1⟩⟩, trivial⟩, avR _ rfl, avQ rfl, avQ rfl, avR _ rfl, avBb rfl el, avQ rfl, avR _ rfl, avQ rfl, avR _ rfl, avR _ rfl, trivial⟩ (Nat.zero_le _) fun i hi => ?_
        refine Split.by (fun g2 => ?_) (fun g2 => ?_)
        · have g2 : i < 2 := by have := dT g2; omega
          refine ⟨⟨by omega, by omega⟩, ⟨(show i < 2 from g2), ?_⟩⟩
          obtain ⟨x, hx⟩ : ∃ x : Bound, x = [b, (bestE l f).1].getD i default := ⟨_, rfl⟩
          have cB := s_CheckBest l f x
          rw [hx] at cB
          refine CallSt.pure cB rfl rfl ?_
          refine Split.by (fun g3 => ?_) (fun g3 => ?_)
          · refine ⟨inI64 (by omega) (by omega), ?_⟩
            exact ⟨i + 1, ⟨rfl, ⟨obF rfl, obX rfl, obX rfl, obR rfl (D.eqv_refl _), trivial⟩, avR _ rfl, avQ rfl, avQ rfl, avR _ rfl, avR _ rfl, avQ rfl, avR _ rfl, avQ rfl, avR _ rfl, avI rfl rfl, trivial⟩, g2, (show 2 - (i + 1) < 2 - i by omega)⟩
          have g3 : cbE l f ([b, (bestE l f).1].getD i default) = 0 := by simpa using g3
          rw [← hx] at g3
          have hp := fun q (h : okC q) => dual_bd g3 h
          have hw := fun q (h : Fe (hsL l) q) => weak g3 h
          rw [hx] at g3 hp hw
          refine Split.by (fun g4 => ?_) (fun g4 => ?_)
          · obtain ⟨o1, o2⟩ := lfe g4
            obtain ⟨e1, e2, e3, e4, e5⟩ := hp p o1
            have w := hw p o2
            refine ⟨e1, ?_⟩
            repeat refine Split.tt ?_
            refine ⟨e2, ?_⟩
            repeat refine Split.tt ?_
            refine ⟨e3, ?_⟩
            repeat refine Split.tt ?_
            refine ⟨e4, ?_⟩
            repeat refine Split.tt ?_
            refine ⟨e5, ?_⟩
            repeat refine Split.tt ?_
            refine Split.no (decide_eq_false (Int.not_lt.2 w)) ?_
            refine LoopOb.of (σ := Nat) (fun k => ([(0, avOf (slH l)), (6, .box 6 0), (7, .box 7 0), (11, avOf (slC (cornersL l))), (16, .d (.bool lies)), (17, .box 17 0), (18, .d (I (bestE l f).2)), (20, .box 20 0), (110, .own 110), (111, .d (I 2)), (112, .d (I i)), (146, avOf (slC (cornersL l))), (147, .d (I (cornersL l).length)), (148, .d (I k))], [(6, bxF f), (7, bxCr p), (17, bxB (bestE l f).1), (20, bxB ([b, (bestE l f).1].getD i default)), (110, .row 53 7 2 (rowB [b, (bestE l f).1]))])) (fun k => k ≤ (cornersL l).length) (fun k => (cornersL l).length - k) 0
              ⟨rfl, ⟨obF rfl, obX rfl, obX rfl, obX rfl, obR rfl (D.eqv_refl _), trivial⟩, avR _ rfl, avQ rfl, avQ rfl, avR _ rfl, avBb rfl (by first | rfl | exact g4.symm), avQ rfl, avR _ rfl, avQ rfl, avQ rfl, avR _ rfl, avR _ rfl, avR _ rfl, avR _ rfl, avR _ rfl, trivial⟩ (Nat.zero_le _) fun k hk => ?_
            refine Split.by (fun k1 => ?_) (fun k1 => ?_)
            · have k1 : k < (cornersL l).length := by have := dT k1; omega
              have m := gd1 k1 (default : Corner)
              have cb := cor _ m
              have va := cornersL_ok n3 _ m
              obtain ⟨e1, e2, e3, e4, e5⟩ := hp _ (okC_of va)
              have w := hw _ cb.2.2
              refine ⟨⟨rfl, by omega, by omega⟩, ?_⟩
              refine ⟨e1, ⟨e2, ⟨e3, ⟨e4, ⟨e5, ?_⟩⟩⟩⟩⟩
              refine Split.no (decide_eq_false (Int.not_lt.2 w)) ?_
              refine ⟨inI64 (by omega) (by omega), ?_⟩
              exact ⟨k + 1, ⟨rfl, ⟨obF rfl, obX rfl, obX rfl, obX rfl, obR rfl (D.eqv_refl _), trivial⟩, avR _ rfl, avQ rfl, avQ rfl, avR _ rfl, avR _ rfl, avQ rfl, avR _ rfl, avQ rfl, avQ rfl, avR _ rfl, avR _ rfl, avR _ rfl, avR _ rfl, avI rfl rfl, trivial⟩, k1, (show (cornersL l).length - (k + 1) < (cornersL l).length - k by omega)⟩
            · refine ⟨inI64 (by omega) (by omega), ?_⟩
              exact ⟨i + 1, ⟨rfl, ⟨obF rfl, obX rfl, obX rfl, obR rfl (D.eqv_refl _), trivial⟩, avR _ rfl, avQ rfl, avQ rfl, avR _ rfl, avR _ rfl, avQ rfl, avR _ rfl, avQ rfl, avR _ rfl, avI rfl rfl, trivial⟩, g2, (show 2 - (i + 1) < 2 - i by omega)⟩
          · repeat first | refine Split.ff ?_ | refine Split.tt ?_
            refine LoopOb.of (σ := Nat) (fun k => ([(0, avOf (slH l)), (6, .box 6 0), (7, .box 7 0), (11, avOf (slC (cornersL l))), (16, .d (.bool lies)), (17, .box 17 0), (18, .d (I (bestE l f).2)), (20, .box 20 0), (110, .own 110), (111, .d (I 2)), (112, .d (I i)), (146, avOf (slC (cornersL l))), (147, .d (I (cornersL l).length)), (148, .d (I k))], [(6, bxF f), (7, bxCr p), (17, bxB (bestE l f).1), (20, bxB ([b, (bestE l f).1].getD i default)), (110, .row 53 7 2 (rowB [b, (bestE l f).1]))])) (fun k => k ≤ (cornersL l).length) (fun k => (cornersL l).length - k) 0
              ⟨rfl, ⟨obF rfl, obX rfl, obX rfl, obX rfl, obR rfl (D.eqv_refl _), trivial⟩, avR _ rfl, avQ rfl, avQ rfl, avR _ rfl, avBb rfl (by first | rfl | exact g4.symm), avQ rfl, avR _ rfl, avQ rfl, avQ rfl, avR _ rfl, avR _ rfl, avR _ rfl, avR _ rfl, avR _ rfl, trivial⟩ (Nat.zero_le _) fun k hk => ?_
            refine Split.by (fun k1 => ?_) (fun k1 => ?_)
            · have k1 : k < (cornersL l).length := by have := dT k1; omega
              have m := gd1 k1 (default : Corner)
              have cb := cor _ m
              have va := cornersL_ok n3 _ m
              obtain ⟨e1, e2, e3, e4, e5⟩ := hp _ (okC_of va)
              have w := hw _ cb.2.2
              refine ⟨⟨rfl, by omega, by omega⟩, ?_⟩
              refine ⟨e1, ⟨e2, ⟨e3, ⟨e4, ⟨e5, ?_⟩⟩⟩⟩⟩
              refine Split.no (decide_eq_false (Int.not_lt.2 w)) ?_
              refine ⟨inI64 (by omega) (by omega), ?_⟩
              exact ⟨k + 1, ⟨rfl, ⟨obF rfl, obX rfl, obX rfl, obX rfl, obR rfl (D.eqv_refl _), trivial⟩, avR _ rfl, avQ rfl, avQ rfl, avR _ rfl, avR _ rfl, avQ rfl, avR _ rfl, avQ rfl, avQ rfl, avR _ rfl, avR _ rfl, avR _ rfl, avR _ rfl, avI rfl rfl, trivial⟩, k1, (show (cornersL l).length - (k + 1) < (cornersL l).length - k by omega)⟩
            · refine ⟨inI64 (by omega) (by omega), ?_⟩
              exact ⟨i + 1, ⟨rfl, ⟨obF rfl, obX rfl, obX rfl, obR rfl (D.eqv_refl _), trivial⟩, avR _ rfl, avQ rfl, avQ rfl, avR _ rfl, avR _ rfl, avQ rfl, avR _ rfl, avQ rfl, avR _ rfl, avI rfl rfl, trivial⟩, g2, (show 2 - (i + 1) < 2 - i by omega)⟩
        have hi2 : i = 2 := by have := dF g2; omega
        refine CallSt.pure s_sanity rfl rfl ?_
        repeat first | refine Split.ff ?_ | refine Split.tt ?_
        refine Split.by (fun g5 => ?_) (fun g5 => ?_)
        · repeat first | refine Split.ff ?_ | refine Split.tt ?_
          exact r1B rfl rfl
        have g5 : (bestE l f).2 = 0 := by simpa using g5
        have cB := s_CheckBest l f (bestE l f).1
        rw [best_ok g5] at cB
        repeat first | refine Split.ff ?_ | refine Split.tt ?_
        refine CallSt.pure cB rfl rfl ?_
        repeat first | refine Split.ff ?_ | refine Split.tt ?_
        exact r1B rfl rfl
    · have va : valid p = false := by simpa using va
      have cV := s_Valid p
      rw [va] at cV
      have el : false = lies := by rw [hlies, va]; rfl
      refine CallSt.pure cV rfl rfl ?_
      repeat first | refine Split.ff ?_ | refine Split.tt ?_
      refine CallSt.pure (s_CheckEmpty l U) rfl rfl ?_
      refine Split.by (fun g1 => ?_) (fun g1 => ?_)
      · repeat first | refine Split.ff ?_ | refine Split.tt ?_
        refine CallSt.ro best rfl rfl ?_
        refine LoopOb.of (σ := Nat) (fun i => ([(0, avOf (slH l)), (6, .box 6 0), (7, .box 7 0), (11, avOf (slC (cornersL l))), (16, .d (.bool lies)), (17, .box 17 0), (18, .d (I (bestE l f).2)), (110, .own 110), (111, .d (I 2)), (112, .d (I i))], [(6, bxF f), (7, bxCr p), (17, bxB (bestE l f).1), (110, .row 53 7 2 (rowB [b, (bestE l f).1]))])) (fun i => i ≤ 2) (fun i => 2 - i) 0
          ⟨rfl, ⟨obF rfl, obX rfl, obX rfl, obR rfl ⟨rfl, .inr ⟨rfl, rowB2 b (bestE l f).1⟩⟩, trivial⟩, avR _ rfl, avQ rfl, avQ rfl, avR _ rfl, avBb rfl el, avQ rfl, avR _ rfl, avQ rfl, avR _ rfl, avR _ rfl, trivial⟩ (Nat.zero_le _) fun i hi => ?_
        refine Split.by (fun g2 => ?_) (fun g2 => ?_)
        · have g2 : i < 2 := by have := dT g2; omega
          refine ⟨⟨by omega, by omega⟩, ⟨(show i < 2 from g2), ?_⟩⟩
          obtain ⟨x, hx⟩ : ∃ x : Bound, x = [b, (bestE l f).1].getD i default := ⟨_, rfl⟩
          have cB := s_CheckBest l f x
          rw [hx] at cB
          refine CallSt.pure cB rfl rfl ?_
          refine Split.by (fun g3 => ?_) (fun g3 => ?_)
          · refine ⟨inI64 (by omega) (by omega), ?_⟩
            exact ⟨i + 1, ⟨rfl, ⟨obF rfl, obX rfl, obX rfl, obR rfl (D.eqv_refl _), trivial⟩, avR _ rfl, avQ rfl, avQ rfl, avR _ rfl, avR _ rfl, avQ rfl, avR _ rfl, avQ rfl, avR _ rfl, avI rfl rfl, trivial⟩, g2, (show 2 - (i + 1) < 2 - i by omega)⟩
          have g3 : cbE l f ([b, (bestE l f).1].getD i default) = 0 := by simpa using g3
          rw [← hx] at g3
          have hp := fun q (h : okC q) => dual_bd g3 h
          have hw := fun q (h : Fe (hsL l) q) => weak g3 h
          rw [hx] at g3 hp hw
          refine Split.by (fun g4 => ?_) (fun g4 => ?_)
          · obtain ⟨o1, o2⟩ := lfe g4
            obtain ⟨e1, e2, e3, e4, e5⟩ := hp p o1
            have w := hw p o2
            refine ⟨e1, ?_⟩
            repeat refine Split.tt ?_
            refine ⟨e2, ?_⟩
            repeat refine Split.tt ?_
            refine ⟨e3, ?_⟩
            repeat refine Split.tt ?_
            refine ⟨e4, ?_⟩
            repeat refine Split.tt ?_
            refine ⟨e5, ?_⟩
            repeat refine Split.tt ?_
            refine Split.no (decide_eq_false (Int.not_lt.2 w)) ?_
            refine LoopOb.of (σ := Nat) (fun k => ([(0, avOf (slH l)), (6, .box 6 0), (7, .box 7 0), (11, avOf (slC (cornersL l))), (16, .d (.bool lies)), (17, .box 17 0), (18, .d (I (bestE l f).2)), (20, .box 20 0), (110, .own 110), (111, .d (I 2)), (112, .d (I i)), (146, avOf (slC (cornersL l))), (147, .d (I (cornersL l).length)), (148, .d (I k))], [(6, bxF f), (7, bxCr p), (17, bxB (bestE l f).1), (20, bxB ([b, (bestE l f).1].getD i default)), (110, .row 53 7 2 (rowB [b, (bestE l f).1]))])) (fun k => k ≤ (cornersL l).length) (fun k => (cornersL l).length - k) 0
              ⟨rfl, ⟨obF rfl, obX rfl, obX rfl, obX rfl, obR rfl (D.eqv_refl _), trivial⟩, avR _ rfl, avQ rfl, avQ rfl, avR _ rfl, avBb rfl (by first | rfl | exact g4.symm), avQ rfl, avR _ rfl, avQ rfl, avQ rfl, avR _ rfl, avR _ rfl, avR _ rfl, avR _ rfl, avR _ rfl, trivial⟩ (Nat.zero_le _) fun k hk => ?_
            refine Split.by (fun k1 => ?_) (fun k1 => ?_)
            · have k1 : k < (cornersL l).length := by have := dT k1; omega
              have m := gd1 k1 (default : Corner)
              have cb := cor _ m
              have va := cornersL_ok n3 _ m
              obtain ⟨e1, e2, e3, e4, e5⟩ := hp _ (okC_of va)
              have w := hw _ cb.2.2
              refine ⟨⟨rfl, by omega, by omega⟩, ?_⟩
              refine ⟨e1, ⟨e2, ⟨e3, ⟨e4, ⟨e5, ?_⟩⟩⟩⟩⟩
              refine Split.no (decide_eq_false (Int.not_lt.2 w)) ?_
              refine ⟨inI64 (by omega) (by omega), ?_⟩
              exact ⟨k + 1, ⟨rfl, ⟨obF rfl, obX rfl, obX rfl, obX rfl, obR rfl (D.eqv_refl _), trivial⟩, avR _ rfl, avQ rfl, avQ rfl, avR _ rfl, avR _ rfl, avQ rfl, avR _ rfl, avQ rfl, avQ rfl, avR _ rfl, avR _ rfl, avR _ rfl, avR _ rfl, avI rfl rfl, trivial⟩, k1, (show (cornersL l).length - (k + 1) < (cornersL l).length - k by omega)⟩
            · refine ⟨inI64 (by omega) (by omega), ?_⟩
              exact ⟨i + 1, ⟨rfl, ⟨obF rfl, obX rfl, obX rfl, obR rfl (D.eqv_refl _), trivial⟩, avR _ rfl, avQ rfl, avQ rfl, avR _ rfl, avR _ rfl, avQ rfl, avR _ rfl, avQ rfl, avR _ rfl, avI rfl rfl, trivial⟩, g2, (show 2 - (i + 1) < 2 - i by omega)⟩
          · repeat first | refine Split.ff ?_ | refine Split.tt ?_
            refine LoopOb.of (σ := Nat) (fun k => ([(0, avOf (slH l)), (6, .box 6 0), (7, .box 7 0), (11, avOf (slC (cornersL l))), (16, .d (.bool lies)), (17, .box 17 0), (18, .d (I (bestE l f).2)), (20, .box 20 0), (110, .own 110), (111, .d (I 2)), (112, .d (I i)), (146, avOf (slC (cornersL l))), (147, .d (I (cornersL l).length)), (148, .d (I k))], [(6, bxF f), (7, bxCr p), (17, bxB (bestE l f).1), (20, bxB ([b, (bestE l f).1].getD i default)), (110, .row 53 7 2 (rowB [b, (bestE l f).1]))])) (fun k => k ≤ (cornersL l).length) (fun k => (cornersL l).length - k) 0
              ⟨rfl, ⟨obF rfl, obX rfl, obX rfl, obX rfl, obR rfl (D.eqv_refl _), trivial⟩, avR _ rfl, avQ rfl, avQ rfl, avR _ rfl, avBb rfl (by first | rfl | exact g4.symm), avQ rfl, avR _ rfl, avQ rfl, avQ rfl, avR _ rfl, avR _ rfl, avR _ rfl, avR _ rfl, avR _ rfl, trivial⟩ (Nat.zero_le _) fun k hk => ?_
            refine Split.by (fun k1 => ?_) (fun k1 => ?_)
            · have k1 : k < (cornersL l).length := by have := dT k1; omega
              have m := gd1 k1 (default : Corner)
              have cb := cor _ m
              have va := cornersL_ok n3 _ m
              obtain ⟨e1, e2, e3, e4, e5⟩ := hp _ (okC_of va)
              have w := hw _ cb.2.2
              refine ⟨⟨rfl, by omega, by omega⟩, ?_⟩
              refine ⟨e1, ⟨e2, ⟨e3, ⟨e4, ⟨e5, ?_⟩⟩⟩⟩⟩
              refine Split.no (decide_eq_false (Int.not_lt.2 w)) ?_
              refine ⟨inI64 (by omega) (by omega), ?_⟩
              exact ⟨k + 1, ⟨rfl, ⟨obF rfl, obX rfl, obX rfl, obX rfl, obR rfl (D.eqv_refl _), trivial⟩, avR _ rfl, avQ rfl, avQ rfl, avR _ rfl, avR _ rfl, avQ rfl, avR _ rfl, avQ rfl, avQ rfl, avR _ rfl, avR _ rfl, avR _ rfl, avR _ rfl, avI rfl rfl, trivial⟩, k1, (show (cornersL l).length - (k + 1) < (cornersL l).length - k by omega)⟩
            · refine ⟨inI64 (by omega) (by omega), ?_⟩
              exact ⟨i + 1, ⟨rfl, ⟨obF rfl, obX rfl, obX rfl, obR rfl (D.eqv_refl _), trivial⟩, avR _ rfl, avQ rfl, avQ rfl, avR _ rfl, avR _ rfl, avQ rfl, avR _ rfl, avQ rfl, avR _ rfl, avI rfl rfl, trivial⟩, g2, (show 2 - (i + 1) < 2 - i by omega)⟩
        have hi2 : i = 2 := by have := dF g2; omega
        refine CallSt.pure s_sanity rfl rfl ?_
        repeat first | refine Split.ff ?_ | refine Split.tt ?_
        refine Split.by (fun g5 => ?_) (fun g5 => ?_)
        · repeat first | refine Split.ff ?_ | refine Split.tt ?_
          exact r1B rfl rfl
        have g5 : (bestE l f).2 = 0 := by simpa using g5
        have cB := s_CheckBest l f (bestE l f).1
        rw [best_ok g5] at cB
        repeat first | refine Split.ff ?_ | refine Split.tt ?_
        refine CallSt.pure cB rfl rfl ?_
        repeat first | refine Split.ff ?_ | refine Split.tt ?_
        exact r1B rfl rfl
      · repeat first | refine Split.ff ?_ | refine Split.tt ?_
        refine CallSt.ro best rfl rfl ?_
        refine LoopOb.of (σ := Nat) (fun i => ([(0, avOf (slH l)), (6, .box 6 0), (7, .box 7 0), (11, avOf (slC (cornersL l))), (16, .d (.bool lies)), (17, .box 17 0), (18, .d (I (bestE l f).2)), (110, .own 110), (111, .d (I 2)), (112, .d (I i))], [(6, bxF f), (7, bxCr p), (17, bxB (bestE l f).1), (110, .row 53 7 2 (rowB [b, (bestE l f).1]))])) (fun i => i ≤ 2) (fun i => 2 - i) 0
          ⟨rfl, ⟨obF rfl, obX rfl, obX rfl, obR rfl ⟨rfl, .inr ⟨rfl, rowB2 b (bestE l f).1⟩⟩, trivial⟩, avR _ rfl, avQ rfl, avQ rfl, avR _ rfl, avBb rfl el, avQ rfl, avR _ rfl, avQ rfl, avR _ rfl, avR _ rfl, trivial⟩ (Nat.zero_le _) fun i hi => ?_
        refine Split.by (fun g2 => ?_) (fun g2 => ?_)
        · have g2 : i < 2 := by have := dT g2; omega
          refine ⟨⟨by omega, by omega⟩, ⟨(show i < 2 from g2), ?_⟩⟩
          obtain ⟨x, hx⟩ : ∃ x : Bound, x = [b, (bestE l f).1].getD i default := ⟨_, rfl⟩
          have cB := s_CheckBest l f x
          rw [hx] at cB
          refine CallSt.pure cB rfl rfl ?_
          refine Split.by (fun g3 => ?_) (fun g3 => ?_)
          · refine ⟨inI64 (by omega) (by omega), ?_⟩
            exact ⟨i + 1, ⟨rfl, ⟨obF rfl, obX rfl, obX rfl, obR rfl (D.eqv_refl _), trivial⟩, avR _ rfl, avQ rfl, avQ rfl, avR _ rfl, avR _ rfl, avQ rfl, avR _ rfl, avQ rfl, avR _ rfl, avI rfl rfl, trivial⟩, g2, (show 2 - (i + 1) < 2 - i by omega)⟩
          have g3 : cbE l f ([b, (bestE l f).1].getD i default) = 0 := by simpa using g3
          rw [← hx] at g3
          have hp := fun q (h : okC q) => dual_bd g3 h
          have hw := fun q (h : Fe (hsL l) q) => weak g3 h
          rw [hx] at g3 hp hw
          refine Split.by (fun g4 => ?_) (fun g4 => ?_)
          · obtain ⟨o1, o2⟩ := lfe g4
            obtain ⟨e1, e2, e3, e4, e5⟩ := hp p o1
            have w := hw p o2
            refine ⟨e1, ?_⟩
            repeat refine Split.tt ?_
            refine ⟨e2, ?_⟩
            repeat refine Split.tt ?_
            refine ⟨e3, ?_⟩
            repeat refine Split.tt ?_
            refine ⟨e4, ?_⟩
            repeat refine Split.tt ?_
            refine ⟨e5, ?_⟩
            repeat refine Split.tt ?_
            refine Split.no (decide_eq_false (Int.not_lt.2 w)) ?_
            refine LoopOb.of (σ := Nat) (fun k => ([(0, avOf (slH l)), (6, .box 6 0), (7, .box 7 0), (11, avOf (slC (cornersL l))), (16, .d (.bool lies)), (17, .box 17 0), (18, .d (I (bestE l f).2)), (20, .box 20 0), (110, .own 110), (111, .d (I 2)), (112, .d (I i)), (146, avOf (slC (cornersL l))), (147, .d (I (cornersL l).length)), (148, .d (I k))], [(6, bxF f), (7, bxCr p), (17, bxB (bestE l f).1), (20, bxB ([b, (bestE l f).1].getD i default)), (110, .row 53 7 2 (rowB [b, (bestE l f).1]))])) (fun k => k ≤ (cornersL l).length) (fun k => (cornersL l).length - k) 0
              ⟨rfl, ⟨obF rfl, obX rfl, obX rfl, obX rfl, obR rfl (D.eqv_refl _), trivial⟩, avR _ rfl, avQ rfl, avQ rfl, avR _ rfl, avBb rfl (by first | rfl | exact g4.symm), avQ rfl, avR _ rfl, avQ rfl, avQ rfl, avR _ rfl, avR _ rfl, avR _ rfl, avR _ rfl, avR _ rfl, trivial⟩ (Nat.zero_le _) fun k hk => ?_
            refine Split.by (fun k1 => ?_) (fun k1 => ?_)
            · have k1 : k < (cornersL l).length := by have := dT k1; omega
              have m := gd1 k1 (default : Corner)
              have cb := cor _ m
              have va := cornersL_ok n3 _ m
              obtain ⟨e1, e2, e3, e4, e5⟩ := hp _ (okC_of va)
              have w := hw _ cb.2.2
              refine ⟨⟨rfl, by omega, by omega⟩, ?_⟩
              refine ⟨e1, ⟨e2, ⟨e3, ⟨e4, ⟨e5, ?_⟩⟩⟩⟩⟩
              refine Split.no (decide_eq_false (Int.not_lt.2 w)) ?_
              refine ⟨inI64 (by omega) (by omega), ?_⟩
              exact ⟨k + 1, ⟨rfl, ⟨obF rfl, obX rfl, obX rfl, obX rfl, obR rfl (D.eqv_refl _), trivial⟩, avR _ rfl, avQ rfl, avQ rfl, avR _ rfl, avR _ rfl, avQ rfl, avR _ rfl, avQ rfl, avQ rfl, avR _ rfl, avR _ rfl, avR _ rfl, avR _ rfl, avI rfl rfl, trivial⟩, k1, (show (cornersL l).length - (k + 1) < (cornersL l).length - k by omega)⟩
            · refine ⟨inI64 (by omega) (by omega), ?_⟩
              exact ⟨i + 1, ⟨rfl, ⟨obF rfl, obX rfl, obX rfl, obR rfl (D.eqv_refl _), trivial⟩, avR _ rfl, avQ rfl, avQ rfl, avR _ rfl, avR _ rfl, avQ rfl, avR _ rfl, avQ rfl, avR _ rfl, avI rfl rfl, trivial⟩, g2, (show 2 - (i + 1) < 2 - i by omega)⟩
          · repeat first | refine Split.ff ?_ | refine Split.tt ?_
            refine LoopOb.of (σ := Nat) (fun k => ([(0, avOf (slH l)), (6, .box 6 0), (7, .box 7 0), (11, avOf (slC (cornersL l))), (16, .d (.bool lies)), (17, .box 17 0), (18, .d (I (bestE l f).2)), (20, .box 20 0), (110, .own 110), (111, .d (I 2)), (112, .d (I i)), (146, avOf (slC (cornersL l))), (147, .d (I (cornersL l).length)), (148, .d (I k))], [(6, bxF f), (7, bxCr p), (17, bxB (bestE l f).1), (20, bxB ([b, (bestE l f).1].getD i default)), (110, .row 53 7 2 (rowB [b, (bestE l f).1]))])) (fun k => k ≤ (cornersL l).length) (fun k => (cornersL l).length - k) 0
              ⟨rfl, ⟨obF rfl, obX rfl, obX rfl, obX rfl, obR rfl (D.eqv_refl _), trivial⟩, avR _ rfl, avQ rfl, avQ rfl, avR _ rfl, avBb rfl (by first | rfl | exact g4.symm), avQ rfl, avR _ rfl, avQ rfl, avQ rfl, avR _ rfl, avR _ rfl, avR _ rfl, avR _ rfl, avR _ rfl, trivial⟩ (Nat.zero_le _) fun k hk => ?_
            refine Split.by (fun k1 => ?_) (fun k1 => ?_)
            · have k1 : k < (cornersL l).length := by have := dT k1; omega
              have m := gd1 k1 (default : Corner)
              have cb := cor _ m
              have va := cornersL_ok n3 _ m
              obtain ⟨e1, e2, e3, e4, e5⟩ := hp _ (okC_of va)
              have w := hw _ cb.2.2
              refine ⟨⟨rfl, by omega, by omega⟩, ?_⟩
              refine ⟨e1, ⟨e2, ⟨e3, ⟨e4, ⟨e5, ?_⟩⟩⟩⟩⟩
              refine Split.no (decide_eq_false (Int.not_lt.2 w)) ?_
              refine ⟨inI64 (by omega) (by omega), ?_⟩
              exact ⟨k + 1, ⟨rfl, ⟨obF rfl, obX rfl, obX rfl, obX rfl, obR rfl (D.eqv_refl _), trivial⟩, avR _ rfl, avQ rfl, avQ rfl, avR _ rfl, avR _ rfl, avQ rfl, avR _ rfl, avQ rfl, avQ rfl, avR _ rfl, avR _ rfl, avR _ rfl, avR _ rfl, avI rfl rfl, trivial⟩, k1, (show (cornersL l).length - (k + 1) < (cornersL l).length - k by omega)⟩
            · refine ⟨inI64 (by omega) (by omega), ?_⟩
              exact ⟨i + 1, ⟨rfl, ⟨obF rfl, obX rfl, obX rfl, obR rfl (D.eqv_refl _), trivial⟩, avR _ rfl, avQ rfl, avQ rfl, avR _ rfl, avR _ rfl, avQ rfl, avR _ rfl, avQ rfl, avR _ rfl, avI rfl rfl, trivial⟩, g2, (show 2 - (i + 1) < 2 - i by omega)⟩
        have hi2 : i = 2 := by have := dF g2; omega
        refine CallSt.pure s_sanity rfl rfl ?_
        repeat first | refine Split.ff ?_ | refine Split.tt ?_
        refine Split.by (fun g5 => ?_) (fun g5 => ?_)
        · repeat first | refine Split.ff ?_ | refine Split.tt ?_
          exact r1B rfl rfl
        have g5 : (bestE l f).2 = 0 := by simpa using g5
        have cB := s_CheckBest l f (bestE l f).1
        rw [best_ok g5] at cB
        repeat first | refine Split.ff ?_ | refine Split.tt ?_
        refine CallSt.pure cB rfl rfl ?_
        repeat first | refine Split.ff ?_ | refine Split.tt ?_
        exact r1B rfl rfl
  · rw [if_neg h0] at cC
    rw [decide_eq_false h0] at cE
    refine CallSt.ro cC rfl rfl ?_
    refine CallSt.ro cE rfl rfl ?_
    have e5 : ((cornersL l).length : Int) ≠ 0 := fun e => h0 (List.length_eq_zero_iff.1 (by omega))
    repeat first | refine Split.ff ?_ | refine Split.tt ?_
    refine Split.no (show (false != (((cornersL l).length : Int) == 0)) = false by simpa using h0) ?_
    repeat first | refine Split.ff ?_ | refine Split.tt ?_
    have g1 : (cheE l U == 0) = false := by
      rw [Bool.eq_false_iff]
      intro h
      have h : cheE l U = 0 := by simpa using h
      obtain ⟨q, hq⟩ := List.exists_mem_of_ne_nil _ h0
      have c := cor q hq
      exact weak_empty h (by omega) c.2.2
    by_cases va : valid p = true
    · have cV := s_Valid p
      rw [va] at cV
      have cW := v_withinG l p n3 (okC_of va) (by omega)
      have el : feB (hsL l) p = lies := by rw [hlies, va]; rfl
      refine CallSt.pure cV rfl rfl ?_
      repeat first | refine Split.ff ?_ | refine Split.tt ?_
      refine CallSt.pure cW rfl rfl ?_
      repeat first | refine Split.ff ?_ | refine Split.tt ?_
      refine CallSt.pure (s_CheckEmpty l U) rfl rfl ?_
      refine Split.no g1 ?_
      repeat first | refine Split.ff ?_ | refine Split.tt ?_
      refine CallSt.ro best rfl rfl ?_
      refine LoopOb.of (σ := Nat) (fun i => ([(0, avOf (slH l)), (6, .box 6 0), (7, .box 7 0), (11, avOf (slC (cornersL l))), (16, .d (.bool lies)), (17, .box 17 0), (18, .d (I (bestE l f).2)), (110, .own 110), (111, .d (I 2)), (112, .d (I i))], [(6, bxF f), (7, bxCr p), (17, bxB (bestE l f).1), (110, .row 53 7 2 (rowB [b, (bestE l f).1]))])) (fun i => i ≤ 2) (fun i => 2 - i) 0
        ⟨rfl, ⟨obF rfl, obX rfl, obX rfl, obR rfl ⟨rfl, .inr ⟨rfl, rowB2 b (bestE l f).1⟩⟩, trivial⟩, avR _ rfl, avQ rfl, avQ rfl, avR _ rfl, avBb rfl el, avQ rfl, avR _ rfl, avQ rfl, avR _ rfl, avR _ rfl, trivial⟩ (Nat.zero_le _) fun i hi => ?_
      refine Split.by (fun g2 => ?_) (fun g2 => ?_)
      · have g2 : i < 2 := by have := dT g2; omega
        refine ⟨⟨by omega, by omega⟩, ⟨(show i < 2 from g2), ?_⟩⟩
        obtain ⟨x, hx⟩ : ∃ x : Bound, x = [b, (bestE l f).1].getD i default := ⟨_, rfl⟩
        have cB := s_CheckBest l f x
        rw [hx] at cB
        refine CallSt.pure cB rfl rfl ?_
        refine Split.by (fun g3 => ?_) (fun g3 => ?_)
        · refine ⟨inI64 (by omega) (by omega), ?_⟩
          exact ⟨i + 1, ⟨rfl, ⟨obF rfl, obX rfl, obX rfl, obR rfl (D.eqv_refl _), trivial⟩, avR _ rfl, avQ rfl, avQ rfl, avR _ rfl, avR _ rfl, avQ rfl, avR _ rfl, avQ rfl, avR _ rfl, avI rfl rfl, trivial⟩, g2, (show 2 - (i + 1) < 2 - i by omega)⟩
        have g3 : cbE l f ([b, (bestE l f).1].getD i default) = 0 := by simpa using g3
        rw [← hx] at g3
        have hp := fun q (h : okC q) => dual_bd g3 h
        have hw := fun q (h : Fe (hsL l) q) => weak g3 h
        rw [hx] at g3 hp hw
        refine Split.by (fun g4 => ?_) (fun g4 => ?_)
        · obtain ⟨o1, o2⟩ := lfe g4
          obtain ⟨e1, e2, e3, e4, e5⟩ := hp p o1
          have w := hw p o2
          refine ⟨e1, ?_⟩
          repeat refine Split.tt ?_
          refine ⟨e2, ?_⟩
          repeat refine Split.tt ?_
          refine ⟨e3, ?_⟩
          repeat refine Split.tt ?_
          refine ⟨e4, ?_⟩
          repeat refine Split.tt ?_
          refine ⟨e5, ?_⟩
          repeat refine Split.tt ?_
          refine Split.no (decide_eq_false (Int.not_lt.2 w)) ?_
          refine LoopOb.of (σ := Nat) (fun k => ([(0, avOf (slH l)), (6, .box 6 0), (7, .box 7 0), (11, avOf (slC (cornersL l))), (16, .d (.bool lies)), (17, .box 17 0), (18, .d (I (bestE l f).2)), (20, .box 20 0), (110, .own 110), (111, .d (I 2)), (112, .d (I i)), (146, avOf (slC (cornersL l))), (147, .d (I (cornersL l).length)), (148, .d (I k))], [(6, bxF f), (7, bxCr p), (17, bxB (bestE l f).1), (20, bxB ([b, (bestE l f).1].getD i default)), (110, .row 53 7 2 (rowB [b, (bestE l f).1]))])) (fun k => k ≤ (cornersL l).length) (fun k => (cornersL l).length - k) 0
            ⟨rfl, ⟨obF rfl, obX rfl, obX rfl, obX rfl, obR rfl (D.eqv_refl _), trivial⟩, avR _ rfl, avQ rfl, avQ rfl, avR _ rfl, avBb rfl (by first | rfl | exact g4.symm), avQ rfl, avR _ rfl, avQ rfl, avQ rfl, avR _ rfl, avR _ rfl, avR _ rfl, avR _ rfl, avR _ rfl, trivial⟩ (Nat.zero_le _) fun k hk => ?_
          refine Split.by (fun k1 => ?_) (fun k1 => ?_)
          · have k1 : k < (cornersL l).length := by have := dT k1; omega
            have m := gd1 k1 (default : Corner)
            have cb := cor _ m
            have va := cornersL_ok n3 _ m
            obtain ⟨e1, e2, e3, e4, e5⟩ := hp _ (okC_of va)
            have w := hw _ cb.2.2
            refine ⟨⟨rfl, by omega, by omega⟩, ?_⟩
            refine ⟨e1, ⟨e2, ⟨e3, ⟨e4, ⟨e5, ?_⟩⟩⟩⟩⟩
            refine Split.no (decide_eq_false (Int.not_lt.2 w)) ?_
            refine ⟨inI64 (by omega) (by omega), ?_⟩
            exact ⟨k + 1, ⟨rfl, ⟨obF rfl, obX rfl, obX rfl, obX rfl, obR rfl (D.eqv_refl _), trivial⟩, avR _ rfl, avQ rfl, avQ rfl, avR _ rfl, avR _ rfl, avQ rfl, avR _ rfl, avQ rfl, avQ rfl, avR _ rfl, avR _ rfl, avR _ rfl, avR _ rfl, avI rfl rfl, trivial⟩, k1, (show (cornersL l).length - (k + 1) < (cornersL l).length - k by omega)⟩
          · refine ⟨inI64 (by omega) (by omega), ?_⟩
            exact ⟨i + 1, ⟨rfl, ⟨obF rfl, obX rfl, obX rfl, obR rfl (D.eqv_refl _), trivial⟩, avR _ rfl, avQ rfl, avQ rfl, avR _ rfl, avR _ rfl, avQ rfl, avR _ rfl, avQ rfl, avR _ rfl, avI rfl rfl, trivial⟩, g2, (show 2 - (i + 1) < 2 - i by omega)⟩
        · repeat first | refine Split.ff ?_ | refine Split.tt ?_
          refine LoopOb.of (σ := Nat) (fun k => ([(0, avOf (slH l)), (6, .box 6 0), (7, .box 7 0), (11, avOf (slC (cornersL l))), (16, .d (.bool lies)), (17, .box 17 0), (18, .d (I (bestE l f).2)), (20, .box 20 0), (110, .own 110), (111, .d (I 2)), (112, .d (I i)), (146, avOf (slC (cornersL l))), (147, .d (I (cornersL l).length)), (148, .d (I k))], [(6, bxF f), (7, bxCr p), (17, bxB (bestE l f).1), (20, bxB ([b, (bestE l f).1].getD i default)), (110, .row 53 7 2 (rowB [b, (bestE l f).1]))])) (fun k => k ≤ (cornersL l).length) (fun k => (cornersL l).length - k) 0
            ⟨rfl, ⟨obF rfl, obX rfl, obX rfl, obX rfl, obR rfl (D.eqv_refl _), trivial⟩, avR _ rfl, avQ rfl, avQ rfl, avR _ rfl, avBb rfl (by first | rfl | exact g4.symm), avQ rfl, avR _ rfl, avQ rfl, avQ rfl, avR _ rfl, avR _ rfl, avR _ rfl, avR _ rfl, avR _ rfl, trivial⟩ (Nat.zero_le _) fun k hk => ?_
          refine Split.by (fun k1 => ?_) (fun k1 => ?_)
          · have k1 : k < (cornersL l).length := by have := dT k1; omega
            have m := gd1 k1 (default : Corner)
            have cb := cor _ m
            have va := cornersL_ok n3 _ m
            obtain ⟨e1, e2, e3, e4, e5⟩ := hp _ (okC_of va)
            have w := hw _ cb.2.2
            refine ⟨⟨rfl, by omega, by omega⟩, ?_⟩
            refine ⟨e1, ⟨e2, ⟨e3, ⟨e4, ⟨e5, ?_⟩⟩⟩⟩⟩
            refine Split.no (decide_eq_false (Int.not_lt.2 w)) ?_
            refine ⟨inI64 (by omega) (by omega), ?_⟩
            exact ⟨k + 1, ⟨rfl, ⟨obF rfl, obX rfl, obX rfl, obX rfl, obR rfl (D.eqv_refl _), trivial⟩, avR _ rfl, avQ rfl, avQ rfl, avR _ rfl, avR _ rfl, avQ rfl, avR _ rfl, avQ rfl, avQ rfl, avR _ rfl, avR _ rfl, avR _ rfl, avR _ rfl, avI rfl rfl, trivial⟩, k1, (show (cornersL l).length - (k + 1) < (cornersL l).length - k by omega)⟩
          · refine ⟨inI64 (by omega) (by omega), ?_⟩
            exact ⟨i + 1, ⟨rfl, ⟨obF rfl, obX rfl, obX rfl, obR rfl (D.eqv_refl _), trivial⟩, avR _ rfl, avQ rfl, avQ rfl, avR _ rfl, avR _ rfl, avQ rfl, avR _ rfl, avQ rfl, avR _ rfl, avI rfl rfl, trivial⟩, g2, (show 2 - (i + 1) < 2 - i by omega)⟩
      have hi2 : i = 2 := by have := dF g2; omega
      refine CallSt.pure s_sanity rfl rfl ?_
      repeat first | refine Split.ff ?_ | refine Split.tt ?_
      refine Split.by (fun g5 => ?_) (fun g5 => ?_)
      · repeat first | refine Split.ff ?_ | refine Split.tt ?_
        exact r1B rfl rfl
      have g5 : (bestE l f).2 = 0 := by simpa using g5
      have cB := s_CheckBest l f (bestE l f).1
      rw [best_ok g5] at cB
      repeat first | refine Split.ff ?_ | refine Split.tt ?_
      refine CallSt.pure cB rfl rfl ?_
      repeat first | refine Split.ff ?_ | refine Split.tt ?_
      exact r1B rfl rfl
    · have va : valid p = false := by simpa using va
      have cV := s_Valid p
      rw [va] at cV
      have el : false = lies := by rw [hlies, va]; rfl
      refine CallSt.pure cV rfl rfl ?_
      repeat first | refine Split.ff ?_ | refine Split.tt ?_
      refine CallSt.pure (s_CheckEmpty l U) rfl rfl ?_
      refine Split.no g1 ?_
      repeat first | refine Split.ff ?_ | refine Split.tt ?_
      refine CallSt.ro best rfl rfl ?_
      refine LoopOb.of (σ := Nat) (fun i => ([(0, avOf (slH l)), (6, .box 6 0), (7, .box 7 0), (11, avOf (slC (cornersL l))), (16, .d (.bool lies)), (17, .box 17 0), (18, .d (I (bestE l f).2)), (110, .own 110), (111, .d (I 2)), (112, .d (I i))], [(6, bxF f), (7, bxCr p), (17, bxB (bestE l f).1), (110, .row 53 7 2 (rowB [b, (bestE l f).1]))])) (fun i => i ≤ 2) (fun i => 2 - i) 0
        ⟨rfl, ⟨obF rfl, obX rfl, obX rfl, obR rfl ⟨rfl, .inr ⟨rfl, rowB2 b (bestE l f).1⟩⟩, trivial⟩, avR _ rfl, avQ rfl, avQ rfl, avR _ rfl, avBb rfl el, avQ rfl, avR _ rfl, avQ rfl, avR _ rfl, avR _ rfl, trivial⟩ (Nat.zero_le _) fun i hi => ?_
      refine Split.by (fun g2 => ?_) (fun g2 => ?_)
      · have g2 : i < 2 := by have := dT g2; omega
        refine ⟨⟨by omega, by omega⟩, ⟨(show i < 2 from g2), ?_⟩⟩
        obtain ⟨x, hx⟩ : ∃ x : Bound, x = [b, (bestE l f).1].getD i default := ⟨_, rfl⟩
        have cB := s_CheckBest l f x
        rw [hx] at cB
        refine CallSt.pure cB rfl rfl ?_
        refine Split.by (fun g3 => ?_) (fun g3 => ?_)
        · refine ⟨inI64 (by omega) (by omega), ?_⟩
          exact ⟨i + 1, ⟨rfl, ⟨obF rfl, obX rfl, obX rfl, obR rfl (D.eqv_refl _), trivial⟩, avR _ rfl, avQ rfl, avQ rfl, avR _ rfl, avR _ rfl, avQ rfl, avR _ rfl, avQ rfl, avR _ rfl, avI rfl rfl, trivial⟩, g2, (show 2 - (i + 1) < 2 - i by omega)⟩
        have g3 : cbE l f ([b, (bestE l f).1].getD i default) = 0 := by simpa using g3
        rw [← hx] at g3
        have hp := fun q (h : okC q) => dual_bd g3 h
        have hw := fun q (h : Fe (hsL l) q) => weak g3 h
        rw [hx] at g3 hp hw
        refine Split.by (fun g4 => ?_) (fun g4 => ?_)
        · obtain ⟨o1, o2⟩ := lfe g4
          obtain ⟨e1, e2, e3, e4, e5⟩ := hp p o1
          have w := hw p o2
          refine ⟨e1, ?_⟩
          repeat refine Split.tt ?_
          refine ⟨e2, ?_⟩
          repeat refine Split.tt ?_
          refine ⟨e3, ?_⟩
          repeat refine Split.tt ?_
          refine ⟨e4, ?_⟩
          repeat refine Split.tt ?_
          refine ⟨e5, ?_⟩
          repeat refine Split.tt ?_
          refine Split.no (decide_eq_false (Int.not_lt.2 w)) ?_
          refine LoopOb.of (σ := Nat) (fun k => ([(0, avOf (slH l)), (6, .box 6 0), (7, .box 7 0), (11, avOf (slC (cornersL l))), (16, .d (.bool lies)), (17, .box 17 0), (18, .d (I (bestE l f).2)), (20, .box 20 0), (110, .own 110), (111, .d (I 2)), (112, .d (I i)), (146, avOf (slC (cornersL l))), (147, .d (I (cornersL l).length)), (148, .d (I k))], [(6, bxF f), (7, bxCr p), (17, bxB (bestE l f).1), (20, bxB ([b, (bestE l f).1].getD i default)), (110, .row 53 7 2 (rowB [b, (bestE l f).1]))])) (fun k => k ≤ (cornersL l).length) (fun k => (cornersL l).length - k) 0
            ⟨rfl, ⟨obF rfl, obX rfl, obX rfl, obX rfl, obR rfl (D.eqv_refl _), trivial⟩, avR _ rfl, avQ rfl, avQ rfl, avR _ rfl, avBb rfl (by first | rfl | exact g4.symm), avQ rfl, avR _ rfl, avQ rfl, avQ rfl, avR _ rfl, avR _ rfl, avR _ rfl, avR _ rfl, avR _ rfl, trivial⟩ (Nat.zero_le _) fun k hk => ?_
          refine Split.by (fun k1 => ?_) (fun k1 => ?_)
          · have k1 : k < (cornersL l).length := by have := dT k1; omega
            have m := gd1 k1 (default : Corner)
            have cb := cor _ m
            have va := cornersL_ok n3 _ m
            obtain ⟨e1, e2, e3, e4, e5⟩ := hp _ (okC_of va)
            have w := hw _ cb.2.2
            refine ⟨⟨rfl, by omega, by omega⟩, ?_⟩
            refine ⟨e1, ⟨e2, ⟨e3, ⟨e4, ⟨e5, ?_⟩⟩⟩⟩⟩
            refine Split.no (decide_eq_false (Int.not_lt.2 w)) ?_
            refine ⟨inI64 (by omega) (by omega), ?_⟩
            exact ⟨k + 1, ⟨rfl, ⟨obF rfl, obX rfl, obX rfl, obX rfl, obR rfl (D.eqv_refl _), trivial⟩, avR _ rfl, avQ rfl, avQ rfl, avR _ rfl, avR _ rfl, avQ rfl, avR _ rfl, avQ rfl, avQ rfl, avR _ rfl, avR _ rfl, avR _ rfl, avR _ rfl, avI rfl rfl, trivial⟩, k1, (show (cornersL l).length - (k + 1) < (cornersL l).length - k by omega)⟩
          · refine ⟨inI64 (by omega) (by omega), ?_⟩
            exact ⟨i + 1, ⟨rfl, ⟨obF rfl, obX rfl, obX rfl, obR rfl (D.eqv_refl _), trivial⟩, avR _ rfl, avQ rfl, avQ rfl, avR _ rfl, avR _ rfl, avQ rfl, avR _ rfl, avQ rfl, avR _ rfl, avI rfl rfl, trivial⟩, g2, (show 2 - (i + 1) < 2 - i by omega)⟩
        · repeat first | refine Split.ff ?_ | refine Split.tt ?_
          refine LoopOb.of (σ := Nat) (fun k => ([(0, avOf (slH l)), (6, .box 6 0), (7, .box 7 0), (11, avOf (slC (cornersL l))), (16, .d (.bool lies)), (17, .box 17 0), (18, .d (I (bestE l f).2)), (20, .box 20 0), (110, .own 110), (111, .d (I 2)), (112, .d (I i)), (146, avOf (slC (cornersL l))), (147, .d (I (cornersL l).length)), (148, .d (I k))], [(6, bxF f), (7, bxCr p), (17, bxB (bestE l f).1), (20, bxB ([b, (bestE l f).1].getD i default)), (110, .row 53 7 2 (rowB [b, (bestE l f).1]))])) (fun k => k ≤ (cornersL l).length) (fun k => (cornersL l).length - k) 0
            ⟨rfl, ⟨obF rfl, obX rfl, obX rfl, obX rfl, obR rfl (D.eqv_refl _), trivial⟩, avR _ rfl, avQ rfl, avQ rfl, avR _ rfl, avBb rfl (by first | rfl | exact g4.symm), avQ rfl, avR _ rfl, avQ rfl, avQ rfl, avR _ rfl, avR _ rfl, avR _ rfl, avR _ rfl, avR _ rfl, trivial⟩ (Nat.zero_le _) fun k hk => ?_
          refine Split.by (fun k1 => ?_) (fun k1 => ?_)
          · have k1 : k < (cornersL l).length := by have := dT k1; omega
            have m := gd1 k1 (default : Corner)
            have cb := cor _ m
            have va := cornersL_ok n3 _ m
            obtain ⟨e1, e2, e3, e4, e5⟩ := hp _ (okC_of va)
            have w := hw _ cb.2.2
            refine ⟨⟨rfl, by omega, by omega⟩, ?_⟩
            refine ⟨e1, ⟨e2, ⟨e3, ⟨e4, ⟨e5, ?_⟩⟩⟩⟩⟩
            refine Split.no (decide_eq_false (Int.not_lt.2 w)) ?_
            refine ⟨inI64 (by omega) (by omega), ?_⟩
            exact ⟨k + 1, ⟨rfl, ⟨obF rfl, obX rfl, obX rfl, obX rfl, obR rfl (D.eqv_refl _), trivial⟩, avR _ rfl, avQ rfl, avQ rfl, avR _ rfl, avR _ rfl, avQ rfl, avR _ rfl, avQ rfl, avQ rfl, avR _ rfl, avR _ rfl, avR _ rfl, avR _ rfl, avI rfl rfl, trivial⟩, k1, (show (cornersL l).length - (k + 1) < (cornersL l).length - k by omega)⟩
          · refine ⟨inI64 (by omega) (by omega), ?_⟩
            exact ⟨i + 1, ⟨rfl, ⟨obF rfl, obX rfl, obX rfl, obR rfl (D.eqv_refl _), trivial⟩, avR _ rfl, avQ rfl, avQ rfl, avR _ rfl, avR _ rfl, avQ rfl, avR _ rfl, avQ rfl, avR _ rfl, avI rfl rfl, trivial⟩, g2, (show 2 - (i + 1) < 2 - i by omega)⟩
      have hi2 : i = 2 := by have := dF g2; omega
      refine CallSt.pure s_sanity rfl rfl ?_
      repeat first | refine Split.ff ?_ | refine Split.tt ?_
      refine Split.by (fun g5 => ?_) (fun g5 => ?_)
      · repeat first | refine Split.ff ?_ | refine Split.tt ?_
        exact r1B rfl rfl
      have g5 : (bestE l f).2 = 0 := by simpa using g5
      have cB := s_CheckBest l f (bestE l f).1
      rw [best_ok g5] at cB
      repeat first | refine Split.ff ?_ | refine Split.tt ?_
      refine CallSt.pure cB rfl rfl ?_
      repeat first | refine Split.ff ?_ | refine Split.tt ?_
      exact r1B rfl rfl
end Go.Pg
/-
  From the rows' side to the calculus: structs that hold structs, and slices of structs of integers. For every program. And the seat's types of that kind.
-/
set_option linter.all false
namespace Go.Pg
open Go.RowKit Go.ChangeShapes Go.WideShapes Go.Deep

/-- What a cell holds: an int, or a slice of structs of k ints. -/
inductive Ck where
  | int
  | sl (k : Nat)
def Gd (w : World) : Ck → Value → Prop
  | .int, v => ∃ n : Int, (-9223372036854775808 ≤ n ∧ n ≤ 9223372036854775807) ∧ v = .int .i64 n
  | .sl k, v => ∃ (a : Option Addr) (len cap : Nat) (g : Nat → Nat → Int), v = .slice a len cap ∧ (∀ i j, i < len → j < k → -9223372036854775808 ≤ g i j ∧ g i j ≤ 9223372036854775807) ∧ Rep w (fun b => b < w.heap.size) (.slc k len fun i j => I (g i j)) v
def intB (P : Program) (fs : Array Field) : Bool := fs.toList.all fun f => match P.underlying f.type with | some (.int .i64) => true | _ => false
def shapeFs (cells : TypeId → Nat) (g : TypeId → Option (List Ck)) : Nat → List Field → Option (List Ck)
  | _, [] => some []
  | off, f :: r => (g f.type).bind fun a => bif f.offset == off && a.length == cells f.type then (shapeFs cells g (off + a.length) r).map fun b => a ++ b else none
def shapeSl (P : Program) (e : TypeId) : Option (List Ck) := match P.underlying e with
  | some (.struct fs) => bif oneCellFields P fs && P.cellsOf e == fs.size && intB P fs && Nat.blt 0 fs.size then some [.sl fs.size] else none
  | _ => none
def shapeSt (P : Program) (g : TypeId → Option (List Ck)) (t : TypeId) (fs : Array Field) : Option (List Ck) := (shapeFs P.cellsOf g 0 fs.toList).bind fun ks => bif ks.length == P.cellsOf t then some ks else none
/-- The cells of a type. -/
def shapeOf (P : Program) : Nat → TypeId → Option (List Ck)
  | 0, _ => none
  | n + 1, t => match P.underlying t with
    | some (.int .i64) => some [.int]
    | some (.slice e) => shapeSl P e
    | some (.struct fs) => shapeSt P (shapeOf P n) t fs
    | _ => none
theorem All2.app {α β : Type} {R : α → β → Prop} {a c : List α} {b d : List β} (h1 : All2 R a b) (h2 : All2 R c d) : All2 R (a ++ c) (b ++ d) := by
  induction h1 with
  | nil => exact h2
  | cons h _ ih => exact .cons h ih
section
variable {H : Type} {enc : TypeId × Value → H} {P : Program} {w : World} {base : Nat} {spare : Nat → Bool} {held : Bool}
theorem shapeFs_good {g : TypeId → Option (List Ck)} {n : Nat} {cs : List Value}
    (ih : ∀ t ks, g t = some ks → ∀ cs x, DataW.trod enc P w base spare held n t cs = some x → All2 (Gd w) ks cs) :
    ∀ (r : List Field) (off : Nat) (ks : List Ck), shapeFs P.cellsOf g off r = some ks → (∀ f ∈ r, ∃ x, DataW.trod enc P w base spare held n f.type ((cs.drop f.offset).take (P.cellsOf f.type)) = some x) → All2 (Gd w) ks ((cs.drop off).take ks.length)
  | [], off, ks, h, _ => by
    simp only [shapeFs, Option.some.injEq] at h
    subst h
    exact .nil
  | f :: r, off, ks, h, hx => by
    unfold shapeFs at h
    obtain ⟨a, ha, h⟩ := Option.bind_eq_some_iff.1 h
    cases hc : f.offset == off && a.length == P.cellsOf f.type with
    | false => rw [hc] at h; cases h
    | true =>
      rw [hc] at h
      obtain ⟨b, hb, rfl⟩ := Option.map_eq_some_iff.1 (show (shapeFs P.cellsOf g (off + a.length) r).map (fun b => a ++ b) = some ks from h)
      simp only [Bool.and_eq_true, beq_iff_eq] at hc
      obtain ⟨x, h1⟩ := hx f (List.mem_cons_self ..)
      rw [hc.1, ← hc.2] at h1
      have g1 := ih _ _ ha _ _ h1
      have g2 := shapeFs_good ih r (off + a.length) b hb fun f hf => hx f (List.mem_cons_of_mem _ hf)
      rw [List.length_append, List.take_add, List.drop_drop]
      exact g1.app g2
theorem shape_good : ∀ (n : Nat) (t : TypeId) (ks : List Ck), shapeOf P n t = some ks → ∀ (fuel : Nat) (cs : List Value) (x : DataW H × List MemPlace), DataW.trod enc P w base spare held fuel t cs = some x → All2 (Gd w) ks cs
  | 0, _, _, h, _, _, _, _ => by cases h
  | n + 1, t, ks, h, fuel, cs, x, ht => by
    unfold shapeOf at h
    split at h
    · rename_i hu
      simp only [Option.some.injEq] at h
      subst h
      obtain ⟨m, rfl, _, hw⟩ := DataW.trod_int hu ht
      exact .cons ⟨m, wf_i64 hw, rfl⟩ .nil
    · rename_i e hu
      unfold shapeSl at h
      split at h
      · rename_i fs he
        cases hc : oneCellFields P fs && P.cellsOf e == fs.size && intB P fs && Nat.blt 0 fs.size with
        | false => rw [hc] at h; cases h
        | true =>
          rw [hc] at h
          simp only [cond_true, Option.some.injEq] at h
          subst h
          simp only [Bool.and_eq_true, beq_iff_eq, Nat.blt_eq] at hc
          obtain ⟨⟨⟨c1, c2⟩, c3⟩, c4⟩ := hc
          have key : ∃ a len cap, cs = [.slice a len cap] := by
            rcases open_slice hu ht with ⟨rfl, _⟩ | ⟨a, len, cap, _, _, _, _, rfl, _⟩
            · exact ⟨_, _, _, rfl⟩
            · exact ⟨_, _, _, rfl⟩
          obtain ⟨a, len, cap, rfl⟩ := key
          obtain ⟨g, bd, hr⟩ := open_slI hu he c1 c2 (intFs_of c3) c4 ht
          exact .cons ⟨a, len, cap, g, rfl, bd, hr⟩ .nil
      · cases h
    · rename_i fs hu
      unfold shapeSt at h
      obtain ⟨ks', hk, h⟩ := Option.bind_eq_some_iff.1 h
      cases hc : ks'.length == P.cellsOf t with
      | false => rw [hc] at h; cases h
      | true =>
        rw [hc] at h
        simp only [cond_true, Option.some.injEq] at h
        subst h
        obtain ⟨xs, m, rfl, _, hl, hlen, hf⟩ := DataW.trod_struct hu ht
        have key := shapeFs_good (cs := cs) (n := m) (fun t ks h cs x hx => shape_good n t ks h m cs x hx) fs.toList 0 ks' hk fun f hf' => by
          obtain ⟨i, hi, rfl⟩ := List.getElem_of_mem hf'
          have hi' : i < fs.size := by simpa using hi
          have h1 := hf i fs[i] (Array.getElem?_eq_getElem hi')
          rw [List.getElem?_eq_getElem (show i < xs.length by omega)] at h1
          exact ⟨_, by simpa using h1⟩
        rw [List.drop_zero, List.take_of_length_le (by have := beq_iff_eq.1 hc; omega)] at key
        exact key
    · cases h
/-- A struct, by value. -/
theorem open_shape {r : Reach} {b0 n : Nat} {t : TypeId} {fs : Array Field} {ks : List Ck} {v : Value} {d : DataW H} {p : List MemPlace} (hs : P.underlying t = some (.struct fs)) (hk : shapeOf P n t = some ks)
    (hv : Value.okWide P w r b0 t v) (h : DataW.Trod enc P w base spare held t v d p) : ∃ cs : List Value, v = .agg cs.toArray ∧ All2 (Gd w) ks cs := by
  obtain ⟨cs, rfl, hsz⟩ := okWide_struct hs hv
  obtain ⟨fuel, hf⟩ := h
  exact ⟨cs.toList, by simp, shape_good n t ks hk fuel _ _ (by simpa [Value.cells] using hf)⟩
end
/-! ### The seat's types -/
section
variable {w : World}
theorem rep_bound {cs : List Value} (h : All2 (Gd w) [.int, .int, .int, .int, .int, .int, .sl 2] cs) :
    ∃ b : Bound, (∀ u ∈ b.Uses, (-9223372036854775808 ≤ u.H ∧ u.H ≤ 9223372036854775807) ∧ (-9223372036854775808 ≤ u.T ∧ u.T ≤ 9223372036854775807)) ∧ Rep1 w (fun b => b < w.heap.size) b.v (.agg cs.toArray) := by
  cases h with | cons h0 h =>
  cases h with | cons h1 h =>
  cases h with | cons h2 h =>
  cases h with | cons h3 h =>
  cases h with | cons h4 h =>
  cases h with | cons h5 h =>
  cases h with | cons h6 h =>
  cases h
  obtain ⟨n0, b0, rfl⟩ := h0
  obtain ⟨n1, b1, rfl⟩ := h1
  obtain ⟨n2, b2, rfl⟩ := h2
  obtain ⟨n3, b3, rfl⟩ := h3
  obtain ⟨n4, b4, rfl⟩ := h4
  obtain ⟨n5, b5, rfl⟩ := h5
  obtain ⟨a, len, cap, g, rfl, bd, hr⟩ := h6
  obtain ⟨U, hU, rU⟩ := rep_slU bd hr
  exact ⟨⟨⟨n0, n1⟩, ⟨n2, n3, n4⟩, n5, U⟩, hU, _, rfl, .cons rfl (.cons rfl (.cons rfl (.cons rfl (.cons rfl (.cons rfl (.cons rU .nil))))))⟩
end
end Go.Pg
