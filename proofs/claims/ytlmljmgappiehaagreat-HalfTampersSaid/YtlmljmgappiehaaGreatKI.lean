/-
  Contracts: Implied, Same, Thin; slices.ContainsFunc, slices.Equal on corners.
-/
import Derived.Test.YtlmljmgappiehaaGreatK7
import Derived.Test.YtlmljmgappiehaaGreatK8
import Derived.Test.YtlmljmgappiehaaGreatKC
set_option linter.all false
set_option maxRecDepth 100000
namespace Go.Pg
open Go.Proofs Go.RowKit

theorem s_indexC (p : Corner → Bool) (g : FuncId) (cap : Nat → D) (l : List Corner) (hg : ∀ q ∈ l, Spec PP g [q.v, .d (cap 0)] [B (p q)]) (hn : l.length ≤ 1000000) (r : Int) (hr : IsIdx p l r) :
    Spec PP 124 [slC l, .d (.clo g 1 cap)] [N r] := by
  refine spec_at Tryz.func124 rfl (by kernel_rfl) rfl ?_
  refine LoopOb.of (σ := Nat) (fun i => ([(0, avOf (slC l)), (1, .d (.clo g 1 cap)), (7, .d (I l.length)), (8, .d (I i))], [])) (fun i => i ≤ l.length ∧ ∀ m, m < i → p (l.getD m default) = false) (fun i => l.length - i) 0 ⟨rfl, trivial, avR _ rfl, avR _ rfl, avR _ rfl, avR _ rfl, trivial⟩ ⟨Nat.zero_le _, fun m hm => absurd hm (Nat.not_lt_zero _)⟩ fun i hi => ?_
  obtain ⟨i1, i2⟩ := hi
  refine Split.by (fun h1 => ?_) (fun h1 => ?_)
  · have h1 : i < l.length := by simpa using h1
    refine ⟨⟨rfl, by omega, by omega⟩, ?_⟩
    refine CallSt.pure (hg (l.getD i default) (gd1 h1 default)) rfl rfl ?_
    refine Split.by (fun h2 => ?_) (fun h2 => ?_)
    · exact r1I rfl (hr.hit h1 h2 i2).symm
    · refine ⟨inI64 (by omega) (by omega), ?_⟩
      refine ⟨i + 1, ⟨rfl, trivial, avR _ rfl, avR _ rfl, avR _ rfl, avI rfl rfl, trivial⟩, ⟨h1, fun m hm => ?_⟩, ?_⟩
      · rcases Nat.lt_or_ge m i with h | h
        · exact i2 m h
        · obtain rfl : m = i := by omega
          exact h2
      · show l.length - (i + 1) < l.length - i
        omega
  · have h1 : i = l.length := by
      have : ¬ i < l.length := by simpa using h1
      omega
    exact r1I rfl (hr.miss fun m hm => i2 m (by omega)).symm
theorem isIdx_any {p : Corner → Bool} {l : List Corner} {r : Int} (h : IsIdx p l r) : decide (0 ≤ r) = l.any p := by
  rcases h with ⟨rfl, h1⟩ | ⟨i, rfl, h1, h2, h3⟩
  · have : l.any p = false := by
      rw [List.any_eq_false]
      intro q hq
      obtain ⟨i, hi, rfl⟩ := List.getElem_of_mem hq
      have := h1 i hi
      rw [gdI hi] at this
      simp [this]
    rw [this]; rfl
  · have : l.any p = true := List.any_eq_true.2 ⟨_, gd1 h1 default, h2⟩
    rw [this]
    exact decide_eq_true (by omega)
theorem s_containsC (p : Corner → Bool) (g : FuncId) (cap : Nat → D) (l : List Corner) (hg : ∀ q ∈ l, Spec PP g [q.v, .d (cap 0)] [B (p q)]) (hn : l.length ≤ 1000000) :
    Spec PP 91 [slC l, .d (.clo g 1 cap)] [B (l.any p)] := by
  obtain ⟨r, hr⟩ := isIdx_ex p l
  refine spec_at Tryz.func91 rfl (by kernel_rfl) rfl ?_
  refine CallSt.pure (s_indexC p g cap l hg hn r hr) rfl rfl ?_
  exact r1B rfl (isIdx_any hr)
theorem s_Implied1 (h : Half) (q : Corner) (hh : okH h) (hq : okC q) : Spec PP 92 [q.v, .d (.ptr 3 h.at)] [B (!lies h q)] := by
  refine spec_at Tryz.func92 rfl (by kernel_rfl) rfl ?_
  refine CallSt.pure (s_lies h q hh hq) rfl rfl ?_
  exact r1B rfl rfl
@[irreducible] def impliedE (l : List Half) (h : Half) : Bool × Int := if checkL l = 0 then if fit h = true then (!(cornersL l).any fun q => !lies h q, 0) else (false, 1) else (false, checkL l)
theorem hullC_len (l : List Half) (hn : l.length ≤ 60) : (cornersL l).length ≤ 20000 := by
  have h1 := ptsV_len l (pairsL (allL l))
  have h2 := pairsL_len (allL l)
  have h3 := allL_len l
  have h4 : (allL l).length * (allL l).length ≤ 64 * 64 := Nat.mul_le_mul (by omega) (by omega)
  have h5 := compL_len (sortedL l)
  have h6 : (sortedL l).length = (ptsV l (pairsL (allL l))).length := by unfold sortedL; rw [List.length_map, sortV_len]
  have h7 := hullL_len (compL (sortedL l))
  unfold cornersL
  omega
theorem s_Implied (l : List Half) (h : Half) : Spec PP 38 [slH l, h.v] [B (impliedE l h).1, N (impliedE l h).2] := by
  refine spec_at Tryz.func38 rfl (by kernel_rfl) rfl ?_
  refine CallSt.pure (s_Check l) rfl rfl ?_
  refine Split.by (fun h1 => ?_) (fun h1 => ?_)
  · have h1 : checkL l ≠ 0 := by simpa using h1
    have e : impliedE l h = (false, checkL l) := by unfold impliedE; rw [if_neg h1]
    rw [e]
    exact ⟨rtB rfl rfl, rtI rfl rfl, trivial⟩
  have h1 : checkL l = 0 := by simpa using h1
  obtain ⟨n1, n2, n3⟩ := checkL_ok h1
  refine CallSt.pure (s_fit h) rfl rfl ?_
  refine Split.by (fun h2 => ?_) (fun h2 => ?_)
  · have h2 : fit h = false := by simpa using h2
    have e : impliedE l h = (false, 1) := by unfold impliedE; rw [if_pos h1, if_neg (by rw [h2]; decide)]
    rw [e]
    exact ⟨rtB rfl rfl, rtI rfl rfl, trivial⟩
  have h2 : fit h = true := by simpa using h2
  have e : impliedE l h = (!(cornersL l).any fun q => !lies h q, 0) := by unfold impliedE; rw [if_pos h1, if_pos h2]
  have hc := cornersL_ok n3
  have hl := hullC_len l (by omega)
  refine CallSt.ro (s_corners l n3 (by omega)) rfl rfl ?_
  refine CallSt.fzE [3] (s_containsC (fun q => !lies h q) 92 (fun _ => .ptr 3 h.at) (cornersL l) (fun q hq => s_Implied1 h q (okH_of h2) (okC_of (hc q hq))) (by omega)) rfl ⟨D.eqv_refl _, ⟨rfl, rfl, fun j hj => ?_⟩, trivial⟩ rfl ?_
  · obtain rfl : j = 0 := Nat.lt_one_iff.1 hj
    refine ⟨rfl, fun i hi => ?_⟩
    match i, hi with
    | 0, _ => exact ⟨rfl, rfl⟩
    | 1, _ => exact ⟨rfl, rfl⟩
    | 2, _ => exact ⟨rfl, rfl⟩
  rw [e]
  exact ⟨rtB rfl rfl, rtI rfl rfl, trivial⟩
/-! ### slices.Equal -/
theorem s_Equal (a b : List Corner) (hn : a.length ≤ 1000000) : Spec PP 94 [slC a, slC b] [B (decide (a = b))] := by
  refine spec_at Tryz.func94 rfl (by kernel_rfl) rfl ?_
  refine Split.by (fun h1 => ?_) (fun h1 => ?_)
  · have h1 : a.length ≠ b.length := by
      have : ¬ (a.length : Int) = b.length := by simpa using h1
      omega
    refine r1B rfl ?_
    exact (decide_eq_false fun e => h1 (by rw [e])).symm
  have h1 : a.length = b.length := by
    have : (a.length : Int) = b.length := by simpa using h1
    omega
  refine LoopOb.of (σ := Nat) (fun i => ([(0, avOf (slC a)), (1, avOf (slC b)), (12, .d (I a.length)), (13, .d (I i))], [])) (fun i => i ≤ a.length ∧ a.take i = b.take i) (fun i => a.length - i) 0 ⟨rfl, trivial, avR _ rfl, avR _ rfl, avR _ rfl, avR _ rfl, trivial⟩ ⟨Nat.zero_le _, rfl⟩ fun i hi => ?_
  obtain ⟨i1, i2⟩ := hi
  refine Split.by (fun h2 => ?_) (fun h2 => ?_)
  · have h2 : i < a.length := by simpa using h2
    refine Exists.intro (List.range 9) (And.intro (by kernel_rfl) (FzOb.no ?_))
    refine ⟨⟨rfl, by omega, by omega⟩, ?_⟩
    refine ⟨⟨rfl, by omega, by omega⟩, ?_⟩
    refine Split.by (fun h3 => ?_) (fun h3 => ?_)
    · have h3 : (a.getD i default == b.getD i default) = false := by
        have h3 : (!((a.getD i default).X == (b.getD i default).X && ((a.getD i default).Y == (b.getD i default).Y && ((a.getD i default).Den == (b.getD i default).Den && (true))))) = true := h3
        rw [eqCs] at h3
        simpa using h3
      refine r1B rfl ?_
      refine (decide_eq_false fun e => ?_).symm
      subst e
      simp at h3
    · have h3 : (a.getD i default == b.getD i default) = true := by
        have h3 : (!((a.getD i default).X == (b.getD i default).X && ((a.getD i default).Y == (b.getD i default).Y && ((a.getD i default).Den == (b.getD i default).Den && (true))))) = false := h3
        rw [eqCs] at h3
        simpa using h3
      have h3 : a.getD i default = b.getD i default := by simpa using h3
      refine ⟨inI64 (by omega) (by omega), ?_⟩
      refine ⟨i + 1, ⟨rfl, trivial, avR _ rfl, avR _ rfl, avR _ rfl, avI rfl rfl, trivial⟩, ⟨h2, ?_⟩, ?_⟩
      · rw [take1 h2 default, take1 (by omega) default, i2, h3]
      · show a.length - (i + 1) < a.length - i
        omega
  · have h2 : i = a.length := by
      have : ¬ i < a.length := by simpa using h2
      omega
    refine r1B rfl ?_
    rw [h2, List.take_length, h1, List.take_length] at i2
    exact (decide_eq_true i2).symm
/-! ### Same -/
@[irreducible] def sameE (l m : List Half) : Bool × Int := if checkL l = 0 then if checkL m = 0 then (decide (cornersL l = cornersL m), 0) else (false, checkL m) else (false, checkL l)
theorem s_Same (l m : List Half) : Spec PP 40 [slH l, slH m] [B (sameE l m).1, N (sameE l m).2] := by
  refine spec_at Tryz.func40 rfl (by kernel_rfl) rfl ?_
  refine LoopOb.of (σ := Nat) (fun i => ([(0, avOf (slH l)), (1, avOf (slH m)), (11, .own 11), (12, .d (I 2)), (13, .d (I i))], [(11, .row 22 1 2 (rowOf 1 [.slc 3 l.length (rowH l), .slc 3 m.length (rowH m)]))])) (fun i => i ≤ 2 ∧ (0 < i → checkL l = 0) ∧ (1 < i → checkL m = 0)) (fun i => 2 - i) 0
    ⟨rfl, ⟨obR rfl (D.eqv_refl _), trivial⟩, avR _ rfl, avR _ rfl, rfl, avR _ rfl, avR _ rfl, trivial⟩ ⟨Nat.zero_le _, fun h => absurd h (Nat.lt_irrefl 0), fun h => absurd h (by omega)⟩ fun i hi => ?_
  obtain ⟨i1, i2, i3⟩ := hi
  refine Split.by (fun h1 => ?_) (fun h1 => ?_)
  · have h1 : i < 2 := by have := dT h1; omega
    obtain rfl | rfl : i = 0 ∨ i = 1 := by omega
    · refine ⟨⟨by decide, by decide⟩, ⟨by decide, ?_⟩⟩
      refine CallSt.pure (s_Check l) rfl rfl ?_
      refine Split.by (fun h2 => ?_) (fun h2 => ?_)
      · have h2 : checkL l ≠ 0 := by simpa using h2
        have e : sameE l m = (false, checkL l) := by unfold sameE; rw [if_neg h2]
        rw [e]
        exact ⟨rtB rfl rfl, rtI rfl rfl, trivial⟩
      · have h2 : checkL l = 0 := by simpa using h2
        refine ⟨⟨by decide, by decide⟩, ?_⟩
        exact ⟨0 + 1, ⟨rfl, ⟨obR rfl (D.eqv_refl _), trivial⟩, avR _ rfl, avR _ rfl, rfl, avR _ rfl, avI rfl rfl, trivial⟩, ⟨by decide, fun _ => h2, fun h => absurd h (by decide)⟩, by decide⟩
    · refine ⟨⟨by decide, by decide⟩, ⟨by decide, ?_⟩⟩
      refine CallSt.pure (s_Check m) rfl rfl ?_
      refine Split.by (fun h2 => ?_) (fun h2 => ?_)
      · have h2 : checkL m ≠ 0 := by simpa using h2
        have e : sameE l m = (false, checkL m) := by unfold sameE; rw [if_pos (i2 (by decide)), if_neg h2]
        rw [e]
        exact ⟨rtB rfl rfl, rtI rfl rfl, trivial⟩
      · have h2 : checkL m = 0 := by simpa using h2
        refine ⟨⟨by decide, by decide⟩, ?_⟩
        exact ⟨1 + 1, ⟨rfl, ⟨obR rfl (D.eqv_refl _), trivial⟩, avR _ rfl, avR _ rfl, rfl, avR _ rfl, avI rfl rfl, trivial⟩, ⟨by decide, fun _ => i2 (by decide), fun _ => h2⟩, by decide⟩
  · have h1 : i = 2 := by have := dF h1; omega
    subst h1
    have hl := i2 (by decide)
    have hm := i3 (by decide)
    obtain ⟨l1, l2, l3⟩ := checkL_ok hl
    obtain ⟨m1, m2, m3⟩ := checkL_ok hm
    have e : sameE l m = (decide (cornersL l = cornersL m), 0) := by unfold sameE; rw [if_pos hl, if_pos hm]
    have c1 := hullC_len l (by omega)
    refine CallSt.ro (s_corners l l3 (by omega)) rfl rfl ?_
    refine CallSt.ro (s_corners m m3 (by omega)) rfl rfl ?_
    refine CallSt.pure (s_Equal (cornersL l) (cornersL m) (by omega)) rfl rfl ?_
    rw [e]
    exact ⟨rtB rfl rfl, rtI rfl rfl, trivial⟩
/-! ### Thin -/
def thinRun (l : List Half) (whole : List Corner) : Nat → List Int → List Int
  | 0, left => left
  | k + 1, left => if cornersL (pickL l (rmL left k)) = whole then thinRun l whole k (rmL left k) else thinRun l whole k left
@[irreducible] def thinL (l : List Half) : List Int := thinRun l (cornersL l) l.length (upTo l.length)
@[irreducible] def thinE (l : List Half) : List Int × Int := if checkL l = 0 then (thinL l, 0) else ([], checkL l)
theorem s_Thin (l : List Half) : Spec PP 44 [slH l] [slI (thinE l).1, N (thinE l).2] := by
  refine spec_at Tryz.func44 rfl (by kernel_rfl) rfl ?_
  refine CallSt.pure (s_Check l) rfl rfl ?_
  refine Split.by (fun h1 => ?_) (fun h1 => ?_)
  · have h1 : checkL l ≠ 0 := by simpa using h1
    have e : thinE l = ([], checkL l) := by unfold thinE; rw [if_neg h1]
    rw [e]
    exact ⟨⟨_, _, _, _, rfl, rfl, .inl rfl⟩, rtI rfl rfl, trivial⟩
  have h1 : checkL l = 0 := by simpa using h1
  obtain ⟨n1, n2, n3⟩ := checkL_ok h1
  have e : thinE l = (thinL l, 0) := by unfold thinE; rw [if_pos h1]
  have c1 := hullC_len l (by omega)
  have hu := upTo_len l.length
  refine CallSt.ro (s_corners l n3 (by omega)) rfl rfl ?_
  refine CallSt.ro (s_indices l (by omega)) rfl rfl ?_
  refine ⟨inI64 (by omega) (by omega), ?_⟩
  refine LoopOb.of (σ := List Int × Nat) (fun x => ([(0, avOf (slH l)), (5, avOf (slC (cornersL l))), (6, avOf (slI x.1)), (7, .d (I ((x.2 : Int) - 1)))], [])) (fun x => x.2 ≤ x.1.length ∧ x.1.length ≤ 40 ∧ (∀ j ∈ x.1, 0 ≤ j ∧ j < l.length) ∧ thinRun l (cornersL l) x.2 x.1 = thinL l) (fun x => x.2) (upTo l.length, l.length)
    ⟨rfl, trivial, avR _ rfl, avR _ rfl, avR _ rfl, avI rfl (by rw [hu]), trivial⟩ ⟨(show l.length ≤ (upTo l.length).length by omega), (show (upTo l.length).length ≤ 40 by omega), fun j hj => upTo_mem hj, by unfold thinL; rfl⟩ fun x hx => ?_
  obtain ⟨x1, x2, x3, x4⟩ := hx
  refine Split.by (fun g1 => ?_) (fun g1 => ?_)
  · have g1 : 0 < x.2 := by have := dT g1; omega
    obtain ⟨k, hk⟩ : ∃ k, x.2 = k + 1 := ⟨x.2 - 1, by omega⟩
    have hrl := rmL_len x.1 (i := k) (by omega)
    have hrm : ∀ j ∈ rmL x.1 k, 0 ≤ j ∧ j < l.length := fun j hj => x3 j (rmL_mem hj)
    have hpl := pickL_len l (rmL x.1 k)
    have hc := hullC_len (pickL l (rmL x.1 k)) (by omega)
    refine CallSt.fzE [] (s_without x.1 k (by omega) (by omega)) rfl ⟨D.eqv_refl _, ⟨rfl, by omega⟩, trivial⟩ rfl ?_
    refine CallSt.ro (s_picked l (rmL x.1 k) hrm (by omega)) rfl rfl ?_
    refine CallSt.ro (s_corners (pickL l (rmL x.1 k)) (fun y hy => n3 y (pickL_mem hrm y hy)) (by omega)) rfl rfl ?_
    refine CallSt.pure (s_Equal (cornersL (pickL l (rmL x.1 k))) (cornersL l) (by omega)) rfl rfl ?_
    refine Split.by (fun g2 => ?_) (fun g2 => ?_)
    · have g2 : cornersL (pickL l (rmL x.1 k)) = cornersL l := dT g2
      refine ⟨inI64 (by omega) (by omega), ?_⟩
      refine ⟨(rmL x.1 k, k), ⟨rfl, trivial, avR _ rfl, avR _ rfl, avR _ rfl, avI rfl (by show (x.2 : Int) - 1 - 1 = (k : Int) - 1; omega), trivial⟩, ⟨(show k ≤ (rmL x.1 k).length by omega), (show (rmL x.1 k).length ≤ 40 by omega), hrm, ?_⟩, (show k < x.2 by omega)⟩
      show thinRun l (cornersL l) k (rmL x.1 k) = thinL l
      rw [← x4, hk, thinRun, if_pos g2]
    · have g2 : cornersL (pickL l (rmL x.1 k)) ≠ cornersL l := dF g2
      refine ⟨inI64 (by omega) (by omega), ?_⟩
      refine ⟨(x.1, k), ⟨rfl, trivial, avR _ rfl, avR _ rfl, avR _ rfl, avI rfl (by show (x.2 : Int) - 1 - 1 = (k : Int) - 1; omega), trivial⟩, ⟨(show k ≤ x.1.length by omega), x2, x3, ?_⟩, (show k < x.2 by omega)⟩
      show thinRun l (cornersL l) k x.1 = thinL l
      rw [← x4, hk, thinRun, if_neg g2]
  · have g1 : x.2 = 0 := by have := dF g1; omega
    rw [g1] at x4
    rw [e, ← x4]
    exact ⟨D.eqv_refl _, rtI rfl rfl, trivial⟩
end Go.Pg
/-
  Contracts: the specification's Implied and Same.
-/
set_option linter.all false
set_option maxRecDepth 100000
namespace Go.Pg
open Go.Proofs Go.RowKit

theorem all_crs {l : List Half} (hl : ∀ x ∈ l, okH x) (h : Half) : (crsL l).all (fun q => lies h q) = !(cornersL l).any fun q => !lies h q := by
  rw [Bool.eq_iff_iff]
  simp only [Bool.not_eq_true', List.any_eq_false, List.all_eq_true, Bool.not_eq_true, Bool.not_eq_false']
  constructor
  · intro g q hq
    have := g q ((crs_iff hl q).2 ((cor_mem hl q).1 hq))
    simpa using this
  · intro g q hq
    have := g q ((cor_mem hl q).2 ((crs_iff hl q).1 hq))
    simpa using this
theorem r_implied (l : List Half) (h : Half) (hl : ∀ x ∈ l, okH x) (hh : okH h) (hn : l.length ≤ 60) : Spec PP 93 [slH l, h.v] [B ((crsL l).all fun q => lies h q)] := by
  have hlen := crsL_len hl hn
  have hok := crs_valid hl
  refine spec_at Tryz.func93 rfl (by kernel_rfl) rfl ?_
  refine CallSt.ro (r_crossings l hl hn) rfl rfl ?_
  refine LoopOb.of (σ := Nat) (fun i => ([(3, .box 3 0), (5, avOf (slC (crsL l))), (6, .d (I i))], [(3, .box [.d (I h.A), .d (I h.B), .d (I h.C)])])) (fun i => i ≤ (crsL l).length ∧ ((crsL l).take i).all (fun q => lies h q) = true) (fun i => (crsL l).length - i) 0
    ⟨rfl, ⟨obD [I h.A, I h.B, I h.C] rfl, trivial⟩, avQ rfl, avR _ rfl, avR _ rfl, trivial⟩ ⟨Nat.zero_le _, rfl⟩ fun i hi => ?_
  obtain ⟨i1, i2⟩ := hi
  refine Split.by (fun h1 => ?_) (fun h1 => ?_)
  · have h1 : i < (crsL l).length := by have := dT h1; omega
    refine Exists.intro (List.range 7) (And.intro (by kernel_rfl) (FzOb.no ?_))
    refine ⟨⟨rfl, by omega, by omega⟩, ?_⟩
    refine CallOb.pure (r_holds h ((crsL l).getD i default) hh (hok _ (gd1 h1 default))) rfl rfl ?_
    refine Split.by (fun h2 => ?_) (fun h2 => ?_)
    · have h2 : lies h ((crsL l).getD i default) = false := by simpa using h2
      refine r1B rfl ?_
      refine (List.all_eq_false.2 ⟨_, gd1 h1 default, ?_⟩).symm
      rw [h2]; decide
    · have h2 : lies h ((crsL l).getD i default) = true := by simpa using h2
      refine ⟨inI64 (by omega) (by omega), ?_⟩
      refine ⟨i + 1, ⟨rfl, ⟨obD [I h.A, I h.B, I h.C] rfl, trivial⟩, avQ rfl, avR _ rfl, avI rfl rfl, trivial⟩, ⟨h1, ?_⟩, (show (crsL l).length - (i + 1) < (crsL l).length - i by omega)⟩
      rw [take1 h1 default, List.all_append, i2]; simp only [List.all_cons, h2]; rfl
  · have h1 : i = (crsL l).length := by have := dF h1; omega
    refine r1B rfl ?_
    rw [h1, List.take_length] at i2
    exact i2.symm
theorem r_Implied (l : List Half) (h : Half) : Spec PP 39 [slH l, h.v] [B (impliedE l h).1, N (impliedE l h).2] := by
  refine spec_at Tryz.func39 rfl (by kernel_rfl) rfl ?_
  refine CallSt.pure (r_Check l) rfl rfl ?_
  refine Split.by (fun h1 => ?_) (fun h1 => ?_)
  · have h1 : checkL l ≠ 0 := by simpa using h1
    have e : impliedE l h = (false, checkL l) := by unfold impliedE; rw [if_neg h1]
    rw [e]
    exact ⟨rtB rfl rfl, rtI rfl rfl, trivial⟩
  have h1 : checkL l = 0 := by simpa using h1
  obtain ⟨n1, n2, n3⟩ := checkL_ok h1
  refine CallSt.pure (r_right h) rfl rfl ?_
  refine Split.by (fun h2 => ?_) (fun h2 => ?_)
  · have h2 : fit h = false := by simpa using h2
    have e : impliedE l h = (false, 1) := by unfold impliedE; rw [if_pos h1, if_neg (by rw [h2]; decide)]
    rw [e]
    exact ⟨rtB rfl rfl, rtI rfl rfl, trivial⟩
  have h2 : fit h = true := by simpa using h2
  have e : impliedE l h = ((crsL l).all fun q => lies h q, 0) := by unfold impliedE; rw [if_pos h1, if_pos h2, all_crs n3]
  refine CallSt.pure (r_implied l h n3 (okH_of h2) (by omega)) rfl rfl ?_
  rw [e]
  exact ⟨rtB rfl rfl, rtI rfl rfl, trivial⟩
def impR (l : List Half) (h : Half) : Bool := (crsL l).all fun q => lies h q
def sameR (l m : List Half) : Bool := m.all (impR l) && l.all (impR m)
theorem r_same (l m : List Half) (hl : ∀ x ∈ l, okH x) (hm : ∀ x ∈ m, okH x) (nl : l.length ≤ 60) (nm : m.length ≤ 60) : Spec PP 95 [slH l, slH m] [B (sameR l m)] := by
  refine spec_at Tryz.func95 rfl (by kernel_rfl) rfl ?_
  refine LoopOb.of (σ := Nat) (fun i => ([(0, avOf (slH l)), (1, avOf (slH m)), (5, .d (I i))], [])) (fun i => i ≤ m.length ∧ (m.take i).all (impR l) = true) (fun i => m.length - i) 0
    ⟨rfl, trivial, avR _ rfl, avR _ rfl, avR _ rfl, trivial⟩ ⟨Nat.zero_le _, rfl⟩ fun i hi => ?_
  obtain ⟨i1, i2⟩ := hi
  refine Split.by (fun h1 => ?_) (fun h1 => ?_)
  · have h1 : i < m.length := by have := dT h1; omega
    refine ⟨⟨rfl, by omega, by omega⟩, ?_⟩
    refine CallSt.pure (r_implied l (m.getD i default) hl (hm _ (gd1 h1 default)) nl) rfl rfl ?_
    refine Split.by (fun h2 => ?_) (fun h2 => ?_)
    · have h2 : impR l (m.getD i default) = false := by unfold impR; simpa using h2
      refine r1B rfl ?_
      have : m.all (impR l) = false := List.all_eq_false.2 ⟨_, gd1 h1 default, by rw [h2]; decide⟩
      unfold sameR; rw [this]; rfl
    · have h2 : impR l (m.getD i default) = true := by unfold impR; simpa using h2
      refine ⟨inI64 (by omega) (by omega), ?_⟩
      refine ⟨i + 1, ⟨rfl, trivial, avR _ rfl, avR _ rfl, avI rfl rfl, trivial⟩, ⟨h1, ?_⟩, (show m.length - (i + 1) < m.length - i by omega)⟩
      rw [take1 h1 default, List.all_append, i2]; simp only [List.all_cons, h2]; rfl
  have h1 : i = m.length := by have := dF h1; omega
  rw [h1, List.take_length] at i2
  refine LoopOb.of (σ := Nat) (fun i => ([(0, avOf (slH l)), (1, avOf (slH m)), (7, .d (I i))], [])) (fun i => i ≤ l.length ∧ (l.take i).all (impR m) = true) (fun i => l.length - i) 0
    ⟨rfl, trivial, avR _ rfl, avR _ rfl, avR _ rfl, trivial⟩ ⟨Nat.zero_le _, rfl⟩ fun k hk => ?_
  obtain ⟨k1, k2⟩ := hk
  refine Split.by (fun h3 => ?_) (fun h3 => ?_)
  · have h3 : k < l.length := by have := dT h3; omega
    refine ⟨⟨rfl, by omega, by omega⟩, ?_⟩
    refine CallSt.pure (r_implied m (l.getD k default) hm (hl _ (gd1 h3 default)) nm) rfl rfl ?_
    refine Split.by (fun h2 => ?_) (fun h2 => ?_)
    · have h2 : impR m (l.getD k default) = false := by unfold impR; simpa using h2
      refine r1B rfl ?_
      have : l.all (impR m) = false := List.all_eq_false.2 ⟨_, gd1 h3 default, by rw [h2]; decide⟩
      unfold sameR; rw [this, Bool.and_false]
    · have h2 : impR m (l.getD k default) = true := by unfold impR; simpa using h2
      refine ⟨inI64 (by omega) (by omega), ?_⟩
      refine ⟨k + 1, ⟨rfl, trivial, avR _ rfl, avR _ rfl, avI rfl rfl, trivial⟩, ⟨h3, ?_⟩, (show l.length - (k + 1) < l.length - k by omega)⟩
      rw [take1 h3 default, List.all_append, k2]; simp only [List.all_cons, h2]; rfl
  have h3 : k = l.length := by have := dF h3; omega
  rw [h3, List.take_length] at k2
  refine r1B rfl ?_
  unfold sameR; rw [i2, k2]; rfl
theorem all_imp {l m : List Half} (h1 : checkL l = 0) (hm : ∀ x ∈ m, okH x) : m.all (impR l) = true ↔ ∀ h ∈ m, ∀ q, 0 < q.Den → Fe (hsL l) q → ef h q ≤ 0 := by
  obtain ⟨n1, n2, n3⟩ := checkL_ok h1
  rw [List.all_eq_true]
  constructor
  · intro g h hh
    refine (holds_iff (okS_of h1) (hm h hh)).1 fun p hp => ?_
    have := g h hh
    unfold impR at this
    exact (lies_ef h p).1 (List.all_eq_true.1 this p ((crs_iff n3 p).2 hp))
  · intro g h hh
    unfold impR
    rw [List.all_eq_true]
    intro p hp
    exact (lies_ef h p).2 ((holds_iff (okS_of h1) (hm h hh)).2 (g h hh) p ((crs_iff n3 p).1 hp))
theorem same_eq {l m : List Half} (h1 : checkL l = 0) (h2 : checkL m = 0) : sameR l m = decide (cornersL l = cornersL m) := by
  obtain ⟨_, _, hl⟩ := checkL_ok h1
  obtain ⟨_, _, hm⟩ := checkL_ok h2
  rw [Bool.eq_iff_iff, decide_eq_true_iff, cor_eq hl hm, vt_same (okS_of h1) (okS_of h2)]
  unfold sameR
  rw [Bool.and_eq_true, all_imp h1 hm, all_imp h2 hl]
  constructor
  · rintro ⟨g1, g2⟩ q hD
    constructor
    · intro hq h hh
      rcases List.mem_append.1 hh with hh | hh
      · exact g1 h hh q hD hq
      · exact hq h (List.mem_append_right _ hh)
    · intro hq h hh
      rcases List.mem_append.1 hh with hh | hh
      · exact g2 h hh q hD hq
      · exact hq h (List.mem_append_right _ hh)
  · intro g
    exact ⟨fun h hh q hD hq => (g q hD).1 hq h (List.mem_append_left _ hh), fun h hh q hD hq => (g q hD).2 hq h (List.mem_append_left _ hh)⟩
theorem r_Same (l m : List Half) : Spec PP 41 [slH l, slH m] [B (sameE l m).1, N (sameE l m).2] := by
  refine spec_at Tryz.func41 rfl (by kernel_rfl) rfl ?_
  refine CallSt.pure (r_Check l) rfl rfl ?_
  refine Split.by (fun h1 => ?_) (fun h1 => ?_)
  · have h1 : checkL l ≠ 0 := by simpa using h1
    have e : sameE l m = (false, checkL l) := by unfold sameE; rw [if_neg h1]
    rw [e]
    exact ⟨rtB rfl rfl, rtI rfl rfl, trivial⟩
  have h1 : checkL l = 0 := by simpa using h1
  refine CallSt.pure (r_Check m) rfl rfl ?_
  refine Split.by (fun h2 => ?_) (fun h2 => ?_)
  · have h2 : checkL m ≠ 0 := by simpa using h2
    have e : sameE l m = (false, checkL m) := by unfold sameE; rw [if_pos h1, if_neg h2]
    rw [e]
    exact ⟨rtB rfl rfl, rtI rfl rfl, trivial⟩
  have h2 : checkL m = 0 := by simpa using h2
  obtain ⟨n1, n2, n3⟩ := checkL_ok h1
  obtain ⟨m1, m2, m3⟩ := checkL_ok h2
  have e : sameE l m = (sameR l m, 0) := by unfold sameE; rw [if_pos h1, if_pos h2, same_eq h1 h2]
  refine CallSt.pure (r_same l m n3 m3 (by omega) (by omega)) rfl rfl ?_
  rw [e]
  exact ⟨rtB rfl rfl, rtI rfl rfl, trivial⟩
end Go.Pg
/-
  The law HalfImplies: walk.
-/
set_option linter.all false
set_option maxRecDepth 100000
namespace Go.Pg
open Go.Proofs Go.RowKit

theorem s_HalfImplies (l m : List Half) (h : Half) : Spec PP 7 [slH l, slH m, h.v] [B true] := by
  refine spec_at Tryz.func7 rfl (by kernel_rfl) rfl ?_
  refine CallSt.pure (s_few l) rfl rfl ?_
  refine Split.by (fun h1 => ?_) (fun h1 => ?_)
  · refine Split.tt ?_
    refine Split.tt ?_
    refine CallSt.pure s_sanity rfl rfl ?_
    exact r1B rfl rfl
  refine CallSt.pure (s_few m) rfl rfl ?_
  refine Split.ff ?_
  refine Split.by (fun h2 => ?_) (fun h2 => ?_)
  · refine CallSt.pure s_sanity rfl rfl ?_
    exact r1B rfl rfl
  refine CallSt.pure (s_Implied l h) rfl rfl ?_
  refine CallSt.pure (r_Implied l h) rfl rfl ?_
  refine CallSt.pure (s_Same l m) rfl rfl ?_
  refine CallSt.pure (r_Same l m) rfl rfl ?_
  refine CallSt.pure s_sanity rfl rfl ?_
  refine Split.tt ?_
  refine Split.tt ?_
  refine Split.yes (beqb _) ?_
  refine Split.tt ?_
  refine Split.yes (ieq _) ?_
  refine Split.tt ?_
  refine Split.yes (beqb _) ?_
  refine Split.tt ?_
  exact r1B rfl (ieq _)
end Go.Pg
