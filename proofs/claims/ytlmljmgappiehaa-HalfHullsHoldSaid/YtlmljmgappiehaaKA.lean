/-
  Contracts: Implied, Same, Thin; slices.ContainsFunc, slices.Equal on corners.
-/
import Derived.Test.YtlmljmgappiehaaK7
import Derived.Test.YtlmljmgappiehaaK8
import Derived.Test.YtlmljmgappiehaaK6
set_option linter.all false
set_option maxRecDepth 100000
namespace Go.Pg
open Go.Proofs Go.RowKit

theorem s_indexC (p : Corner → Bool) (g : FuncId) (cap : Nat → D) (l : List Corner) (hg : ∀ q ∈ l, Spec PP g [q.v, .d (cap 0)] [B (p q)]) (hn : l.length ≤ 1000000) (r : Int) (hr : IsIdx p l r) :
    Spec PP 104 [slC l, .d (.clo g 1 cap)] [N r] := by
  refine spec_at Try.func104 rfl (by kernel_rfl) rfl ?_
  refine LoopOb.of (σ := Nat) (fun i => ([(0, avOf (slC l)), (1, .d (.clo g 1 cap)), (7, .d (I l.length)), (8, .d (I i))], [])) (fun i => i ≤ l.length ∧ ∀ m, m < i → p (l.getD m default) = false) (fun i => l.length - i) 0 ⟨rfl, trivial, avR _ rfl, avR _ rfl, avR _ rfl, avR _ rfl, trivial⟩ ⟨Nat.zero_le _, fun m hm => absurd hm (Nat.not_lt_zero _)⟩ fun i hi => ?_
  obtain ⟨i1, i2⟩ := hi
  refine Split.by (fun h1 => ?_) (fun h1 => ?_)
  · have h1 : i < l.length := by simpa using h1
    refine ⟨⟨rfl, by omega, by omega⟩, ?_⟩
    refine CallSt.pure (hg (l.getD i default) (gd1 h1 default)) rfl rfl ?_
    refine Split.by (fun h2 => ?_) (fun h2 => ?_)
    · exact r1I rfl (hr.hit h1 h2 i2).symm
    · refine ⟨inI64 (by omega) (by omega), ?_⟩
      refine ⟨i + 1, ⟨rfl, trivial, avR _ rfl, avR _ rfl, avR _ rfl, avI rfl rfl, trivial⟩, ⟨h1, fun m hm => ?_⟩, ?_⟩
      · rcases Nat.lt_or_ge m i with h | h
        · exact i2 m h
        · obtain rfl : m = i := by omega
          exact h2
      · show l.length - (i + 1) < l.length - i
        omega
  · have h1 : i = l.length := by
      have : ¬ i < l.length := by simpa using h1
      omega
    exact r1I rfl (hr.miss fun m hm => i2 m (by omega)).symm
theorem isIdx_any {p : Corner → Bool} {l : List Corner} {r : Int} (h : IsIdx p l r) : decide (0 ≤ r) = l.any p := by
  rcases h with ⟨rfl, h1⟩ | ⟨i, rfl, h1, h2, h3⟩
  · have : l.any p = false := by
      rw [List.any_eq_false]
      intro q hq
      obtain ⟨i, hi, rfl⟩ := List.getElem_of_mem hq
      have := h1 i hi
      rw [gdI hi] at this
      simp [this]
    rw [this]; rfl
  · have : l.any p = true := List.any_eq_true.2 ⟨_, gd1 h1 default, h2⟩
    rw [this]
    exact decide_eq_true (by omega)
theorem s_containsC (p : Corner → Bool) (g : FuncId) (cap : Nat → D) (l : List Corner) (hg : ∀ q ∈ l, Spec PP g [q.v, .d (cap 0)] [B (p q)]) (hn : l.length ≤ 1000000) :
    Spec PP 77 [slC l, .d (.clo g 1 cap)] [B (l.any p)] := by
  obtain ⟨r, hr⟩ := isIdx_ex p l
  refine spec_at Try.func77 rfl (by kernel_rfl) rfl ?_
  refine CallSt.pure (s_indexC p g cap l hg hn r hr) rfl rfl ?_
  exact r1B rfl (isIdx_any hr)
theorem s_Implied1 (h : Half) (q : Corner) (hh : okH h) (hq : okC q) : Spec PP 78 [q.v, .d (.ptr 3 h.at)] [B (!lies h q)] := by
  refine spec_at Try.func78 rfl (by kernel_rfl) rfl ?_
  refine CallSt.pure (s_lies h q hh hq) rfl rfl ?_
  exact r1B rfl rfl
@[irreducible] def impliedE (l : List Half) (h : Half) : Bool × Int := if checkL l = 0 then if fit h = true then (!(cornersL l).any fun q => !lies h q, 0) else (false, 1) else (false, checkL l)
theorem hullC_len (l : List Half) (hn : l.length ≤ 60) : (cornersL l).length ≤ 20000 := by
  have h1 := ptsV_len l (pairsL (allL l))
  have h2 := pairsL_len (allL l)
  have h3 := allL_len l
  have h4 : (allL l).length * (allL l).length ≤ 64 * 64 := Nat.mul_le_mul (by omega) (by omega)
  have h5 := compL_len (sortedL l)
  have h6 : (sortedL l).length = (ptsV l (pairsL (allL l))).length := by unfold sortedL; rw [List.length_map, sortV_len]
  have h7 := hullL_len (compL (sortedL l))
  unfold cornersL
  omega
theorem s_Implied (l : List Half) (h : Half) : Spec PP 34 [slH l, h.v] [B (impliedE l h).1, N (impliedE l h).2] := by
  refine spec_at Try.func34 rfl (by kernel_rfl) rfl ?_
  refine CallSt.pure (s_Check l) rfl rfl ?_
  refine Split.by (fun h1 => ?_) (fun h1 => ?_)
  · have h1 : checkL l ≠ 0 := by simpa using h1
    have e : impliedE l h = (false, checkL l) := by unfold impliedE; rw [if_neg h1]
    rw [e]
    exact ⟨rtB rfl rfl, rtI rfl rfl, trivial⟩
  have h1 : checkL l = 0 := by simpa using h1
  obtain ⟨n1, n2, n3⟩ := checkL_ok h1
  refine CallSt.pure (s_fit h) rfl rfl ?_
  refine Split.by (fun h2 => ?_) (fun h2 => ?_)
  · have h2 : fit h = false := by simpa using h2
    have e : impliedE l h = (false, 1) := by unfold impliedE; rw [if_pos h1, if_neg (by rw [h2]; decide)]
    rw [e]
    exact ⟨rtB rfl rfl, rtI rfl rfl, trivial⟩
  have h2 : fit h = true := by simpa using h2
  have e : impliedE l h = (!(cornersL l).any fun q => !lies h q, 0) := by unfold impliedE; rw [if_pos h1, if_pos h2]
  have hc := cornersL_ok n3
  have hl := hullC_len l (by omega)
  refine CallSt.ro (s_corners l n3 (by omega)) rfl rfl ?_
  refine CallSt.fzE [3] (s_containsC (fun q => !lies h q) 78 (fun _ => .ptr 3 h.at) (cornersL l) (fun q hq => s_Implied1 h q (okH_of h2) (okC_of (hc q hq))) (by omega)) rfl ⟨D.eqv_refl _, ⟨rfl, rfl, fun j hj => ?_⟩, trivial⟩ rfl ?_
  · obtain rfl : j = 0 := Nat.lt_one_iff.1 hj
    refine ⟨rfl, fun i hi => ?_⟩
    match i, hi with
    | 0, _ => exact ⟨rfl, rfl⟩
    | 1, _ => exact ⟨rfl, rfl⟩
    | 2, _ => exact ⟨rfl, rfl⟩
  rw [e]
  exact ⟨rtB rfl rfl, rtI rfl rfl, trivial⟩
/-! ### slices.Equal -/
theorem s_Equal (a b : List Corner) (hn : a.length ≤ 1000000) : Spec PP 84 [slC a, slC b] [B (decide (a = b))] := by
  refine spec_at Try.func84 rfl (by kernel_rfl) rfl ?_
  refine Split.by (fun h1 => ?_) (fun h1 => ?_)
  · have h1 : a.length ≠ b.length := by
      have : ¬ (a.length : Int) = b.length := by simpa using h1
      omega
    refine r1B rfl ?_
    exact (decide_eq_false fun e => h1 (by rw [e])).symm
  have h1 : a.length = b.length := by
    have : (a.length : Int) = b.length := by simpa using h1
    omega
  refine LoopOb.of (σ := Nat) (fun i => ([(0, avOf (slC a)), (1, avOf (slC b)), (12, .d (I a.length)), (13, .d (I i))], [])) (fun i => i ≤ a.length ∧ a.take i = b.take i) (fun i => a.length - i) 0 ⟨rfl, trivial, avR _ rfl, avR _ rfl, avR _ rfl, avR _ rfl, trivial⟩ ⟨Nat.zero_le _, rfl⟩ fun i hi => ?_
  obtain ⟨i1, i2⟩ := hi
  refine Split.by (fun h2 => ?_) (fun h2 => ?_)
  · have h2 : i < a.length := by simpa using h2
    refine Exists.intro (List.range 9) (And.intro (by kernel_rfl) (FzOb.no ?_))
    refine ⟨⟨rfl, by omega, by omega⟩, ?_⟩
    refine ⟨⟨rfl, by omega, by omega⟩, ?_⟩
    refine Split.by (fun h3 => ?_) (fun h3 => ?_)
    · have h3 : (a.getD i default == b.getD i default) = false := by
        have h3 : (!((a.getD i default).X == (b.getD i default).X && ((a.getD i default).Y == (b.getD i default).Y && ((a.getD i default).Den == (b.getD i default).Den && (true))))) = true := h3
        rw [eqCs] at h3
        simpa using h3
      refine r1B rfl ?_
      refine (decide_eq_false fun e => ?_).symm
      subst e
      simp at h3
    · have h3 : (a.getD i default == b.getD i default) = true := by
        have h3 : (!((a.getD i default).X == (b.getD i default).X && ((a.getD i default).Y == (b.getD i default).Y && ((a.getD i default).Den == (b.getD i default).Den && (true))))) = false := h3
        rw [eqCs] at h3
        simpa using h3
      have h3 : a.getD i default = b.getD i default := by simpa using h3
      refine ⟨inI64 (by omega) (by omega), ?_⟩
      refine ⟨i + 1, ⟨rfl, trivial, avR _ rfl, avR _ rfl, avR _ rfl, avI rfl rfl, trivial⟩, ⟨h2, ?_⟩, ?_⟩
      · rw [take1 h2 default, take1 (by omega) default, i2, h3]
      · show a.length - (i + 1) < a.length - i
        omega
  · have h2 : i = a.length := by
      have : ¬ i < a.length := by simpa using h2
      omega
    refine r1B rfl ?_
    rw [h2, List.take_length, h1, List.take_length] at i2
    exact (decide_eq_true i2).symm
/-! ### Same -/
@[irreducible] def sameE (l m : List Half) : Bool × Int := if checkL l = 0 then if checkL m = 0 then (decide (cornersL l = cornersL m), 0) else (false, checkL m) else (false, checkL l)
theorem s_Same (l m : List Half) : Spec PP 39 [slH l, slH m] [B (sameE l m).1, N (sameE l m).2] := by
  refine spec_at Try.func39 rfl (by kernel_rfl) rfl ?_
  refine LoopOb.of (σ := Nat) (fun i => ([(0, avOf (slH l)), (1, avOf (slH m)), (11, .own 11), (12, .d (I 2)), (13, .d (I i))], [(11, .row 22 1 2 (rowOf 1 [.slc 3 l.length (rowH l), .slc 3 m.length (rowH m)]))])) (fun i => i ≤ 2 ∧ (0 < i → checkL l = 0) ∧ (1 < i → checkL m = 0)) (fun i => 2 - i) 0
    ⟨rfl, ⟨obR rfl (D.eqv_refl _), trivial⟩, avR _ rfl, avR _ rfl, rfl, avR _ rfl, avR _ rfl, trivial⟩ ⟨Nat.zero_le _, fun h => absurd h (Nat.lt_irrefl 0), fun h => absurd h (by omega)⟩ fun i hi => ?_
  obtain ⟨i1, i2, i3⟩ := hi
  refine Split.by (fun h1 => ?_) (fun h1 => ?_)
  · have h1 : i < 2 := by have := dT h1; omega
    obtain rfl | rfl : i = 0 ∨ i = 1 := by omega
    · refine ⟨⟨by decide, by decide⟩, ⟨by decide, ?_⟩⟩
      refine CallSt.pure (s_Check l) rfl rfl ?_
      refine Split.by (fun h2 => ?_) (fun h2 => ?_)
      · have h2 : checkL l ≠ 0 := by simpa using h2
        have e : sameE l m = (false, checkL l) := by unfold sameE; rw [if_neg h2]
        rw [e]
        exact ⟨rtB rfl rfl, rtI rfl rfl, trivial⟩
      · have h2 : checkL l = 0 := by simpa using h2
        refine ⟨⟨by decide, by decide⟩, ?_⟩
        exact ⟨0 + 1, ⟨rfl, ⟨obR rfl (D.eqv_refl _), trivial⟩, avR _ rfl, avR _ rfl, rfl, avR _ rfl, avI rfl rfl, trivial⟩, ⟨by decide, fun _ => h2, fun h => absurd h (by decide)⟩, by decide⟩
    · refine ⟨⟨by decide, by decide⟩, ⟨by decide, ?_⟩⟩
      refine CallSt.pure (s_Check m) rfl rfl ?_
      refine Split.by (fun h2 => ?_) (fun h2 => ?_)
      · have h2 : checkL m ≠ 0 := by simpa using h2
        have e : sameE l m = (false, checkL m) := by unfold sameE; rw [if_pos (i2 (by decide)), if_neg h2]
        rw [e]
        exact ⟨rtB rfl rfl, rtI rfl rfl, trivial⟩
      · have h2 : checkL m = 0 := by simpa using h2
        refine ⟨⟨by decide, by decide⟩, ?_⟩
        exact ⟨1 + 1, ⟨rfl, ⟨obR rfl (D.eqv_refl _), trivial⟩, avR _ rfl, avR _ rfl, rfl, avR _ rfl, avI rfl rfl, trivial⟩, ⟨by decide, fun _ => i2 (by decide), fun _ => h2⟩, by decide⟩
  · have h1 : i = 2 := by have := dF h1; omega
    subst h1
    have hl := i2 (by decide)
    have hm := i3 (by decide)
    obtain ⟨l1, l2, l3⟩ := checkL_ok hl
    obtain ⟨m1, m2, m3⟩ := checkL_ok hm
    have e : sameE l m = (decide (cornersL l = cornersL m), 0) := by unfold sameE; rw [if_pos hl, if_pos hm]
    have c1 := hullC_len l (by omega)
    refine CallSt.ro (s_corners l l3 (by omega)) rfl rfl ?_
    refine CallSt.ro (s_corners m m3 (by omega)) rfl rfl ?_
    refine CallSt.pure (s_Equal (cornersL l) (cornersL m) (by omega)) rfl rfl ?_
    rw [e]
    exact ⟨rtB rfl rfl, rtI rfl rfl, trivial⟩
/-! ### Thin -/
def thinRun (l : List Half) (whole : List Corner) : Nat → List Int → List Int
  | 0, left => left
  | k + 1, left => if cornersL (pickL l (rmL left k)) = whole then thinRun l whole k (rmL left k) else thinRun l whole k left
@[irreducible] def thinL (l : List Half) : List Int := thinRun l (cornersL l) l.length (upTo l.length)
@[irreducible] def thinE (l : List Half) : List Int × Int := if checkL l = 0 then (thinL l, 0) else ([], checkL l)
theorem s_Thin (l : List Half) : Spec PP 38 [slH l] [slI (thinE l).1, N (thinE l).2] := by
  refine spec_at Try.func38 rfl (by kernel_rfl) rfl ?_
  refine CallSt.pure (s_Check l) rfl rfl ?_
  refine Split.by (fun h1 => ?_) (fun h1 => ?_)
  · have h1 : checkL l ≠ 0 := by simpa using h1
    have e : thinE l = ([], checkL l) := by unfold thinE; rw [if_neg h1]
    rw [e]
    exact ⟨⟨_, _, _, _, rfl, rfl, .inl rfl⟩, rtI rfl rfl, trivial⟩
  have h1 : checkL l = 0 := by simpa using h1
  obtain ⟨n1, n2, n3⟩ := checkL_ok h1
  have e : thinE l = (thinL l, 0) := by unfold thinE; rw [if_pos h1]
  have c1 := hullC_len l (by omega)
  have hu := upTo_len l.length
  refine CallSt.ro (s_corners l n3 (by omega)) rfl rfl ?_
  refine CallSt.ro (s_indices l (by omega)) rfl rfl ?_
  refine ⟨inI64 (by omega) (by omega), ?_⟩
  refine LoopOb.of (σ := List Int × Nat) (fun x => ([(0, avOf (slH l)), (5, avOf (slC (cornersL l))), (6, avOf (slI x.1)), (7, .d (I ((x.2 : Int) - 1)))], [])) (fun x => x.2 ≤ x.1.length ∧ x.1.length ≤ 40 ∧ (∀ j ∈ x.1, 0 ≤ j ∧ j < l.length) ∧ thinRun l (cornersL l) x.2 x.1 = thinL l) (fun x => x.2) (upTo l.length, l.length)
    ⟨rfl, trivial, avR _ rfl, avR _ rfl, avR _ rfl, avI rfl (by rw [hu]), trivial⟩ ⟨(show l.length ≤ (upTo l.length).length by omega), (show (upTo l.length).length ≤ 40 by omega), fun j hj => upTo_mem hj, by unfold thinL; rfl⟩ fun x hx => ?_
  obtain ⟨x1, x2, x3, x4⟩ := hx
  refine Split.by (fun g1 => ?_) (fun g1 => ?_)
  · have g1 : 0 < x.2 := by have := dT g1; omega
    obtain ⟨k, hk⟩ : ∃ k, x.2 = k + 1 := ⟨x.2 - 1, by omega⟩
    have hrl := rmL_len x.1 (i := k) (by omega)
    have hrm : ∀ j ∈ rmL x.1 k, 0 ≤ j ∧ j < l.length := fun j hj => x3 j (rmL_mem hj)
    have hpl := pickL_len l (rmL x.1 k)
    have hc := hullC_len (pickL l (rmL x.1 k)) (by omega)
    refine CallSt.fzE [] (s_without x.1 k (by omega) (by omega)) rfl ⟨D.eqv_refl _, ⟨rfl, by omega⟩, trivial⟩ rfl ?_
    refine CallSt.ro (s_picked l (rmL x.1 k) hrm (by omega)) rfl rfl ?_
    refine CallSt.ro (s_corners (pickL l (rmL x.1 k)) (fun y hy => n3 y (pickL_mem hrm y hy)) (by omega)) rfl rfl ?_
    refine CallSt.pure (s_Equal (cornersL (pickL l (rmL x.1 k))) (cornersL l) (by omega)) rfl rfl ?_
    refine Split.by (fun g2 => ?_) (fun g2 => ?_)
    · have g2 : cornersL (pickL l (rmL x.1 k)) = cornersL l := dT g2
      refine ⟨inI64 (by omega) (by omega), ?_⟩
      refine ⟨(rmL x.1 k, k), ⟨rfl, trivial, avR _ rfl, avR _ rfl, avR _ rfl, avI rfl (by show (x.2 : Int) - 1 - 1 = (k : Int) - 1; omega), trivial⟩, ⟨(show k ≤ (rmL x.1 k).length by omega), (show (rmL x.1 k).length ≤ 40 by omega), hrm, ?_⟩, (show k < x.2 by omega)⟩
      show thinRun l (cornersL l) k (rmL x.1 k) = thinL l
      rw [← x4, hk, thinRun, if_pos g2]
    · have g2 : cornersL (pickL l (rmL x.1 k)) ≠ cornersL l := dF g2
      refine ⟨inI64 (by omega) (by omega), ?_⟩
      refine ⟨(x.1, k), ⟨rfl, trivial, avR _ rfl, avR _ rfl, avR _ rfl, avI rfl (by show (x.2 : Int) - 1 - 1 = (k : Int) - 1; omega), trivial⟩, ⟨(show k ≤ x.1.length by omega), x2, x3, ?_⟩, (show k < x.2 by omega)⟩
      show thinRun l (cornersL l) k x.1 = thinL l
      rw [← x4, hk, thinRun, if_neg g2]
  · have g1 : x.2 = 0 := by have := dF g1; omega
    rw [g1] at x4
    rw [e, ← x4]
    exact ⟨D.eqv_refl _, rtI rfl rfl, trivial⟩
end Go.Pg
/-
  Thin and Core: the polygon stays, and nothing more can be left out. Plain lists.
-/
set_option linter.all false
namespace Go.Pg
open Go.Proofs Go.RowKit

/-- A point of a system's polygon. -/
def Pt (l : List Half) (q : Corner) : Prop := 0 < q.Den ∧ Fe (hsL l) q
theorem hsL_mono {l m : List Half} (h : ∀ x ∈ l, x ∈ m) : ∀ x ∈ hsL l, x ∈ hsL m := fun x hx => by
  rcases List.mem_append.1 hx with hx | hx
  · exact List.mem_append_left _ (h x hx)
  · exact List.mem_append_right _ hx
theorem pt_mono {l m : List Half} (h : ∀ x ∈ l, x ∈ m) {q : Corner} (hq : Pt m q) : Pt l q := ⟨hq.1, fe_mono (hsL_mono h) hq.2⟩
theorem cor_pt {l m : List Half} (h1 : checkL l = 0) (h2 : checkL m = 0) : cornersL l = cornersL m ↔ ∀ q, Pt l q ↔ Pt m q := by
  obtain ⟨_, _, hl⟩ := checkL_ok h1
  obtain ⟨_, _, hm⟩ := checkL_ok h2
  rw [cor_eq hl hm, vt_same (okS_of h1) (okS_of h2)]
  constructor
  · intro h q
    exact ⟨fun ⟨a, b⟩ => ⟨a, (h q a).1 b⟩, fun ⟨a, b⟩ => ⟨a, (h q a).2 b⟩⟩
  · intro h q hD
    exact ⟨fun b => ((h q).1 ⟨hD, b⟩).2, fun b => ((h q).2 ⟨hD, b⟩).2⟩
theorem cert_pt {l : List Half} (h1 : checkL l = 0) : Cert (hsL l) ↔ ∀ q, ¬ Pt l q := by
  constructor
  · exact fun c q hq => cert_no c hq.1 hq.2
  · intro h
    rcases lp (okS_of h1) (f := ⟨0, 0⟩) ⟨by decide, by decide⟩ with c | ⟨g, _, k, _, D, hV⟩
    · exact c
    · exact (h _ ⟨by have := (okC_of hV.va).d; omega, hV.fe⟩).elim
theorem nil_pt {l : List Half} (h1 : checkL l = 0) : cornersL l = [] ↔ ∀ q, ¬ Pt l q := by
  obtain ⟨_, _, hl⟩ := checkL_ok h1
  rw [cor_nil_iff hl, ← cert_pt h1]
  constructor
  · intro h
    rcases lp (okS_of h1) (f := ⟨0, 0⟩) ⟨by decide, by decide⟩ with c | ⟨g, _, k, _, D, hV⟩
    · exact c
    · exact (h ⟨_, hV⟩).elim
  · rintro c ⟨q, hV⟩
    exact cert_no c (by have := (okC_of hV.va).d; omega) hV.fe
theorem ref_nil {l : List Half} (h1 : checkL l = 0) : refL l ≠ [] ↔ cornersL l = [] := by rw [ref_iff, cert_pt h1, nil_pt h1]
theorem checkL_of {l m : List Half} (h : checkL l = 0) (hm : ∀ x ∈ m, x ∈ l) (hn : m.length ≤ 40) : checkL m = 0 := by
  obtain ⟨n1, n2, n3⟩ := checkL_ok h
  unfold checkL
  rw [if_neg (by omega), if_pos (List.all_eq_true.2 fun x hx => n2 x (hm x hx))]
/-! ### Lists without one of their elements -/
theorem rm_get (l : List Int) (i j : Nat) : (rmL l i)[j]? = if j < i then l[j]? else l[j + 1]? := by
  have e : rmL l i = l.eraseIdx i := by unfold rmL; rw [List.eraseIdx_eq_take_drop_succ]
  rw [e, List.getElem?_eraseIdx]
theorem rm_mem {l : List Int} {i : Nat} {x : Int} : x ∈ rmL l i ↔ ∃ j, j ≠ i ∧ l[j]? = some x := by
  rw [List.mem_iff_getElem?]
  constructor
  · rintro ⟨j, hj⟩
    rw [rm_get] at hj
    split at hj
    · exact ⟨j, by omega, hj⟩
    · exact ⟨j + 1, by omega, hj⟩
  · rintro ⟨j, hne, hj⟩
    rcases Nat.lt_or_gt_of_ne hne with h | h
    · exact ⟨j, by rw [rm_get, if_pos h, hj]⟩
    · exact ⟨j - 1, by rw [rm_get, if_neg (by omega), show j - 1 + 1 = j by omega, hj]⟩
theorem rm_up {l : List Int} {k m : Nat} (h : k ≤ m) {x : Int} (hx : x ∈ rmL (rmL l k) m) : x ∈ rmL l (m + 1) := by
  obtain ⟨j, hne, hj⟩ := rm_mem.1 hx
  rw [rm_get] at hj
  split at hj
  · exact rm_mem.2 ⟨j, by omega, hj⟩
  · exact rm_mem.2 ⟨j + 1, by omega, hj⟩
theorem rm_dn {l : List Int} {k m : Nat} (h : m < k) {x : Int} (hx : x ∈ rmL (rmL l k) m) : x ∈ rmL l m := by
  obtain ⟨j, hne, hj⟩ := rm_mem.1 hx
  rw [rm_get] at hj
  split at hj
  · exact rm_mem.2 ⟨j, by omega, hj⟩
  · exact rm_mem.2 ⟨j + 1, by omega, hj⟩
theorem pick_mono (l : List Half) {js ks : List Int} (h : ∀ j ∈ js, j ∈ ks) : ∀ x ∈ pickL l js, x ∈ pickL l ks := fun x hx => by
  unfold pickL at hx ⊢
  obtain ⟨j, hj, rfl⟩ := List.mem_map.1 hx
  exact List.mem_map.2 ⟨j, h j hj, rfl⟩
theorem pick_all (l : List Half) : pickL l (upTo l.length) = l := by
  unfold pickL upTo
  rw [List.map_map]
  refine List.ext_getElem (by simp) fun i h1 h2 => ?_
  simp only [List.getElem_map, List.getElem_range, Function.comp]
  show l.getD (i : Int).toNat default = _
  rw [Int.toNat_natCast, gdI h2]
/-- Indices of a system. -/
structure Js (l : List Half) (js : List Int) : Prop where
  len : js.length ≤ 40
  mem : ∀ j ∈ js, 0 ≤ j ∧ j < l.length
theorem Js.rm {l : List Half} {js : List Int} (h : Js l js) (i : Nat) : Js l (rmL js i) :=
  ⟨by have := h.len; unfold rmL; simp; omega, fun j hj => h.mem j (rmL_mem hj)⟩
theorem Js.ck {l : List Half} {js : List Int} (h : Js l js) (h1 : checkL l = 0) : checkL (pickL l js) = 0 := checkL_of h1 (pickL_mem h.mem) (by rw [pickL_len]; exact h.len)
theorem Js.all {l : List Half} (h1 : checkL l = 0) : Js l (upTo l.length) := ⟨by rw [upTo_len]; exact (checkL_ok h1).1, fun j hj => upTo_mem hj⟩
theorem sand {l a b : List Half} (h1 : checkL l = 0) (ha : checkL a = 0) (hb : checkL b = 0) (hab : ∀ x ∈ a, x ∈ b) (hbl : ∀ x ∈ b, x ∈ l) (e : cornersL a = cornersL l) : cornersL b = cornersL l :=
  (cor_pt hb h1).2 fun q => ⟨fun h => ((cor_pt ha h1).1 e q).1 (pt_mono hab h), fun h => pt_mono hbl h⟩
theorem thin_inv {l : List Half} (h1 : checkL l = 0) : ∀ (n : Nat) (left : List Int), n ≤ left.length → Js l left → cornersL (pickL l left) = cornersL l → (∀ m, n ≤ m → m < left.length → cornersL (pickL l (rmL left m)) ≠ cornersL l) →
    Js l (thinRun l (cornersL l) n left) ∧ cornersL (pickL l (thinRun l (cornersL l) n left)) = cornersL l ∧ ∀ m, m < (thinRun l (cornersL l) n left).length → cornersL (pickL l (rmL (thinRun l (cornersL l) n left) m)) ≠ cornersL l
  | 0, left, _, hj, e, hm => ⟨hj, e, fun m => hm m (Nat.zero_le _)⟩
  | n + 1, left, hn, hj, e, hm => by
    have hl := rmL_len left (i := n) (by omega)
    simp only [thinRun]
    by_cases h : cornersL (pickL l (rmL left n)) = cornersL l
    · rw [if_pos h]
      refine thin_inv h1 n (rmL left n) (by omega) (hj.rm n) h fun m m1 m2 e2 => ?_
      refine hm (m + 1) (by omega) (by omega) ?_
      exact sand h1 (((hj.rm n).rm m).ck h1) ((hj.rm (m + 1)).ck h1) (pick_mono l fun j => rm_up m1) (pickL_mem (hj.rm (m + 1)).mem) e2
    · rw [if_neg h]
      refine thin_inv h1 n left (by omega) hj e fun m m1 m2 => ?_
      rcases Nat.lt_or_ge n m with h2 | h2
      · exact hm m h2 m2
      · obtain rfl : m = n := by omega
        exact h
theorem thin_is {l : List Half} (h1 : checkL l = 0) : Js l (thinL l) ∧ cornersL (pickL l (thinL l)) = cornersL l ∧ ∀ m, m < (thinL l).length → cornersL (pickL l (rmL (thinL l) m)) ≠ cornersL l := by
  unfold thinL
  have hu := upTo_len l.length
  exact thin_inv h1 l.length (upTo l.length) (by omega) (Js.all h1) (by rw [pick_all]) fun m m1 m2 => by omega
theorem core_inv {l : List Half} (h1 : checkL l = 0) : ∀ (n : Nat) (left : List Int) (i : Nat), left.length - i = n → Js l left → cornersL (pickL l left) = [] → (∀ m, m < i → cornersL (pickL l (rmL left m)) ≠ []) →
    Js l (coreRun l n left i) ∧ cornersL (pickL l (coreRun l n left i)) = [] ∧ ∀ m, m < (coreRun l n left i).length → cornersL (pickL l (rmL (coreRun l n left i) m)) ≠ []
  | 0, left, i, hn, hj, e, hm => ⟨hj, e, fun m m1 => hm m (by have : m < left.length := m1; omega)⟩
  | n + 1, left, i, hn, hj, e, hm => by
    have hl := rmL_len left (i := i) (by omega)
    simp only [coreRun]
    by_cases h : cornersL (pickL l (rmL left i)) = []
    · rw [if_pos h]
      refine core_inv h1 n (rmL left i) i (by omega) (hj.rm i) h fun m m1 e2 => ?_
      refine hm m m1 ((nil_pt ((hj.rm m).ck h1)).2 fun q hq => ?_)
      exact (nil_pt (((hj.rm i).rm m).ck h1)).1 e2 q (pt_mono (pick_mono l fun j => rm_dn m1) hq)
    · rw [if_neg h]
      refine core_inv h1 n left (i + 1) (by omega) hj e fun m m1 => ?_
      rcases Nat.lt_or_ge m i with h2 | h2
      · exact hm m h2
      · obtain rfl : m = i := by omega
        exact h
theorem core_is {l : List Half} (h1 : checkL l = 0) (h0 : cornersL l = []) : Js l (coreL l) ∧ cornersL (pickL l (coreL l)) = [] ∧ ∀ m, m < (coreL l).length → cornersL (pickL l (rmL (coreL l) m)) ≠ [] := by
  unfold coreL
  have hu := upTo_len l.length
  exact core_inv h1 l.length (upTo l.length) 0 (by omega) (Js.all h1) (by rw [pick_all]; exact h0) fun m m1 => by omega
/-- A half-plane of a pick is still there without some other place. -/
theorem still (l : List Half) (js : List Int) {g : Half} (hg : g ∈ hsL (pickL l js)) : ∃ a, ∀ m, m ≠ a → g ∈ hsL (pickL l (rmL js m)) := by
  rcases List.mem_append.1 hg with h | h
  · unfold pickL at h
    obtain ⟨j, hj, rfl⟩ := List.mem_map.1 h
    obtain ⟨a, ha⟩ := List.mem_iff_getElem?.1 hj
    refine ⟨a, fun m hm => List.mem_append_left _ ?_⟩
    unfold pickL
    exact List.mem_map.2 ⟨j, rm_mem.2 ⟨a, fun e => hm e.symm, ha⟩, rfl⟩
  · exact ⟨0, fun m _ => List.mem_append_right _ h⟩
theorem pick3 (a b c : Nat) : ∃ m, m < 4 ∧ m ≠ a ∧ m ≠ b ∧ m ≠ c := by
  by_cases h0 : 0 ≠ a ∧ 0 ≠ b ∧ 0 ≠ c
  · exact ⟨0, by omega, h0⟩
  by_cases h1 : 1 ≠ a ∧ 1 ≠ b ∧ 1 ≠ c
  · exact ⟨1, by omega, h1⟩
  by_cases h2 : 2 ≠ a ∧ 2 ≠ b ∧ 2 ≠ c
  · exact ⟨2, by omega, h2⟩
  exact ⟨3, by omega, by omega, by omega, by omega⟩
theorem core_three {l : List Half} (h1 : checkL l = 0) (h0 : cornersL l = []) : (coreL l).length ≤ 3 := by
  obtain ⟨hj, e, hm⟩ := core_is h1 h0
  rcases Nat.lt_or_ge 3 (coreL l).length with h | h
  · exfalso
    have c : Cert (hsL (pickL l (coreL l))) := (cert_pt (hj.ck h1)).2 ((nil_pt (hj.ck h1)).1 e)
    have bad : ∀ m, m < 4 → ¬ Cert (hsL (pickL l (rmL (coreL l) m))) := fun m hm4 c => hm m (by omega) ((nil_pt ((hj.rm m).ck h1)).2 ((cert_pt ((hj.rm m).ck h1)).1 c))
    rcases c with ⟨g, hg, k, hk, c⟩ | ⟨g, hg, k, hk, j, hj', c⟩
    · obtain ⟨a, ha⟩ := still l _ hg
      obtain ⟨b, hb⟩ := still l _ hk
      obtain ⟨m, m1, m2, m3, _⟩ := pick3 a b b
      exact bad m m1 (.inl ⟨g, ha m m2, k, hb m m3, c⟩)
    · obtain ⟨a, ha⟩ := still l _ hg
      obtain ⟨b, hb⟩ := still l _ hk
      obtain ⟨d, hd⟩ := still l _ hj'
      obtain ⟨m, m1, m2, m3, m4⟩ := pick3 a b d
      exact bad m m1 (.inr ⟨g, ha m m2, k, hb m m3, j, hd m m4, c⟩)
  · exact h
end Go.Pg
/-
  The law HalfFewer: walk.
-/
set_option linter.all false
set_option maxRecDepth 100000
namespace Go.Pg
open Go.Proofs Go.RowKit

/-- The first i elements, but for the one at place w. -/
@[irreducible] def keepTo (js : List Int) (w : Int) (i : Nat) : List Int := ((List.range i).filter fun k : Nat => !((k : Int) == w)).map fun k => js.getD k 0
theorem keepTo_zero (js : List Int) (w : Int) : keepTo js w 0 = [] := by unfold keepTo; rfl
theorem keepTo_succ (js : List Int) (w : Int) (i : Nat) : keepTo js w (i + 1) = keepTo js w i ++ (if (i : Int) = w then [] else [js.getD i 0]) := by
  unfold keepTo
  rw [List.range_succ, List.filter_append, List.map_append]
  congr 1
  by_cases h : (i : Int) = w
  · rw [if_pos h, List.filter_cons_of_neg (by simp [h])]; rfl
  · rw [if_neg h, List.filter_cons_of_pos (by simpa using h)]; rfl
theorem keepTo_len (js : List Int) (w : Int) (i : Nat) : (keepTo js w i).length ≤ i := by
  unfold keepTo
  rw [List.length_map]
  exact Nat.le_trans (List.length_filter_le _ _) (by simp)
theorem keepTo_all (js : List Int) : ∀ i, i ≤ js.length → keepTo js (-1) i = js.take i
  | 0, _ => by rw [keepTo_zero]; simp
  | i + 1, h => by rw [keepTo_succ, if_neg (by omega), keepTo_all js i (by omega), take1 (by omega) 0]
theorem keep_all (js : List Int) : keepTo js (-1) js.length = js := by rw [keepTo_all js _ (Nat.le_refl _), List.take_length]
theorem keepTo_dn (js : List Int) (k : Nat) : ∀ i, i ≤ js.length → i ≤ k → keepTo js k i = js.take i
  | 0, _, _ => by rw [keepTo_zero]; simp
  | i + 1, h, hk => by rw [keepTo_succ, if_neg (by omega), keepTo_dn js k i (by omega) (by omega), take1 (by omega) 0]
theorem keepTo_rm (js : List Int) (k : Nat) : ∀ i, i ≤ js.length → k < i → keepTo js k i = rmL (js.take i) k
  | 0, _, hk => absurd hk (Nat.not_lt_zero _)
  | i + 1, h, hk => by
    rw [keepTo_succ]
    by_cases e : i = k
    · subst e
      rw [if_pos rfl, List.append_nil, keepTo_dn js i i (by omega) (Nat.le_refl _)]
      unfold rmL
      rw [List.take_take, List.drop_eq_nil_of_le (by simp; omega), List.append_nil]
      congr 1; omega
    · rw [if_neg (by omega), keepTo_rm js k i (by omega) (by omega), take1 (by omega) 0]
      unfold rmL
      have hl : (js.take i).length = i := by rw [List.length_take]; omega
      rw [List.take_append_of_le_length (by omega), List.drop_append_of_le_length (by omega), List.append_assoc]
theorem keep_rm (js : List Int) {k : Nat} (h : k < js.length) : keepTo js k js.length = rmL js k := by
  have := keepTo_rm js k js.length (Nat.le_refl _) h
  rwa [List.take_length] at this
theorem s_some (l : List Half) (js : List Int) (w : Int) (hj : ∀ j ∈ js, 0 ≤ j ∧ j < l.length) (hn : js.length ≤ 1000000) : Spec PP 40 [slH l, slI js, N w] [slH (pickL l (keepTo js w js.length))] := by
  refine spec_at Try.func40 rfl (by kernel_rfl) rfl ?_
  refine LoopOb.of (σ := Nat) (fun i => ([(0, avOf (slH l)), (2, .d (I w)), (7, .own 7), (10, avOf (slI js)), (11, .d (I js.length)), (12, .d (I i))], [(7, .row 43 3 (pickL l (keepTo js w i)).length (rowH (pickL l (keepTo js w i))))])) (fun i => i ≤ js.length) (fun i => js.length - i) 0
    ⟨rfl, ⟨obR rfl ⟨(by rw [pickL_len, keepTo_zero]; rfl), .inl rfl⟩, trivial⟩, avR _ rfl, avR _ rfl, avQ rfl, avR _ rfl, avR _ rfl, avR _ rfl, trivial⟩ (Nat.zero_le _) fun i hi => ?_
  have hl := pickL_len l (keepTo js w i)
  have hk := keepTo_len js w i
  refine Split.by (fun h1 => ?_) (fun h1 => ?_)
  · have h1 : i < js.length := by have := dT h1; omega
    have hm := hj _ (gd1 h1 0)
    have hm' : 0 ≤ js.getD (i : Int).toNat 0 ∧ js.getD (i : Int).toNat 0 < l.length := by rw [Int.toNat_natCast]; exact hm
    refine ⟨⟨rfl, by omega, by omega⟩, ?_⟩
    refine Split.by (fun h2 => ?_) (fun h2 => ?_)
    · have h2 : ¬ (i : Int) = w := by simpa using h2
      refine Split.tt ?_
      refine Split.yes (decide_eq_true (by omega)) ?_
      refine Split.tt ?_
      refine Split.yes (decide_eq_true (by omega)) ?_
      refine ⟨⟨rfl, by omega, by omega⟩, ?_⟩
      refine ⟨⟨.inr rfl, by unfold maxLen; omega, by show ((pickL l (keepTo js w i)).length + 1) * 24 ≤ 140737488355328; omega⟩, ?_⟩
      refine ⟨inI64 (by omega) (by omega), ?_⟩
      refine ⟨i + 1, ⟨rfl, ⟨obR rfl ?_, trivial⟩, avR _ rfl, avR _ rfl, avQ rfl, avR _ rfl, avR _ rfl, avI rfl rfl, trivial⟩, h1, (show js.length - (i + 1) < js.length - i by omega)⟩
      rw [keepTo_succ, if_neg h2, pickL_snoc]; exact pushH rfl (eqAtH _)
    · have h2 : (i : Int) = w := by simpa using h2
      refine Split.ff ?_
      refine Split.ff ?_
      refine Split.ff ?_
      refine Split.ff ?_
      refine ⟨inI64 (by omega) (by omega), ?_⟩
      refine ⟨i + 1, ⟨rfl, ⟨obR rfl ?_, trivial⟩, avR _ rfl, avR _ rfl, avQ rfl, avR _ rfl, avR _ rfl, avI rfl rfl, trivial⟩, h1, (show js.length - (i + 1) < js.length - i by omega)⟩
      rw [keepTo_succ, if_pos h2, List.append_nil]; exact D.eqv_refl _
  · have h1 : i = js.length := by have := dF h1; omega
    subst h1
    exact ⟨⟨_, _, _, _, rfl, D.eqv_refl _⟩, trivial⟩
/-! ### What the law asks -/
theorem lies_cor {l : List Half} (h1 : checkL l = 0) {h : Half} (hh : h ∈ l) : ∀ q ∈ cornersL l, lies h q = true := fun q hq => by
  obtain ⟨_, _, n3⟩ := checkL_ok h1
  exact (lies_ef h q).2 (((cor_mem n3 q).1 hq).fe h (List.mem_append_left _ hh))
theorem empty_eq {l : List Half} (h1 : checkL l = 0) : Spec PP 28 [slH l] [slU (refL l), B (decide (cornersL l = [])), N 0] := by
  have c := s_Empty l
  have e : emptyE l = (refL l, 0) := by unfold emptyE; rw [if_pos h1]
  rw [e] at c
  have e2 : decide (0 < (refL l).length) = decide (cornersL l = []) := by
    rw [decide_eq_decide, ← ref_nil h1]
    constructor
    · intro h e; rw [e] at h; cases h
    · intro h; exact List.length_pos_iff.2 h
  show Spec PP _ _ [slU (refL l, (0 : Int)).1, B (decide (cornersL l = [])), N 0]
  rw [← e2]
  exact c
theorem same_spec {l m : List Half} (h1 : checkL l = 0) (h2 : checkL m = 0) {b : Bool} (hb : decide (cornersL l = cornersL m) = b) : Spec PP 39 [slH l, slH m] [B b, N 0] := by
  have c := s_Same l m
  have e : sameE l m = (b, 0) := by unfold sameE; rw [if_pos h1, if_pos h2, hb]
  rw [e] at c
  exact c
set_option maxHeartbeats 2000000 in
theorem s_HalfFewer (l : List Half) : Spec PP 11 [slH l] [B true] := by
  refine spec_at Try.func11 rfl (by kernel_rfl) rfl ?_
  refine Split.by (fun h1 => ?_) (fun h1 => ?_)
  · refine Split.tt ?_
    refine Split.tt ?_
    refine CallSt.pure s_sanity rfl rfl ?_
    exact r1B rfl rfl
  have hn : l.length ≤ 12 := by have := dF h1; omega
  refine CallSt.pure (s_Check l) rfl rfl ?_
  refine Split.ff ?_
  refine Split.by (fun h1 => ?_) (fun h1 => ?_)
  · refine CallSt.pure s_sanity rfl rfl ?_
    exact r1B rfl rfl
  have h1 : checkL l = 0 := by simpa using h1
  obtain ⟨n1, n2, n3⟩ := checkL_ok h1
  obtain ⟨tj, tc, tm⟩ := thin_is h1
  have tl := tj.len
  have cT := s_Thin l
  rw [show thinE l = (thinL l, 0) by unfold thinE; rw [if_pos h1]] at cT
  have cS := s_some l (thinL l) (-1) tj.mem (by omega)
  rw [keep_all] at cS
  refine CallSt.ro cT rfl rfl ?_
  refine CallSt.ro cS rfl rfl ?_
  refine CallSt.pure (same_spec h1 (tj.ck h1) (b := true) (decide_eq_true tc.symm)) rfl rfl ?_
  refine Split.ff ?_
  refine Split.ff ?_
  refine Split.ff ?_
  refine Split.ff ?_
  refine Split.ff ?_
  refine LoopOb.of (σ := Nat) (fun k => ([(0, avOf (slH l)), (3, avOf (slI (thinL l))), (58, avOf (slI (thinL l))), (59, .d (I (thinL l).length)), (60, .d (I k))], [])) (fun k => k ≤ (thinL l).length) (fun k => (thinL l).length - k) 0
    ⟨rfl, trivial, avR _ rfl, avR _ rfl, avR _ rfl, avR _ rfl, avR _ rfl, trivial⟩ (Nat.zero_le _) fun k hk => ?_
  refine Split.by (fun g1 => ?_) (fun g1 => ?_)
  · have g1 : k < (thinL l).length := by have := dT g1; omega
    have cS2 := s_some l (thinL l) k tj.mem (by omega)
    rw [keep_rm _ g1] at cS2
    refine CallSt.ro cS2 rfl rfl ?_
    refine CallSt.pure (same_spec h1 ((tj.rm k).ck h1) (b := false) (decide_eq_false fun e => tm k g1 e.symm)) rfl rfl ?_
    refine Split.ff ?_
    refine Split.ff ?_
    refine Split.ff ?_
    refine ⟨inI64 (by omega) (by omega), ?_⟩
    exact ⟨k + 1, ⟨rfl, trivial, avR _ rfl, avR _ rfl, avR _ rfl, avR _ rfl, avI rfl rfl, trivial⟩, g1, (show (thinL l).length - (k + 1) < (thinL l).length - k by omega)⟩
  refine LoopOb.of (σ := Nat) (fun i => ([(0, avOf (slH l)), (3, avOf (slI (thinL l))), (78, avOf (slH l)), (79, .d (I l.length)), (80, .d (I i))], [])) (fun i => i ≤ l.length) (fun i => l.length - i) 0
    ⟨rfl, trivial, avR _ rfl, avR _ rfl, avR _ rfl, avR _ rfl, avR _ rfl, trivial⟩ (Nat.zero_le _) fun i hi => ?_
  refine Split.by (fun g2 => ?_) (fun g2 => ?_)
  · have g2 : i < l.length := by have := dT g2; omega
    have cI := s_Implied (pickL l (thinL l)) (l.getD i default)
    rw [show impliedE (pickL l (thinL l)) (l.getD i default) = (true, 0) by
      unfold impliedE
      rw [if_pos (tj.ck h1), if_pos (n2 _ (gd1 g2 default)), tc]
      congr 1
      rw [Bool.not_eq_true', List.any_eq_false]
      intro q hq
      rw [lies_cor h1 (gd1 g2 default) q hq]; decide] at cI
    refine ⟨⟨rfl, by omega, by omega⟩, ?_⟩
    refine Exists.intro (List.range 10) (And.intro (by kernel_rfl) (FzOb.no ?_))
    refine CallOb.ro cS rfl rfl ?_
    refine CallOb.pure cI rfl rfl ?_
    refine Split.ff ?_
    refine Split.ff ?_
    refine Split.ff ?_
    refine ⟨inI64 (by omega) (by omega), ?_⟩
    exact ⟨i + 1, ⟨rfl, trivial, avR _ rfl, avR _ rfl, avR _ rfl, avR _ rfl, avI rfl rfl, trivial⟩, g2, (show l.length - (i + 1) < l.length - i by omega)⟩
  have cC := s_Core l
  have cE := empty_eq h1
  by_cases h0 : cornersL l = []
  case neg =>
    rw [show coreE l = ([], 5) by unfold coreE; rw [if_pos h1, if_neg h0]] at cC
    rw [decide_eq_false h0] at cE
    refine CallSt.ro cC rfl rfl ?_
    refine CallSt.ro cE rfl rfl ?_
    refine Split.ff ?_
    refine Split.ff ?_
    refine Split.ff ?_
    refine Split.tt ?_
    refine CallSt.pure s_sanity rfl rfl ?_
    refine Split.tt ?_
    refine Split.tt ?_
    exact r1B rfl rfl
  rw [show coreE l = (coreL l, 0) by unfold coreE; rw [if_pos h1, if_pos h0]] at cC
  rw [decide_eq_true h0] at cE
  obtain ⟨cj, cc, cm⟩ := core_is h1 h0
  have c3 := core_three h1 h0
  have cl := cj.len
  have cS3 := s_some l (coreL l) (-1) cj.mem (by omega)
  rw [keep_all] at cS3
  have cE3 := empty_eq (cj.ck h1)
  rw [decide_eq_true cc] at cE3
  refine CallSt.ro cC rfl rfl ?_
  refine CallSt.ro cE rfl rfl ?_
  refine Split.ff ?_
  refine Split.ff ?_
  refine Split.ff ?_
  refine Split.ff ?_
  refine CallSt.ro cS3 rfl rfl ?_
  refine CallSt.ro cE3 rfl rfl ?_
  refine Split.ff ?_
  refine Split.ff ?_
  refine Split.ff ?_
  refine Split.ff ?_
  refine Split.no (decide_eq_false (show ¬ (((coreL l).length : Nat) : Int) > 3 by omega)) ?_
  refine LoopOb.of (σ := Nat) (fun k => ([(0, avOf (slH l)), (14, avOf (slI (coreL l))), (144, avOf (slI (coreL l))), (145, .d (I (coreL l).length)), (146, .d (I k))], [])) (fun k => k ≤ (coreL l).length) (fun k => (coreL l).length - k) 0
    ⟨rfl, trivial, avR _ rfl, avR _ rfl, avR _ rfl, avR _ rfl, avR _ rfl, trivial⟩ (Nat.zero_le _) fun k hk => ?_
  refine Split.by (fun g3 => ?_) (fun g3 => ?_)
  · have g3 : k < (coreL l).length := by have := dT g3; omega
    have cS2 := s_some l (coreL l) k cj.mem (by omega)
    rw [keep_rm _ g3] at cS2
    have cE2 := empty_eq ((cj.rm k).ck h1)
    rw [decide_eq_false (cm k g3)] at cE2
    refine CallSt.ro cS2 rfl rfl ?_
    refine CallSt.ro cE2 rfl rfl ?_
    refine Split.ff ?_
    refine Split.ff ?_
    refine Split.ff ?_
    refine ⟨inI64 (by omega) (by omega), ?_⟩
    exact ⟨k + 1, ⟨rfl, trivial, avR _ rfl, avR _ rfl, avR _ rfl, avR _ rfl, avI rfl rfl, trivial⟩, g3, (show (coreL l).length - (k + 1) < (coreL l).length - k by omega)⟩
  refine CallSt.pure s_sanity rfl rfl ?_
  exact r1B rfl rfl
end Go.Pg
