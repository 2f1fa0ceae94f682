/-
  The statements' example: what the functions return for it (values alone).
-/
import Derived.Test.YtlmljmgappiehaaPhO
import Derived.Test.YtlmljmgappiehaaPiD
set_option linter.all false
set_option maxRecDepth 100000
namespace Go.Pg
open Go.Proofs Go.RowKit Go.Sort

def threeL : List Half := [⟨1, 1, 10⟩, ⟨-1, 2, 5⟩, ⟨2, -1, 8⟩]
def fourL : List Half := [⟨1, 1, 10⟩, ⟨-1, 2, 5⟩, ⟨2, -1, 8⟩, ⟨-1, 0, -7⟩]
def wantC : List Corner := [⟨0, 0, 1⟩, ⟨4, 0, 1⟩, ⟨6, 4, 1⟩, ⟨5, 5, 1⟩, ⟨0, 5, 2⟩]
def fewP : List Place := [⟨0, 0⟩, ⟨2, 0⟩, ⟨0, 2⟩, ⟨1, 1⟩]
def wantH : List Half := [⟨0, -2, 0⟩, ⟨2, 2, 4⟩, ⟨-2, 0, 0⟩]
theorem v_check3 : checkL threeL = 0 := by kernel_rfl
theorem v_check4 : checkL fourL = 0 := by kernel_rfl
theorem v_cross : cross ⟨1, 1, 10⟩ ⟨-1, 2, 5⟩ = (⟨5, 5, 1⟩, 0) := by kernel_rfl
theorem v_crs3 : hullL (crsL threeL) = wantC := by kernel_rfl
theorem v_cor3 : cornersL threeL = wantC := by rw [cornersL_eq (checkL_ok v_check3).2.2]; exact v_crs3
theorem v_corners : cornersE threeL = (wantC, 0) := by unfold cornersE; rw [v_cor3]; kernel_rfl
theorem v_bestY : (bestE threeL ⟨0, 1⟩).1.V = ⟨5, 1⟩ ∧ (bestE threeL ⟨0, 1⟩).2 = 0 := by unfold bestE; rw [v_cor3]; exact ⟨by kernel_rfl, by kernel_rfl⟩
theorem v_bestX : (bestE threeL ⟨1, 0⟩).1.V = ⟨6, 1⟩ ∧ (bestE threeL ⟨1, 0⟩).2 = 0 := by unfold bestE; rw [v_cor3]; exact ⟨by kernel_rfl, by kernel_rfl⟩
theorem v_empty : (emptyE fourL).1.length ≠ 0 ∧ (emptyE fourL).2 = 0 := by
  have h : (emptyE fourL).1.length = 3 := by kernel_rfl
  exact ⟨by omega, by kernel_rfl⟩
theorem v_places : (placesE threeL).1.length = 26 ∧ (placesE threeL).2 = 0 := by unfold placesE; rw [v_cor3]; exact ⟨by kernel_rfl, by kernel_rfl⟩
theorem cycL_eq (l : List Place) : cycL l = hullL (insL ((ptsO l l.length).map fun p : VC => p.1) []) := by unfold cycL; rw [comp_sort]
theorem v_hull : hullE fewP = (wantH, 0) := by unfold hullE; rw [cycL_eq]; kernel_rfl
theorem okH_default : okH default := ⟨by decide, by decide, by decide⟩
theorem hullL_nil {m : List Corner} : hullL m = [] ↔ m = [] := by
  constructor
  · intro h
    rcases m with _ | ⟨a, m⟩
    · rfl
    · have := hullL_pos (l := a :: m) (by simp)
      rw [h] at this; simp at this
  · rintro rfl; unfold hullL; rfl
theorem cor_nil {l : List Half} (hl : ∀ x ∈ l, okH x) : cornersL l = [] ↔ crsL l = [] := by rw [cornersL_eq hl, hullL_nil]
/-! ### Core by the points put in one after the other -/
def coreRunC (l : List Half) : Nat → List Int → Nat → List Int
  | 0, left, _ => left
  | n + 1, left, i => if crsL (pickL l (rmL left i)) = [] then coreRunC l n (rmL left i) i else coreRunC l n left (i + 1)
theorem pick_ok {l : List Half} (hl : ∀ x ∈ l, okH x) (js : List Int) : ∀ x ∈ pickL l js, okH x := fun x hx => by
  unfold pickL at hx
  obtain ⟨j, hj, rfl⟩ := List.mem_map.1 hx
  rw [List.getD_eq_getElem?_getD]
  cases h : l[j.toNat]? with
  | none => exact okH_default
  | some y => exact hl y (List.mem_of_getElem? h)
theorem coreRun_eq {l : List Half} (hl : ∀ x ∈ l, okH x) : ∀ (n : Nat) (left : List Int) (i : Nat), coreRun l n left i = coreRunC l n left i
  | 0, _, _ => rfl
  | n + 1, left, i => by
    simp only [coreRun, coreRunC]
    have h := cor_nil (pick_ok hl (rmL left i))
    by_cases hc : crsL (pickL l (rmL left i)) = []
    · rw [if_pos (h.2 hc), if_pos hc]; exact coreRun_eq hl n _ _
    · rw [if_neg fun e => hc (h.1 e), if_neg hc]; exact coreRun_eq hl n _ _
theorem v_core : coreE fourL = ([0, 2, 3], 0) := by
  have h0 := v_check4
  obtain ⟨_, _, h1⟩ := checkL_ok h0
  unfold coreE
  rw [if_pos h0, if_pos ((cor_nil h1).2 (show crsL fourL = [] from by kernel_rfl))]
  unfold coreL
  have h : coreRunC fourL fourL.length (upTo fourL.length) 0 = [0, 2, 3] := by kernel_rfl
  rw [coreRun_eq h1, h]
/-! ### The law's own functions -/
theorem rows3 {f g : Nat → Nat → D} {n : Nat} (h : ∀ i, i < n → ∀ j, j < 3 → f i j = g i j) : D.eqv (.slc 3 n f) (.slc 3 n g) := ⟨rfl, .inr ⟨rfl, fun i hi j hj => by rw [h i hi j hj]; exact D.eqv_refl _⟩⟩
theorem three_row : ∀ i, i < 3 → ∀ j, j < 3 → rowOf 3 [I 1, I 1, I 10, I (-1), I 2, I 5, I 2, I (-1), I 8] i j = rowH threeL i j := fun i hi j hj => by
  match i, j, hi, hj with
  | 0, 0, _, _ => rfl
  | 0, 1, _, _ => rfl
  | 0, 2, _, _ => rfl
  | 1, 0, _, _ => rfl
  | 1, 1, _, _ => rfl
  | 1, 2, _, _ => rfl
  | 2, 0, _, _ => rfl
  | 2, 1, _, _ => rfl
  | 2, 2, _, _ => rfl
theorem s_three : Spec PP 45 [] [slH threeL] := by
  refine spec_at Try.func45 rfl (by kernel_rfl) rfl ?_
  exact ⟨⟨_, _, _, _, rfl, rows3 three_row⟩, trivial⟩
theorem o_three : SpecO PP 45 [] 43 3 3 (rowH threeL) := by
  refine specO_at Try.func45 rfl (by kernel_rfl) rfl ?_
  refine ⟨rfl, rfl, rfl, fun i hi j hj => ?_⟩
  have h := three_row i hi j hj
  have h2 : D.eqv (rowOf 3 [I 1, I 1, I 10, I (-1), I 2, I 5, I 2, I (-1), I 8] i j) (rowH threeL i j) := by rw [h]; exact D.eqv_refl _
  exact h2
theorem flatH (l : List Half) (m j : Nat) : (rowH l m j).flat = true := by
  show ((l.getD m default).at j).flat = true
  unfold Half.at; split <;> rfl
theorem four_row : ∀ i, i < 4 → ∀ j, j < 3 → appRow 3 (rowH threeL) (rowOf 3 [I (-1), I 0, I (-7)]) i j = rowH fourL i j := fun i hi j hj => by
  match i, j, hi, hj with
  | 0, 0, _, _ => rfl
  | 0, 1, _, _ => rfl
  | 0, 2, _, _ => rfl
  | 1, 0, _, _ => rfl
  | 1, 1, _, _ => rfl
  | 1, 2, _, _ => rfl
  | 2, 0, _, _ => rfl
  | 2, 1, _, _ => rfl
  | 2, 2, _, _ => rfl
  | 3, 0, _, _ => rfl
  | 3, 1, _, _ => rfl
  | 3, 2, _, _ => rfl
theorem rowsK {k : Nat} {f g : Nat → Nat → D} {n : Nat} (h : ∀ i, i < n → ∀ j, j < k → f i j = g i j) : D.eqv (.slc k n f) (.slc k n g) := ⟨rfl, .inr ⟨rfl, fun i hi j hj => by rw [h i hi j hj]; exact D.eqv_refl _⟩⟩
theorem few_row : ∀ i, i < 4 → ∀ j, j < 2 → rowOf 2 [I 0, I 0, I 2, I 0, I 0, I 2, I 1, I 1] i j = rowPl fewP i j := fun i hi j hj => by
  match i, j, hi, hj with
  | 0, 0, _, _ => rfl
  | 0, 1, _, _ => rfl
  | 1, 0, _, _ => rfl
  | 1, 1, _, _ => rfl
  | 2, 0, _, _ => rfl
  | 2, 1, _, _ => rfl
  | 3, 0, _, _ => rfl
  | 3, 1, _, _ => rfl
theorem want_row : ∀ i, i < 5 → ∀ j, j < 3 → rowOf 3 [I 0, I 0, I 1, I 4, I 0, I 1, I 6, I 4, I 1, I 5, I 5, I 1, I 0, I 5, I 2] i j = rowC wantC i j := fun i hi j hj => by
  match i, j, hi, hj with
  | 0, 0, _, _ => rfl
  | 0, 1, _, _ => rfl
  | 0, 2, _, _ => rfl
  | 1, 0, _, _ => rfl
  | 1, 1, _, _ => rfl
  | 1, 2, _, _ => rfl
  | 2, 0, _, _ => rfl
  | 2, 1, _, _ => rfl
  | 2, 2, _, _ => rfl
  | 3, 0, _, _ => rfl
  | 3, 1, _, _ => rfl
  | 3, 2, _, _ => rfl
  | 4, 0, _, _ => rfl
  | 4, 1, _, _ => rfl
  | 4, 2, _, _ => rfl
theorem wantI_row : ∀ i, i < 3 → ∀ j, j < 1 → rowOf 1 [I 0, I 2, I 3] i j = rowI [0, 2, 3] i j := fun i hi j hj => by
  match i, j, hi, hj with
  | 0, 0, _, _ => rfl
  | 1, 0, _, _ => rfl
  | 2, 0, _, _ => rfl
theorem wantH_row : ∀ i, i < 3 → ∀ j, j < 3 → rowOf 3 [I 0, I (-2), I 0, I 2, I 2, I 4, I (-2), I 0, I 0] i j = rowH wantH i j := fun i hi j hj => by
  match i, j, hi, hj with
  | 0, 0, _, _ => rfl
  | 0, 1, _, _ => rfl
  | 0, 2, _, _ => rfl
  | 1, 0, _, _ => rfl
  | 1, 1, _, _ => rfl
  | 1, 2, _, _ => rfl
  | 2, 0, _, _ => rfl
  | 2, 1, _, _ => rfl
  | 2, 2, _, _ => rfl
set_option maxHeartbeats 2000000 in
theorem s_sanity : Spec PP 13 [] [B true] := by
  have c1 := s_Cross ⟨1, 1, 10⟩ ⟨-1, 2, 5⟩
  rw [v_cross] at c1
  have c2 := s_Corners threeL
  rw [v_corners] at c2
  obtain ⟨b3, h3, e3⟩ : ∃ b : Bound, bestE threeL ⟨0, 1⟩ = (b, 0) ∧ b.V = ⟨5, 1⟩ := ⟨_, Prod.ext rfl v_bestY.2, v_bestY.1⟩
  have c3 := s_Best threeL ⟨0, 1⟩
  rw [h3] at c3
  obtain ⟨⟨n3, d3⟩, a3, k3, u3⟩ := b3
  cases e3
  obtain ⟨b4, h4, e4⟩ : ∃ b : Bound, bestE threeL ⟨1, 0⟩ = (b, 0) ∧ b.V = ⟨6, 1⟩ := ⟨_, Prod.ext rfl v_bestX.2, v_bestX.1⟩
  have c4 := s_Best threeL ⟨1, 0⟩
  rw [h4] at c4
  obtain ⟨⟨n4, d4⟩, a4, k4, u4⟩ := b4
  cases e4
  obtain ⟨u5, h5, e5⟩ : ∃ u : List Use, emptyE fourL = (u, 0) ∧ u.length ≠ 0 := ⟨_, Prod.ext rfl v_empty.2, v_empty.1⟩
  have c5 := s_Empty fourL
  rw [h5] at c5
  rw [decide_eq_true (show 0 < (u5, (0 : Int)).1.length from Nat.pos_of_ne_zero e5)] at c5
  have c6 := s_Core fourL
  rw [v_core] at c6
  obtain ⟨p7, h7, e7⟩ : ∃ u : List Place, placesE threeL = (u, 0) ∧ u.length = 26 := ⟨_, Prod.ext rfl v_places.2, v_places.1⟩
  have c7 := s_Places threeL
  rw [h7] at c7
  have c8 := s_Hull fewP (by decide)
  rw [v_hull] at c8
  have cS := r_SameCorners wantC wantC (by decide)
  rw [decide_eq_true rfl] at cS
  have cI := r_SameInts [0, 2, 3] [0, 2, 3] (by decide)
  rw [decide_eq_true rfl] at cI
  have cH := r_SameHalves wantH wantH (by decide)
  rw [decide_eq_true rfl] at cH
  refine spec_at Try.func13 rfl (by kernel_rfl) rfl ?_
  refine Exists.intro (List.range 13) (And.intro (by kernel_rfl) (FzOb.no ?_))
  refine CallOb.ro s_three rfl rfl ?_
  refine ⟨⟨rfl, by decide, by decide⟩, ?_⟩
  refine CallOb.ro s_three rfl rfl ?_
  refine ⟨⟨rfl, by decide, by decide⟩, ?_⟩
  refine CallOb.pure c1 rfl rfl ?_
  refine CallSt.ro s_three rfl rfl ?_
  refine CallSt.ro c2 rfl rfl ?_
  refine CallSt.ro s_three rfl rfl ?_
  refine CallSt.ro c3 rfl rfl ?_
  refine CallSt.ro s_three rfl rfl ?_
  refine CallSt.ro c4 rfl rfl ?_
  refine CallSt.own o_three rfl rfl (fun m j _ _ => flatH _ m j) ?_
  refine ⟨⟨.inr rfl, by unfold maxLen; omega, by decide⟩, ?_⟩
  refine CallSt.fzE [47] c5 rfl ⟨rowsK four_row, trivial⟩ rfl ?_
  refine CallSt.fzE [] c6 rfl ⟨rowsK four_row, trivial⟩ rfl ?_
  refine CallSt.ro s_three rfl rfl ?_
  refine CallSt.ro c7 rfl rfl ?_
  refine CallSt.fzE [72] c8 rfl ⟨rowsK few_row, trivial⟩ rfl ?_
  iterate 5 refine Split.ff ?_
  refine CallSt.pureE cS rfl ⟨D.eqv_refl _, rowsK want_row, trivial⟩ rfl ?_
  iterate 10 refine Split.ff ?_
  iterate 4 refine Split.ff ?_
  refine Split.by (fun hh => ?_) (fun _ => ?_)
  · have : (u5.length : Int) = 0 := by simpa using hh
    omega
  iterate 2 refine Split.ff ?_
  refine CallSt.pureE cI rfl ⟨D.eqv_refl _, rowsK wantI_row, trivial⟩ rfl ?_
  iterate 5 refine Split.ff ?_
  refine Split.by (fun hh => ?_) (fun _ => ?_)
  · have : (p7.length : Int) ≠ 26 := by simpa using hh
    omega
  iterate 2 refine Split.ff ?_
  refine CallSt.pureE cH rfl ⟨D.eqv_refl _, rowsK wantH_row, trivial⟩ rfl ?_
  exact r1B rfl rfl
end Go.Pg
