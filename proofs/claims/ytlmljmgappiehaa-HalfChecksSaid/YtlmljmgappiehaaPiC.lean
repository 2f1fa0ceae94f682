/-
  The points of a polygon in which edges cross, in order: sorted and without repetitions is the same as put in one after the other.
-/
import Derived.Test.YtlmljmgappiehaaPiB
set_option linter.all false
namespace Go.Pg
open Go.Proofs Go.RowKit Go.Sort

theorem ltC_irrefl (p : Corner) : ¬ ltC p p := by unfold ltC; omega
theorem ltC_asymm {p q : Corner} (h : ltC p q) : ¬ ltC q p := by unfold ltC at *; omega
theorem leC_of_ltC {p q : Corner} (h : ltC p q) : leC p q := by unfold ltC at h; unfold leC; omega
theorem ltC_of_le {p q : Corner} (hp : valid p = true) (hq : valid q = true) (h : leC p q) (hn : p ≠ q) : ltC p q := by
  refine Classical.not_not.1 fun h1 => hn (leC_antisymm hp hq h (not_ltC.1 h1))
theorem denV {p : Corner} (h : valid p = true) : 0 < p.Den := by have := (okC_of h).d; omega
theorem lt_le_C {p q r : Corner} (hp : valid p = true) (hq : valid q = true) (hr : valid r = true) (h1 : ltC p q) (h2 : leC q r) : ltC p r := by
  refine Classical.not_not.1 fun h => ?_
  have := leC_trans (denV hq) (denV hr) (denV hp) h2 (not_ltC.1 h)
  exact (not_ltC.2 this) h1
theorem le_lt_C {p q r : Corner} (hp : valid p = true) (hq : valid q = true) (hr : valid r = true) (h1 : leC p q) (h2 : ltC q r) : ltC p r := by
  refine Classical.not_not.1 fun h => ?_
  have := leC_trans (denV hr) (denV hp) (denV hq) (not_ltC.1 h) h1
  exact (not_ltC.2 this) h2
/-- Two lists in strict order with the same elements are one. -/
theorem strict_unique : ∀ {l m : List Corner}, l.Pairwise ltC → m.Pairwise ltC → (∀ q, q ∈ l ↔ q ∈ m) → l = m
  | [], [], _, _, _ => rfl
  | [], b :: m, _, _, h => by have := (h b).2 (by simp); cases this
  | a :: l, [], _, _, h => by have := (h a).1 (by simp); cases this
  | a :: l, b :: m, h1, h2, h => by
    rw [List.pairwise_cons] at h1 h2
    have hab : a = b := by
      rcases List.mem_cons.1 ((h a).1 (by simp)) with e | e
      · exact e
      · rcases List.mem_cons.1 ((h b).2 (by simp)) with g | g
        · exact g.symm
        · exact absurd (h1.1 b g) (ltC_asymm (h2.1 a e))
    subst hab
    congr 1
    refine strict_unique h1.2 h2.2 fun q => ?_
    constructor
    · intro hq
      rcases List.mem_cons.1 ((h q).1 (List.mem_cons_of_mem _ hq)) with e | e
      · subst e; exact absurd (h1.1 q hq) (ltC_irrefl q)
      · exact e
    · intro hq
      rcases List.mem_cons.1 ((h q).2 (List.mem_cons_of_mem _ hq)) with e | e
      · subst e; exact absurd (h2.1 q hq) (ltC_irrefl q)
      · exact e
/-! ### Without repetitions -/
theorem gdI {α : Type} {l : List α} {i : Nat} (h : i < l.length) (d : α) : l.getD i d = l[i] := by rw [List.getD_eq_getElem?_getD, List.getElem?_eq_getElem h]; rfl
theorem compL_all {l : List Corner} : ∀ i, i < l.length → l.getD i default ∈ compL l
  | 0, h => by
    unfold compL compP
    exact List.mem_map.2 ⟨0, List.mem_filter.2 ⟨List.mem_range.2 h, keep0 l (by omega)⟩, rfl⟩
  | i + 1, h => by
    by_cases hk : keepC l (i + 1) = true
    · unfold compL compP
      exact List.mem_map.2 ⟨i + 1, List.mem_filter.2 ⟨List.mem_range.2 h, hk⟩, rfl⟩
    · rw [keepC_eq] at hk
      have e : l.getD (i + 1) default = l.getD i default := by
        simpa using hk
      rw [e]
      exact compL_all i (by omega)
theorem compL_iff {l : List Corner} (q : Corner) : q ∈ compL l ↔ q ∈ l := by
  refine ⟨compL_mem, fun h => ?_⟩
  obtain ⟨i, hi, rfl⟩ := List.getElem_of_mem h
  rw [← gdI hi default]
  exact compL_all i hi
theorem compL_strict {l : List Corner} (hv : ∀ q ∈ l, valid q = true) (h : l.Pairwise leC) : (compL l).Pairwise ltC := by
  have hle : ∀ i j, i < j → j < l.length → leC (l.getD i default) (l.getD j default) := fun i j hij hj => by
    rw [gdI (by omega) default, gdI hj default]
    exact List.pairwise_iff_getElem.1 h i j (by omega) hj hij
  have hlr : ∀ i j, i ≤ j → j < l.length → leC (l.getD i default) (l.getD j default) := fun i j hij hj => by
    rcases Nat.lt_or_ge i j with h | h
    · exact hle i j h hj
    · obtain rfl : i = j := by omega
      unfold leC; omega
  unfold compL compP
  rw [List.pairwise_map]
  refine List.Pairwise.imp_of_mem ?_ ((List.pairwise_lt_range (n := l.length)).filter _)
  intro i j hi hj hij
  obtain ⟨hi1, _⟩ := List.mem_filter.1 hi
  obtain ⟨hj1, hj2⟩ := List.mem_filter.1 hj
  have hj1 := List.mem_range.1 hj1
  have hne : l.getD (j - 1) default ≠ l.getD j default := by
    rw [keepC_eq] at hj2
    have h0 : j ≠ 0 := by omega
    intro e
    rw [e] at hj2
    simp [h0] at hj2
  have v : ∀ k, k < l.length → valid (l.getD k default) = true := fun k hk => hv _ (gd1 hk default)
  refine le_lt_C (v i (by omega)) (v (j - 1) (by omega)) (v j hj1) (hlr i (j - 1) (by omega) (by omega)) ?_
  exact ltC_of_le (v (j - 1) (by omega)) (v j hj1) (hle (j - 1) j (by omega) hj1) hne
/-! ### Put in, one after the other -/
def insC (p : Corner) : List Corner → List Corner
  | [] => [p]
  | q :: r => if cmpC q p < 0 then q :: insC p r else if q = p then q :: r else p :: q :: r
def insL (l : List Corner) (out : List Corner) : List Corner := l.foldl (fun out p => insC p out) out
theorem insC_mem (p x : Corner) : ∀ out : List Corner, x ∈ insC p out ↔ x = p ∨ x ∈ out
  | [] => by simp [insC]
  | q :: r => by
    simp only [insC]
    split
    · rw [List.mem_cons, insC_mem p x r, List.mem_cons]
      exact or_left_comm
    · split
      · rename_i h; subst h; simp
      · simp
theorem insC_strict {p : Corner} (hp : valid p = true) : ∀ {out : List Corner}, (∀ q ∈ out, valid q = true) → out.Pairwise ltC → (insC p out).Pairwise ltC
  | [], _, _ => by simp [insC]
  | q :: r, hv, h => by
    have hq := hv q (by simp)
    have hr := fun x hx => hv x (List.mem_cons_of_mem _ hx)
    rw [List.pairwise_cons] at h
    simp only [insC]
    split
    · rename_i h1
      rw [cmpC_lt hq hp] at h1
      rw [List.pairwise_cons]
      refine ⟨fun x hx => ?_, insC_strict hp hr h.2⟩
      rcases (insC_mem p x r).1 hx with rfl | hx
      · exact h1
      · exact h.1 x hx
    · rename_i h1
      rw [cmpC_lt hq hp] at h1
      split
      · rw [List.pairwise_cons]; exact h
      · rename_i h2
        have h3 : ltC p q := ltC_of_le hp hq (not_ltC.1 h1) fun e => h2 e.symm
        rw [List.pairwise_cons]
        refine ⟨fun x hx => ?_, List.pairwise_cons.2 h⟩
        rcases List.mem_cons.1 hx with rfl | hx
        · exact h3
        · exact lt_le_C hp hq (hr x hx) h3 (leC_of_ltC (h.1 x hx))
theorem insL_ok : ∀ (l out : List Corner), (∀ q ∈ l, valid q = true) → (∀ q ∈ out, valid q = true) → out.Pairwise ltC → (insL l out).Pairwise ltC ∧ ∀ x, x ∈ insL l out ↔ x ∈ l ∨ x ∈ out
  | [], out, _, _, h => ⟨h, fun x => by simp [insL]⟩
  | p :: l, out, hl, ho, h => by
    have hp := hl p (by simp)
    have ih := insL_ok l (insC p out) (fun q hq => hl q (List.mem_cons_of_mem _ hq)) (fun q hq => by
      rcases (insC_mem p q out).1 hq with rfl | hq
      · exact hp
      · exact ho q hq) (insC_strict hp ho h)
    refine ⟨ih.1, fun x => ?_⟩
    have := ih.2 x
    rw [insC_mem] at this
    show x ∈ insL l (insC p out) ↔ _
    rw [this, List.mem_cons, or_assoc]
    exact or_left_comm
/-! ### The points of a polygon -/
def ptL (l : List Half) (x : Num × Num) : Option Corner := if outsideL (allL l) (crossing x.1.h x.2.h) = -5 then some (crossing x.1.h x.2.h) else none
def ptsL (l : List Half) : List Corner := (pairsL (allL l)).filterMap (ptL l)
@[irreducible] def crsL (l : List Half) : List Corner := insL (ptsL l) []
theorem ptsV_val {l : List Half} (hl : ∀ x ∈ l, okH x) : (ptsV l (pairsL (allL l))).map (fun p : VC => p.1) = ptsL l := by
  have hall := allL_ok hl
  have key : ∀ pre : List (Num × Num), (∀ x ∈ pre, x ∈ pairsL (allL l)) → (ptsV l pre).map (fun p : VC => p.1) = pre.filterMap (ptL l) := by
    intro pre
    unfold ptsV
    induction pre with
    | nil => intro _; rfl
    | cons x r ih =>
      intro h
      obtain ⟨m1, m2, m3⟩ := pairsL_mem (h x (by simp))
      have hv := crossing_valid (hall _ m1) (hall _ m2) m3
      have ih := ih fun y hy => h y (List.mem_cons_of_mem _ hy)
      by_cases ho : outsideL (allL l) (crossing x.1.h x.2.h) = -5
      · rw [List.filterMap_cons_some (b := ⟨crossing x.1.h x.2.h, hv⟩) (by unfold ptV; rw [dif_pos ⟨hv, ho⟩]), List.filterMap_cons_some (b := crossing x.1.h x.2.h) (by unfold ptL; rw [if_pos ho]), List.map_cons, ih]
      · rw [List.filterMap_cons_none (by unfold ptV; rw [dif_neg fun hh => ho hh.2]), List.filterMap_cons_none (by unfold ptL; rw [if_neg ho]), ih]
  exact key _ fun x hx => hx
theorem ptsL_valid {l : List Half} (hl : ∀ x ∈ l, okH x) : ∀ q ∈ ptsL l, valid q = true := fun q hq => by
  rw [← ptsV_val hl] at hq
  obtain ⟨p, _, rfl⟩ := List.mem_map.1 hq
  exact p.2
theorem sortV_ok (l : List VC) : (sortV l).Pairwise fun p q => leC p.1 q.1 := by
  have h := List.pairwise_mergeSort (le := fun x y : VC => !(ltOf cmpV) y x) (fun a b c h1 h2 => by
    rw [cmpV_lt] at *
    simp only [Bool.not_eq_true', decide_eq_false_iff_not] at *
    rw [not_ltC] at *
    exact leC_trans a.den b.den c.den h1 h2) (fun a b => by
    rw [cmpV_lt, cmpV_lt]
    simp only [Bool.or_eq_true, Bool.not_eq_true', decide_eq_false_iff_not]
    rw [not_ltC, not_ltC]
    exact leC_total _ _) l
  refine h.imp fun {p q} h => ?_
  rw [cmpV_lt] at h
  simp only [Bool.not_eq_true', decide_eq_false_iff_not] at h
  exact not_ltC.1 h
theorem sortV_mem (l : List VC) (p : VC) : p ∈ sortV l ↔ p ∈ l := List.mem_mergeSort
/-- A sorted row of corners without repetitions: the same as put in one after the other. -/
theorem comp_sort (vs : List VC) : compL ((sortV vs).map fun p : VC => p.1) = insL (vs.map fun p : VC => p.1) [] := by
  have hv : ∀ q ∈ vs.map (fun p : VC => p.1), valid q = true := fun q hq => by
    obtain ⟨p, _, rfl⟩ := List.mem_map.1 hq
    exact p.2
  have hi := insL_ok (vs.map fun p : VC => p.1) [] hv (fun q hq => by cases hq) List.Pairwise.nil
  refine strict_unique (compL_strict (fun q hq => by
    obtain ⟨p, _, rfl⟩ := List.mem_map.1 hq
    exact p.2) (by rw [List.pairwise_map]; exact sortV_ok vs)) hi.1 fun q => ?_
  rw [compL_iff, hi.2 q]
  simp only [List.mem_map, List.not_mem_nil, or_false]
  constructor
  · rintro ⟨p, hp, rfl⟩; exact ⟨p, (sortV_mem vs p).1 hp, rfl⟩
  · rintro ⟨p, hp, rfl⟩; exact ⟨p, (sortV_mem vs p).2 hp, rfl⟩
theorem cornersL_eq {l : List Half} (hl : ∀ x ∈ l, okH x) : cornersL l = hullL (crsL l) := by
  unfold cornersL sortedL crsL
  rw [comp_sort, ptsV_val hl]
theorem crsL_strict {l : List Half} (hl : ∀ x ∈ l, okH x) : (crsL l).Pairwise ltC := by
  unfold crsL
  exact (insL_ok (ptsL l) [] (ptsL_valid hl) (fun q hq => by cases hq) List.Pairwise.nil).1
theorem crsL_mem {l : List Half} (hl : ∀ x ∈ l, okH x) (q : Corner) : q ∈ crsL l ↔ q ∈ ptsL l := by
  unfold crsL
  rw [(insL_ok (ptsL l) [] (ptsL_valid hl) (fun q hq => by cases hq) List.Pairwise.nil).2 q]
  simp
end Go.Pg
