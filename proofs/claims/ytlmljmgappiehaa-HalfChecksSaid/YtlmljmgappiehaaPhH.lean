/-
  Contracts: the corners of a polygon.
-/
import Derived.Test.YtlmljmgappiehaaPhG
set_option linter.all false
set_option maxRecDepth 100000
namespace Go.Pg
open Go.Proofs Go.RowKit Go.Sort

/-! ### A crossing is a valid corner -/
theorem gcd3 (x y d : Int) : gcdL [x, y, d] = Nat.gcd (Nat.gcd x.natAbs y.natAbs) d.natAbs := by
  simp only [gcdL, List.foldl_cons, List.foldl_nil, Nat.gcd_zero_left]
theorem lowest_valid {x y d : Int} (hd : d ≠ 0) (bx : -1073741824 ≤ x ∧ x ≤ 1073741824) (by' : -1073741824 ≤ y ∧ y ≤ 1073741824) (bd : -2097152 ≤ d ∧ d ≤ 2097152) : valid (lowest x y d) = true := by
  have hg : 0 < gcdL [x, y, d] := by rw [gcd3]; exact Nat.gcd_pos_of_pos_right _ (by omega)
  have e1 := gcd3 x y d
  generalize hG : gcdL [x, y, d] = G' at *
  have d1 : G' ∣ x.natAbs := by rw [e1]; exact Nat.dvd_trans (Nat.gcd_dvd_left _ _) (Nat.gcd_dvd_left _ _)
  have d2 : G' ∣ y.natAbs := by rw [e1]; exact Nat.dvd_trans (Nat.gcd_dvd_left _ _) (Nat.gcd_dvd_right _ _)
  have d3 : G' ∣ d.natAbs := by rw [e1]; exact Nat.gcd_dvd_right _ _
  obtain ⟨s, hs, hsa⟩ : ∃ s : Int, s = (if d < 0 then -(G' : Int) else (G' : Int)) ∧ s.natAbs = G' := ⟨_, rfl, by split <;> omega⟩
  have hl : lowest x y d = ⟨x.tdiv s, y.tdiv s, d.tdiv s⟩ := by
    unfold lowest
    rw [hs, hG]
  have ax : (x.tdiv s).natAbs = x.natAbs / G' := by rw [Int.natAbs_tdiv, hsa]; rfl
  have ay : (y.tdiv s).natAbs = y.natAbs / G' := by rw [Int.natAbs_tdiv, hsa]; rfl
  have ad : (d.tdiv s).natAbs = d.natAbs / G' := by rw [Int.natAbs_tdiv, hsa]; rfl
  have hpos : 0 ≤ d.tdiv s := by
    rw [hs]
    split
    · rename_i h
      exact Int.tdiv_nonneg_of_nonpos_of_nonpos (by omega) (by omega)
    · exact Int.tdiv_nonneg (by omega) (by omega)
  have hd1 : 1 ≤ d.natAbs / G' := (Nat.one_le_div_iff hg).2 (Nat.le_of_dvd (by omega) d3)
  have b1 : x.natAbs / G' ≤ x.natAbs := Nat.div_le_self _ _
  have b2 : y.natAbs / G' ≤ y.natAbs := Nat.div_le_self _ _
  have b3 : d.natAbs / G' ≤ d.natAbs := Nat.div_le_self _ _
  rw [hl]
  unfold valid
  simp only [Bool.and_eq_true, within_spec, beq_iff_eq]
  refine ⟨⟨⟨by omega, by omega⟩, by omega⟩, ?_⟩
  rw [gcd3, ax, ay, ad, Nat.gcd_div d1 d2, Nat.gcd_div (Nat.dvd_gcd d1 d2) d3, ← e1, Nat.div_self hg]
  rfl
theorem crossing_valid {g h : Half} (hg : okH g) (hh : okH h) (hd : det g h ≠ 0) : valid (crossing g h) = true := by
  have h1 := mulB hg.c hh.b
  have h2 := mulB hh.c hg.b
  have h3 := mulB hg.a hh.c
  have h4 := mulB hh.a hg.c
  have h5 := det_bd hg hh
  unfold crossing
  exact lowest_valid hd (by omega) (by omega) (by omega)

/-! ### Pairs -/
theorem rowP_mem {l : List Num} {i k : Nat} {x : Num × Num} (hi : i < l.length) (hk : k ≤ i) (h : x ∈ rowP l i k) : x.1 ∈ l ∧ x.2 ∈ l ∧ det x.1.h x.2.h ≠ 0 := by
  unfold rowP at h
  obtain ⟨j, hj, he⟩ := List.mem_filterMap.1 h
  have hj := List.mem_range.1 hj
  split at he
  · cases he
  · rename_i hd
    cases he
    exact ⟨gd1 (by omega) default, gd1 hi default, hd⟩
theorem pairsL_mem {l : List Num} {x : Num × Num} (h : x ∈ pairsL l) : x.1 ∈ l ∧ x.2 ∈ l ∧ det x.1.h x.2.h ≠ 0 := by
  unfold pairsL upP at h
  obtain ⟨i, hi, hx⟩ := List.mem_flatMap.1 h
  exact rowP_mem (List.mem_range.1 hi) (Nat.le_refl _) hx
theorem rowP_len (l : List Num) (i k : Nat) : (rowP l i k).length ≤ k := by
  unfold rowP
  exact Nat.le_trans (List.length_filterMap_le _ _) (by simp)
theorem upP_len (l : List Num) (m : Nat) : ∀ i, i ≤ m → (upP l i).length ≤ m * i
  | 0, _ => by simp [upP]
  | i + 1, h => by
    rw [upP_succ, List.length_append, Nat.mul_succ]
    have := upP_len l m i (by omega)
    have := rowP_len l i i
    omega
theorem pairsL_len (l : List Num) : (pairsL l).length ≤ l.length * l.length := upP_len l l.length l.length (Nat.le_refl _)
theorem allL_ok {l : List Half} (h : ∀ x ∈ l, okH x) : ∀ x ∈ allL l, okH x.h := fun x hx => by
  unfold allL at hx
  obtain ⟨i, hi, rfl⟩ := List.mem_map.1 hx
  have hi := List.mem_range.1 hi
  unfold allAt
  by_cases hl : i < l.length
  · rw [if_pos hl]; exact h _ (gd1 hl default)
  · rw [if_neg hl]
    obtain h0 | h0 | h0 | h0 : i - l.length = 0 ∨ i - l.length = 1 ∨ i - l.length = 2 ∨ i - l.length = 3 := by omega
    · rw [h0]; exact (show okH (sidesL.getD 0 default) from ⟨by decide, by decide, by decide⟩)
    · rw [h0]; exact (show okH (sidesL.getD 1 default) from ⟨by decide, by decide, by decide⟩)
    · rw [h0]; exact (show okH (sidesL.getD 2 default) from ⟨by decide, by decide, by decide⟩)
    · rw [h0]; exact (show okH (sidesL.getD 3 default) from ⟨by decide, by decide, by decide⟩)

/-! ### The points in which edges cross, and that lie in the polygon -/
def ptV (l : List Half) (x : Num × Num) : Option VC := if h : valid (crossing x.1.h x.2.h) = true ∧ outsideL (allL l) (crossing x.1.h x.2.h) = -5 then some ⟨crossing x.1.h x.2.h, h.1⟩ else none
@[irreducible] def ptsV (l : List Half) (pre : List (Num × Num)) : List VC := pre.filterMap (ptV l)
theorem ptsV_nil (l : List Half) : ptsV l [] = [] := by unfold ptsV; rfl
theorem ptsV_yes {l : List Half} {pre : List (Num × Num)} {x : Num × Num} (hv : valid (crossing x.1.h x.2.h) = true) (h : outsideL (allL l) (crossing x.1.h x.2.h) = -5) : ptsV l (pre ++ [x]) = ptsV l pre ++ [⟨crossing x.1.h x.2.h, hv⟩] := by
  unfold ptsV
  rw [List.filterMap_append]
  congr 1
  rw [List.filterMap_cons_some (b := ⟨crossing x.1.h x.2.h, hv⟩) (by unfold ptV; rw [dif_pos ⟨hv, h⟩])]
  rfl
theorem ptsV_no {l : List Half} {pre : List (Num × Num)} {x : Num × Num} (h : outsideL (allL l) (crossing x.1.h x.2.h) ≠ -5) : ptsV l (pre ++ [x]) = ptsV l pre := by
  unfold ptsV
  rw [List.filterMap_append, List.filterMap_cons_none (by unfold ptV; rw [dif_neg fun hh => h hh.2])]
  simp
theorem ptsV_len (l : List Half) (pre : List (Num × Num)) : (ptsV l pre).length ≤ pre.length := by unfold ptsV; exact List.length_filterMap_le _ _
def sortV (l : List VC) : List VC := l.mergeSort fun x y => !(ltOf cmpV) y x
@[irreducible] def sortedL (l : List Half) : List Corner := (sortV (ptsV l (pairsL (allL l)))).map fun p : VC => p.1
@[irreducible] def cornersL (l : List Half) : List Corner := hullL (compL (sortedL l))
theorem SpecT.congr {P : Program} {f : FuncId} {pre post : List V1} {e k n n' : Nat} {g g0 g' : Nat → Nat → D} (h : SpecT P f pre post e k n g0 n' g') (he : ∀ m, m < n → ∀ j, j < k → g m j = g0 m j) : SpecT P f pre post e k n g n' g' :=
  ⟨h.1, fun w ok vs us v xs h1 h2 h3 hr => h.2 w ok vs us v xs h1 h2 h3 ⟨hr.own, hr.one, fun m hm j hj => by rw [← he m hm j hj]; exact hr.rep m hm j hj, hr.sep⟩⟩
theorem VI_row (l : List VC) : ∀ m, m < l.length → ∀ j, j < 3 → VI.row l m j = rowC (l.map fun p : VC => p.1) m j := fun m hm j _ => by
  show (l.getD m default).1.at j = ((l.map fun p : VC => p.1).getD m default).at j
  rw [List.getD_eq_getElem?_getD, List.getD_eq_getElem?_getD, List.getElem?_map, List.getElem?_eq_getElem hm]
  rfl
theorem t_compactV (l : List VC) (hn : l.length ≤ 1000000) : SpecT PP 58 [] [] 24 3 l.length (VI.row l) (compL (l.map fun p : VC => p.1)).length (rowC (compL (l.map fun p : VC => p.1))) := by
  have h := t_compact (l.map fun p : VC => p.1) (by rw [List.length_map]; exact hn)
  rw [List.length_map] at h
  exact h.congr (VI_row l)
theorem val_pair (x : Num × Num) (w : World) (ok : Nat → Prop) : All2 (Rep1 w ok) (pairsEnc x) (pairsVal x) := .cons (val_num x.1 w ok) (.cons (val_num x.2 w ok) .nil)
def obPts (l : List Half) (pre : List (Num × Num)) : List (Nat × Ob) := [(3, .box [.d (Num.sl (allL l))]), (4, .box [.own 26]), (26, .row 24 3 (ptsV l pre).length (VI.row (ptsV l pre)))]
theorem sortV_len (l : List VC) : (sortV l).length = l.length := List.length_mergeSort l
theorem compL_mem {l : List Corner} {q : Corner} (h : q ∈ compL l) : q ∈ l := by
  unfold compL compP at h
  obtain ⟨i, hi, rfl⟩ := List.mem_map.1 h
  have := List.mem_range.1 (List.mem_filter.1 hi).1
  exact gd1 this default
theorem compL_len (l : List Corner) : (compL l).length ≤ l.length := by unfold compL; exact compP_len l _
theorem t_compactS (l : List VC) (hn : l.length ≤ 1000000) : SpecT PP 58 [] [] 24 3 l.length (VI.row (l.mergeSort fun x y => !(ltOf cmpV) y x)) (compL ((sortV l).map fun p : VC => p.1)).length (rowC (compL ((sortV l).map fun p : VC => p.1))) := by
  have h := t_compactV (sortV l) (by rw [sortV_len]; exact hn)
  rw [sortV_len] at h
  exact h
theorem pushV {vs : List VC} {p : VC} {g : Nat → Nat → D} (hg : ∀ j, j < 3 → D.eqv (g 0 j) (p.1.at j)) : D.eqv (.slc 3 (vs.length + 1) (appRow vs.length (VI.row vs) g)) (.slc 3 (vs ++ [p]).length (VI.row (vs ++ [p]))) := by
  rw [List.length_append]
  refine app1 (fun i hi j hj => ?_) fun j hj => ?_
  · show D.eqv ((vs.getD i default).1.at j) (((vs ++ [p]).getD i default).1.at j)
    have e : (vs ++ [p]).getD i default = vs.getD i default := by rw [List.getD_eq_getElem?_getD, List.getElem?_append_left hi, ← List.getD_eq_getElem?_getD]
    rw [e]
    exact D.eqv_refl _
  · show D.eqv (g 0 j) (((vs ++ [p]).getD vs.length default).1.at j)
    rw [List.getD_eq_getElem?_getD, List.getElem?_append_right (Nat.le_refl _), Nat.sub_self]
    exact hg j hj
theorem ptsV_row0 (l : List Half) : look (obPts l []) 26 = some (.row 24 3 0 (VI.row (ptsV l []))) := by
  unfold obPts; rw [ptsV_nil]; rfl
theorem obN {s : St} {ob : Nat → Option Ob} {j e k : Nat} {f : Nat → Nat → D} {o : Option Ob} (h : o = some (.box [.nilsl])) (h1 : s.ob j = none) (h2 : ob j = some (.row e k 0 f)) : Oble s ob o (.box [.own j]) := by
  subst h; exact ⟨⟨h1, e, k, f, h2⟩, trivial⟩
theorem obO {s : St} {ob : Nat → Option Ob} {j : Nat} {o : Option Ob} (h : o = some (.box [.own j])) : Oble s ob o (.box [.own j]) := by
  subst h; exact ⟨rfl, trivial⟩
theorem obZ {s : St} {ob : Nat → Option Ob} {e k n : Nat} {f : Nat → Nat → D} {o : Option Ob} (h : o = none) (h1 : n = 0) : Oble s ob o (.row e k n f) := by
  subst h; exact h1
theorem s_corners (l : List Half) (hl : ∀ x ∈ l, okH x) (hn : l.length ≤ 60) : Spec PP 64 [slH l] [slC (cornersL l)] := by
  have hall := allL_ok hl
  have hlen := allL_len l
  have hpl : (pairsL (allL l)).length ≤ 64 * 64 := Nat.le_trans (pairsL_len _) (Nat.mul_le_mul (by omega) (by omega))
  refine spec_at Try.func64 rfl (by kernel_rfl) rfl ?_
  refine CallSt.ro (s_all l (by omega)) rfl rfl ?_
  refine CallSt.ro (s_pairs (allL l)) rfl rfl ?_
  refine CodeOb.rangeAt (s_pairs1 (allL l) hall (by omega)) rfl pairsEnc val_pair (fun _ => rfl) (by decide) [(3, .box 3 0), (4, .box 4 0)] [(4, 0)] (obPts l) rfl (fun _ => rfl) ?_ (Iv := fun _ => True) trivial (fun v pre x hx _ => ?_) (fun _ => ?_)
  · exact ⟨rfl, ⟨obD [Num.sl (allL l)] rfl, obN rfl rfl (ptsV_row0 l), obZ rfl (by rw [ptsV_nil]; rfl), trivial⟩, avQ rfl, avQ rfl, trivial⟩
  · have hxm : x ∈ pairsL (allL l) := hx.subset (by simp)
    obtain ⟨m1, m2, m3⟩ := pairsL_mem hxm
    have o1 := hall _ m1
    have o2 := hall _ m2
    have hv := crossing_valid o1 o2 m3
    have hpre : (ptsV l pre).length ≤ 64 * 64 := Nat.le_trans (ptsV_len l pre) (by have := hx.length_le; simp at this; omega)
    refine CallSt.pure (s_crossing x.1.h x.2.h o1 o2 m3) rfl rfl ?_
    refine CallSt.pure (s_outside (allL l) (crossing x.1.h x.2.h) hall (okC_of hv) (by omega)) rfl rfl ?_
    refine Split.by (fun h1 => ?_) (fun h1 => ?_)
    · have h1 : outsideL (allL l) (crossing x.1.h x.2.h) = -5 := by simpa using h1
      refine ⟨⟨.inr rfl, by unfold maxLen; omega, by show ((ptsV l pre).length + 1) * 24 ≤ 140737488355328; omega⟩, ?_⟩
      refine ⟨trivial, rfl, ⟨obD [Num.sl (allL l)] rfl, ?_, ?_, trivial⟩, avQ rfl, avQ rfl, trivial⟩
      · exact obO rfl
      · exact obR rfl (by rw [ptsV_yes hv h1]; exact pushV (eqAt _))
    · have h1 : outsideL (allL l) (crossing x.1.h x.2.h) ≠ -5 := by simpa using h1
      exact ⟨trivial, rfl, ⟨obD [Num.sl (allL l)] rfl, obO rfl, obR rfl (by rw [ptsV_no h1]; exact D.eqv_refl _), trivial⟩, avQ rfl, avQ rfl, trivial⟩
  · have hpts : (ptsV l (pairsL (allL l))).length ≤ 64 * 64 := Nat.le_trans (ptsV_len l _) hpl
    have e : cornersL l = hullL (compL ((sortV (ptsV l (pairsL (allL l)))).map fun p : VC => p.1)) := by unfold cornersL sortedL; rfl
    have hcl := compL_len ((sortV (ptsV l (pairsL (allL l)))).map fun p : VC => p.1)
    rw [List.length_map, sortV_len] at hcl
    refine CallSt.rw' rfl (r_sortV (ptsV l (pairsL (allL l))) (by omega)) ⟨⟨[], .tmp 27, [.func 56], [], rfl, rfl, rfl, rfl, rfl, rfl, rfl⟩⟩ rfl ?_
    refine CallSt.tk rfl (t_compactS (ptsV l (pairsL (allL l))) (by omega)) ⟨⟨[], .tmp 29, [], [], rfl, rfl, rfl, rfl, rfl, rfl, rfl⟩⟩ rfl ?_
    refine CallSt.fz [26] (s_hull (compL ((sortV (ptsV l (pairsL (allL l)))).map fun p : VC => p.1)) (fun q hq => ?_) (by omega)) rfl rfl ?_
    · obtain ⟨p, _, rfl⟩ := List.mem_map.1 (compL_mem hq)
      exact okC_of p.2
    rw [e]
    exact ⟨D.eqv_refl _, trivial⟩
end Go.Pg
