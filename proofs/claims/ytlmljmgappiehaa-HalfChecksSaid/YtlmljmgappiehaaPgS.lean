/-
  slices.SortFunc on a row of the caller's own, whose elements are structs of integers: out of the library's contract. For every program.
-/
import Derived.Test.YtlmljmgappiehaaPgR
import Derived.Shelf.SlSortCmp.NoneTotal
set_option linter.all false
namespace Go.Pg
open Go.RowKit Go.Proofs Go.Shelf Go.Sort Go.Lib

theorem grow_of_below {w w' : World} (h : Below w.heap.size w w') (hd : w.drawn ≤ w'.drawn) : ∃ q os, w' = grow (w.drewN q) os := by
  refine ⟨w'.drawn - w.drawn, w'.heap.extract w.heap.size w'.heap.size, ?_⟩
  have hh : w.heap ++ w'.heap.extract w.heap.size w'.heap.size = w'.heap := by
    apply Array.ext_getElem?
    intro k
    by_cases hk : k < w.heap.size
    · rw [Array.getElem?_append_left hk, h.block k hk]
    · rw [Array.getElem?_append_right (by omega), Array.getElem?_extract]
      have hs := h.size
      by_cases hk2 : k < w'.heap.size
      · rw [if_pos (by omega)]; congr 1; omega
      · rw [if_neg (by omega), Array.getElem?_eq_none (by omega)]
  obtain ⟨heap, tape, drawn, os, output⟩ := w
  obtain ⟨heap', tape', drawn', os', output'⟩ := w'
  have h1 := h.os
  have h2 := h.tape
  have h3 := h.output
  simp only at h1 h2 h3 hh hd
  subst h1 h2 h3
  simp only [grow, World.drewN, hh]
  congr 1
  omega

/-- A struct of integers. -/
structure Ints (α : Type) (k : Nat) where
  lst : α → List Int
  len : ∀ x, (lst x).length = k
  at_ : α → Nat → D
  hat : ∀ x j, j < k → at_ x j = .int .i64 ((lst x).getD j 0)
section
variable {α : Type} [Inhabited α] {k : Nat} (A : Ints α k)
def Ints.enc (x : α) : List Value := (A.lst x).map (Value.int .i64)
theorem Ints.enc_len (x : α) : (A.enc x).length = k := by simp [Ints.enc, A.len]
theorem Ints.enc_one (x : α) : ∀ v ∈ A.enc x, v.oneCell' = true := fun v hv => by
  obtain ⟨n, _, rfl⟩ := List.mem_map.1 hv; rfl
theorem Ints.enc_get (x : α) {j : Nat} (hj : j < k) : (A.enc x)[j]? = some (.int .i64 ((A.lst x).getD j 0)) := by
  have : j < (A.lst x).length := by rw [A.len]; exact hj
  simp [Ints.enc, List.getElem?_map, List.getElem?_eq_getElem this, List.getD_eq_getElem?_getD]
theorem Ints.rep (x : α) {j : Nat} (hj : j < k) {w : World} {ok : Nat → Prop} {v : Value} : Rep w ok (A.at_ x j) v ↔ v = .int .i64 ((A.lst x).getD j 0) := by
  rw [A.hat x j hj]; exact Iff.rfl
theorem Ints.flat_get (d : Array α) {t : Nat} (h : t < d.size * k) : (flatK A.enc k d)[t]! = .int .i64 ((A.lst d[t / k]!).getD (t % k) 0) := by
  have hk : 0 < k := by
    rcases Nat.eq_zero_or_pos k with h0 | h0
    · subst h0; simp at h
    · exact h0
  rw [get_flatK _ _ _ _ h]
  have := A.enc_get d[t / k]! (Nat.mod_lt t hk)
  rw [List.getElem!_eq_getElem?_getD, this]; rfl
theorem Ints.flat_size (d : Array α) : (flatK A.enc k d).size = d.size * k := by simp [flatK]
/-- A row of such structs. -/
def Ints.row (l : List α) : Nat → Nat → D := fun i => A.at_ (l.getD i default)
theorem toArray_get (l : List α) {i : Nat} (h : i < l.length) : l.toArray[i]! = l.getD i default := by
  simp [List.getD_eq_getElem?_getD, h]
theorem Ints.holds {w : World} {ok : Nat → Prop} {e g cap : Nat} {cur : Array Value} {l : List α} {xs : List Value} (hh : w.heap[g]? = some (.cells cur e (0, 0))) (ht : cur.toList.take (l.length * k) = xs)
    (hr : ∀ m, m < l.length → ∀ j, j < k → ∃ u, xs[m * k + j]? = some u ∧ Rep w ok (A.row l m j) u) : HoldsK A.enc k w g 0 l.toArray := by
  intro t ht'
  rw [A.flat_size] at ht'
  simp only [List.size_toArray] at ht'
  have hk : 0 < k := by
    rcases Nat.eq_zero_or_pos k with h0 | h0
    · subst h0; simp at ht'
    · exact h0
  have hm : t / k < l.length := Nat.div_lt_of_lt_mul (by rwa [Nat.mul_comm] at ht')
  obtain ⟨u, hu, hrep⟩ := hr (t / k) hm (t % k) (Nat.mod_lt t hk)
  rw [show A.row l (t / k) (t % k) = A.at_ (l.getD (t / k) default) (t % k) from rfl, A.rep _ (Nat.mod_lt t hk)] at hrep
  have e1 : t / k * k + t % k = t := by rw [Nat.mul_comm]; exact Nat.div_add_mod t k
  rw [e1, ← ht, List.getElem?_take, if_pos ht'] at hu
  rw [A.flat_get _ (by simpa using ht'), toArray_get l hm, Nat.zero_add]
  refine ⟨?_, ?_⟩
  · simp only [World.cell?, hh, id_eq]
    have : cur[t]? = some u := by simpa using hu
    simp [this, hrep]
  · simp [World.frozen?, hh]
theorem Ints.put {w : World} {e g cap : Nat} {cur : Array Value} (m : Nat) (l : List α) (os : Array Obj) (hh : w.heap[g]? = some (.cells cur e (0, 0))) (hlc : l.length ≤ cap) (hcap : cap ≤ maxLen) (hcs : cur.size = cap * k) :
    w.grownBy (sortWorldK A.enc k w g 0 m l.toArray os) (some g) ∧ ∃ xs', (sortWorldK A.enc k w g 0 m l.toArray os).ownsRow 0 e k (.slice (some ⟨g, 0, none⟩) l.length cap) l.length xs' ∧ (∀ u ∈ xs', u.oneCell' = true) ∧
      ∀ m', m' < l.length → ∀ j, j < k → ∃ u, xs'[m' * k + j]? = some u ∧ Rep (sortWorldK A.enc k w g 0 m l.toArray os) (fun _ => False) (A.row l m' j) u := by
  have hg : g < w.heap.size := (Array.getElem?_eq_some_iff.1 hh).1
  have hheap : ∀ i, i < w.heap.size → (sortWorldK A.enc k w g 0 m l.toArray os).heap[i]? = if i = g then some (.cells (putCells id 0 (flatK A.enc k l.toArray) cur) e (0, 0)) else w.heap[i]? := fun i hi => by
    simp only [sortWorldK, grow, putRowK, putRow, mapBlock, ahead]
    rw [Array.getElem?_append_left (by simpa using hi), Array.getElem?_modify]
    by_cases e' : g = i
    · subst e'; simp [hh, onCells]
    · rw [if_neg e', if_neg (fun e'' => e' e''.symm)]; rfl
  refine ⟨⟨rfl, rfl, rfl, by simp [sortWorldK, grow, putRowK, putRow, mapBlock, ahead], fun i hi hne => ?_⟩, ?_⟩
  · rw [hheap i hi, if_neg fun e' => hne (by rw [e'])]
  · have hF := A.flat_size l.toArray
    simp only [List.size_toArray] at hF
    have hle : l.length * k ≤ cap * k := Nat.mul_le_mul_right k hlc
    have hget : ∀ t, t < l.length * k → (putCells id 0 (flatK A.enc k l.toArray) cur).toList[t]? = some (.int .i64 ((A.lst (l.getD (t / k) default)).getD (t % k) 0)) := fun t ht => by
      have hk : 0 < k := by
        rcases Nat.eq_zero_or_pos k with h0 | h0
        · subst h0; simp at ht
        · exact h0
      have hm : t / k < l.length := Nat.div_lt_of_lt_mul (by rwa [Nat.mul_comm] at ht)
      have hlt : t < cur.size := by omega
      rw [Array.getElem?_toList, putCells, Array.getElem?_mapIdx, Array.getElem?_eq_getElem hlt]
      simp only [Option.map_some, Nat.zero_le, true_and, Nat.zero_add, hF, if_pos ht, Nat.sub_zero, id_eq]
      rw [A.flat_get _ (by simpa using ht), toArray_get l hm]
    have hsz : (putCells id 0 (flatK A.enc k l.toArray) cur).size = cap * k := by simp [putCells, hcs]
    have hsz' : (putCells id 0 (flatK A.enc k l.toArray) cur).toList.length = cap * k := (Array.length_toList).trans hsz
    refine ⟨(putCells id 0 (flatK A.enc k l.toArray) cur).toList.take (l.length * k), ⟨by rw [List.length_take, hsz']; exact Nat.min_eq_left hle, .inr ⟨g, cap, _, rfl, Nat.zero_le _, by rw [hheap g hg, if_pos rfl], hlc, hcap, hsz, rfl⟩⟩, fun u hu => ?_, fun m' hm' j hj => ?_⟩
    · obtain ⟨t, ht⟩ := List.getElem?_of_mem hu
      rw [List.getElem?_take] at ht
      split at ht
      · rename_i hlt; rw [hget t hlt] at ht; cases ht; rfl
      · cases ht
    · have hlt : m' * k + j < l.length * k := by
        have : (m' + 1) * k ≤ l.length * k := Nat.mul_le_mul_right k hm'
        rw [Nat.add_mul] at this; omega
      refine ⟨_, by rw [List.getElem?_take, if_pos hlt]; exact hget _ hlt, ?_⟩
      have e1 : (m' * k + j) / k = m' := by rw [Nat.mul_comm, Nat.mul_add_div (by omega), Nat.div_eq_of_lt hj]; simp
      have e2 : (m' * k + j) % k = j := by rw [Nat.mul_comm, Nat.mul_add_mod, Nat.mod_eq_of_lt hj]
      rw [e1, e2]
      exact (A.rep (l.getD m' default) hj).2 rfl

/-- slices.SortFunc, by a comparison of one's own that is a contract. -/
theorem specR_sort {P : Program} {ρ : Ren} (L : SlLaysF0.n6 P ρ) (hent : Ent P (ρ.f 6)) (aE : ∀ w, (isAgg (ρ.t 24)).run P w = .ok true w) (zE : ∀ w, (Go.sizeOf (ρ.t 24)).run P w = .ok k w)
    (cf : α → α → Int) (hO : SWO (ltOf cf)) (hT : ∀ x y, (ltOf cf) x y = false → (ltOf cf) y x = false → x = y) (g : FuncId)
    (hc : ∀ x y, SpecD P g [.agg ((A.lst x).map (D.int .i64)), .agg ((A.lst y).map (D.int .i64))] [.d (.int .i64 (cf x y))]) (e : TypeId) (l : List α) (hn : l.length ≤ 1000000) :
    SpecR P (ρ.f 6) [] [.d (.fn g)] e k l.length (A.row l) (A.row (l.mergeSort fun x y => !(ltOf cf) y x)) [] := by
  refine ⟨hent, fun w ok vs us v xs hok h1 h2 hr => ?_⟩
  cases h1
  cases h2 with
  | cons h2 h3 =>
  cases h3
  rename_i fv
  have hfv : fv = .func (.func g) #[] #[] := h2
  subst hfv
  have hret : ResRep w (fun _ => False) [] (.tuple #[]) := ⟨[], rfl, .nil⟩
  have hlen : (l.mergeSort fun x y => !(ltOf cf) y x).length = l.length := List.length_mergeSort l
  by_cases h0 : l = []
  · subst h0
    obtain ⟨p, cap, rfl⟩ : ∃ p cap, v = .slice p 0 cap := by
      rcases hr.own.2 with ⟨h3, _⟩ | ⟨q, cap, cur, h3, _⟩
      · exact ⟨_, _, h3⟩
      · exact ⟨_, _, h3⟩
    refine (AnyF.slices_SortFunc_none L p cap _ w).mono ?_
    rintro en w' ⟨rfl, rfl⟩
    exact ⟨_, rfl, ⟨rfl, rfl, rfl, Nat.le_refl _, fun _ _ _ => rfl⟩, ⟨[], rfl, .nil⟩, xs, hr.own, hr.one, fun m hm => absurd hm (Nat.not_lt_zero _)⟩
  · rcases hr.own.2 with ⟨_, h4⟩ | ⟨q, cap, cur, rfl, _, hh, hnc, hcap, hcs, htk⟩
    · exact absurd (List.length_eq_zero_iff.1 h4) h0
    · have hH := A.holds (cap := cap) hh htk hr.rep
      have hq : q < w.heap.size := (Array.getElem?_eq_some_iff.1 hh).1
      obtain ⟨fn, hf, hnm, hbd⟩ := (hc default default).1
      have hent' : ∀ args w, (callFunc g args).run P w = .ok (.enter g args) w := fun args w => run_callFunc' (hc default default).1 args w
      have hcmp : CmpLays P g #[] A.enc k cf q 0 l.toArray.size w := fun m os dk _ x y => by
        refine ((hc x y).2 _ (fun _ => False) [.agg (A.enc x).toArray, .agg (A.enc y).toArray] (fun b hb => hb.elim) ?_).mono ?_
        · have one : ∀ z : α, Rep1 (sortWorldK A.enc k w q 0 m dk os) (fun _ => False) (.agg ((A.lst z).map (D.int .i64))) (.agg (A.enc z).toArray) := fun z => by
            refine ⟨A.enc z, rfl, All2.of_get (by simp [Ints.enc]) fun j a b ha hb => ?_⟩
            rw [List.getElem?_map] at ha
            unfold Ints.enc at hb
            rw [List.getElem?_map] at hb
            cases hz : (A.lst z)[j]? with
            | none => rw [hz] at ha; cases ha
            | some n => rw [hz] at ha hb; cases ha; cases hb; exact rfl
          exact .cons (one x) (.cons (one y) .nil)
        · rintro en w' ⟨v, rfl, ⟨hb, hd⟩, hres⟩
          have hv : v = .int .i64 (cf x y) := hres
          exact ⟨by rw [hv], grow_of_below hb (hd rfl)⟩
      have hrun := AnyQ.slices_SortFunc_total L k aE zE A.enc A.enc_len A.enc_one cf hO g #[] q 0 cap l.toArray w hent' hcmp hH hq (by simp; omega) hT
      simp only [List.size_toArray] at hrun
      refine hrun.mono ?_
      rintro en w' ⟨rfl, m, os, rfl⟩
      obtain ⟨p1, xs', p2, p3, p4⟩ := A.put m (l.mergeSort fun x y => !(ltOf cf) y x) os hh (by rw [hlen]; exact hnc) hcap hcs
      rw [hlen] at p2 p4
      exact ⟨_, rfl, p1, ⟨[], rfl, .nil⟩, xs', p2, p3, p4⟩
end
end Go.Pg
