/- Texts joined and shortened by program. -/
import Derived.Test.YtooepbnecjepnaaGreatT3
import Derived.Shelf.SlSortCmp.NoneTotal
import Derived.Test.YtooepbnecjepnaaGreatChecked
import Derived.KernelRfl
import Derived.Test.YtooepbnecjepnaaGreatT1
import Derived.Shelf.Bits.Mul64
import Derived.Shelf.SlLaysE0
import Derived.Shelf.SlicesG.Delete
import Derived.Shelf.SlicesQ.Reverse
import Derived.Shelf.Sort.Plain
import Derived.Deep.Slices
import Derived.Deep.Fields
import Derived.ChangeSame
import Derived.OpenShut
import Derived.ProofKit
import Derived.ChangeOld
import Derived.Below
import Derived.Test.YtooepbnecjepnaaGreatT9
set_option maxHeartbeats 4000000
set_option linter.all false
namespace Go.Pg
open Go.RowKit Go.Proofs Go.Shelf Go.Sort Go.Lib
theorem zcy {w w' : World} (h : Below w.heap.size w w') (hd : w.drawn <= w'.drawn) : ∃ q os, w' = grow (w.drewN q) os := by
 refine ⟨w'.drawn - w.drawn, w'.heap.extract w.heap.size w'.heap.size, ?_⟩
 have hh : w.heap ++ w'.heap.extract w.heap.size w'.heap.size = w'.heap := by
  apply Array.ext_getElem?
  intro k
  by_cases hk : k < w.heap.size
  ·rw [Array.getElem?_append_left hk, h.block k hk]
  ·rw [Array.getElem?_append_right (by omega), Array.getElem?_extract]
   have hs := h.size
   by_cases hk2 : k < w'.heap.size
   ·rw [if_pos (by omega)]; congr 1; omega
   ·rw [if_neg (by omega), Array.getElem?_eq_none (by omega)]
 obtain ⟨heap, tape, drawn, os, output⟩ := w
 obtain ⟨heap', tape', drawn', os', output'⟩ := w'
 have h1 := h.os
 have h2 := h.tape
 have h3 := h.output
 simp only at h1 h2 h3 hh hd
 subst h1 h2 h3
 simp only [grow, World.drewN, hh]
 congr 1
 omega
structure Ints (α : Type) (k : Nat) where
  lst : α -> List Int
  len : ∀ x, (lst x).length = k
  at_ : α -> Nat -> D
  hat : ∀ x j, j < k -> at_ x j = .int .i64 ((lst x).getD j 0)
section
variable {α : Type} [Inhabited α] {k : Nat} (A : Ints α k)
def Ints.enc (x : α) : List Value := (A.lst x).map (Value.int .i64)
theorem Ints.enc_len (x : α) : (A.enc x).length = k := by simp [Ints.enc, A.len]
theorem Ints.enc_one (x : α) : ∀ v ∈ A.enc x, v.oneCell' = true := fun v hv => by
 obtain ⟨n, _, rfl⟩ := List.mem_map.1 hv; rfl
theorem Ints.enc_get (x : α) {j : Nat} (hj : j < k) : (A.enc x)[j]? = some (.int .i64 ((A.lst x).getD j 0)) := by
 have : j < (A.lst x).length := by rw [A.len]; exact hj
 simp [Ints.enc, List.getElem?_map, List.getElem?_eq_getElem this, List.getD_eq_getElem?_getD]
theorem Ints.rep (x : α) {j : Nat} (hj : j < k) {w : World} {ok : Nat -> Prop} {v : Value} : Rep w ok (A.at_ x j) v ↔ v = .int .i64 ((A.lst x).getD j 0) := by
 rw [A.hat x j hj]; exact Iff.rfl
theorem Ints.flat_get (d : Array α) {t : Nat} (h : t < d.size * k) : (flatK A.enc k d)[t]! = .int .i64 ((A.lst d[t / k]!).getD (t % k) 0) := by
 have hk : 0 < k := by
  rcases Nat.eq_zero_or_pos k with h0 | h0
  ·subst h0; simp at h
  ·exact h0
 rw [get_flatK _ _ _ _ h]
 have := A.enc_get d[t / k]! (Nat.mod_lt t hk)
 rw [List.getElem!_eq_getElem?_getD, this]; rfl
theorem Ints.flat_size (d : Array α) : (flatK A.enc k d).size = d.size * k := by simp [flatK]
def Ints.row (l : List α) : Nat -> Nat -> D := fun i => A.at_ (l.getD i default)
theorem zdm (l : List α) {i : Nat} (h : i < l.length) : l.toArray[i]! = l.getD i default := by
 simp [List.getD_eq_getElem?_getD, h]
theorem Ints.holds {w : World} {ok : Nat -> Prop} {e g cap : Nat} {cur : Array Value} {l : List α} {xs : List Value} (hh : w.heap[g]? = some (.cells cur e (0, 0))) (ht : cur.toList.take (l.length * k) = xs)
  (hr : ∀ m, m < l.length -> ∀ j, j < k -> ∃ u, xs[m * k + j]? = some u /\ Rep w ok (A.row l m j) u) : HoldsK A.enc k w g 0 l.toArray := by
 intro t ht'
 rw [A.flat_size] at ht'
 simp only [List.size_toArray] at ht'
 have hk : 0 < k := by
  rcases Nat.eq_zero_or_pos k with h0 | h0
  ·subst h0; simp at ht'
  ·exact h0
 have hm : t / k < l.length := Nat.div_lt_of_lt_mul (by rwa [Nat.mul_comm] at ht')
 obtain ⟨u, hu, hrep⟩ := hr (t / k) hm (t % k) (Nat.mod_lt t hk)
 rw [show A.row l (t / k) (t % k) = A.at_ (l.getD (t / k) default) (t % k) from rfl, A.rep _ (Nat.mod_lt t hk)] at hrep
 have e1 : t / k * k + t % k = t := by rw [Nat.mul_comm]; exact Nat.div_add_mod t k
 rw [e1, <- ht, List.getElem?_take, if_pos ht'] at hu
 rw [A.flat_get _ (by simpa using ht'), zdm l hm, Nat.zero_add]
 refine ⟨?_, ?_⟩
 ·simp only [World.cell?, hh, id_eq]
  have : cur[t]? = some u := by simpa using hu
  simp [this, hrep]
 ·simp [World.frozen?, hh]
theorem Ints.put {w : World} {e g cap : Nat} {cur : Array Value} (m : Nat) (l : List α) (os : Array Obj) (hh : w.heap[g]? = some (.cells cur e (0, 0))) (hlc : l.length <= cap) (hcap : cap <= maxLen) (hcs : cur.size = cap * k) :
  w.grownBy (sortWorldK A.enc k w g 0 m l.toArray os) (some g) /\ ∃ xs', (sortWorldK A.enc k w g 0 m l.toArray os).ownsRow 0 e k (.slice (some ⟨g, 0, none⟩) l.length cap) l.length xs' /\ (∀ u ∈ xs', u.oneCell' = true) /\
   ∀ m', m' < l.length -> ∀ j, j < k -> ∃ u, xs'[m' * k + j]? = some u /\ Rep (sortWorldK A.enc k w g 0 m l.toArray os) (fun _ => False) (A.row l m' j) u := by
 have hg : g < w.heap.size := (Array.getElem?_eq_some_iff.1 hh).1
 have hheap : ∀ i, i < w.heap.size -> (sortWorldK A.enc k w g 0 m l.toArray os).heap[i]? = if i = g then some (.cells (putCells id 0 (flatK A.enc k l.toArray) cur) e (0, 0)) else w.heap[i]? := fun i hi => by
  simp only [sortWorldK, grow, putRowK, putRow, mapBlock, ahead]
  rw [Array.getElem?_append_left (by simpa using hi), Array.getElem?_modify]
  by_cases e' : g = i
  ·subst e'; simp [hh, onCells]
  ·rw [if_neg e', if_neg (fun e'' => e' e''.symm)]; rfl
 refine ⟨⟨rfl, rfl, rfl, by simp [sortWorldK, grow, putRowK, putRow, mapBlock, ahead], fun i hi hne => ?_⟩, ?_⟩
 ·rw [hheap i hi, if_neg fun e' => hne (by rw [e'])]
 ·have hF := A.flat_size l.toArray
  simp only [List.size_toArray] at hF
  have hle : l.length * k <= cap * k := Nat.mul_le_mul_right k hlc
  have hget : ∀ t, t < l.length * k -> (putCells id 0 (flatK A.enc k l.toArray) cur).toList[t]? = some (.int .i64 ((A.lst (l.getD (t / k) default)).getD (t % k) 0)) := fun t ht => by
   have hk : 0 < k := by
    rcases Nat.eq_zero_or_pos k with h0 | h0
    ·subst h0; simp at ht
    ·exact h0
   have hm : t / k < l.length := Nat.div_lt_of_lt_mul (by rwa [Nat.mul_comm] at ht)
   have hlt : t < cur.size := by omega
   rw [Array.getElem?_toList, putCells, Array.getElem?_mapIdx, Array.getElem?_eq_getElem hlt]
   simp only [Option.map_some, Nat.zero_le, true_and, Nat.zero_add, hF, if_pos ht, Nat.sub_zero, id_eq]
   rw [A.flat_get _ (by simpa using ht), zdm l hm]
  have hsz : (putCells id 0 (flatK A.enc k l.toArray) cur).size = cap * k := by simp [putCells, hcs]
  have hsz' : (putCells id 0 (flatK A.enc k l.toArray) cur).toList.length = cap * k := (Array.length_toList).trans hsz
  refine ⟨(putCells id 0 (flatK A.enc k l.toArray) cur).toList.take (l.length * k), ⟨by rw [List.length_take, hsz']; exact Nat.min_eq_left hle, .inr ⟨g, cap, _, rfl, Nat.zero_le _, by rw [hheap g hg, if_pos rfl], hlc, hcap, hsz, rfl⟩⟩, fun u hu => ?_, fun m' hm' j hj => ?_⟩
  ·obtain ⟨t, ht⟩ := List.getElem?_of_mem hu
   rw [List.getElem?_take] at ht
   split at ht
   ·rename_i hlt; rw [hget t hlt] at ht; cases ht; rfl
   ·cases ht
  ·have hlt : m' * k + j < l.length * k := by
    have : (m' + 1) * k <= l.length * k := Nat.mul_le_mul_right k hm'
    rw [Nat.add_mul] at this; omega
   refine ⟨_, by rw [List.getElem?_take, if_pos hlt]; exact hget _ hlt, ?_⟩
   have e1 : (m' * k + j) / k = m' := by rw [Nat.mul_comm, Nat.mul_add_div (by omega), Nat.div_eq_of_lt hj]; simp
   have e2 : (m' * k + j) % k = j := by rw [Nat.mul_comm, Nat.mul_add_mod, Nat.mod_eq_of_lt hj]
   rw [e1, e2]
   exact (A.rep (l.getD m' default) hj).2 rfl
theorem zee {P : Program} {ρ : Ren} (L : SlLaysF0.n6 P ρ) (hent : Ent P (ρ.f 6)) (aE : ∀ w, (isAgg (ρ.t 24)).run P w = .ok true w) (zE : ∀ w, (Go.sizeOf (ρ.t 24)).run P w = .ok k w)
  (cf : α -> α -> Int) (hO : SWO (ltOf cf)) (hT : ∀ x y, (ltOf cf) x y = false -> (ltOf cf) y x = false -> x = y) (g : FuncId)
  (hc : ∀ x y, SpecD P g [.agg ((A.lst x).map (D.int .i64)), .agg ((A.lst y).map (D.int .i64))] [.d (.int .i64 (cf x y))]) (e : TypeId) (l : List α) (hn : l.length <= 1000000) :
  SpecR P (ρ.f 6) [] [.d (.fn g)] e k l.length (A.row l) (A.row (l.mergeSort fun x y => !(ltOf cf) y x)) [] := by
 refine ⟨hent, fun w ok vs us v xs hok h1 h2 hr => ?_⟩
 cases h1
 cases h2 with
 | cons h2 h3 =>
 cases h3
 rename_i fv
 have hfv : fv = .func (.func g) #[] #[] := h2
 subst hfv
 have hret : ResRep w (fun _ => False) [] (.tuple #[]) := ⟨[], rfl, .nil⟩
 have hlen : (l.mergeSort fun x y => !(ltOf cf) y x).length = l.length := List.length_mergeSort l
 by_cases h0 : l = []
 ·subst h0
  obtain ⟨p, cap, rfl⟩ : ∃ p cap, v = .slice p 0 cap := by
   rcases hr.own.2 with ⟨h3, _⟩ | ⟨q, cap, cur, h3, _⟩
   ·exact ⟨_, _, h3⟩
   ·exact ⟨_, _, h3⟩
  refine (AnyF.slices_SortFunc_none L p cap _ w).mono ?_
  rintro en w' ⟨rfl, rfl⟩
  exact ⟨_, rfl, ⟨rfl, rfl, rfl, Nat.le_refl _, fun _ _ _ => rfl⟩, ⟨[], rfl, .nil⟩, xs, hr.own, hr.one, fun m hm => absurd hm (Nat.not_lt_zero _)⟩
 ·rcases hr.own.2 with ⟨_, h4⟩ | ⟨q, cap, cur, rfl, _, hh, hnc, hcap, hcs, htk⟩
  ·exact absurd (List.length_eq_zero_iff.1 h4) h0
  ·have hH := A.holds (cap := cap) hh htk hr.rep
   have hq : q < w.heap.size := (Array.getElem?_eq_some_iff.1 hh).1
   obtain ⟨fn, hf, hnm, hbd⟩ := (hc default default).1
   have hent' : ∀ args w, (callFunc g args).run P w = .ok (.enter g args) w := fun args w => zam (hc default default).1 args w
   have hcmp : CmpLays P g #[] A.enc k cf q 0 l.toArray.size w := fun m os dk _ x y => by
    refine ((hc x y).2 _ (fun _ => False) [.agg (A.enc x).toArray, .agg (A.enc y).toArray] (fun b hb => hb.elim) ?_).mono ?_
    ·have one : ∀ z : α, Rep1 (sortWorldK A.enc k w q 0 m dk os) (fun _ => False) (.agg ((A.lst z).map (D.int .i64))) (.agg (A.enc z).toArray) := fun z => by
      refine ⟨A.enc z, rfl, All2.of_get (by simp [Ints.enc]) fun j a b ha hb => ?_⟩
      rw [List.getElem?_map] at ha
      unfold Ints.enc at hb
      rw [List.getElem?_map] at hb
      cases hz : (A.lst z)[j]? with
      | none => rw [hz] at ha; cases ha
      | some n => rw [hz] at ha hb; cases ha; cases hb; exact rfl
     exact .cons (one x) (.cons (one y) .nil)
    ·rintro en w' ⟨v, rfl, ⟨hb, hd⟩, hres⟩
     have hv : v = .int .i64 (cf x y) := hres
     exact ⟨by rw [hv], zcy hb (hd rfl)⟩
   have hrun := AnyQ.slices_SortFunc_total L k aE zE A.enc A.enc_len A.enc_one cf hO g #[] q 0 cap l.toArray w hent' hcmp hH hq (by simp; omega) hT
   simp only [List.size_toArray] at hrun
   refine hrun.mono ?_
   rintro en w' ⟨rfl, m, os, rfl⟩
   obtain ⟨p1, xs', p2, p3, p4⟩ := A.put m (l.mergeSort fun x y => !(ltOf cf) y x) os hh (by rw [hlen]; exact hnc) hcap hcs
   rw [hlen] at p2 p4
   exact ⟨_, rfl, p1, ⟨[], rfl, .nil⟩, xs', p2, p3, p4⟩
end
end Go.Pg
namespace Go.Pg
def tl : List (Nat × TI) := [
(1, ⟨1, false, 8, [.nilFunc], .other⟩),
 (2, ⟨1, false, 8, [.int .i64 0], .int .i64⟩),
 (3, ⟨1, false, 8, [.int .i64 0], .int .i64⟩),
 (4, ⟨1, false, 1, [.bool false], .bool⟩),
 (5, ⟨1, false, 1, [.int .u8 0], .int .u8⟩),
 (9, ⟨1, false, 16, [.string ⟨#[]⟩], .str⟩),
 (12, ⟨1, false, 8, [.int .u64 0], .int .u64⟩),
 (15, ⟨1, false, 8, [.pointer none], .ptr⟩),
 (16, ⟨1, false, 8, [.pointer none], .ptr⟩),
 (17, ⟨1, false, 8, [.pointer none], .ptr⟩),
 (20, ⟨1, false, 16, [.nilIface], .other⟩),
 (21, ⟨1, false, 4, [.int .i32 0], .int .i32⟩),
 (22, ⟨1, false, 24, [.slice none 0 0], .slice 3⟩),
 (23, ⟨3, true, 40, [.int .i64 0, .int .i64 0, .slice none 0 0], .struct [(0, 3), (1, 3), (2, 22)]⟩),
 (24, ⟨3, true, 40, [.int .i64 0, .int .i64 0, .slice none 0 0], .struct [(0, 3), (1, 3), (2, 22)]⟩),
 (25, ⟨1, false, 24, [.slice none 0 0], .slice 131⟩),
 (26, ⟨1, false, 24, [.slice none 0 0], .slice 236⟩),
 (27, ⟨5, true, 88, [.int .i64 0, .int .i64 0, .slice none 0 0, .slice none 0 0, .slice none 0 0], .struct [(0, 24), (3, 25), (4, 26)]⟩),
 (28, ⟨5, true, 88, [.int .i64 0, .int .i64 0, .slice none 0 0, .slice none 0 0, .slice none 0 0], .struct [(0, 24), (3, 25), (4, 26)]⟩),
 (29, ⟨1, false, 24, [.slice none 0 0], .slice 149⟩),
 (30, ⟨1, false, 24, [.slice none 0 0], .slice 153⟩),
 (31, ⟨2, true, 48, [.slice none 0 0, .slice none 0 0], .struct [(0, 29), (1, 30)]⟩),
 (32, ⟨2, true, 48, [.slice none 0 0, .slice none 0 0], .struct [(0, 29), (1, 30)]⟩),
 (33, ⟨7, true, 136, [.int .i64 0, .int .i64 0, .slice none 0 0, .slice none 0 0, .slice none 0 0, .slice none 0 0, .slice none 0 0], .struct [(0, 28), (5, 32)]⟩),
 (34, ⟨7, true, 136, [.int .i64 0, .int .i64 0, .slice none 0 0, .slice none 0 0, .slice none 0 0, .slice none 0 0, .slice none 0 0], .struct [(0, 28), (5, 32)]⟩),
 (35, ⟨3, true, 24, [.int .i64 0, .int .i64 0, .int .i64 0], .struct [(0, 3), (1, 3), (2, 3)]⟩),
 (36, ⟨3, true, 24, [.int .i64 0, .int .i64 0, .int .i64 0], .struct [(0, 3), (1, 3), (2, 3)]⟩),
 (37, ⟨1, false, 24, [.slice none 0 0], .slice 83⟩),
 (38, ⟨2, true, 16, [.int .i64 0, .int .i64 0], .struct [(0, 3), (1, 3)]⟩),
 (39, ⟨2, true, 16, [.int .i64 0, .int .i64 0], .struct [(0, 3), (1, 3)]⟩),
 (40, ⟨1, false, 8, [.nilFunc], .other⟩),
 (41, ⟨1, false, 8, [.nilFunc], .other⟩),
 (42, ⟨1, false, 8, [.nilFunc], .other⟩),
 (43, ⟨2, true, 16, [.int .i64 0, .int .i64 0], .struct [(0, 3), (1, 3)]⟩),
 (44, ⟨1, false, 8, [.int .i64 0], .int .i64⟩),
 (46, ⟨1, false, 8, [.nilFunc], .other⟩),
 (47, ⟨4, true, 32, [.int .i64 0, .int .i64 0, .int .i64 0, .int .i64 0], .struct [(0, 3), (1, 43), (3, 44)]⟩),
 (48, ⟨4, true, 32, [.int .i64 0, .int .i64 0, .int .i64 0, .int .i64 0], .struct [(0, 3), (1, 43), (3, 44)]⟩),
 (49, ⟨1, false, 8, [.nilFunc], .other⟩),
 (50, ⟨1, false, 24, [.slice none 0 0], .slice 123⟩),
 (52, ⟨1, false, 8, [.nilFunc], .other⟩),
 (53, ⟨2, true, 32, [.slice none 0 0, .int .i64 0], .struct [(0, 50), (1, 44)]⟩),
 (54, ⟨2, true, 32, [.slice none 0 0, .int .i64 0], .struct [(0, 50), (1, 44)]⟩),
 (55, ⟨1, false, 8, [.nilFunc], .other⟩),
 (56, ⟨1, false, 8, [.nilFunc], .other⟩),
 (57, ⟨1, false, 8, [.nilFunc], .other⟩),
 (59, ⟨1, false, 8, [.nilFunc], .other⟩),
 (60, ⟨3, true, 56, [.slice none 0 0, .slice none 0 0, .int .i64 0], .struct [(0, 50), (1, 22), (2, 44)]⟩),
 (61, ⟨3, true, 56, [.slice none 0 0, .slice none 0 0, .int .i64 0], .struct [(0, 50), (1, 22), (2, 44)]⟩),
 (62, ⟨1, false, 8, [.nilFunc], .other⟩),
 (63, ⟨1, false, 8, [.nilFunc], .other⟩),
 (64, ⟨2, true, 16, [.int .i64 0, .int .i64 0], .struct [(0, 3), (1, 3)]⟩),
 (65, ⟨2, true, 16, [.int .i64 0, .int .i64 0], .struct [(0, 3), (1, 3)]⟩),
 (66, ⟨3, true, 24, [.int .i64 0, .int .i64 0, .int .i64 0], .struct [(0, 3), (1, 3), (2, 3)]⟩),
 (67, ⟨3, true, 24, [.int .i64 0, .int .i64 0, .int .i64 0], .struct [(0, 3), (1, 3), (2, 3)]⟩),
 (68, ⟨1, false, 24, [.slice none 0 0], .slice 230⟩),
 (69, ⟨7, true, 72, [.int .i64 0, .int .i64 0, .int .i64 0, .int .i64 0, .int .i64 0, .int .i64 0, .slice none 0 0], .struct [(0, 65), (2, 67), (5, 3), (6, 68)]⟩),
 (70, ⟨7, true, 72, [.int .i64 0, .int .i64 0, .int .i64 0, .int .i64 0, .int .i64 0, .int .i64 0, .slice none 0 0], .struct [(0, 65), (2, 67), (5, 3), (6, 68)]⟩),
 (72, ⟨1, false, 8, [.nilFunc], .other⟩),
 (73, ⟨3, true, 24, [.int .i64 0, .int .i64 0, .int .i64 0], .struct [(0, 65), (2, 44)]⟩),
 (74, ⟨3, true, 24, [.int .i64 0, .int .i64 0, .int .i64 0], .struct [(0, 65), (2, 44)]⟩),
 (75, ⟨1, false, 8, [.nilFunc], .other⟩),
 (76, ⟨1, false, 8, [.nilFunc], .other⟩),
 (77, ⟨3, true, 40, [.int .i64 0, .int .i64 0, .slice none 0 0], .struct [(0, 43), (2, 22)]⟩),
 (78, ⟨3, true, 40, [.int .i64 0, .int .i64 0, .slice none 0 0], .struct [(0, 43), (2, 22)]⟩),
 (79, ⟨1, false, 8, [.nilFunc], .other⟩),
 (80, ⟨1, false, 8, [.nilFunc], .other⟩),
 (81, ⟨1, false, 8, [.nilFunc], .other⟩),
 (82, ⟨8, true, 64, [.int .i64 0, .int .i64 0, .int .i64 0, .int .i64 0, .int .i64 0, .int .i64 0, .int .i64 0, .int .i64 0], .struct [(0, 3), (1, 3), (2, 3), (3, 3), (4, 3), (5, 3), (6, 3), (7, 3)]⟩),
 (83, ⟨8, true, 64, [.int .i64 0, .int .i64 0, .int .i64 0, .int .i64 0, .int .i64 0, .int .i64 0, .int .i64 0, .int .i64 0], .struct [(0, 3), (1, 3), (2, 3), (3, 3), (4, 3), (5, 3), (6, 3), (7, 3)]⟩),
 (84, ⟨1, false, 8, [.nilFunc], .other⟩),
 (85, ⟨1, false, 8, [.nilFunc], .other⟩),
 (86, ⟨1, false, 24, [.slice none 0 0], .slice 43⟩),
 (88, ⟨1, false, 8, [.nilFunc], .other⟩),
 (89, ⟨1, false, 8, [.nilFunc], .other⟩),
 (91, ⟨1, false, 8, [.nilFunc], .other⟩),
 (92, ⟨1, false, 8, [.nilFunc], .other⟩),
 (94, ⟨1, false, 8, [.nilFunc], .other⟩),
 (95, ⟨1, false, 8, [.nilFunc], .other⟩),
 (96, ⟨1, false, 24, [.slice none 0 0], .slice 67⟩),
 (98, ⟨1, false, 8, [.nilFunc], .other⟩),
 (99, ⟨1, false, 8, [.nilFunc], .other⟩),
 (100, ⟨1, false, 8, [.nilFunc], .other⟩),
 (102, ⟨1, false, 8, [.nilFunc], .other⟩),
 (103, ⟨2, true, 16, [.int .i64 0, .int .i64 0], .struct [(0, 3), (1, 3)]⟩),
 (104, ⟨2, true, 16, [.int .i64 0, .int .i64 0], .struct [(0, 3), (1, 3)]⟩),
 (106, ⟨1, false, 8, [.nilFunc], .other⟩),
 (107, ⟨2, true, 16, [.int .i64 0, .int .i64 0], .struct [(0, 3), (1, 3)]⟩),
 (108, ⟨2, true, 16, [.int .i64 0, .int .i64 0], .struct [(0, 3), (1, 3)]⟩),
 (110, ⟨1, false, 8, [.nilFunc], .other⟩),
 (111, ⟨6, true, 48, [.int .i64 0, .int .i64 0, .int .i64 0, .int .i64 0, .int .i64 0, .int .i64 0], .struct [(0, 3), (1, 3), (2, 3), (3, 3), (4, 3), (5, 3)]⟩),
 (112, ⟨6, true, 48, [.int .i64 0, .int .i64 0, .int .i64 0, .int .i64 0, .int .i64 0, .int .i64 0], .struct [(0, 3), (1, 3), (2, 3), (3, 3), (4, 3), (5, 3)]⟩),
 (113, ⟨1, false, 8, [.nilFunc], .other⟩),
 (114, ⟨1, false, 8, [.nilFunc], .other⟩),
 (115, ⟨1, false, 8, [.nilFunc], .other⟩),
 (116, ⟨1, false, 24, [.slice none 0 0], .slice 278⟩),
 (117, ⟨3, true, 56, [.slice none 0 0, .slice none 0 0, .int .i64 0], .struct [(0, 86), (1, 116), (2, 44)]⟩),
 (118, ⟨3, true, 56, [.slice none 0 0, .slice none 0 0, .int .i64 0], .struct [(0, 86), (1, 116), (2, 44)]⟩),
 (119, ⟨1, false, 8, [.nilFunc], .other⟩),
 (120, ⟨1, false, 8, [.nilFunc], .other⟩),
 (121, ⟨1, false, 8, [.nilFunc], .other⟩),
 (122, ⟨3, true, 24, [.int .i64 0, .int .i64 0, .int .i64 0], .struct [(0, 3), (1, 3), (2, 3)]⟩),
 (123, ⟨3, true, 24, [.int .i64 0, .int .i64 0, .int .i64 0], .struct [(0, 3), (1, 3), (2, 3)]⟩),
 (124, ⟨1, false, 8, [.nilFunc], .other⟩),
 (126, ⟨1, false, 16, [.nilIface], .other⟩),
 (127, ⟨1, false, 16, [.nilIface], .other⟩),
 (128, ⟨1, false, 8, [.nilFunc], .other⟩),
 (129, ⟨1, false, 8, [.nilFunc], .other⟩),
 (130, ⟨4, true, 32, [.int .i64 0, .int .i64 0, .int .i64 0, .int .i64 0], .struct [(0, 3), (1, 43), (3, 3)]⟩),
 (131, ⟨4, true, 32, [.int .i64 0, .int .i64 0, .int .i64 0, .int .i64 0], .struct [(0, 3), (1, 43), (3, 3)]⟩),
 (133, ⟨1, false, 8, [.nilFunc], .other⟩),
 (134, ⟨6, true, 48, [.int .i64 0, .int .i64 0, .int .i64 0, .int .i64 0, .int .i64 0, .int .i64 0], .array 2 123⟩),
 (136, ⟨1, false, 8, [.nilFunc], .other⟩),
 (137, ⟨1, false, 8, [.nilFunc], .other⟩),
 (138, ⟨1, false, 8, [.nilFunc], .other⟩),
 (139, ⟨1, false, 8, [.nilFunc], .other⟩),
 (140, ⟨1, false, 8, [.nilFunc], .other⟩),
 (141, ⟨1, false, 8, [.nilFunc], .other⟩),
 (142, ⟨1, false, 8, [.nilFunc], .other⟩),
 (143, ⟨1, false, 8, [.nilFunc], .other⟩),
 (144, ⟨1, false, 8, [.nilFunc], .other⟩),
 (145, ⟨1, false, 8, [.nilFunc], .other⟩),
 (146, ⟨2, true, 16, [.int .i64 0, .int .i64 0], .struct [(0, 3), (1, 3)]⟩),
 (147, ⟨2, true, 16, [.int .i64 0, .int .i64 0], .struct [(0, 3), (1, 3)]⟩),
 (148, ⟨8, true, 64, [.int .i64 0, .int .i64 0, .int .i64 0, .int .i64 0, .int .i64 0, .int .i64 0, .int .i64 0, .int .i64 0], .struct [(0, 3), (1, 43), (3, 3), (4, 3), (5, 147), (7, 3)]⟩),
 (149, ⟨8, true, 64, [.int .i64 0, .int .i64 0, .int .i64 0, .int .i64 0, .int .i64 0, .int .i64 0, .int .i64 0, .int .i64 0], .struct [(0, 3), (1, 43), (3, 3), (4, 3), (5, 147), (7, 3)]⟩),
 (150, ⟨1, false, 8, [.nilFunc], .other⟩),
 (151, ⟨1, false, 8, [.nilFunc], .other⟩),
 (152, ⟨7, true, 56, [.int .i64 0, .int .i64 0, .int .i64 0, .int .i64 0, .int .i64 0, .int .i64 0, .int .i64 0], .struct [(0, 3), (1, 3), (2, 3), (3, 43), (5, 3), (6, 3)]⟩),
 (153, ⟨7, true, 56, [.int .i64 0, .int .i64 0, .int .i64 0, .int .i64 0, .int .i64 0, .int .i64 0, .int .i64 0], .struct [(0, 3), (1, 3), (2, 3), (3, 43), (5, 3), (6, 3)]⟩),
 (155, ⟨1, false, 8, [.nilFunc], .other⟩),
 (157, ⟨1, false, 8, [.nilFunc], .other⟩),
 (159, ⟨1, false, 8, [.nilFunc], .other⟩),
 (160, ⟨1, false, 8, [.nilFunc], .other⟩),
 (161, ⟨1, false, 8, [.nilFunc], .other⟩),
 (162, ⟨1, false, 24, [.slice none 0 0], .slice 168⟩),
 (164, ⟨1, false, 8, [.nilFunc], .other⟩),
 (165, ⟨1, false, 8, [.nilFunc], .other⟩),
 (166, ⟨1, false, 8, [.int .u64 0], .int .u64⟩),
 (167, ⟨38, true, 304, [.int .u64 0, .int .u64 0, .int .u64 0, .int .u64 0, .int .u64 0, .int .u64 0, .int .u64 0, .int .u64 0, .int .u64 0, .int .u64 0, .int .u64 0, .int .u64 0, .int .u64 0, .int .u64 0, .int .u64 0, .int .u64 0, .int .u64 0, .int .u64 0, .int .u64 0, .int .u64 0, .int .u64 0, .int .u64 0, .int .u64 0, .int .u64 0, .int .u64 0, .int .u64 0, .int .u64 0, .int .u64 0, .int .u64 0, .int .u64 0, .int .u64 0, .int .u64 0, .int .u64 0, .int .u64 0, .int .u64 0, .int .u64 0, .int .u64 0, .int .u64 0], .array 38 166⟩),
 (168, ⟨38, true, 304, [.int .u64 0, .int .u64 0, .int .u64 0, .int .u64 0, .int .u64 0, .int .u64 0, .int .u64 0, .int .u64 0, .int .u64 0, .int .u64 0, .int .u64 0, .int .u64 0, .int .u64 0, .int .u64 0, .int .u64 0, .int .u64 0, .int .u64 0, .int .u64 0, .int .u64 0, .int .u64 0, .int .u64 0, .int .u64 0, .int .u64 0, .int .u64 0, .int .u64 0, .int .u64 0, .int .u64 0, .int .u64 0, .int .u64 0, .int .u64 0, .int .u64 0, .int .u64 0, .int .u64 0, .int .u64 0, .int .u64 0, .int .u64 0, .int .u64 0, .int .u64 0], .array 38 166⟩),
 (169, ⟨1, false, 8, [.nilFunc], .other⟩),
 (170, ⟨1, false, 8, [.nilFunc], .other⟩),
 (171, ⟨1, false, 8, [.nilFunc], .other⟩),
 (172, ⟨1, false, 8, [.nilFunc], .other⟩),
 (173, ⟨1, false, 8, [.nilFunc], .other⟩),
 (174, ⟨1, false, 8, [.nilFunc], .other⟩),
 (175, ⟨1, false, 8, [.nilFunc], .other⟩),
 (176, ⟨1, false, 8, [.nilFunc], .other⟩),
 (177, ⟨1, false, 8, [.nilFunc], .other⟩),
 (178, ⟨1, false, 24, [.slice none 0 0], .slice 225⟩),
 (179, ⟨1, false, 8, [.nilFunc], .other⟩),
 (180, ⟨1, false, 8, [.nilFunc], .other⟩),
 (181, ⟨1, false, 8, [.nilFunc], .other⟩),
 (182, ⟨1, false, 8, [.nilFunc], .other⟩),
 (184, ⟨1, false, 8, [.nilFunc], .other⟩),
 (185, ⟨1, false, 8, [.nilFunc], .other⟩),
 (186, ⟨3, true, 24, [.int .i64 0, .int .u64 0, .int .u64 0], .struct [(0, 3), (1, 166), (2, 166)]⟩),
 (187, ⟨3, true, 24, [.int .i64 0, .int .u64 0, .int .u64 0], .struct [(0, 3), (1, 166), (2, 166)]⟩),
 (188, ⟨1, false, 8, [.nilFunc], .other⟩),
 (189, ⟨1, false, 8, [.nilFunc], .other⟩),
 (190, ⟨1, false, 8, [.nilFunc], .other⟩),
 (191, ⟨1, false, 8, [.nilFunc], .other⟩),
 (192, ⟨1, false, 8, [.nilFunc], .other⟩),
 (193, ⟨1, false, 8, [.nilFunc], .other⟩),
 (194, ⟨1, false, 8, [.nilFunc], .other⟩),
 (195, ⟨1, false, 8, [.nilFunc], .other⟩),
 (196, ⟨1, false, 8, [.nilFunc], .other⟩),
 (197, ⟨1, false, 8, [.nilFunc], .other⟩),
 (198, ⟨1, false, 8, [.nilFunc], .other⟩),
 (200, ⟨1, false, 8, [.nilFunc], .other⟩),
 (201, ⟨1, false, 8, [.nilFunc], .other⟩),
 (202, ⟨1, false, 8, [.map none], .map 3 4⟩),
 (203, ⟨8, true, 64, [.int .i64 0, .int .i64 0, .int .i64 0, .int .i64 0, .int .i64 0, .int .i64 0, .int .i64 0, .int .i64 0], .struct [(0, 83)]⟩),
 (204, ⟨8, true, 64, [.int .i64 0, .int .i64 0, .int .i64 0, .int .i64 0, .int .i64 0, .int .i64 0, .int .i64 0, .int .i64 0], .struct [(0, 83)]⟩),
 (205, ⟨8, true, 64, [.int .i64 0, .int .i64 0, .int .i64 0, .int .i64 0, .int .i64 0, .int .i64 0, .int .i64 0, .int .i64 0], .struct [(0, 83)]⟩),
 (206, ⟨1, false, 8, [.nilFunc], .other⟩),
 (207, ⟨1, false, 8, [.nilFunc], .other⟩),
 (208, ⟨1, false, 8, [.nilFunc], .other⟩),
 (209, ⟨1, false, 8, [.nilFunc], .other⟩),
 (210, ⟨1, false, 8, [.nilFunc], .other⟩),
 (211, ⟨3, true, 24, [.int .i64 0, .int .i64 0, .int .i64 0], .struct [(0, 104), (2, 44)]⟩),
 (212, ⟨3, true, 24, [.int .i64 0, .int .i64 0, .int .i64 0], .struct [(0, 104), (2, 44)]⟩),
 (213, ⟨1, false, 8, [.nilFunc], .other⟩),
 (214, ⟨4, true, 32, [.int .i64 0, .int .i64 0, .int .i64 0, .int .i64 0], .struct [(0, 3), (1, 3), (2, 3), (3, 3)]⟩),
 (215, ⟨4, true, 32, [.int .i64 0, .int .i64 0, .int .i64 0, .int .i64 0], .struct [(0, 3), (1, 3), (2, 3), (3, 3)]⟩),
 (216, ⟨3, true, 24, [.int .i64 0, .int .i64 0, .int .i64 0], .struct [(0, 147), (2, 44)]⟩),
 (217, ⟨3, true, 24, [.int .i64 0, .int .i64 0, .int .i64 0], .struct [(0, 147), (2, 44)]⟩),
 (218, ⟨1, false, 8, [.nilFunc], .other⟩),
 (219, ⟨1, false, 8, [.nilFunc], .other⟩),
 (220, ⟨1, false, 8, [.nilFunc], .other⟩),
 (221, ⟨1, false, 8, [.nilFunc], .other⟩),
 (222, ⟨1, false, 8, [.nilFunc], .other⟩),
 (223, ⟨1, false, 8, [.nilFunc], .other⟩),
 (224, ⟨4, true, 32, [.int .i64 0, .int .i64 0, .int .i64 0, .int .i64 0], .struct [(0, 3), (1, 123)]⟩),
 (225, ⟨4, true, 32, [.int .i64 0, .int .i64 0, .int .i64 0, .int .i64 0], .struct [(0, 3), (1, 123)]⟩),
 (226, ⟨1, false, 8, [.nilFunc], .other⟩),
 (227, ⟨1, false, 8, [.nilFunc], .other⟩),
 (228, ⟨1, false, 8, [.nilFunc], .other⟩),
 (229, ⟨2, true, 16, [.int .i64 0, .int .i64 0], .struct [(0, 3), (1, 3)]⟩),
 (230, ⟨2, true, 16, [.int .i64 0, .int .i64 0], .struct [(0, 3), (1, 3)]⟩),
 (231, ⟨1, false, 8, [.nilFunc], .other⟩),
 (232, ⟨1, false, 8, [.nilFunc], .other⟩),
 (233, ⟨1, false, 8, [.nilFunc], .other⟩),
 (234, ⟨1, false, 8, [.nilFunc], .other⟩),
 (235, ⟨3, true, 24, [.int .i64 0, .int .i64 0, .int .i64 0], .struct [(0, 3), (1, 3), (2, 3)]⟩),
 (236, ⟨3, true, 24, [.int .i64 0, .int .i64 0, .int .i64 0], .struct [(0, 3), (1, 3), (2, 3)]⟩),
 (237, ⟨1, false, 8, [.nilFunc], .other⟩),
 (238, ⟨1, false, 8, [.nilFunc], .other⟩),
 (239, ⟨1, false, 8, [.nilFunc], .other⟩),
 (240, ⟨1, false, 8, [.nilFunc], .other⟩),
 (241, ⟨1, false, 8, [.nilFunc], .other⟩),
 (242, ⟨1, false, 8, [.nilFunc], .other⟩),
 (243, ⟨1, false, 8, [.nilFunc], .other⟩),
 (244, ⟨1, false, 8, [.nilFunc], .other⟩),
 (246, ⟨1, false, 8, [.nilFunc], .other⟩),
 (247, ⟨1, false, 8, [.nilFunc], .other⟩),
 (248, ⟨1, false, 8, [.nilFunc], .other⟩),
 (249, ⟨1, false, 8, [.nilFunc], .other⟩),
 (250, ⟨1, false, 8, [.nilFunc], .other⟩),
 (252, ⟨1, false, 8, [.nilFunc], .other⟩),
 (253, ⟨1, false, 8, [.nilFunc], .other⟩),
 (254, ⟨1, false, 8, [.nilFunc], .other⟩),
 (255, ⟨1, false, 8, [.nilFunc], .other⟩),
 (256, ⟨1, false, 8, [.nilFunc], .other⟩),
 (257, ⟨1, false, 8, [.nilFunc], .other⟩),
 (258, ⟨1, false, 8, [.nilFunc], .other⟩),
 (259, ⟨1, false, 8, [.nilFunc], .other⟩),
 (260, ⟨1, false, 8, [.nilFunc], .other⟩),
 (261, ⟨1, false, 8, [.nilFunc], .other⟩),
 (262, ⟨1, false, 8, [.nilFunc], .other⟩),
 (263, ⟨1, false, 8, [.nilFunc], .other⟩),
 (264, ⟨1, false, 8, [.nilFunc], .other⟩),
 (265, ⟨1, false, 8, [.nilFunc], .other⟩),
 (266, ⟨12, true, 96, [.int .i64 0, .int .i64 0, .int .i64 0, .int .i64 0, .int .i64 0, .int .i64 0, .int .i64 0, .int .i64 0, .int .i64 0, .int .i64 0, .int .i64 0, .int .i64 0], .array 4 123⟩),
 (267, ⟨1, false, 8, [.nilFunc], .other⟩),
 (268, ⟨1, false, 8, [.nilFunc], .other⟩),
 (270, ⟨1, false, 8, [.nilFunc], .other⟩),
 (271, ⟨1, false, 8, [.nilFunc], .other⟩),
 (272, ⟨1, false, 8, [.nilFunc], .other⟩),
 (273, ⟨1, false, 24, [.slice none 0 0], .slice 327⟩),
 (274, ⟨1, false, 8, [.nilFunc], .other⟩),
 (275, ⟨1, false, 8, [.nilFunc], .other⟩),
 (276, ⟨1, false, 8, [.nilFunc], .other⟩),
 (277, ⟨3, true, 24, [.int .i64 0, .int .i64 0, .int .i64 0], .struct [(0, 43), (2, 3)]⟩),
 (278, ⟨3, true, 24, [.int .i64 0, .int .i64 0, .int .i64 0], .struct [(0, 43), (2, 3)]⟩),
 (279, ⟨1, false, 8, [.nilFunc], .other⟩),
 (280, ⟨1, false, 8, [.nilFunc], .other⟩),
 (281, ⟨1, false, 8, [.int .u64 0], .int .u64⟩),
 (282, ⟨1, false, 8, [.nilFunc], .other⟩),
 (283, ⟨1, false, 8, [.nilFunc], .other⟩),
 (284, ⟨1, false, 8, [.nilFunc], .other⟩),
 (285, ⟨2, true, 16, [.int .i64 0, .nilFunc], .struct [(0, 3), (1, 196)]⟩),
 (286, ⟨2, true, 16, [.int .i64 0, .nilFunc], .struct [(0, 3), (1, 196)]⟩),
 (287, ⟨10, true, 80, [.int .i64 0, .nilFunc, .int .i64 0, .nilFunc, .int .i64 0, .nilFunc, .int .i64 0, .nilFunc, .int .i64 0, .nilFunc], .array 5 286⟩),
 (288, ⟨1, false, 8, [.nilFunc], .other⟩),
 (289, ⟨1, false, 8, [.nilFunc], .other⟩),
 (290, ⟨9, true, 72, [.int .i64 0, .int .i64 0, .int .i64 0, .int .i64 0, .int .i64 0, .int .i64 0, .int .i64 0, .int .i64 0, .int .i64 0], .struct [(0, 149), (8, 44)]⟩),
 (291, ⟨9, true, 72, [.int .i64 0, .int .i64 0, .int .i64 0, .int .i64 0, .int .i64 0, .int .i64 0, .int .i64 0, .int .i64 0, .int .i64 0], .struct [(0, 149), (8, 44)]⟩),
 (292, ⟨1, false, 8, [.nilFunc], .other⟩),
 (293, ⟨1, false, 24, [.slice none 0 0], .slice 348⟩),
 (294, ⟨1, false, 8, [.nilFunc], .other⟩),
 (295, ⟨1, false, 8, [.nilFunc], .other⟩),
 (296, ⟨1, false, 24, [.slice none 0 0], .slice 345⟩),
 (297, ⟨1, false, 8, [.nilFunc], .other⟩),
 (298, ⟨1, false, 8, [.nilFunc], .other⟩),
 (299, ⟨1, false, 8, [.nilFunc], .other⟩),
 (300, ⟨1, false, 8, [.nilFunc], .other⟩),
 (301, ⟨1, false, 8, [.nilFunc], .other⟩),
 (303, ⟨1, false, 8, [.nilFunc], .other⟩),
 (304, ⟨1, false, 8, [.nilFunc], .other⟩),
 (305, ⟨1, false, 8, [.nilFunc], .other⟩),
 (306, ⟨1, false, 8, [.nilFunc], .other⟩),
 (307, ⟨1, false, 8, [.nilFunc], .other⟩),
 (308, ⟨1, false, 8, [.nilFunc], .other⟩),
 (309, ⟨1, false, 8, [.nilFunc], .other⟩),
 (310, ⟨1, false, 24, [.slice none 0 0], .slice 357⟩),
 (312, ⟨1, false, 8, [.nilFunc], .other⟩),
 (314, ⟨1, false, 8, [.nilFunc], .other⟩),
 (315, ⟨1, false, 8, [.nilFunc], .other⟩),
 (316, ⟨1, false, 8, [.nilFunc], .other⟩),
 (317, ⟨1, false, 8, [.nilFunc], .other⟩),
 (318, ⟨1, false, 8, [.nilFunc], .other⟩),
 (319, ⟨1, false, 8, [.nilFunc], .other⟩),
 (320, ⟨1, false, 8, [.nilFunc], .other⟩),
 (321, ⟨1, false, 8, [.nilFunc], .other⟩),
 (322, ⟨1, false, 8, [.nilFunc], .other⟩),
 (323, ⟨1, false, 8, [.nilFunc], .other⟩),
 (324, ⟨1, false, 8, [.nilFunc], .other⟩),
 (325, ⟨3, true, 24, [.int .i64 0, .int .i64 0, .int .i64 0], .array 3 3⟩),
 (326, ⟨13, true, 104, [.int .i64 0, .int .i64 0, .int .i64 0, .int .i64 0, .int .i64 0, .int .i64 0, .int .i64 0, .int .i64 0, .int .i64 0, .int .i64 0, .bool false, .int .i64 0, .int .i64 0], .struct [(0, 83), (8, 104), (10, 4), (11, 43)]⟩),
 (327, ⟨13, true, 104, [.int .i64 0, .int .i64 0, .int .i64 0, .int .i64 0, .int .i64 0, .int .i64 0, .int .i64 0, .int .i64 0, .int .i64 0, .int .i64 0, .bool false, .int .i64 0, .int .i64 0], .struct [(0, 83), (8, 104), (10, 4), (11, 43)]⟩),
 (328, ⟨1, false, 8, [.nilFunc], .other⟩),
 (329, ⟨1, false, 8, [.nilFunc], .other⟩),
 (330, ⟨1, false, 8, [.nilFunc], .other⟩),
 (331, ⟨1, false, 8, [.int .i64 0], .int .i64⟩),
 (333, ⟨1, false, 8, [.nilFunc], .other⟩),
 (334, ⟨1, false, 8, [.nilFunc], .other⟩),
 (335, ⟨1, false, 8, [.nilFunc], .other⟩),
 (336, ⟨1, false, 8, [.nilFunc], .other⟩),
 (337, ⟨1, false, 8, [.nilFunc], .other⟩),
 (338, ⟨1, false, 4, [.int .u32 0], .int .u32⟩),
 (339, ⟨1, false, 8, [.nilFunc], .other⟩),
 (341, ⟨1, false, 8, [.nilFunc], .other⟩),
 (342, ⟨3, true, 24, [.int .i64 0, .int .i64 0, .bool false], .struct [(0, 147), (2, 4)]⟩),
 (343, ⟨3, true, 24, [.int .i64 0, .int .i64 0, .bool false], .struct [(0, 147), (2, 4)]⟩),
 (344, ⟨5, true, 40, [.int .i64 0, .int .i64 0, .int .i64 0, .int .i64 0, .bool false], .struct [(0, 3), (1, 3), (2, 343)]⟩),
 (345, ⟨5, true, 40, [.int .i64 0, .int .i64 0, .int .i64 0, .int .i64 0, .bool false], .struct [(0, 3), (1, 3), (2, 343)]⟩),
 (346, ⟨1, false, 8, [.nilFunc], .other⟩),
 (347, ⟨1, false, 8, [.nilFunc], .other⟩),
 (348, ⟨2, true, 16, [.int .i64 0, .int .i64 0], .array 2 3⟩),
 (349, ⟨1, false, 8, [.nilFunc], .other⟩),
 (350, ⟨1, false, 8, [.nilFunc], .other⟩),
 (351, ⟨1, false, 8, [.nilFunc], .other⟩),
 (352, ⟨1, false, 8, [.nilFunc], .other⟩),
 (353, ⟨1, false, 8, [.nilFunc], .other⟩),
 (354, ⟨1, false, 8, [.nilFunc], .other⟩),
 (355, ⟨1, false, 8, [.nilFunc], .other⟩),
 (356, ⟨9, true, 72, [.int .i64 0, .int .i64 0, .int .i64 0, .int .i64 0, .int .i64 0, .int .i64 0, .int .i64 0, .int .i64 0, .int .i64 0], .struct [(0, 153), (7, 147)]⟩),
 (357, ⟨9, true, 72, [.int .i64 0, .int .i64 0, .int .i64 0, .int .i64 0, .int .i64 0, .int .i64 0, .int .i64 0, .int .i64 0, .int .i64 0], .struct [(0, 153), (7, 147)]⟩),
 (358, ⟨1, false, 8, [.nilFunc], .other⟩),
 (359, ⟨1, false, 8, [.nilFunc], .other⟩),
 (360, ⟨1, false, 8, [.nilFunc], .other⟩),
 (361, ⟨2, true, 16, [.int .i64 0, .int .i64 0], .struct [(0, 3), (1, 3)]⟩),
 (362, ⟨2, true, 16, [.int .i64 0, .int .i64 0], .struct [(0, 3), (1, 3)]⟩),
 (363, ⟨5, true, 40, [.int .i64 0, .int .i64 0, .int .i64 0, .int .i64 0, .int .i64 0], .struct [(0, 362), (2, 3), (3, 3), (4, 3)]⟩),
 (364, ⟨5, true, 40, [.int .i64 0, .int .i64 0, .int .i64 0, .int .i64 0, .int .i64 0], .struct [(0, 362), (2, 3), (3, 3), (4, 3)]⟩),
 (365, ⟨1, false, 8, [.nilFunc], .other⟩),
 (366, ⟨1, false, 8, [.nilFunc], .other⟩),
 (367, ⟨1, false, 8, [.pointer none], .ptr⟩),
 (368, ⟨1, false, 8, [.nilFunc], .other⟩),
 (369, ⟨1, false, 8, [.nilFunc], .other⟩),
 (370, ⟨1, false, 8, [.nilFunc], .other⟩),
 (371, ⟨1, false, 8, [.nilFunc], .other⟩),
 (372, ⟨1, false, 8, [.nilFunc], .other⟩),
 (373, ⟨1, false, 8, [.nilFunc], .other⟩),
 (374, ⟨1, false, 8, [.nilFunc], .other⟩),
 (375, ⟨1, false, 8, [.nilFunc], .other⟩),
 (376, ⟨1, false, 8, [.nilFunc], .other⟩),
 (377, ⟨1, false, 8, [.nilFunc], .other⟩),
 (378, ⟨1, false, 8, [.nilFunc], .other⟩),
 (379, ⟨1, false, 8, [.nilFunc], .other⟩),
 (380, ⟨1, false, 8, [.int .u64 0], .int .u64⟩),
 (381, ⟨1, false, 8, [.nilFunc], .other⟩),
 (382, ⟨1, false, 8, [.nilFunc], .other⟩),
 (383, ⟨1, false, 8, [.nilFunc], .other⟩),
 (384, ⟨1, false, 8, [.pointer none], .ptr⟩),
 (385, ⟨1, false, 8, [.nilFunc], .other⟩),
 (386, ⟨1, false, 8, [.nilFunc], .other⟩),
 (387, ⟨2, true, 16, [.int .i64 0, .int .i64 0], .struct [(0, 3), (1, 3)]⟩),
 (389, ⟨1, false, 8, [.nilFunc], .other⟩),
 (390, ⟨1, false, 8, [.nilFunc], .other⟩),
 (391, ⟨1, false, 8, [.nilFunc], .other⟩),
 (392, ⟨1, false, 8, [.nilFunc], .other⟩),
 (393, ⟨1, false, 8, [.nilFunc], .other⟩),
 (394, ⟨1, false, 8, [.nilFunc], .other⟩),
 (395, ⟨1, false, 8, [.nilFunc], .other⟩),
 (396, ⟨1, false, 8, [.nilFunc], .other⟩),
 (397, ⟨1, false, 8, [.nilFunc], .other⟩),
 (398, ⟨1, false, 8, [.nilFunc], .other⟩),
 (399, ⟨1, false, 8, [.nilFunc], .other⟩),
 (400, ⟨1, false, 8, [.nilFunc], .other⟩),
 (401, ⟨1, false, 8, [.nilFunc], .other⟩),
 (402, ⟨1, false, 8, [.nilFunc], .other⟩),
 (403, ⟨1, false, 8, [.pointer none], .ptr⟩),
 (404, ⟨1, false, 8, [.nilFunc], .other⟩),
 (405, ⟨1, false, 8, [.nilFunc], .other⟩),
 (406, ⟨1, false, 8, [.nilFunc], .other⟩),
 (407, ⟨1, false, 8, [.nilFunc], .other⟩),
 (408, ⟨1, false, 8, [.nilFunc], .other⟩),
 (409, ⟨1, false, 8, [.nilFunc], .other⟩),
 (410, ⟨1, false, 8, [.nilFunc], .other⟩),
 (411, ⟨1, false, 8, [.nilFunc], .other⟩),
 (412, ⟨1, false, 8, [.nilFunc], .other⟩),
 (413, ⟨1, false, 8, [.nilFunc], .other⟩),
 (414, ⟨1, false, 8, [.nilFunc], .other⟩),
 (415, ⟨1, false, 8, [.nilFunc], .other⟩),
 (416, ⟨1, false, 8, [.nilFunc], .other⟩),
 (417, ⟨1, false, 8, [.nilFunc], .other⟩),
 (418, ⟨1, false, 8, [.nilFunc], .other⟩),
 (419, ⟨1, false, 8, [.nilFunc], .other⟩),
 (420, ⟨1, false, 8, [.nilFunc], .other⟩),
 (422, ⟨1, false, 8, [.nilFunc], .other⟩),
 (423, ⟨1, false, 8, [.nilFunc], .other⟩),
 (424, ⟨1, false, 8, [.nilFunc], .other⟩),
 (425, ⟨1, false, 24, [.slice none 0 0], .slice 430⟩),
 (426, ⟨1, false, 8, [.nilFunc], .other⟩),
 (427, ⟨1, false, 8, [.nilFunc], .other⟩),
 (428, ⟨2, true, 16, [.int .i64 0, .int .i64 0], .struct [(0, 3), (1, 3)]⟩),
 (429, ⟨6, true, 48, [.int .i64 0, .int .i64 0, .int .i64 0, .int .i64 0, .int .i64 0, .int .i64 0], .struct [(0, 362), (2, 428), (4, 428)]⟩),
 (430, ⟨6, true, 48, [.int .i64 0, .int .i64 0, .int .i64 0, .int .i64 0, .int .i64 0, .int .i64 0], .struct [(0, 362), (2, 428), (4, 428)]⟩),
 (431, ⟨1, false, 8, [.nilFunc], .other⟩),
 (433, ⟨1, false, 8, [.nilFunc], .other⟩),
 (434, ⟨1, false, 8, [.nilFunc], .other⟩),
 (435, ⟨1, false, 8, [.nilFunc], .other⟩),
 (436, ⟨1, false, 8, [.nilFunc], .other⟩),
 (437, ⟨1, false, 8, [.nilFunc], .other⟩),
 (440, ⟨0, true, 0, [], .array 0 16⟩),
 (443, ⟨1, false, 8, [.nilFunc], .other⟩),
 (446, ⟨1, false, 8, [.nilFunc], .other⟩),
 (447, ⟨1, false, 8, [.pointer none], .ptr⟩),
 (450, ⟨11, true, 48, [.int .u64 0, .int .u64 0, .int .u32 0, .int .u8 0, .int .u8 0, .int .u8 0, .int .u8 0, .nilFunc, .pointer none, .int .i32 0, .int .i32 0], .struct [(0, 12), (1, 12), (2, 338), (3, 444), (4, 5), (5, 5), (6, 445), (7, 446), (8, 447), (9, 448), (10, 449)]⟩)]
def TTab : TT := look tl
theorem zpI : tl.map (fun p => TI.of Go.Proofs.Tryz.prog p.1) = tl.map (fun p => some p.2) := by kernel_rfl
theorem tl_ok : ∀ p ∈ tl, TI.of Go.Proofs.Tryz.prog p.1 = some p.2 := fun p hp => List.map_inj_left.1 zpI p hp
def eqTs : List Nat := [36, 39, 43, 65, 67, 83, 104, 108, 112, 123, 147, 187, 215, 230, 236, 362, 387, 428]
end Go.Pg
namespace Go.Proofs
open Go.Shelf Go.RowKit Go.Lib Go.Sort
def Tryz.sortC_ren : Go.Shelf.Ren := ⟨fun | 6 => 96 | 15 => 181 | 14 => 180 | 28 => 244 | 29 => 245 | 20 => 236 | 21 => 237 | 22 => 238 | 23 => 239 | 24 => 240 | 25 => 241 | 26 => 242 | 27 => 243 | 46 => 295 | 47 => 296 | 48 => 297 | 49 => 298 | 50 => 299 | 57 => 317 | n => n, fun | 22 => 96 | 24 => 67 | 25 => 194 | 3 => 3 | 39 => 281 | 0 => 0 | 53 => 338 | 55 => 166 | 4 => 4 | 46 => 332 | 45 => 331 | 50 => 93 | 5 => 5 | 9 => 9 | 66 => 380 | 70 => 384 | 76 => 403 | 77 => 251 | n => n, fun | n => n⟩
theorem Tryz.sortC : Go.Proofs.SlLaysF0.n6 Tryz.prog Tryz.sortC_ren := {
 mixed := by kernel_rfl,
 f6 := ⟨Tryz.f96.name, by decide, Tryz.func96.trans (congrArg some (by kernel_rfl))⟩,
 f14 := ⟨Tryz.f180.name, by decide, Tryz.func180.trans (congrArg some (by kernel_rfl))⟩,
 f15 := Tryz.func181.trans (congrArg some (by kernel_rfl)),
 f20 := ⟨Tryz.f236.name, by decide, Tryz.func236.trans (congrArg some (by kernel_rfl))⟩,
 f21 := ⟨Tryz.f237.name, by decide, Tryz.func237.trans (congrArg some (by kernel_rfl))⟩,
 f22 := ⟨Tryz.f238.name, by decide, Tryz.func238.trans (congrArg some (by kernel_rfl))⟩,
 f23 := ⟨Tryz.f239.name, by decide, Tryz.func239.trans (congrArg some (by kernel_rfl))⟩,
 f24 := ⟨Tryz.f240.name, by decide, Tryz.func240.trans (congrArg some (by kernel_rfl))⟩,
 f25 := ⟨Tryz.f241.name, by decide, Tryz.func241.trans (congrArg some (by kernel_rfl))⟩,
 f26 := ⟨Tryz.f242.name, by decide, Tryz.func242.trans (congrArg some (by kernel_rfl))⟩,
 f27 := ⟨Tryz.f243.name, by decide, Tryz.func243.trans (congrArg some (by kernel_rfl))⟩,
 f28 := Tryz.func244.trans (congrArg some (by kernel_rfl)),
 f29 := Tryz.func245.trans (congrArg some (by kernel_rfl)),
 f46 := ⟨Tryz.f295.name, by decide, Tryz.func295.trans (congrArg some (by kernel_rfl))⟩,
 f47 := Tryz.func296.trans (congrArg some (by kernel_rfl)),
 f48 := Tryz.func297.trans (congrArg some (by kernel_rfl)),
 f49 := ⟨Tryz.f298.name, by decide, Tryz.func298.trans (congrArg some (by kernel_rfl))⟩,
 f50 := ⟨Tryz.f299.name, by decide, Tryz.func299.trans (congrArg some (by kernel_rfl))⟩,
 f57 := ⟨Tryz.f317.name, by decide, Tryz.func317.trans (congrArg some (by kernel_rfl))⟩,
 t0 := Tryz.underlying0,
 a0 := Tryz.isAgg0,
 z0 := Tryz.sizeOf0,
 v0 := Tryz.zeroValue0,
 t3 := Tryz.underlying3,
 a3 := Tryz.isAgg3,
 z3 := Tryz.sizeOf3,
 v3 := Tryz.zeroValue3,
 t4 := Tryz.underlying4,
 a4 := Tryz.isAgg4,
 z4 := Tryz.sizeOf4,
 v4 := Tryz.zeroValue4,
 t5 := Tryz.underlying5,
 a5 := Tryz.isAgg5,
 z5 := Tryz.sizeOf5,
 v5 := Tryz.zeroValue5,
 t9 := Tryz.underlying9,
 a9 := Tryz.isAgg9,
 z9 := Tryz.sizeOf9,
 v9 := Tryz.zeroValue9,
 t22 := Tryz.underlying96,
 a22 := Tryz.isAgg96,
 z22 := Tryz.sizeOf96,
 v22 := Tryz.zeroValue96,
 t25 := Tryz.underlying194,
 a25 := Tryz.isAgg194,
 z25 := Tryz.sizeOf194,
 v25 := Tryz.zeroValue194,
 t39 := Tryz.underlying281,
 a39 := Tryz.isAgg281,
 z39 := Tryz.sizeOf281,
 v39 := Tryz.zeroValue281,
 t45 := Tryz.underlying331,
 a45 := Tryz.isAgg331,
 z45 := Tryz.sizeOf331,
 v45 := Tryz.zeroValue331,
 t46 := Tryz.underlying332,
 a46 := Tryz.isAgg332,
 z46 := Tryz.sizeOf332,
 v46 := Tryz.zeroValue332,
 t50 := Tryz.underlying93,
 a50 := Tryz.isAgg93,
 z50 := Tryz.sizeOf93,
 v50 := Tryz.zeroValue93,
 t53 := Tryz.underlying338,
 a53 := Tryz.isAgg338,
 z53 := Tryz.sizeOf338,
 v53 := Tryz.zeroValue338,
 t55 := Tryz.underlying166,
 a55 := Tryz.isAgg166,
 z55 := Tryz.sizeOf166,
 v55 := Tryz.zeroValue166,
 t66 := Tryz.underlying380,
 a66 := Tryz.isAgg380,
 z66 := Tryz.sizeOf380,
 v66 := Tryz.zeroValue380,
 t70 := Tryz.underlying384,
 a70 := Tryz.isAgg384,
 z70 := Tryz.sizeOf384,
 v70 := Tryz.zeroValue384,
 t76 := Tryz.underlying403,
 a76 := Tryz.isAgg403,
 z76 := Tryz.sizeOf403,
 v76 := Tryz.zeroValue403,
 t77 := Tryz.underlying251,
 a77 := Tryz.isAgg251,
 z77 := Tryz.sizeOf251,
 v77 := Tryz.zeroValue251 }
def Tryz.sortT_ren : Go.Shelf.Ren := ⟨fun | 6 => 319 | 15 => 181 | 14 => 330 | 28 => 244 | 29 => 245 | 20 => 333 | 21 => 334 | 22 => 335 | 23 => 336 | 24 => 337 | 25 => 338 | 26 => 339 | 27 => 340 | 46 => 342 | 47 => 296 | 48 => 297 | 49 => 343 | 50 => 344 | 57 => 348 | n => n, fun | 22 => 310 | 24 => 357 | 25 => 407 | 3 => 3 | 39 => 281 | 0 => 0 | 53 => 338 | 55 => 166 | 4 => 4 | 46 => 332 | 45 => 331 | 50 => 93 | 5 => 5 | 9 => 9 | 66 => 380 | 70 => 384 | 76 => 403 | 77 => 251 | n => n, fun | n => n⟩
theorem Tryz.sortT : Go.Proofs.SlLaysF0.n6 Tryz.prog Tryz.sortT_ren := {
 mixed := by kernel_rfl,
 f6 := ⟨Tryz.f319.name, by decide, Tryz.func319.trans (congrArg some (by kernel_rfl))⟩,
 f14 := ⟨Tryz.f330.name, by decide, Tryz.func330.trans (congrArg some (by kernel_rfl))⟩,
 f15 := Tryz.func181.trans (congrArg some (by kernel_rfl)),
 f20 := ⟨Tryz.f333.name, by decide, Tryz.func333.trans (congrArg some (by kernel_rfl))⟩,
 f21 := ⟨Tryz.f334.name, by decide, Tryz.func334.trans (congrArg some (by kernel_rfl))⟩,
 f22 := ⟨Tryz.f335.name, by decide, Tryz.func335.trans (congrArg some (by kernel_rfl))⟩,
 f23 := ⟨Tryz.f336.name, by decide, Tryz.func336.trans (congrArg some (by kernel_rfl))⟩,
 f24 := ⟨Tryz.f337.name, by decide, Tryz.func337.trans (congrArg some (by kernel_rfl))⟩,
 f25 := ⟨Tryz.f338.name, by decide, Tryz.func338.trans (congrArg some (by kernel_rfl))⟩,
 f26 := ⟨Tryz.f339.name, by decide, Tryz.func339.trans (congrArg some (by kernel_rfl))⟩,
 f27 := ⟨Tryz.f340.name, by decide, Tryz.func340.trans (congrArg some (by kernel_rfl))⟩,
 f28 := Tryz.func244.trans (congrArg some (by kernel_rfl)),
 f29 := Tryz.func245.trans (congrArg some (by kernel_rfl)),
 f46 := ⟨Tryz.f342.name, by decide, Tryz.func342.trans (congrArg some (by kernel_rfl))⟩,
 f47 := Tryz.func296.trans (congrArg some (by kernel_rfl)),
 f48 := Tryz.func297.trans (congrArg some (by kernel_rfl)),
 f49 := ⟨Tryz.f343.name, by decide, Tryz.func343.trans (congrArg some (by kernel_rfl))⟩,
 f50 := ⟨Tryz.f344.name, by decide, Tryz.func344.trans (congrArg some (by kernel_rfl))⟩,
 f57 := ⟨Tryz.f348.name, by decide, Tryz.func348.trans (congrArg some (by kernel_rfl))⟩,
 t0 := Tryz.underlying0,
 a0 := Tryz.isAgg0,
 z0 := Tryz.sizeOf0,
 v0 := Tryz.zeroValue0,
 t3 := Tryz.underlying3,
 a3 := Tryz.isAgg3,
 z3 := Tryz.sizeOf3,
 v3 := Tryz.zeroValue3,
 t4 := Tryz.underlying4,
 a4 := Tryz.isAgg4,
 z4 := Tryz.sizeOf4,
 v4 := Tryz.zeroValue4,
 t5 := Tryz.underlying5,
 a5 := Tryz.isAgg5,
 z5 := Tryz.sizeOf5,
 v5 := Tryz.zeroValue5,
 t9 := Tryz.underlying9,
 a9 := Tryz.isAgg9,
 z9 := Tryz.sizeOf9,
 v9 := Tryz.zeroValue9,
 t22 := Tryz.underlying310,
 a22 := Tryz.isAgg310,
 z22 := Tryz.sizeOf310,
 v22 := Tryz.zeroValue310,
 t25 := Tryz.underlying407,
 a25 := Tryz.isAgg407,
 z25 := Tryz.sizeOf407,
 v25 := Tryz.zeroValue407,
 t39 := Tryz.underlying281,
 a39 := Tryz.isAgg281,
 z39 := Tryz.sizeOf281,
 v39 := Tryz.zeroValue281,
 t45 := Tryz.underlying331,
 a45 := Tryz.isAgg331,
 z45 := Tryz.sizeOf331,
 v45 := Tryz.zeroValue331,
 t46 := Tryz.underlying332,
 a46 := Tryz.isAgg332,
 z46 := Tryz.sizeOf332,
 v46 := Tryz.zeroValue332,
 t50 := Tryz.underlying93,
 a50 := Tryz.isAgg93,
 z50 := Tryz.sizeOf93,
 v50 := Tryz.zeroValue93,
 t53 := Tryz.underlying338,
 a53 := Tryz.isAgg338,
 z53 := Tryz.sizeOf338,
 v53 := Tryz.zeroValue338,
 t55 := Tryz.underlying166,
 a55 := Tryz.isAgg166,
 z55 := Tryz.sizeOf166,
 v55 := Tryz.zeroValue166,
 t66 := Tryz.underlying380,
 a66 := Tryz.isAgg380,
 z66 := Tryz.sizeOf380,
 v66 := Tryz.zeroValue380,
 t70 := Tryz.underlying384,
 a70 := Tryz.isAgg384,
 z70 := Tryz.sizeOf384,
 v70 := Tryz.zeroValue384,
 t76 := Tryz.underlying403,
 a76 := Tryz.isAgg403,
 z76 := Tryz.sizeOf403,
 v76 := Tryz.zeroValue403,
 t77 := Tryz.underlying251,
 a77 := Tryz.isAgg251,
 z77 := Tryz.sizeOf251,
 v77 := Tryz.zeroValue251 }
def Tryz.sortI_ren : Go.Shelf.Ren := ⟨fun | 6 => 159 | 15 => 181 | 14 => 229 | 28 => 244 | 29 => 245 | 20 => 274 | 21 => 275 | 22 => 276 | 23 => 277 | 24 => 278 | 25 => 279 | 26 => 280 | 27 => 281 | 46 => 309 | 47 => 296 | 48 => 297 | 49 => 310 | 50 => 311 | 57 => 325 | n => n, fun | 22 => 22 | 24 => 3 | 25 => 253 | 3 => 3 | 39 => 281 | 0 => 0 | 53 => 338 | 55 => 166 | 4 => 4 | 46 => 332 | 45 => 331 | 50 => 93 | 5 => 5 | 9 => 9 | 66 => 380 | 70 => 384 | 76 => 403 | 77 => 251 | n => n, fun | n => n⟩
theorem Tryz.sortI : Go.Proofs.SlLaysF.n6 Tryz.prog Tryz.sortI_ren := {
 mixed := by kernel_rfl,
 f6 := ⟨Tryz.f159.name, by decide, Tryz.func159.trans (congrArg some (by kernel_rfl))⟩,
 f14 := ⟨Tryz.f229.name, by decide, Tryz.func229.trans (congrArg some (by kernel_rfl))⟩,
 f15 := Tryz.func181.trans (congrArg some (by kernel_rfl)),
 f20 := ⟨Tryz.f274.name, by decide, Tryz.func274.trans (congrArg some (by kernel_rfl))⟩,
 f21 := ⟨Tryz.f275.name, by decide, Tryz.func275.trans (congrArg some (by kernel_rfl))⟩,
 f22 := ⟨Tryz.f276.name, by decide, Tryz.func276.trans (congrArg some (by kernel_rfl))⟩,
 f23 := ⟨Tryz.f277.name, by decide, Tryz.func277.trans (congrArg some (by kernel_rfl))⟩,
 f24 := ⟨Tryz.f278.name, by decide, Tryz.func278.trans (congrArg some (by kernel_rfl))⟩,
 f25 := ⟨Tryz.f279.name, by decide, Tryz.func279.trans (congrArg some (by kernel_rfl))⟩,
 f26 := ⟨Tryz.f280.name, by decide, Tryz.func280.trans (congrArg some (by kernel_rfl))⟩,
 f27 := ⟨Tryz.f281.name, by decide, Tryz.func281.trans (congrArg some (by kernel_rfl))⟩,
 f28 := Tryz.func244.trans (congrArg some (by kernel_rfl)),
 f29 := Tryz.func245.trans (congrArg some (by kernel_rfl)),
 f46 := ⟨Tryz.f309.name, by decide, Tryz.func309.trans (congrArg some (by kernel_rfl))⟩,
 f47 := Tryz.func296.trans (congrArg some (by kernel_rfl)),
 f48 := Tryz.func297.trans (congrArg some (by kernel_rfl)),
 f49 := ⟨Tryz.f310.name, by decide, Tryz.func310.trans (congrArg some (by kernel_rfl))⟩,
 f50 := ⟨Tryz.f311.name, by decide, Tryz.func311.trans (congrArg some (by kernel_rfl))⟩,
 f57 := ⟨Tryz.f325.name, by decide, Tryz.func325.trans (congrArg some (by kernel_rfl))⟩,
 t0 := Tryz.underlying0,
 a0 := Tryz.isAgg0,
 z0 := Tryz.sizeOf0,
 v0 := Tryz.zeroValue0,
 t3 := Tryz.underlying3,
 a3 := Tryz.isAgg3,
 z3 := Tryz.sizeOf3,
 v3 := Tryz.zeroValue3,
 t4 := Tryz.underlying4,
 a4 := Tryz.isAgg4,
 z4 := Tryz.sizeOf4,
 v4 := Tryz.zeroValue4,
 t5 := Tryz.underlying5,
 a5 := Tryz.isAgg5,
 z5 := Tryz.sizeOf5,
 v5 := Tryz.zeroValue5,
 t9 := Tryz.underlying9,
 a9 := Tryz.isAgg9,
 z9 := Tryz.sizeOf9,
 v9 := Tryz.zeroValue9,
 t22 := Tryz.underlying22,
 a22 := Tryz.isAgg22,
 z22 := Tryz.sizeOf22,
 v22 := Tryz.zeroValue22,
 a24 := Tryz.isAgg3,
 z24 := Tryz.sizeOf3,
 t25 := Tryz.underlying253,
 a25 := Tryz.isAgg253,
 z25 := Tryz.sizeOf253,
 v25 := Tryz.zeroValue253,
 t39 := Tryz.underlying281,
 a39 := Tryz.isAgg281,
 z39 := Tryz.sizeOf281,
 v39 := Tryz.zeroValue281,
 t45 := Tryz.underlying331,
 a45 := Tryz.isAgg331,
 z45 := Tryz.sizeOf331,
 v45 := Tryz.zeroValue331,
 t46 := Tryz.underlying332,
 a46 := Tryz.isAgg332,
 z46 := Tryz.sizeOf332,
 v46 := Tryz.zeroValue332,
 t50 := Tryz.underlying93,
 a50 := Tryz.isAgg93,
 z50 := Tryz.sizeOf93,
 v50 := Tryz.zeroValue93,
 t53 := Tryz.underlying338,
 a53 := Tryz.isAgg338,
 z53 := Tryz.sizeOf338,
 v53 := Tryz.zeroValue338,
 t55 := Tryz.underlying166,
 a55 := Tryz.isAgg166,
 z55 := Tryz.sizeOf166,
 v55 := Tryz.zeroValue166,
 t66 := Tryz.underlying380,
 a66 := Tryz.isAgg380,
 z66 := Tryz.sizeOf380,
 v66 := Tryz.zeroValue380,
 t70 := Tryz.underlying384,
 a70 := Tryz.isAgg384,
 z70 := Tryz.sizeOf384,
 v70 := Tryz.zeroValue384,
 t76 := Tryz.underlying403,
 a76 := Tryz.isAgg403,
 z76 := Tryz.sizeOf403,
 v76 := Tryz.zeroValue403,
 t77 := Tryz.underlying251,
 a77 := Tryz.isAgg251,
 z77 := Tryz.sizeOf251,
 v77 := Tryz.zeroValue251 }
end Go.Proofs
namespace Go.Proofs
open Go.Shelf Go.RowKit Go.Lib Go.Sort
def Tryz.revC_ren : Go.Shelf.Ren := ⟨fun | 35 => 185 | n => n, fun | 22 => 96 | 23 => 67 | 3 => 3 | 4 => 4 | 0 => 0 | n => n, fun | n => n⟩
theorem Tryz.revC : Go.Proofs.SlLaysE0.n35 Tryz.prog Tryz.revC_ren := {
 mixed := by kernel_rfl,
 f35 := ⟨Tryz.f185.name, by decide, Tryz.func185.trans (congrArg some (by kernel_rfl))⟩,
 t0 := Tryz.underlying0,
 a0 := Tryz.isAgg0,
 z0 := Tryz.sizeOf0,
 v0 := Tryz.zeroValue0,
 t3 := Tryz.underlying3,
 a3 := Tryz.isAgg3,
 z3 := Tryz.sizeOf3,
 v3 := Tryz.zeroValue3,
 t4 := Tryz.underlying4,
 a4 := Tryz.isAgg4,
 z4 := Tryz.sizeOf4,
 v4 := Tryz.zeroValue4,
 t22 := Tryz.underlying96,
 a22 := Tryz.isAgg96,
 z22 := Tryz.sizeOf96,
 v22 := Tryz.zeroValue96 }
def Tryz.delI_ren : Go.Shelf.Ren := ⟨fun | 45 => 161 | n => n, fun | 22 => 22 | 23 => 3 | 3 => 3 | 4 => 4 | 0 => 0 | n => n, fun | n => n⟩
theorem Tryz.delI : Go.Proofs.SlLaysN.n45 Tryz.prog Tryz.delI_ren := {
 mixed := by kernel_rfl,
 f45 := ⟨Tryz.f161.name, by decide, Tryz.func161.trans (congrArg some (by kernel_rfl))⟩,
 t0 := Tryz.underlying0,
 a0 := Tryz.isAgg0,
 z0 := Tryz.sizeOf0,
 v0 := Tryz.zeroValue0,
 t3 := Tryz.underlying3,
 a3 := Tryz.isAgg3,
 z3 := Tryz.sizeOf3,
 v3 := Tryz.zeroValue3,
 t4 := Tryz.underlying4,
 a4 := Tryz.isAgg4,
 z4 := Tryz.sizeOf4,
 v4 := Tryz.zeroValue4,
 t22 := Tryz.underlying22,
 a22 := Tryz.isAgg22,
 z22 := Tryz.sizeOf22,
 v22 := Tryz.zeroValue22,
 t23 := Tryz.underlying3,
 a23 := Tryz.isAgg3,
 z23 := Tryz.sizeOf3,
 v23 := Tryz.zeroValue3,
 i23 := by kernel_rfl }
def Tryz.delB_ren : Go.Shelf.Ren := ⟨fun | 45 => 164 | n => n, fun | 22 => 162 | 23 => 168 | 3 => 3 | 4 => 4 | 0 => 0 | n => n, fun | n => n⟩
theorem Tryz.delB : Go.Proofs.SlLaysE0.n45 Tryz.prog Tryz.delB_ren := {
 mixed := by kernel_rfl,
 f45 := ⟨Tryz.f164.name, by decide, Tryz.func164.trans (congrArg some (by kernel_rfl))⟩,
 t0 := Tryz.underlying0,
 a0 := Tryz.isAgg0,
 z0 := Tryz.sizeOf0,
 v0 := Tryz.zeroValue0,
 t3 := Tryz.underlying3,
 a3 := Tryz.isAgg3,
 z3 := Tryz.sizeOf3,
 v3 := Tryz.zeroValue3,
 t4 := Tryz.underlying4,
 a4 := Tryz.isAgg4,
 z4 := Tryz.sizeOf4,
 v4 := Tryz.zeroValue4,
 t22 := Tryz.underlying162,
 a22 := Tryz.isAgg162,
 z22 := Tryz.sizeOf162,
 v22 := Tryz.zeroValue162 }
def Tryz.mul64_ren : Go.Shelf.Ren := ⟨fun | 264 => 171 | n => n, fun | 53 => 166 | 46 => 281 | n => n, fun | n => n⟩
theorem Tryz.mul64 : Go.Proofs.Lays.n264 Tryz.prog Tryz.mul64_ren := {
 mixed := by kernel_rfl,
 f264 := Tryz.func171.trans (congrArg some (by kernel_rfl)),
 t46 := Tryz.underlying281,
 a46 := Tryz.isAgg281,
 z46 := Tryz.sizeOf281,
 v46 := Tryz.zeroValue281,
 t53 := Tryz.underlying166,
 a53 := Tryz.isAgg166,
 z53 := Tryz.sizeOf166,
 v53 := Tryz.zeroValue166 }
def Tryz.srtI_ren : Go.Shelf.Ren := ⟨fun | 189 => 163 | 125 => 181 | 257 => 230 | 128 => 244 | 129 => 245 | 294 => 282 | 295 => 283 | 296 => 284 | 297 => 285 | 298 => 286 | 299 => 287 | 216 => 288 | 300 => 289 | 301 => 290 | 328 => 312 | 329 => 296 | 330 => 297 | 331 => 313 | 332 => 314 | 215 => 291 | 343 => 326 | n => n, fun | 28 => 22 | 3 => 3 | 46 => 281 | 0 => 0 | 51 => 338 | 53 => 166 | 4 => 4 | 183 => 332 | 182 => 331 | 131 => 93 | 5 => 5 | 9 => 9 | 218 => 380 | 222 => 384 | 228 => 403 | 229 => 251 | n => n, fun | n => n⟩
theorem Tryz.srtI : Go.Proofs.Lays.n189 Tryz.prog Tryz.srtI_ren := {
 mixed := by kernel_rfl,
 f125 := Tryz.func181.trans (congrArg some (by kernel_rfl)),
 f128 := Tryz.func244.trans (congrArg some (by kernel_rfl)),
 f129 := Tryz.func245.trans (congrArg some (by kernel_rfl)),
 f189 := Tryz.func163.trans (congrArg some (by kernel_rfl)),
 f215 := Tryz.func291.trans (congrArg some (by kernel_rfl)),
 f216 := Tryz.func288.trans (congrArg some (by kernel_rfl)),
 f257 := Tryz.func230.trans (congrArg some (by kernel_rfl)),
 f294 := Tryz.func282.trans (congrArg some (by kernel_rfl)),
 f295 := Tryz.func283.trans (congrArg some (by kernel_rfl)),
 f296 := Tryz.func284.trans (congrArg some (by kernel_rfl)),
 f297 := Tryz.func285.trans (congrArg some (by kernel_rfl)),
 f298 := Tryz.func286.trans (congrArg some (by kernel_rfl)),
 f299 := Tryz.func287.trans (congrArg some (by kernel_rfl)),
 f300 := Tryz.func289.trans (congrArg some (by kernel_rfl)),
 f301 := Tryz.func290.trans (congrArg some (by kernel_rfl)),
 f328 := Tryz.func312.trans (congrArg some (by kernel_rfl)),
 f329 := Tryz.func296.trans (congrArg some (by kernel_rfl)),
 f330 := Tryz.func297.trans (congrArg some (by kernel_rfl)),
 f331 := Tryz.func313.trans (congrArg some (by kernel_rfl)),
 f332 := Tryz.func314.trans (congrArg some (by kernel_rfl)),
 f343 := Tryz.func326.trans (congrArg some (by kernel_rfl)),
 t0 := Tryz.underlying0,
 a0 := Tryz.isAgg0,
 z0 := Tryz.sizeOf0,
 v0 := Tryz.zeroValue0,
 t3 := Tryz.underlying3,
 a3 := Tryz.isAgg3,
 z3 := Tryz.sizeOf3,
 v3 := Tryz.zeroValue3,
 t4 := Tryz.underlying4,
 a4 := Tryz.isAgg4,
 z4 := Tryz.sizeOf4,
 v4 := Tryz.zeroValue4,
 t5 := Tryz.underlying5,
 a5 := Tryz.isAgg5,
 z5 := Tryz.sizeOf5,
 v5 := Tryz.zeroValue5,
 t9 := Tryz.underlying9,
 a9 := Tryz.isAgg9,
 z9 := Tryz.sizeOf9,
 v9 := Tryz.zeroValue9,
 t28 := Tryz.underlying22,
 a28 := Tryz.isAgg22,
 z28 := Tryz.sizeOf22,
 v28 := Tryz.zeroValue22,
 t46 := Tryz.underlying281,
 a46 := Tryz.isAgg281,
 z46 := Tryz.sizeOf281,
 v46 := Tryz.zeroValue281,
 t51 := Tryz.underlying338,
 a51 := Tryz.isAgg338,
 z51 := Tryz.sizeOf338,
 v51 := Tryz.zeroValue338,
 t53 := Tryz.underlying166,
 a53 := Tryz.isAgg166,
 z53 := Tryz.sizeOf166,
 v53 := Tryz.zeroValue166,
 t131 := Tryz.underlying93,
 a131 := Tryz.isAgg93,
 z131 := Tryz.sizeOf93,
 v131 := Tryz.zeroValue93,
 t182 := Tryz.underlying331,
 a182 := Tryz.isAgg331,
 z182 := Tryz.sizeOf331,
 v182 := Tryz.zeroValue331,
 t183 := Tryz.underlying332,
 a183 := Tryz.isAgg332,
 z183 := Tryz.sizeOf332,
 v183 := Tryz.zeroValue332,
 t218 := Tryz.underlying380,
 a218 := Tryz.isAgg380,
 z218 := Tryz.sizeOf380,
 v218 := Tryz.zeroValue380,
 t222 := Tryz.underlying384,
 a222 := Tryz.isAgg384,
 z222 := Tryz.sizeOf384,
 v222 := Tryz.zeroValue384,
 t228 := Tryz.underlying403,
 a228 := Tryz.isAgg403,
 z228 := Tryz.sizeOf403,
 v228 := Tryz.zeroValue403,
 t229 := Tryz.underlying251,
 a229 := Tryz.isAgg251,
 z229 := Tryz.sizeOf251,
 v229 := Tryz.zeroValue251 }
end Go.Proofs
namespace Go.Pg
open Go.Proofs Go.RowKit
noncomputable abbrev PP : Program := Tryz.prog
theorem hT : ∀ t i, TTab t = some i -> TI.of PP t = some i := fun t i h => by
 have h' : look tl t = some i := h
 have := tl_ok (t, i) (zau h')
 exact this
theorem hM : PP.follows .mixedOrders = true := by kernel_rfl
def intF (P : Program) : Nat -> List Field -> Bool
 | _, [] => true
 | i, f :: fs => !(f.name == "_") && Nat.beq f.offset i && (match P.underlying f.type with | some (.int _) => true | _ => false) && intF P (i + 1) fs
theorem znD {P : Program} {w : World} {d : Nat} : ∀ (fs : List Field) (i : Nat) (xs ys : List D) (vs us : List Value) (ok : Nat -> Prop) (b : Bool), intF P i fs = true -> xs.length = i + fs.length ->
  eqDs (xs.drop i) (ys.drop i) = some b -> All2 (Rep w ok) xs vs -> All2 (Rep w ok) ys us -> (Op.eqFields (d + 1) vs.toArray us.toArray fs).run P w = .ok b w
 | [], i, xs, ys, vs, us, ok, b, _, hl, he, h1, h2 => by
  have h3 : xs.drop i = [] := List.drop_eq_nil_of_le (by simp at hl; omega)
  rw [h3] at he
  cases hy : ys.drop i with
  | nil => rw [hy] at he; simp [eqDs] at he; subst he; simp [Op.eqFields]
  | cons y r => rw [hy] at he; simp [eqDs] at he
 | f :: fs, i, xs, ys, vs, us, ok, b, hf, hl, he, h1, h2 => by
  simp only [intF, Bool.and_eq_true, Bool.not_eq_true'] at hf
  obtain ⟨⟨⟨hn, ho⟩, ht⟩, hr⟩ := hf
  have ho := Nat.eq_of_beq_eq_true ho
  have hi : i < xs.length := by rw [hl]; simp
  cases hy : ys.drop i with
  | nil =>
   rw [hy, List.drop_eq_getElem_cons hi] at he
   simp [eqDs] at he
  | cons y r =>
   have hj : i < ys.length := by
    rcases Nat.lt_or_ge i ys.length with h | h
    ·exact h
    ·rw [List.drop_eq_nil_of_le h] at hy; cases hy
   rw [List.drop_eq_getElem_cons hj] at hy
   simp only [List.cons.injEq] at hy
   obtain ⟨rfl, rfl⟩ := hy
   rw [List.drop_eq_getElem_cons hi, List.drop_eq_getElem_cons hj] at he
   simp only [eqDs] at he
   cases hq : eqD xs[i] ys[i] with
   | none => simp [hq] at he
   | some q =>
    cases hqs : eqDs (xs.drop (i + 1)) (ys.drop (i + 1)) with
    | none => simp [hq, hqs] at he
    | some q' =>
     simp only [hq, hqs, Option.some.injEq] at he
     have hb : b = (q && q') := he.symm
     obtain ⟨v, hv, hrv⟩ := h1.get i xs[i] (by simp [hi])
     obtain ⟨u, hu, hru⟩ := h2.get i ys[i] (by simp [hj])
     cases hund : P.underlying f.type with
     | none => simp [hund] at ht
     | some td =>
      cases td with
      | int k0 =>
       have hag : (isAgg f.type).run P w = .ok false w := by simp [isAgg, run_underlying hund]
       have hp1 : (part f.type vs.toArray f.offset).run P w = .ok v w := by simp [part, hag, ho, hv]
       have hp2 : (part f.type us.toArray f.offset).run P w = .ok u w := by simp [part, hag, ho, hu]
       have hn' : f.name ≠ "_" := by simpa using hn
       have heq : (Op.equalIn (d + 1) f.type v u).run P w = .ok q w := by
        cases hx : xs[i] with
        | int k a =>
         rw [hx] at hq hrv
         cases hz : ys[i] with
         | int k' c =>
          rw [hz] at hq hru
          have hv' : v = .int k a := hrv
          have hu' : u = .int k' c := hru
          simp only [eqD] at hq
          cases hk : kbeq k k' with
          | false => simp [hk] at hq
          | true =>
           have := zkm hk
           subst this
           simp only [hk, cond_true, Option.some.injEq] at hq
           subst hq; subst hv'; subst hu'
           exact run_equalIn_int w d f.type k k0 a c hund
         | _ => rw [hz] at hq; simp [eqD] at hq
        | _ => rw [hx] at hq; simp [eqD] at hq
       simp only [Op.eqFields, hn', ne_eq, not_false_eq_true, if_true, Sem.run_bind, hp1, hp2, heq, Result.andThen_ok]
       cases q with
       | false => simp [hb]
       | true =>
        simp only [Bool.not_true, Bool.false_eq_true, if_false]
        rw [hb, Bool.true_and]
        exact znD fs (i + 1) xs ys vs us ok q' hr (by rw [hl]; simp; omega) hqs h1 h2
      | _ => simp [hund] at ht
def intS (P : Program) (t : TypeId) : Bool :=
 (match P.underlying t with | some (.struct fs) => intF P 0 fs.toList && (match P.info? t with | some i => Nat.beq i.size fs.size | none => false) | _ => false) && !P.stoodInHeld t && !P.eqGuardType P.depth t
theorem zgS {P : Program} {t : TypeId} (h : intS P t = true) : EqFact P t := by
 intro w ok xs ys vs us b x y ⟨ti, hti, hlen⟩ hb hv hu
 obtain ⟨info, d, z, g1, g2, g3, g4, g5, g6, g7, g8⟩ := zad hti
 unfold intS at h
 rw [g2] at h
 cases d with
 | struct fs =>
  simp only [g1, Bool.and_eq_true, Bool.not_eq_true'] at h
  obtain ⟨⟨⟨h1, h2⟩, h3⟩, h4⟩ := h
  have h2 := Nat.eq_of_beq_eq_true h2
  have hfo : P.fieldsOf t = fs := by simp [Program.fieldsOf, g2]
  have ht : P.underlying t = some (.struct (P.fieldsOf t)) := by rw [hfo]; exact g2
  have hq : (Op.equalIn 10000 t (.agg vs.toArray) (.agg us.toArray)).run P w = .ok b w := by
   rw [run_equalIn_struct w 9999 t _ _ ht h3, hfo]
   exact znD fs.toList 0 xs ys vs us ok b h1 (by rw [hlen, <- g4, h2]; simp) (by simpa using hb) hv hu
  constructor
  ·simp only [Sem.run_bind, run_eqGuard_agg w _ t x y _ _ h4, Result.andThen_ok, run_eql_struct, hq]
  ·simp only [Sem.run_bind, run_eqGuard_agg w _ t x y _ _ h4, Result.andThen_ok, run_neq_struct, hq]
 | _ => simp at h
def ET (t : Nat) : Bool := eqTs.any (Nat.beq t)
theorem zo1 : eqTs.all (intS PP) = true := by kernel_rfl
theorem hE : ∀ t, ET t = true -> EqFact PP t := fun t h => by
 obtain ⟨u, hu, he⟩ := List.any_eq_true.1 h
 have := Nat.eq_of_beq_eq_true he
 subst this
 exact zgS (List.all_eq_true.1 zo1 _ hu)
def EN : Env := ⟨ET, false, 0, fun _ _ => False, false, fun _ => false⟩
def EC (ids : List Nat) : Env := ⟨ET, false, 0, fun _ _ => False, false, fun i => ids.any (Nat.beq i)⟩
def ED : Env := ⟨ET, true, 0, fun _ _ => False, false, fun _ => false⟩
theorem zjl {f : FuncId} {fn : Func} {c : Code} (hf : PP.funcs[f]? = some fn) (hb : fn.body = some c) (hq : ((fn.name == "runtime.NumGoroutine") || !(codeN fn.ntmps c && Nat.ble fn.ntmps 4294967296)) = false)
  {args res : List V1} (hsz : Nat.ble args.length fn.ntmps = true) (h : awp PP TTab EN c (St.of (argSlots 0 args) []) (retK TTab fn.results.toList res)) : Spec PP f args res := by
 simp only [Bool.or_eq_false_iff, Bool.not_eq_false', Bool.and_eq_true] at hq
 exact zgl (E := EN) hT hE hM hf hb hq.1 hq.2.1 (Nat.le_of_ble_eq_true hsz) (Nat.le_of_ble_eq_true hq.2.2) h
theorem zlB (ids : List Nat) {f : FuncId} {fn : Func} {c : Code} (hf : PP.funcs[f]? = some fn) (hb : fn.body = some c) (hq : ((fn.name == "runtime.NumGoroutine") || !(codeN fn.ntmps c && Nat.ble fn.ntmps 4294967296)) = false)
  {args res : List V1} (hsz : Nat.ble args.length fn.ntmps = true) (h : awp PP TTab (EC ids) c (St.of (argSlots 0 args) []) (retK TTab fn.results.toList res)) : Spec PP f args res := by
 simp only [Bool.or_eq_false_iff, Bool.not_eq_false', Bool.and_eq_true] at hq
 exact zgl (E := EC ids) hT hE hM hf hb hq.1 hq.2.1 (Nat.le_of_ble_eq_true hsz) (Nat.le_of_ble_eq_true hq.2.2) h
theorem zc8 {f : FuncId} {fn : Func} {c : Code} (hf : PP.funcs[f]? = some fn) (hb : fn.body = some c) (hq : ((fn.name == "runtime.NumGoroutine") || !(codeN fn.ntmps c && Nat.ble fn.ntmps 4294967296)) = false)
  {args : List V1} {e k n : Nat} {g : Nat -> Nat -> D} (hsz : Nat.ble args.length fn.ntmps = true) (h : awp PP TTab EN c (St.of (argSlots 0 args) []) (retKO fn.results.toList e k n g)) : SpecO PP f args e k n g := by
 simp only [Bool.or_eq_false_iff, Bool.not_eq_false', Bool.and_eq_true] at hq
 exact zlA (E := EN) hT hE hM hf hb hq.1 hq.2.1 (Nat.le_of_ble_eq_true hsz) (Nat.le_of_ble_eq_true hq.2.2) h
theorem zaz {f : FuncId} {fn : Func} {c : Code} (hf : PP.funcs[f]? = some fn) (hb : fn.body = some c) (hq : ((fn.name == "runtime.NumGoroutine") || !(codeN fn.ntmps c && Nat.ble fn.ntmps 4294967296)) = false)
  {args res : List V1} (hsz : Nat.ble args.length fn.ntmps = true) (h : awp PP TTab ED c (St.of (argSlots 0 args) []) (retK TTab fn.results.toList res)) : SpecD PP f args res := by
 simp only [Bool.or_eq_false_iff, Bool.not_eq_false', Bool.and_eq_true] at hq
 exact zgl (E := ED) hT hE hM hf hb hq.1 hq.2.1 (Nat.le_of_ble_eq_true hsz) (Nat.le_of_ble_eq_true hq.2.2) h
def V1.eqv : V1 -> V1 -> Prop
 | .d x, .d y => D.eqv x y
 | .agg xs, .agg ys => eqvs xs ys
 | _, _ => False
def eqV1s : List V1 -> List V1 -> Prop
 | [], [] => True
 | x :: xs, y :: ys => V1.eqv x y /\ eqV1s xs ys
 | _, _ => False
theorem zlO {w : World} {ok : Nat -> Prop} {x y : V1} {v : Value} (h : Rep1 w ok x v) (he : V1.eqv x y) : Rep1 w ok y v := by
 cases x with
 | d x => cases y with
  | d y => exact Rep.eqv h he
  | agg _ => exact he.elim
 | agg xs => cases y with
  | d y => exact he.elim
  | agg ys => obtain ⟨vs, h1, h2⟩ := h; exact ⟨vs, h1, zbK he h2⟩
theorem zcn {w : World} {ok : Nat -> Prop} : ∀ {xs ys : List V1} {vs : List Value}, eqV1s xs ys -> All2 (Rep1 w ok) xs vs -> All2 (Rep1 w ok) ys vs
 | [], [], _, _, h => h
 | x :: xs, y :: ys, _, he, .cons h1 h2 => .cons (zlO h1 he.1) (zcn he.2 h2)
 | [], _ :: _, _, he, _ => he.elim
 | _ :: _, [], _, he, _ => he.elim
theorem SpecG.eqv {d : Bool} {P : Program} {f : FuncId} {xs ys res : List V1} (h : SpecG d P f ys res) (he : eqV1s xs ys) : SpecG d P f xs res :=
 ⟨h.1, fun w ok vs hok hr => h.2 w ok vs hok (zcn he hr)⟩
theorem SpecOG.eqv {d : Bool} {P : Program} {f : FuncId} {xs ys : List V1} {e k n : Nat} {g : Nat -> Nat -> D} (h : SpecOG d P f ys e k n g) (he : eqV1s xs ys) : SpecOG d P f xs e k n g :=
 ⟨h.1, fun w ok vs hok hr => h.2 w ok vs hok (zcn he hr)⟩
section
variable {P : Program} {s : St} {o : Oper} {fo : Operand} {f : FuncId} {args : List Operand} {K : St -> Prop}
variable {dr : Bool} {E : Env}
theorem CallOb.pure {s : St} {args : List AV} {K : AV -> Prop} {xs res : List V1} (h : SpecG dr P f xs res) (hx : toV1s s args = some xs) (hr : res.all V1.flat = true) (hk : K (resAV res)) : CallOb dr P s f args K := ⟨.inl ⟨xs, res, hx, h, .inl hr, hk⟩⟩
theorem CallOb.pureE {s : St} {args : List AV} {K : AV -> Prop} {xs ys res : List V1} (h : SpecG dr P f ys res) (hx : toV1s s args = some xs) (he : eqV1s xs ys) (hr : res.all V1.flat = true) (hk : K (resAV res)) : CallOb dr P s f args K := ⟨.inl ⟨xs, res, hx, h.eqv he, .inl hr, hk⟩⟩
theorem CallOb.ro {s : St} {args : List AV} {K : AV -> Prop} {xs res : List V1} (h : SpecG dr P f xs res) (hx : toV1s s args = some xs) (hr : args.all (fun v => !v.isOwn) = true) (hk : K (resAV res)) : CallOb dr P s f args K := ⟨.inl ⟨xs, res, hx, h, .inr hr, hk⟩⟩
theorem SpecF.eqv {d : Bool} {P : Program} {f : FuncId} {xs ys res : List V1} (h : SpecF d P f ys res) (he : eqV1s xs ys) : SpecF d P f xs res :=
 ⟨h.1, fun w ok vs hok hr => h.2 w ok vs hok (zcn he hr)⟩
def toV1c (s : St) (fo : Operand) (args : List Operand) : Option (FuncId × List V1) :=
 match callee (ev s fo) with
 | some (f, ex) => match toV1s s (args.map (ev s) ++ ex) with
  | some xs => some (f, xs)
  | none => none
 | none => none
def noOwn (s : St) (args : List Operand) : Bool := args.all fun x => !(ev s x).isOwn
theorem zaH {xs : List V1} (h : toV1c s fo args = some (f, xs)) : ∃ ex, callee (ev s fo) = some (f, ex) /\ toV1s s (args.map (ev s) ++ ex) = some xs := by
 unfold toV1c at h
 cases hc : callee (ev s fo) with
 | none => simp [hc] at h
 | some p =>
  obtain ⟨g, ex⟩ := p
  simp only [hc] at h
  cases hx : toV1s s (args.map (ev s) ++ ex) with
  | none => simp [hx] at h
  | some ys =>
   simp only [hx, Option.some.injEq, Prod.mk.injEq] at h
   obtain ⟨rfl, rfl⟩ := h
   exact ⟨ex, rfl, hx⟩
theorem zbO {v : AV} {ex : List AV} (h : callee v = some (f, ex)) : ex.all (fun v => !v.isOwn) = true := by
 unfold callee at h
 split at h
 ·cases h; rfl
 ·cases h; simp [AV.isOwn]
 ·split at h
  ·cases h; simp [AV.isOwn]
  ·cases h
 ·cases h
theorem zdA {ex : List AV} (h : noOwn s args = true) (he : ex.all (fun v => !v.isOwn) = true) : (args.map (ev s) ++ ex).all (fun v => !v.isOwn) = true := by
 rw [List.all_append, he, Bool.and_true, List.all_map]; exact h
theorem CallSt.pureE {xs ys res : List V1} (h : SpecG E.dr P f ys res) (hx : toV1c s fo args = some (f, xs)) (he : eqV1s xs ys) (hr : res.all V1.flat = true) (hk : K (s.putO o.dst (resAV res))) : CallSt E P s o fo args K := by
 obtain ⟨ex, h1, h2⟩ := zaH hx
 rw [zag]; exact .inl ⟨[], f, ex, h1, by rw [zat]; exact .inl ⟨xs, res, h2, h.eqv he, .inl hr, hk⟩⟩
theorem CallSt.pure {xs res : List V1} (h : SpecG E.dr P f xs res) (hx : toV1c s fo args = some (f, xs)) (hr : res.all V1.flat = true) (hk : K (s.putO o.dst (resAV res))) : CallSt E P s o fo args K := by
 obtain ⟨ex, h1, h2⟩ := zaH hx
 rw [zag]; exact .inl ⟨[], f, ex, h1, by rw [zat]; exact .inl ⟨xs, res, h2, h, .inl hr, hk⟩⟩
theorem CallSt.ro {xs res : List V1} (h : SpecG E.dr P f xs res) (hx : toV1c s fo args = some (f, xs)) (hr : noOwn s args = true) (hk : K (s.putO o.dst (resAV res))) : CallSt E P s o fo args K := by
 obtain ⟨ex, h1, h2⟩ := zaH hx
 rw [zag]; exact .inl ⟨[], f, ex, h1, by rw [zat]; exact .inl ⟨xs, res, h2, h, .inr (zdA hr (zbO h1)), hk⟩⟩
theorem CallSt.fz (ids : List Nat) {xs res : List V1} (h : SpecG E.dr P f xs res) (hx : toV1c (s.freezes ids) fo args = some (f, xs)) (hr : noOwn (s.freezes ids) args = true) (hk : K ((s.freezes ids).putO o.dst (resAV res))) : CallSt E P s o fo args K := by
 obtain ⟨ex, h1, h2⟩ := zaH hx
 rw [zag]; exact .inl ⟨ids, f, ex, h1, by rw [zat]; exact .inl ⟨xs, res, h2, h, .inr (zdA hr (zbO h1)), hk⟩⟩
theorem CallSt.fzE (ids : List Nat) {xs ys res : List V1} (h : SpecG E.dr P f ys res) (hx : toV1c (s.freezes ids) fo args = some (f, xs)) (he : eqV1s xs ys) (hr : noOwn (s.freezes ids) args = true) (hk : K ((s.freezes ids).putO o.dst (resAV res))) : CallSt E P s o fo args K := by
 obtain ⟨ex, h1, h2⟩ := zaH hx
 rw [zag]; exact .inl ⟨ids, f, ex, h1, by rw [zat]; exact .inl ⟨xs, res, h2, h.eqv he, .inr (zdA hr (zbO h1)), hk⟩⟩
theorem CallSt.fzP (ids : List Nat) {xs ys res : List V1} (h : SpecG E.dr P f ys res) (hx : toV1c (s.freezes ids) fo args = some (f, xs)) (he : eqV1s xs ys) (hr : res.all V1.flat = true) (hk : K ((s.freezes ids).putO o.dst (resAV res))) : CallSt E P s o fo args K := by
 obtain ⟨ex, h1, h2⟩ := zaH hx
 rw [zag]; exact .inl ⟨ids, f, ex, h1, by rw [zat]; exact .inl ⟨xs, res, h2, h.eqv he, .inl hr, hk⟩⟩
theorem CallSt.own {xs : List V1} {d e k n : Nat} {g : Nat -> Nat -> D} (h : SpecOG E.dr P f xs e k n g) (hx : toV1c s fo args = some (f, xs)) (hd : o.dst = some d) (hg : ∀ m j, m < n -> j < k -> (g m j).flat = true) (hk : K (Go.Pg.mk s d (.row e k n g) (.own d))) : CallSt E P s o fo args K := by
 obtain ⟨ex, h1, h2⟩ := zaH hx
 rw [zag]; exact .inr (.inl ⟨[], f, ex, d, h1, hd, by rw [zaG]; exact ⟨xs, e, k, n, g, h2, h, hg, hk⟩⟩)
theorem CallSt.ownE {xs ys : List V1} {d e k n : Nat} {g : Nat -> Nat -> D} (h : SpecOG E.dr P f ys e k n g) (hx : toV1c s fo args = some (f, xs)) (he : eqV1s xs ys) (hd : o.dst = some d) (hg : ∀ m j, m < n -> j < k -> (g m j).flat = true) (hk : K (Go.Pg.mk s d (.row e k n g) (.own d))) : CallSt E P s o fo args K := by
 obtain ⟨ex, h1, h2⟩ := zaH hx
 rw [zag]; exact .inr (.inl ⟨[], f, ex, d, h1, hd, by rw [zaG]; exact ⟨xs, e, k, n, g, h2, h.eqv he, hg, hk⟩⟩)
end
abbrev I (n : Int) : D := .int .i64 n
structure Half where
  A : Int
  B : Int
  C : Int
  deriving DecidableEq, Inhabited
structure Corner where
  X : Int
  Y : Int
  Den : Int
  deriving DecidableEq, Inhabited
structure Place where
  X : Int
  Y : Int
  deriving DecidableEq, Inhabited
structure Frac where
  Num : Int
  Den : Int
  deriving DecidableEq, Inhabited
structure Use where
  H : Int
  T : Int
  deriving DecidableEq, Inhabited
abbrev Half.v (h : Half) : V1 := .agg [I h.A, I h.B, I h.C]
abbrev Corner.v (h : Corner) : V1 := .agg [I h.X, I h.Y, I h.Den]
abbrev Place.v (h : Place) : V1 := .agg [I h.X, I h.Y]
abbrev Frac.v (h : Frac) : V1 := .agg [I h.Num, I h.Den]
abbrev Use.v (h : Use) : V1 := .agg [I h.H, I h.T]
abbrev B (b : Bool) : V1 := .d (.bool b)
abbrev N (n : Int) : V1 := .d (I n)
structure Num where
  n : Int
  h : Half
  deriving DecidableEq, Inhabited
def Num.at (x : Num) : Nat -> D
 | 0 => I x.n
 | 1 => I x.h.A
 | 2 => I x.h.B
 | _ => I x.h.C
def Half.at (h : Half) : Nat -> D
 | 0 => I h.A
 | 1 => I h.B
 | _ => I h.C
def Corner.at (h : Corner) : Nat -> D
 | 0 => I h.X
 | 1 => I h.Y
 | _ => I h.Den
def Place.at (h : Place) : Nat -> D
 | 0 => I h.X
 | _ => I h.Y
def Use.at (h : Use) : Nat -> D
 | 0 => I h.H
 | _ => I h.T
abbrev slH (l : List Half) : V1 := .d (.slc 3 l.length fun i => (l.getD i default).at)
abbrev slC (l : List Corner) : V1 := .d (.slc 3 l.length fun i => (l.getD i default).at)
abbrev slP (l : List Place) : V1 := .d (.slc 2 l.length fun i => (l.getD i default).at)
abbrev slU (l : List Use) : V1 := .d (.slc 2 l.length fun i => (l.getD i default).at)
abbrev slN (l : List Num) : V1 := .d (.slc 4 l.length fun i => (l.getD i default).at)
abbrev slI (l : List Int) : V1 := .d (.slc 1 l.length fun i _ => I (l.getD i 0))
end Go.Pg
namespace Go.Pg
open Go.RowKit Go.Proofs Go.Shelf Go.Sort Go.Lib
theorem zgo {P : Program} {ρ : Ren} (L : Lays.n264 P ρ) (hent : Ent P (ρ.f 264)) (x y : Nat) (hx : x < 18446744073709551616) (hy : y < 18446744073709551616) :
  SpecD P (ρ.f 264) [.d (.int .u64 x), .d (.int .u64 y)] [.d (.int .u64 ((x * y / 18446744073709551616 : Nat) : Int)), .d (.int .u64 ((x * y % 18446744073709551616 : Nat) : Int))] := by
 refine ⟨hent, fun w ok vs hok h => ?_⟩
 cases h with
 | cons h1 h2 =>
 cases h2 with
 | cons h2 h3 =>
 cases h3
 rename_i u v
 have hu : u = .int .u64 x := h1
 have hv : v = .int .u64 y := h2
 subst hu; subst hv
 refine (Any.bits_Mul64 L x y hx hy w).mono ?_
 rintro e w' ⟨rfl, rfl⟩
 exact ⟨_, rfl, ⟨Below.refl _ _, fun _ => Nat.le_refl _⟩, [_, _], rfl, .cons rfl (.cons rfl .nil)⟩
section
variable {α : Type} [Inhabited α] {k : Nat} (A : Ints α k)
theorem zkt (w : World) : grow w #[] = w := by simp [grow]
theorem zjL (w : World) (g n : Nat) (l : List α) : putRowK A.enc k (Sort.ahead w n) g 0 l.toArray = sortWorldK A.enc k w g 0 n l.toArray #[] := by
 unfold sortWorldK; rw [zkt]
theorem zeV {P : Program} {ρ : Ren} (L : SlLaysE0.n35 P ρ) (hent : Ent P (ρ.f 35)) (aE : ∀ w, (isAgg (ρ.t 23)).run P w = .ok true w) (zE : ∀ w, (Go.sizeOf (ρ.t 23)).run P w = .ok k w) (e : TypeId) (l : List α) (hn : l.length <= 1000000) :
  SpecR P (ρ.f 35) [] [] e k l.length (A.row l) (A.row l.reverse) [] := by
 refine ⟨hent, fun w ok vs us v xs hok h1 h2 hr => ?_⟩
 cases h1
 cases h2
 by_cases h0 : l = []
 ·subst h0
  obtain ⟨p, cap, rfl⟩ : ∃ p cap, v = .slice p 0 cap := by
   rcases hr.own.2 with ⟨h3, _⟩ | ⟨q, cap, cur, h3, _⟩
   ·exact ⟨_, _, h3⟩
   ·exact ⟨_, _, h3⟩
  refine (AnyQ.slices_Reverse_empty L p cap w).mono ?_
  rintro en w' ⟨rfl, rfl⟩
  exact ⟨_, rfl, ⟨rfl, rfl, rfl, Nat.le_refl _, fun _ _ _ => rfl⟩, ⟨[], rfl, .nil⟩, xs, hr.own, hr.one, fun m hm => absurd hm (Nat.not_lt_zero _)⟩
 ·rcases hr.own.2 with ⟨_, h4⟩ | ⟨q, cap, cur, rfl, _, hh, hnc, hcap, hcs, htk⟩
  ·exact absurd (List.length_eq_zero_iff.1 h4) h0
  ·have hH := A.holds (cap := cap) hh htk hr.rep
   have hrun := AnyQ.slices_Reverse L k aE zE A.enc A.enc_len A.enc_one q 0 cap l.toArray w hH (by simp; omega)
   simp only [List.size_toArray] at hrun
   refine hrun.mono ?_
   rintro en w' ⟨rfl, m, rfl⟩
   have hlen : l.reverse.length = l.length := by simp
   obtain ⟨p1, xs', p2, p3, p4⟩ := A.put m l.reverse #[] hh (by rw [hlen]; exact hnc) hcap hcs
   rw [hlen] at p2 p4
   rw [show l.toArray.reverse = l.reverse.toArray by simp, zjL A]
   exact ⟨_, rfl, p1, ⟨[], rfl, .nil⟩, xs', p2, p3, p4⟩
end
def I1 : Ints Int 1 where
  lst x := [x]
  len _ := rfl
  at_ x j := .int .i64 x
  hat x j hj := by
    have : j = 0 := by omega
    subst this; rfl
theorem zll (d : Array Int) : flatK I1.enc 1 d = d.map (Value.int .i64) := by
 apply Array.ext
 ·rw [I1.flat_size]; simp
 ·intro t h1 h2
  have h3 : t < d.size * 1 := by rw [I1.flat_size] at h1; exact h1
  have h4 : t < d.size := by omega
  have := I1.flat_get d h3
  rw [getElem!_pos _ t h1] at this
  rw [this]
  simp [I1, Nat.mod_one, h4]
theorem znc {w : World} {g : Nat} {d : Array Int} : HoldsK I1.enc 1 w g 0 d ↔ Go.Sort.Holds (Value.int .i64) w g 0 d := by
 unfold HoldsK
 rw [zll]
 unfold Go.Sort.Holds
 simp only [Array.size_map]
 refine forall_congr' fun j => forall_congr' fun hj => ?_
 rw [getElem!_pos (d.map _) j (by simpa using hj), getElem!_pos d j hj]
 simp
theorem zq5 (w : World) (g : Nat) (d : Array Int) : putRow (Value.int .i64) w g 0 d = putRowK I1.enc 1 w g 0 d := by
 unfold putRowK putRow
 rw [zll]
 congr 1
 funext cur
 unfold putCells
 simp only [Array.size_map]
 congr 1
 funext i v
 split
 ·rename_i h
  rw [getElem!_pos (d.map _) (i - 0) (by simp; omega), getElem!_pos d (i - 0) (by omega)]
  simp
 ·rfl
theorem zfy {P : Program} {ρ : Ren} (L : SlLaysN.n45 P ρ) (hent : Ent P (ρ.f 45)) (e : TypeId) (l : List Int) (i j : Nat) (hij : i < j) (hj : j <= l.length) :
  SpecT P (ρ.f 45) [] [.d (.int .i64 i), .d (.int .i64 j)] e 1 l.length (I1.row l) (l.take i ++ l.drop j).length (I1.row (l.take i ++ l.drop j)) := by
 refine ⟨hent, fun w ok vs us v xs hok h1 h2 hr => ?_⟩
 cases h1
 cases h2 with
 | cons h2 h3 =>
 cases h3 with
 | cons h3 h4 =>
 cases h4
 rename_i a b
 have ha : a = .int .i64 i := h2
 have hb : b = .int .i64 j := h3
 subst ha; subst hb
 have hl2 : (l.take i ++ l.drop j).length = l.length - (j - i) := by simp; omega
 rcases hr.own.2 with ⟨h4, h5⟩ | ⟨q, cap, cur, rfl, _, hh, hnc, hcap, hcs, htk⟩
 ·omega
 ·have hH := znc.1 (I1.holds (cap := cap) hh htk hr.rep)
  have hrun := AnyG.slices_Delete_int L q 0 cap i j l w hH hnc (by unfold maxLen at hcap; omega) (by omega) hj
  refine hrun.mono ?_
  rintro en w' ⟨rfl, m, rfl⟩
  have hlen : (l.take i ++ l.drop j ++ List.replicate (j - i) 0).length = l.length := by simp; omega
  obtain ⟨p1, xs', p2, p3, p4⟩ := I1.put m (l.take i ++ l.drop j ++ List.replicate (j - i) 0) #[] hh (by rw [hlen]; exact hnc) hcap hcs
  rw [hlen] at p2 p4
  rw [zq5, zjL I1]
  rw [hl2]
  rcases p2.2 with ⟨h6, h7⟩ | ⟨q', cap', cur', h6, h7, h8, h9, h10, h11, h12⟩
  ·cases h6
  ·obtain ⟨rfl, rfl⟩ : q = q' /\ cap = cap' := by simpa using h6
   refine ⟨_, rfl, p1, fun b hb => .inl hb, xs'.take ((l.length - (j - i)) * 1), ⟨by rw [List.length_take, p2.1]; omega, .inr ⟨q, cap, cur', rfl, h7, h8, by omega, h10, h11, by rw [<- h12, List.take_take]; congr 1; omega⟩⟩, fun u hu => p3 u (List.mem_of_mem_take hu), fun m' hm' j' hj' => ?_⟩
   obtain ⟨u, hu, hrep⟩ := p4 m' (by omega) j' hj'
   refine ⟨u, by rw [List.getElem?_take, if_pos (by omega)]; exact hu, ?_⟩
   have : I1.row (l.take i ++ l.drop j ++ List.replicate (j - i) 0) m' j' = I1.row (l.take i ++ l.drop j) m' j' := by
    unfold Ints.row
    rw [List.getD_eq_getElem?_getD, List.getD_eq_getElem?_getD, List.getElem?_append_left (by rw [hl2]; exact hm')]
   rw [<- this]; exact hrep
end Go.Pg
namespace Go.Pg
open Go.RowKit Go.ChangeShapes Go.WideShapes Go.Deep
section
variable {H : Type} {enc : TypeId × Value -> H} {P : Program} {w : World} {base : Nat} {spare : Nat -> Bool} {held : Bool}
theorem zpA {n : Int} (h : (Lit.int .i64 n).wf = true) : -9223372036854775808 <= n /\ n <= 9223372036854775807 := by
 have h : (decide (IntKind.min .i64 <= n) && decide (n <= IntKind.max .i64)) = true := h
 simp only [Bool.and_eq_true, decide_eq_true_eq] at h
 exact h
def IntFs (P : Program) (fs : Array Field) : Prop := ∀ (j : Nat) (f : Field), fs[j]? = some f -> P.underlying f.type = some (.int .i64)
theorem open_aggI {r : Reach} {b0 : Nat} {t : TypeId} {fs : Array Field} {v : Value} {d : DataW H} {p : List MemPlace} (hs : P.underlying t = some (.struct fs)) (hone : oneCellFields P fs = true) (hC : P.cellsOf t = fs.size) (hI : IntFs P fs)
  (hv : Value.okWide P w r b0 t v) (h : DataW.Trod enc P w base spare held t v d p) :
  ∃ ns : List Int, ns.length = fs.size /\ (∀ n ∈ ns, -9223372036854775808 <= n /\ n <= 9223372036854775807) /\ v = .agg (ns.map (Value.int .i64)).toArray := by
 obtain ⟨cs, rfl, hsz⟩ := okWide_struct hs hv
 obtain ⟨l⟩ := cs
 have hl : l.length = fs.size := by simpa [hC] using hsz
 obtain ⟨fuel, hf⟩ := h
 obtain ⟨xs, n, _, hx, _, hlen, hg⟩ := DataW.trod_struct hs hf
 have key : ∀ j, j < l.length -> ∃ n : Int, l[j]? = some (.int .i64 n) /\ (Lit.int .i64 n).wf = true := fun j hj => by
  have hjf : fs[j]? = some (fs[j]'(by omega)) := Array.getElem?_eq_getElem (by omega)
  obtain ⟨o0, k0⟩ := hone_of hone j _ hjf
  have h1 := hg j _ hjf
  rw [o0, k0] at h1
  have hxs : xs[j]? = some (xs[j]'(by omega)) := List.getElem?_eq_getElem (by omega)
  rw [hxs] at h1
  obtain ⟨n, hc, _, hw⟩ := DataW.trod_int (hI j _ hjf) h1
  refine ⟨n, ?_, hw⟩
  have : (l.drop j).take 1 = [.int .i64 n] := by simpa [Value.cells] using hc
  rw [List.drop_eq_getElem_cons hj] at this
  have h3 : l[j] = Value.int .i64 n := (List.cons.inj this).1
  rw [List.getElem?_eq_getElem hj, h3]
 have : ∀ l : List Value, (∀ j, j < l.length -> ∃ n : Int, l[j]? = some (.int .i64 n) /\ (Lit.int .i64 n).wf = true) -> ∃ ns : List Int, ns.length = l.length /\ (∀ n ∈ ns, -9223372036854775808 <= n /\ n <= 9223372036854775807) /\ l = ns.map (Value.int .i64) := by
  intro l
  induction l with
  | nil => intro _; exact ⟨[], rfl, by simp, rfl⟩
  | cons u r ih =>
   intro hk
   obtain ⟨n, h1, h2⟩ := hk 0 (by simp)
   obtain ⟨ns, h3, h4, h5⟩ := ih fun j hj => by simpa using hk (j + 1) (by simpa using hj)
   refine ⟨n :: ns, by simp [h3], fun m hm => ?_, ?_⟩
   ·rcases List.mem_cons.1 hm with rfl | hm
    ·exact zpA h2
    ·exact h4 m hm
   ·simp only [List.getElem?_cons_zero, Option.some.injEq] at h1
    rw [h1, h5]; rfl
 obtain ⟨ns, h1, h2, h3⟩ := this l key
 exact ⟨ns, by omega, h2, by rw [h3]⟩
theorem all2I {ok : Nat -> Prop} (ns : List Int) : All2 (Rep w ok) (ns.map I) (ns.map (Value.int .i64)) := by
 induction ns with
 | nil => exact .nil
 | cons n r ih => exact .cons rfl ih
end
section
variable {w : World} {ok : Nat -> Prop} {len : Nat} {g : Nat -> Nat -> Int} {v : Value}
theorem rep_aggI (ns : List Int) : Rep1 w ok (.agg (ns.map I)) (.agg (ns.map (Value.int .i64)).toArray) := ⟨_, rfl, all2I ns⟩
end
inductive Sh where
  | int (k : IntKind)
  | sl (k : Nat) (f : Nat -> Sh)
def Fits : Sh -> D -> Prop
 | .int k, x => ∃ n : Int, (k.min <= n /\ n <= k.max) /\ x = .int k n
 | .sl k s, x => ∃ (n : Nat) (f : Nat -> Nat -> D), x = .slc k n f /\ n <= maxLen /\ ∀ i, i < n -> ∀ j, j < k -> Fits (s j) (f i j)
def GdS (w : World) (s : Sh) (v : Value) : Prop := ∃ x : D, Rep w (fun b => b < w.heap.size) x v /\ Fits s x
def shFs (cells : TypeId -> Nat) (g : TypeId -> Option (List Sh)) : Nat -> List Field -> Option (List Sh)
 | _, [] => some []
 | off, f :: r => (g f.type).bind fun a => bif f.offset == off && a.length == cells f.type then (shFs cells g (off + a.length) r).map fun b => a ++ b else none
def shSt (P : Program) (g : TypeId -> Option (List Sh)) (t : TypeId) (fs : Array Field) : Option (List Sh) := (shFs P.cellsOf g 0 fs.toList).bind fun ks => bif ks.length == P.cellsOf t then some ks else none
def shSl (P : Program) (g : TypeId -> Option (List Sh)) (e : TypeId) : Option (List Sh) := (g e).bind fun ks => bif ks.length == P.cellsOf e then some [.sl ks.length fun j => getD' ks j] else none
where getD' : List Sh -> Nat -> Sh
 | [], _ => .int .i64
 | x :: _, 0 => x
 | _ :: r, j + 1 => getD' r j
def shOf (P : Program) : Nat -> TypeId -> Option (List Sh)
 | 0, _ => none
 | n + 1, t => match P.underlying t with
  | some (.int k) => some [.int k]
  | some (.slice e) => shSl P (shOf P n) e
  | some (.struct fs) => shSt P (shOf P n) t fs
  | _ => none
theorem zlD {l : List Sh} {j : Nat} (h : j < l.length) : l[j]? = some (shSl.getD' l j) := by
 induction l generalizing j with
 | nil => cases h
 | cons x r ih => cases j with
  | zero => rfl
  | succ j => simpa [shSl.getD'] using ih (by simpa using h)
theorem All2.app' {α β : Type} {R : α -> β -> Prop} {a c : List α} {b d : List β} (h1 : All2 R a b) (h2 : All2 R c d) : All2 R (a ++ c) (b ++ d) := by
 induction h1 with
 | nil => exact h2
 | cons h _ ih => exact .cons h ih
theorem zpi {w : World} {a : Addr} {v : Value} (h : w.cell? a = some v) : a.block < w.heap.size := by
 rcases Nat.lt_or_ge a.block w.heap.size with h1 | h1
 ·exact h1
 ·simp only [World.cell?, Array.getElem?_eq_none h1] at h
  cases h
theorem znM {k : IntKind} {n : Int} (h : (Lit.int k n).wf = true) : k.min <= n /\ n <= k.max := by
 have h : (decide (IntKind.min k <= n) && decide (n <= IntKind.max k)) = true := h
 simp only [Bool.and_eq_true, decide_eq_true_eq] at h
 exact h
section
variable {H : Type} {enc : TypeId × Value -> H} {P : Program} {w : World} {base : Nat} {spare : Nat -> Bool} {held : Bool}
theorem zfE {g : TypeId -> Option (List Sh)} {n : Nat} {cs : List Value}
  (ih : ∀ t ks, g t = some ks -> ∀ cs x, DataW.trod enc P w base spare held n t cs = some x -> All2 (GdS w) ks cs) :
  ∀ (r : List Field) (off : Nat) (ks : List Sh), shFs P.cellsOf g off r = some ks -> (∀ f ∈ r, ∃ x, DataW.trod enc P w base spare held n f.type ((cs.drop f.offset).take (P.cellsOf f.type)) = some x) -> All2 (GdS w) ks ((cs.drop off).take ks.length)
 | [], off, ks, h, _ => by
  simp only [shFs, Option.some.injEq] at h
  subst h
  exact .nil
 | f :: r, off, ks, h, hx => by
  unfold shFs at h
  obtain ⟨a, ha, h⟩ := Option.bind_eq_some_iff.1 h
  cases hc : f.offset == off && a.length == P.cellsOf f.type with
  | false => rw [hc] at h; cases h
  | true =>
   rw [hc] at h
   obtain ⟨b, hb, rfl⟩ := Option.map_eq_some_iff.1 (show (shFs P.cellsOf g (off + a.length) r).map (fun b => a ++ b) = some ks from h)
   simp only [Bool.and_eq_true, beq_iff_eq] at hc
   obtain ⟨x, h1⟩ := hx f (List.mem_cons_self ..)
   rw [hc.1, <- hc.2] at h1
   have g1 := ih _ _ ha _ _ h1
   have g2 := zfE ih r (off + a.length) b hb fun f hf => hx f (List.mem_cons_of_mem _ hf)
   rw [List.length_append, List.take_add, List.drop_drop]
   exact g1.app' g2
theorem zeY : ∀ (n : Nat) (t : TypeId) (ks : List Sh), shOf P n t = some ks -> ∀ (fuel : Nat) (cs : List Value) (x : DataW H × List MemPlace), DataW.trod enc P w base spare held fuel t cs = some x -> All2 (GdS w) ks cs
 | 0, _, _, h, _, _, _, _ => by cases h
 | n + 1, t, ks, h, fuel, cs, x, ht => by
  unfold shOf at h
  split at h
  ·rename_i k hu
   simp only [Option.some.injEq] at h
   subst h
   obtain ⟨m, rfl, _, hw⟩ := DataW.trod_int hu ht
   exact .cons ⟨.int k m, rfl, m, znM hw, rfl⟩ .nil
  ·rename_i e hu
   unfold shSl at h
   obtain ⟨ks', hk, h⟩ := Option.bind_eq_some_iff.1 h
   cases hc : ks'.length == P.cellsOf e with
   | false => rw [hc] at h; cases h
   | true =>
    rw [hc] at h
    simp only [cond_true, Option.some.injEq] at h
    subst h
    have hc := beq_iff_eq.1 hc
    obtain ⟨v, rfl⟩ : ∃ v, cs = [v] := by
     rcases open_slice hu ht with ⟨rfl, _⟩ | ⟨ad, len, cap, m, n', D, Pl, rfl, _⟩
     ·exact ⟨_, rfl⟩
     ·exact ⟨_, rfl⟩
    refine .cons ?_ .nil
    rcases open_slice hu ht with ⟨h1, _⟩ | ⟨ad, len, cap, m, n', D, Pl, h1, hb, hl, hm, hmm, hx, hi⟩
    ·cases h1
     exact ⟨.slc ks'.length 0 fun _ _ => .nil, .inl ⟨rfl, rfl⟩, 0, _, rfl, by unfold maxLen; omega, fun i hi => absurd hi (Nat.not_lt_zero _)⟩
    ·cases h1
     have key : ∀ i, i < len -> ∀ j, j < ks'.length -> ∃ v, w.cell? (ad.add (i * ks'.length + j)) = some v /\ GdS w (shSl.getD' ks' j) v := fun i him j hjl => by
      obtain ⟨cs', hcc, ht'⟩ := hi i (by rw [hmm]; split <;> omega)
      have hg := zeY n e ks' hk _ _ _ ht'
      obtain ⟨_, hcl, hat⟩ := World.cells?_some hcc
      obtain ⟨v, hv, hgv⟩ := hg.get j _ (zlD hjl)
      refine ⟨v, ?_, hgv⟩
      rw [<- Go.Deep.add_add, hc]
      rw [hat j (by omega)]; exact hv
     refine ⟨.slc ks'.length len fun i j => if h : i < len /\ j < ks'.length then Classical.choose (Classical.choose_spec (key i h.1 j h.2)).2 else .nil, .inr ⟨ad, cap, rfl, hl, hm, fun i hi j hj => ?_⟩, len, _, rfl, by omega, fun i hi j hj => ?_⟩
     ·have hs := Classical.choose_spec (key i hi j hj)
      have hs2 := Classical.choose_spec hs.2
      refine ⟨?_, _, hs.1, ?_⟩
      ·have := zpi hs.1
       rwa [zay] at this
      ·dsimp only; rw [dif_pos ⟨hi, hj⟩]; exact hs2.1
     ·dsimp only; rw [dif_pos ⟨hi, hj⟩]
      exact (Classical.choose_spec (Classical.choose_spec (key i hi j hj)).2).2
  ·rename_i fs hu
   unfold shSt at h
   obtain ⟨ks', hk, h⟩ := Option.bind_eq_some_iff.1 h
   cases hc : ks'.length == P.cellsOf t with
   | false => rw [hc] at h; cases h
   | true =>
    rw [hc] at h
    simp only [cond_true, Option.some.injEq] at h
    subst h
    obtain ⟨xs, m, rfl, _, hl, hlen, hf⟩ := DataW.trod_struct hu ht
    have key := zfE (cs := cs) (n := m) (fun t ks h cs x hx => zeY n t ks h m cs x hx) fs.toList 0 ks' hk fun f hf' => by
     obtain ⟨i, hi, rfl⟩ := List.getElem_of_mem hf'
     have hi' : i < fs.size := by simpa using hi
     have h1 := hf i fs[i] (Array.getElem?_eq_getElem hi')
     rw [List.getElem?_eq_getElem (show i < xs.length by omega)] at h1
     exact ⟨_, by simpa using h1⟩
    rw [List.drop_zero, List.take_of_length_le (by have := beq_iff_eq.1 hc; omega)] at key
    exact key
  ·cases h
theorem zdJ : ∀ {ks : List Sh} {cs : List Value}, All2 (GdS w) ks cs -> ∃ xs : List D, All2 (Rep w (fun b => b < w.heap.size)) xs cs /\ All2 Fits ks xs
 | [], [], .nil => ⟨[], .nil, .nil⟩
 | _ :: _, _ :: _, .cons ⟨x, h1, h2⟩ h => by
  obtain ⟨xs, h3, h4⟩ := zdJ h
  exact ⟨x :: xs, .cons h1 h3, .cons h2 h4⟩
theorem openS {r : Reach} {b0 : Nat} (n : Nat) {t : TypeId} {fs : Array Field} {ks : List Sh} {v : Value} {d : DataW H} {p : List MemPlace} (hs : P.underlying t = some (.struct fs)) (hk : shOf P n t = some ks)
  (hv : Value.okWide P w r b0 t v) (h : DataW.Trod enc P w base spare held t v d p) : ∃ xs : List D, Rep1 w (fun b => b < w.heap.size) (.agg xs) v /\ All2 Fits ks xs := by
 obtain ⟨cs, rfl, hsz⟩ := okWide_struct hs hv
 obtain ⟨fuel, hf⟩ := h
 obtain ⟨xs, h1, h2⟩ := zdJ (zeY n t ks hk fuel _ _ (by simpa [Value.cells] using hf))
 exact ⟨xs, ⟨cs.toList, by simp, h1⟩, h2⟩
theorem openL {r : Reach} {b0 : Nat} (n : Nat) {t e : TypeId} {ks : List Sh} {v : Value} {d : DataW H} {p : List MemPlace} (hs : P.underlying t = some (.slice e)) (hk : shOf P (n + 1) t = some ks)
  (hv : Value.okWide P w r b0 t v) (h : DataW.Trod enc P w base spare held t v d p) : ∃ x : D, Rep1 w (fun b => b < w.heap.size) (.d x) v /\ All2 Fits ks [x] := by
 obtain ⟨a, len, cap, rfl⟩ := okWide_slice hs hv
 obtain ⟨fuel, hf⟩ := h
 obtain ⟨xs, h1, h2⟩ := zdJ (zeY (n + 1) t ks hk fuel _ _ (by simpa [Value.cells] using hf))
 cases h1 with
 | cons h h' => cases h'; exact ⟨_, h, h2⟩
end
theorem fitsL {α : Type} [Inhabited α] {k : Nat} {at_ : α -> Nat -> D} {s : Nat -> Sh} {x : D} (mkα : (Nat -> Int) -> α) (hi : ∀ j, j < k -> s j = .int .i64) (hk : ∀ g : Nat -> Int, ∀ j, j < k -> at_ (mkα g) j = I (g j)) (h : Fits (.sl k s) x) :
  ∃ l : List α, l.length <= maxLen /\ (∀ a ∈ l, ∃ g : Nat -> Int, a = mkα g /\ ∀ j, j < k -> -9223372036854775808 <= g j /\ g j <= 9223372036854775807) /\ D.eqv x (.slc k l.length fun i => at_ (l.getD i default)) := by
 obtain ⟨n, f, rfl, hn, hf⟩ := h
 have key : ∀ i, i < n -> ∀ j, j < k -> ∃ z : Int, (-9223372036854775808 <= z /\ z <= 9223372036854775807) /\ f i j = I z := fun i hi' j hj => by
  have h1 := hf i hi' j hj
  rw [hi j hj] at h1
  exact h1
 let g : Nat -> Nat -> Int := fun i j => if h : i < n /\ j < k then Classical.choose (key i h.1 j h.2) else 0
 have hg : ∀ i, i < n -> ∀ j, j < k -> (-9223372036854775808 <= g i j /\ g i j <= 9223372036854775807) /\ f i j = I (g i j) := fun i hi' j hj => by
  have e : g i j = Classical.choose (key i hi' j hj) := dif_pos ⟨hi', hj⟩
  rw [e]
  exact Classical.choose_spec (key i hi' j hj)
 refine ⟨(List.range n).map fun i => mkα (g i), by simpa using hn, fun a ha => ?_, by simp, .inr ⟨rfl, fun i hi' j hj => ?_⟩⟩
 ·obtain ⟨i, hi', rfl⟩ := List.mem_map.1 ha
  exact ⟨g i, rfl, fun j hj => (hg i (List.mem_range.1 hi') j hj).1⟩
 ·have e : ((List.range n).map fun i => mkα (g i)).getD i default = mkα (g i) := by
   rw [List.getD_eq_getElem?_getD, List.getElem?_map, List.getElem?_range hi']; rfl
  show D.eqv (f i j) (at_ (((List.range n).map fun i => mkα (g i)).getD i default) j)
  rw [e, hk _ j hj, (hg i hi' j hj).2]
  exact ⟨rfl, rfl⟩
end Go.Pg
namespace Go.Pg
def sT := @Split.tt
def sF := @Split.ff
def bY := @Split.by
def cP := @CallSt.pure
def oP := @CallOb.pure
def gdq := @List.getD_eq_getElem?_getD
def dE := @D.eqv_refl
def gqe := @List.getElem?_eq_getElem
end Go.Pg
