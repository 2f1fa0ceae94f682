/- Texts joined and shortened by program. -/
import Derived.Test.YtcgifildhmkdfaaGreatJ4
import Derived.Shelf.SlLaysE0
import Derived.Shelf.RegionOpenPlain
import Derived.WalkKit
import Derived.Deep.LoopGhost
import Derived.Deep.RegionLaw
import Derived.Lib.Walk
import Derived.Sort.WalkB12
import Derived.Lib.SliceRun
import Derived.Lib.SlicesDelete
import Derived.Test.YtcgifildhmkdfaaGreatJD
import Derived.Test.YtcgifildhmkdfaaGreatJ8
import Derived.Test.YtcgifildhmkdfaaGreatJA
import Derived.Test.YtcgifildhmkdfaaGreatJC
set_option linter.all false
namespace Go.Pg
open Go.Proofs Go.Shelf Go.RowKit Go.Lib Go.Sort
variable {P : Program} {ρ : Ren}
theorem run_clearK (w : World) (t e ty : TypeId) (z : Value) (ht : P.underlying t = some (.slice e)) (hv : ∀ w, (zeroValue e).run P w = .ok z w) (b o n c : Nat) (zs : List Value) (hzs : (Builtin.zeroCells z.cells n).toList = zs) (ho : ∀ v ∈ zs, v.oneCell' = true) (hn : 0 < n)
  (hc : ∀ j, j < zs.length → (w.cell? ⟨b, o + j, none⟩).isSome = true) (hf : ∀ j, j < zs.length → w.frozen? ⟨b, o + j, none⟩ = false) :
  (Builtin.clear_ #[t] ty #[.slice (some ⟨b, o, none⟩) n c]).run P w = .ok (.tuple #[]) (w.setCells b o zs) := by
 have hst := run_storeCells_cells (P := P) b o zs 0 w (by simpa using hc) (by simpa using hf) ho
 simp only [Nat.add_zero] at hst
 obtain ⟨m, rfl⟩ : ∃ m, n = m + 1 := ⟨n - 1, by omega⟩
 simp [Builtin.clear_, run_underlying ht, hv, hzs, hst]
theorem lay2_arr (d : Array Value) (i j : Nat) (t : List Value) (hij : i ≤ j) (hj : j ≤ d.size) (ht : t.length = j - i) :
  lay (lay d i (d.toList.drop j)) (i + (d.size - j)) t = (d.toList.take i ++ d.toList.drop j ++ t).toArray := by
 apply Array.ext_getElem?
 intro u
 have l1 : (d.toList.take i).length = i := by simp; omega
 have l2 : (d.toList.drop j).length = d.size - j := by simp
 rw [lay_get? _ _ _ _ (by rw [lay_size]; omega), lay_get? _ _ _ _ (by rw [l2]; omega), show (d.toList.take i ++ d.toList.drop j ++ t).toArray[u]? = (d.toList.take i ++ d.toList.drop j ++ t)[u]? from by simp]
 simp only [l2, ht]
 by_cases c1 : u < i
 ·rw [if_neg (by omega), if_neg (by omega), List.getElem?_append_left (by simp; omega), List.getElem?_append_left (by omega), List.getElem?_take, if_pos c1, Array.getElem?_toList]
 ·by_cases c2 : u < i + (d.size - j)
  ·rw [if_neg (by omega), if_pos (by omega), List.getElem?_append_left (by simp; omega), List.getElem?_append_right (by omega), l1]
  ·rw [List.getElem?_append_right (by simp; omega)]
   simp only [List.length_append, l1, l2]
   by_cases c3 : u < d.size
   ·rw [if_pos (by omega)]
   ·rw [if_neg (by omega), if_neg (by omega), Array.getElem?_eq_none (by omega), List.getElem?_eq_none (by omega)]
set_option maxHeartbeats 4000000 in
set_option maxRecDepth 1000000 in
theorem delK_arr (L : SlLaysE0.n45 P ρ) {k : Nat} (hk : 0 < k) (a23 : ∀ w, (isAgg (ρ.t 23)).run P w = .ok true w) (z23 : ∀ w, (Go.sizeOf (ρ.t 23)).run P w = .ok k w) (i0 : TypeInfo) (hi0 : P.info? (ρ.t 23) = some i0) (hz1 : i0.size = k)
  (z : Value) (v23 : ∀ w, (zeroValue (ρ.t 23)).run P w = .ok z w) (zs : List Value) (blk off cap i j n : Nat) (hzs : (Builtin.zeroCells z.cells (j - i)).toList = zs) (hzl : zs.length = (j - i) * k) (hzo : ∀ v ∈ zs, v.oneCell' = true)
  (D : Array Value) (hD : D.size = n * k) (hDo : ∀ v ∈ D.toList, v.oneCell' = true) (w : World) (hH : Go.Sort.Holds id w blk off D) (hcap : n ≤ cap) (hm : cap ≤ 9223372036854775807) (hij : i < j) (hj : j ≤ n) :
  Calls P (ρ.f 45) #[.slice (some ⟨blk, off, none⟩) n cap, .int .i64 i, .int .i64 j] w fun e w' => e = .returned (.slice (some ⟨blk, off, none⟩) (n - (j - i)) cap) ∧ ∃ q, w' = putRow id (Sort.ahead w q) blk off (D.toList.take (i * k) ++ D.toList.drop (j * k) ++ zs).toArray := by
 have mixed := L.mixed; have t0 := L.t0; have a0 := L.a0; have z0 := L.z0; have v0 := L.v0; have t3 := L.t3; have a3 := L.a3; have z3 := L.z3; have v3 := L.v3; have t4 := L.t4; have a4 := L.a4; have z4 := L.z4; have v4 := L.v4; have t22 := L.t22; have a22 := L.a22; have z22 := L.z22; have v22 := L.v22
 have b1 : i * k ≤ j * k := Nat.mul_le_mul_right k (by omega)
 have b2 : j * k ≤ n * k := Nat.mul_le_mul_right k hj
 have b3 : (n - j) * k = n * k - j * k := Nat.sub_mul n j k
 have b4 : (j - i) * k = j * k - i * k := Nat.sub_mul j i k
 have b5' : (i + (n - j)) * k = i * k + (n * k - j * k) := by rw [Nat.add_mul, b3]
 have b5 : Hid ((i + (n - j)) * k = i * k + (n * k - j * k)) := b5'
 obtain ⟨news, hnews⟩ : ∃ news, news = D.toList.drop (j * k) := ⟨_, rfl⟩
 have hlen : news.length = (n - j) * k := by rw [hnews, List.length_drop, Array.length_toList, hD, b3]
 have hget : ∀ t, t < (n - j) * k → news[t]? = some D[j * k + t]! := by
  intro t ht
  rw [hnews, List.getElem?_drop, Array.getElem?_toList, getElem!_pos D (j * k + t) (by omega), Array.getElem?_eq_getElem (by omega)]
 obtain ⟨A, hA, hsrc⟩ : ∃ A : Addr, (if cap = j then some (⟨blk, off, none⟩ : Addr) else some ⟨blk, off + j * k, none⟩) = some A ∧ Hid (∀ t u, news[t]? = some u → w.drew.cell? (A.add t) = some u) := by
  by_cases h : cap = j
  ·refine ⟨⟨blk, off, none⟩, by simp [h], fun t u hu => ?_⟩
   have h0 : news.length = 0 := by rw [hlen, show n - j = 0 by omega, Nat.zero_mul]
   rw [List.length_eq_zero_iff.1 h0] at hu
   simp at hu
  ·refine ⟨⟨blk, off + j * k, none⟩, by simp [h], fun t u hu => ?_⟩
   have ht : t < (n - j) * k := by
    have := (List.getElem?_eq_some_iff.1 hu).1
    rwa [hlen] at this
   rw [hget t ht] at hu
   rw [Addr.add_lit, show off + j * k + t = off + (j * k + t) by omega]
   exact (hH (j * k + t) (by omega)).1.trans hu
 have s1 : Hid (news.length = (n - j) * k) := hlen
 have s2 : Hid (∀ u ∈ news, u.oneCell' = true) := by
  intro u hu
  rw [hnews] at hu
  exact hDo u (List.mem_of_mem_drop hu)
 have s3 : Hid (∀ t, t < news.length → (w.drew.cell? ⟨blk, off + i * k + t, none⟩).isSome = true ∧ w.drew.frozen? ⟨blk, off + i * k + t, none⟩ = false) := by
  intro t ht
  rw [hlen, b3] at ht
  rw [Nat.add_assoc]
  exact ⟨by show (w.cell? _).isSome = true; rw [(hH (i * k + t) (by omega)).1]; rfl, (hH (i * k + t) (by omega)).2⟩
 obtain ⟨W1, hW1⟩ : ∃ W1, W1 = w.drew.setCells blk (off + i * k) news := ⟨_, rfl⟩
 have hW1' : W1 = putRow id (Sort.ahead w 1) blk off (lay D (i * k) (D.toList.drop (j * k))) := by
  have e := putRow_setCells id (Sort.ahead w 1) blk off (D.toList.drop (j * k)) D (i * k) (by simp; omega)
  rw [List.map_id, putRow_self id (Sort.ahead w 1) blk off D (holds_ahead id w 1 blk off D hH)] at e
  rw [hW1, hnews, ← e]
  rfl
 have hH1 : Go.Sort.Holds id W1 blk off (lay D (i * k) (D.toList.drop (j * k))) := by rw [hW1']; exact holds_putRow id _ blk off D _ (holds_ahead id w 1 blk off D hH) (lay_size _ _ _)
 have hcl : ∀ ty, (Builtin.clear_ #[ρ.t 22] ty #[.slice (some ⟨blk, off + (i + (n - j)) * k, none⟩) (n - (i + (n - j))) (cap - (i + (n - j)))]).run P W1 = .ok (.tuple #[]) (W1.setCells blk (off + (i + (n - j)) * k) zs) :=
  fun ty => run_clearK W1 _ _ ty z t22 v23 blk (off + (i + (n - j)) * k) _ _ zs (by rw [show n - (i + (n - j)) = j - i by omega]; exact hzs) hzo (by omega)
   (fun t ht => by have := b5.out; rw [Nat.add_assoc, (hH1 _ (by rw [lay_size]; omega)).1]; rfl) (fun t ht => by have := b5.out; rw [Nat.add_assoc]; exact (hH1 _ (by rw [lay_size]; omega)).2)
 have X : Aside (W1 = putRow id (Sort.ahead w 1) blk off (lay D (i * k) (D.toList.drop (j * k)))) := hW1'
 have hW : Hid (W1 = w.drew.setCells blk (off + i * k) news) := hW1
 have hic : i ≤ cap := by omega
 have hjc : j ≤ cap := by omega
 clear hW1 hW1' hH1 hH hget hnews hlen b1 b2 b3 b4 b5' hzs hzo hDo hm
 obtain ⟨_, _, FG⟩ := L.f45
 go_enter FG, SlBodyN.n45_ntmps ρ
 go_wp2_with fail
 go_region_law_o (refine step_append_room rfl (.tmp 22) (.tmp 25) (ρ.t 22) rfl (ρ.t 23) i0 k t22 hi0 hz1 blk off i cap (by simp [Act.eval, Act.put]) A (n - j) (cap - j) news (by simp [Act.eval, Act.put]) s1.out hsrc.out s2.out (by omega) s3.out ?_; rw [← hW.out])
 go_wp2
 go_ret
 refine ⟨by rw [show n - (j - i) = i + (n - j) by omega]; rfl, 1, ?_⟩
 have b1 : i * k ≤ j * k := Nat.mul_le_mul_right k (by omega)
 have b2 : j * k ≤ n * k := Nat.mul_le_mul_right k hj
 have b4 : (j - i) * k = j * k - i * k := Nat.sub_mul j i k
 have e := putRow_setCells id (Sort.ahead w 1) blk off zs (lay D (i * k) (D.toList.drop (j * k))) ((i + (n - j)) * k) (by have := b5.out; rw [lay_size]; omega)
 rw [List.map_id] at e
 rw [X.out, e, b5.out, ← hD, lay2_arr D (i * k) (j * k) zs b1 (by omega) (by omega)]
theorem specT_deleteK (L : SlLaysE0.n45 P ρ) (hent : Ent P (ρ.f 45)) {k : Nat} (hk : 0 < k) (a23 : ∀ w, (isAgg (ρ.t 23)).run P w = .ok true w) (z23 : ∀ w, (Go.sizeOf (ρ.t 23)).run P w = .ok k w) (i0 : TypeInfo) (hi0 : P.info? (ρ.t 23) = some i0) (hz1 : i0.size = k)
  (z : Value) (v23 : ∀ w, (zeroValue (ρ.t 23)).run P w = .ok z w) (hzk : z.cells.size = k) (hzo : ∀ v ∈ z.cells.toList, v.oneCell' = true) (e : TypeId) (n i : Nat) (f : Nat → Nat → D) (hf : ∀ m j, m < n → j < k → (f m j).flat = true) (hi : i < n) :
  SpecT P (ρ.f 45) [] [.d (.int .i64 i), .d (.int .i64 ((i + 1 : Nat) : Int))] e k n f (n - 1) (fun m => if m < i then f m else f (m + 1)) := by
 refine ⟨hent, fun w ok vs us v xs hok h1 h2 hr => ?_⟩
 cases h1
 cases h2 with
 | cons h2 h3 =>
 cases h3 with
 | cons h3 h4 =>
 cases h4
 rename_i a b
 have ha : a = .int .i64 i := h2
 have hb : b = .int .i64 ((i + 1 : Nat) : Int) := h3
 subst ha; subst hb
 have hxl := hr.own.1
 rcases hr.own.2 with ⟨h4, h5⟩ | ⟨q, cap, cur, rfl, _, hh, hnc, hcap, hcs, htk⟩
 ·omega
 ·have b1 : i * k ≤ (i + 1) * k := Nat.mul_le_mul_right k (by omega)
  have b2 : (i + 1) * k ≤ n * k := Nat.mul_le_mul_right k hi
  have b3 : (i + 1) * k = i * k + k := by rw [Nat.add_mul, Nat.one_mul]
  have b4 : (n - 1) * k = n * k - k := by rw [Nat.sub_mul, Nat.one_mul]
  have hck : n * k ≤ cap * k := Nat.mul_le_mul_right k hnc
  have hxc : ∀ t, t < n * k → cur[t]? = xs[t]? := fun t ht => by
   rw [← htk, List.getElem?_take, if_pos ht, Array.getElem?_toList]
  have hH : Go.Sort.Holds id w q 0 xs.toArray := fun t ht => by
   have ht : t < n * k := by simpa [hxl] using ht
   have hx : xs[t]? = some xs.toArray[t]! := by
    rw [getElem!_pos xs.toArray t (by simpa [hxl] using ht), List.getElem?_eq_getElem (by omega)]; rfl
   refine ⟨?_, ?_⟩
   ·simp only [World.cell?, hh, id_eq, Nat.zero_add]
    rw [hxc t ht, hx]; rfl
   ·simp [World.frozen?, hh]
  obtain ⟨zs, hzs⟩ : ∃ zs, (Builtin.zeroCells z.cells (i + 1 - i)).toList = zs := ⟨_, rfl⟩
  have hzl : zs.length = (i + 1 - i) * k := by rw [← hzs, zeroCells_len, hzk]
  have hzo' : ∀ v ∈ zs, v.oneCell' = true := fun v hv => by
   obtain ⟨t, ht⟩ := List.getElem?_of_mem hv
   have htl : t < (i + 1 - i) * k := by have := (List.getElem?_eq_some_iff.1 ht).1; omega
   rw [← hzs, zeroCells_get _ _ _ (by rw [hzk]; exact htl)] at ht
   exact hzo v (List.mem_of_getElem? ht)
  have hrun := delK_arr L hk a23 z23 i0 hi0 hz1 z v23 zs q 0 cap i (i + 1) n hzs hzl hzo' xs.toArray (by simp [hxl]) (by simpa using hr.one) w hH hnc (by unfold maxLen at hcap; omega) (by omega) (by omega)
  refine hrun.mono ?_
  rintro en w' ⟨rfl, m, rfl⟩
  obtain ⟨R, hR⟩ : ∃ R, R = xs.take (i * k) ++ xs.drop ((i + 1) * k) ++ zs := ⟨_, rfl⟩
  have hzl' : zs.length = k := by rw [hzl, Nat.add_sub_cancel_left, Nat.one_mul]
  have hRl : R.length = n * k := by rw [hR, List.length_append, List.length_append, List.length_take, List.length_drop, hzl', hxl]; omega
  have hRg : ∀ t, t < (n - 1) * k → R[t]? = if t < i * k then xs[t]? else xs[t + k]? := fun t ht => by
   rw [hR, List.getElem?_append_left (by rw [List.length_append, List.length_take, List.length_drop, hxl]; omega)]
   split
   ·rename_i h1; rw [List.getElem?_append_left (by rw [List.length_take, hxl]; omega), List.getElem?_take, if_pos h1]
   ·rename_i h1
    rw [List.getElem?_append_right (by rw [List.length_take, hxl]; omega), List.getElem?_drop, List.length_take, hxl]
    congr 1; omega
  have eR : (xs.toArray.toList.take (i * k) ++ xs.toArray.toList.drop ((i + 1) * k) ++ zs).toArray = R.toArray := by rw [hR]
  rw [eR]
  have hg : q < w.heap.size := (Array.getElem?_eq_some_iff.1 hh).1
  have hheap : ∀ i, i < w.heap.size → (putRow id (Sort.ahead w m) q 0 R.toArray).heap[i]? = if i = q then some (.cells (putCells id 0 R.toArray cur) e (0, 0)) else w.heap[i]? := fun i hi => by
   simp only [putRow, mapBlock, Sort.ahead]
   rw [Array.getElem?_modify]
   by_cases e' : q = i
   ·subst e'; simp [hh, onCells]
   ·rw [if_neg e', if_neg (fun e'' => e' e''.symm)]
  have hsz : (putCells id 0 R.toArray cur).size = cap * k := by simp [putCells, hcs]
  have hsz' : (putCells id 0 R.toArray cur).toList.length = cap * k := (Array.length_toList).trans hsz
  have hget : ∀ t, t < n * k → (putCells id 0 R.toArray cur).toList[t]? = R[t]? := fun t ht => by
   have hlt : t < cur.size := by omega
   rw [Array.getElem?_toList, putCells, Array.getElem?_mapIdx, Array.getElem?_eq_getElem hlt]
   simp only [Option.map_some, Nat.zero_le, true_and, Nat.zero_add, List.size_toArray, hRl, if_pos ht, Nat.sub_zero, id_eq]
   rw [getElem!_pos R.toArray t (by simpa [hRl] using ht), List.getElem?_eq_getElem (by omega)]; rfl
  rw [show n - (i + 1 - i) = n - 1 by omega]
  refine ⟨_, rfl, ⟨rfl, rfl, rfl, by simp [putRow, mapBlock, Sort.ahead], fun i hi hne => ?_⟩, fun b hb => .inl hb, (putCells id 0 R.toArray cur).toList.take ((n - 1) * k), ⟨by rw [List.length_take, hsz']; omega, .inr ⟨q, cap, _, rfl, Nat.zero_le _, by rw [hheap q hg, if_pos rfl], by omega, hcap, hsz, rfl⟩⟩, fun u hu => ?_, fun m' hm' j hj => ?_⟩
  ·rw [hheap i hi, if_neg fun e' => hne (by rw [e']; rfl)]
  ·obtain ⟨t, ht⟩ := List.getElem?_of_mem hu
   rw [List.getElem?_take] at ht
   split at ht
   ·rename_i hlt
    rw [hget t (by omega), hRg t hlt] at ht
    split at ht
    ·exact hr.one u (List.mem_of_getElem? ht)
    ·exact hr.one u (List.mem_of_getElem? ht)
   ·cases ht
  ·have hlt : m' * k + j < (n - 1) * k := by
    have : (m' + 1) * k ≤ (n - 1) * k := Nat.mul_le_mul_right k hm'
    rw [Nat.add_mul] at this; omega
   rw [List.getElem?_take, if_pos hlt, hget _ (by omega), hRg _ hlt]
   by_cases hmi : m' < i
   ·have h6 : (m' + 1) * k ≤ i * k := Nat.mul_le_mul_right k hmi
    rw [Nat.add_mul] at h6
    rw [if_pos (by omega)]
    obtain ⟨u, hu, hrep⟩ := hr.rep m' (by omega) j hj
    refine ⟨u, hu, ?_⟩
    show Rep _ _ ((if m' < i then f m' else f (m' + 1)) j) u
    rw [if_pos hmi]
    exact Rep.flat (hf m' j (by omega) hj) hrep
   ·have h6 : i * k ≤ m' * k := Nat.mul_le_mul_right k (by omega)
    rw [if_neg (by omega)]
    obtain ⟨u, hu, hrep⟩ := hr.rep (m' + 1) (by omega) j hj
    refine ⟨u, ?_, ?_⟩
    ·rw [← hu]; congr 1; rw [Nat.add_mul]; omega
    ·show Rep _ _ ((if m' < i then f m' else f (m' + 1)) j) u
     rw [if_neg hmi]
     exact Rep.flat (hf (m' + 1) j (by omega) hj) hrep
theorem agg_facts {e : Nat} {ei : TI} (h : TTab e = some ei) (ha : ei.agg = true) : ∃ i0 z, PP.info? e = some i0 ∧ i0.size = ei.size ∧ (∀ w, (isAgg e).run PP w = .ok true w) ∧ (∀ w, (Go.sizeOf e).run PP w = .ok ei.size w) ∧ (∀ w, (zeroValue e).run PP w = .ok z w) ∧ z.cells.toList = ei.zero := by
 obtain ⟨info, d, z, h1, h2, h3, h4, h5, h6, h7, h8⟩ := ti_facts (hT e ei h)
 refine ⟨info, z, h1, h4, fun w => ?_, fun w => ?_, fun w => ?_, h7⟩
 ·rw [ha] at h6
  cases d <;> simp [TK.isAgg] at h6 <;> simp [isAgg, run_underlying h2]
 ·simp [Go.sizeOf, typeInfo, h1, h4]
 ·simp [zeroValue, typeInfo, h1, h3]
theorem SpecT.congr {P : Program} {f : FuncId} {pre post : List V1} {e k n n' n2 : Nat} {g g' g2 : Nat → Nat → D} (h : SpecT P f pre post e k n g n' g') (hn : n' = n2) (hg : ∀ m, m < n2 → ∀ j, j < k → g' m j = g2 m j) : SpecT P f pre post e k n g n2 g2 := by
 subst hn
 refine ⟨h.1, fun w ok vs us v xs h1 h2 h3 h4 => (h.2 w ok vs us v xs h1 h2 h3 h4).mono ?_⟩
 rintro en w' ⟨v', e1, e2, e3, xs', e4, e5, e6⟩
 exact ⟨v', e1, e2, e3, xs', e4, e5, fun m hm j hj => by rw [← hg m hm j hj]; exact e6 m hm j hj⟩
theorem flatB (L : List (Nat → Bool)) (m j : Nat) (hj : j < 38) : (rowB L m j).flat = true := by
 show (bAt (L.getD m default) j).flat = true
 rcases i38 hj with rfl | rfl | rfl | rfl | rfl | rfl | rfl | rfl | rfl | rfl | rfl | rfl | rfl | rfl | rfl | rfl | rfl | rfl | rfl | rfl | rfl | rfl | rfl | rfl | rfl | rfl | rfl | rfl | rfl | rfl | rfl | rfl | rfl | rfl | rfl | rfl | rfl | rfl <;> rfl
theorem o_cloneB (L : List (Nat → Bool)) (hn : L.length ≤ 1000000) : SpecO PP 108 [.d (lB L)] 123 38 L.length (rowB L) := by
 refine specO_at Tryz.func108 rfl (by kernel_rfl) rfl ?_
 refine fun b hb => ?_
 refine Split.by (fun h1 => ?_) (fun h1 => ?_)
 ·have h0 := hb h1
  refine ⟨rfl, rfl, h0.symm, fun i hi => ?_⟩
  omega
 ·refine ⟨⟨.inr rfl, by unfold maxLen; omega, by show (0 + L.length) * 304 ≤ 140737488355328; omega⟩, ?_⟩
  refine ⟨rfl, rfl, Nat.zero_add _, fun i hi j hj => ?_⟩
  exact D.eqv_refl _
theorem t_delB (L : List (Nat → Bool)) (i : Nat) (hi : i < L.length) : SpecT PP 107 [] [.d (.int .i64 i), .d (.int .i64 ((i + 1 : Nat) : Int))] 123 38 L.length (rowB L) (rmB L i).length (rowB (rmB L i)) := by
 obtain ⟨i0, z, h1, h2, h3, h4, h5, h6⟩ := agg_facts (e := 123) (ei := ⟨38, true, 304, List.replicate 38 (.int .u64 0), .array 38 121⟩) (by kernel_rfl) rfl
 have h := specT_deleteK Tryz.delB ⟨_, Tryz.func107, by kernel_rfl, by kernel_rfl⟩ (k := 38) (by decide) h3 h4 i0 h1 h2 z h5 (by rw [← Array.length_toList, h6]; rfl) (by rw [h6]; intro v hv; rw [List.eq_of_mem_replicate hv]; rfl) 123 L.length i (rowB L) (fun m j _ hj => flatB L m j hj) hi
 refine h.congr (rmB_len hi).symm fun m hm j hj => ?_
 have e : (rmB L i).getD m default = if m < i then L.getD m default else L.getD (m + 1) default := by
  rw [List.getD_eq_getElem?_getD, rmB_get hi]
  split <;> rfl
 show (if m < i then rowB L m else rowB L (m + 1)) j = bAt ((rmB L i).getD m default) j
 rw [e]
 split <;> rfl
theorem l_withoutB (L : List (Nat → Bool)) (i : Nat) (hi : i < L.length) (hn : L.length ≤ 1000000) : Spec PP 58 [.d (lB L), N i] [.d (lB (rmB L i))] := by
 refine spec_at Tryz.func58 rfl (by kernel_rfl) rfl ?_
 refine CallSt.own (o_cloneB L hn) rfl rfl (fun m j _ hj => flatB L m j hj) ?_
 refine ⟨i6 (by omega), ?_⟩
 refine CallSt.tk rfl (t_delB L i hi) ⟨⟨[], .tmp 6, [.tmp 7, .tmp 9], [], rfl, rfl, rfl, rfl, rfl, rfl, rfl⟩⟩ rfl ?_
 exact ⟨⟨_, _, _, _, rfl, D.eqv_refl _⟩, trivial⟩
theorem ovr_mem {s : Svc} {L : List (Nat → Bool)} {c k : Nat} : ∀ j ∈ ovrI s L c k, 0 ≤ j ∧ j < k := fun j hj => by
 obtain ⟨i, hi, -, rfl⟩ := ovrI_mem.1 hj
 omega
set_option maxHeartbeats 1000000 in
theorem l_Suspects (s : Svc) (b : Brn) (l : List Rpt) : Spec PP 21 [s.v, b.v, .d (lR l)] [.d (lI (susR s b l).1), .d (.int .i64 (susR s b l).2)] := by
 refine spec_at Tryz.func21 rfl (by kernel_rfl) rfl ?_
 refine CallSt.ro (l_all s b l) rfl rfl ?_
 by_cases h0 : givE s b l = 0
 ·have e : allR s b l = (l.map (alwP s b), 0) := by unfold allR; rw [if_neg (fun hh => hh h0)]
  have e1 : susR s b l = if 0 < cntP s (metP (l.map (alwP s b))) then ([], 0) else (idsL l (ovrI s (l.map (alwP s b)) 0 l.length), 0) := by unfold susR; rw [if_neg (fun hh => hh h0)]
  have ok := giv_ok h0
  have hn := ok.n
  have hL : (l.map (alwP s b)).length = l.length := List.length_map _
  rw [e, e1]
  generalize l.map (alwP s b) = L at hL
  refine Split.ff ?_
  refine Exists.intro (List.range 5) (And.intro (by kernel_rfl) (FzOb.no ?_))
  refine CallOb.pure (l_meet L (by omega)) rfl rfl ?_
  refine CallOb.pure (l_count s (metP L) ok.s.c.m) rfl rfl ?_
  refine Split.by (fun h1 => ?_) (fun h1 => ?_)
  ·have h1 : 0 < cntP s (metP L) := by
    have : (0 : Int) < ((plsL s.c.M (metP L)).length : Int) := dT h1
    unfold cntP; omega
   rw [if_pos h1]
   exact ⟨⟨_, _, _, _, rfl, rfl, .inl rfl⟩, rtI rfl rfl, trivial⟩
  have h1 : ¬ 0 < cntP s (metP L) := by
   have : ¬ (0 : Int) < ((plsL s.c.M (metP L)).length : Int) := dF h1
   unfold cntP; omega
  rw [if_neg h1]
  refine LoopOb.of (σ := Nat) (fun i => ([(2, .d (lR l)), (3, .box 3 0), (8, .d (lB L)), (10, .own 10), (28, .d (I l.length)), (29, .d (I i))], [(3, .box (s.ds.map AV.d)), (10, .row 3 1 (ovrI s L 0 i).length (rowI (ovrI s L 0 i)))])) (fun i => i ≤ l.length) (fun i => l.length - i) 0
   ⟨rfl, ⟨obX rfl, obR rfl ⟨rfl, .inl rfl⟩, trivial⟩, avR _ rfl, avQ rfl, avR _ rfl, avQ rfl, avR _ rfl, avR _ rfl, trivial⟩ (Nat.zero_le _) fun i hi => ?_
  have hi : i ≤ l.length := hi
  have hol := ovrI_len s L 0 i
  refine Split.by (fun h2 => ?_) (fun h2 => ?_)
  ·have h2 : i < l.length := by have := dT h2; omega
   have hrl := rmB_len (L := L) (i := i) (by omega)
   refine Exists.intro (List.range 7) (And.intro (by kernel_rfl) (FzOb.no ?_))
   refine CallOb.ro (l_withoutB L i (by omega) (by omega)) rfl rfl ?_
   refine CallOb.pure (l_meet (rmB L i) (by omega)) rfl rfl ?_
   refine CallOb.pure (l_count s (metP (rmB L i)) ok.s.c.m) rfl rfl ?_
   refine Split.by (fun h3 => ?_) (fun h3 => ?_)
   ·have h3 : 0 < cntP s (metP (rmB L i)) := by
     have : (0 : Int) < ((plsL s.c.M (metP (rmB L i))).length : Int) := dT h3
     unfold cntP; omega
    refine ⟨⟨.inr rfl, by unfold maxLen; omega, by show ((ovrI s L 0 i).length + 1) * 8 ≤ 140737488355328; omega⟩, ?_⟩
    refine ⟨i6 (by omega), ?_⟩
    refine ⟨i + 1, ⟨rfl, ⟨obX rfl, obR rfl ?_, trivial⟩, avR _ rfl, avQ rfl, avR _ rfl, avQ rfl, avR _ rfl, avI rfl rfl, trivial⟩, h2, (show l.length - (i + 1) < l.length - i by omega)⟩
    rw [ovrI_yes h3]
    exact pushI rfl
   ·have h3 : ¬ 0 < cntP s (metP (rmB L i)) := by
     have : ¬ (0 : Int) < ((plsL s.c.M (metP (rmB L i))).length : Int) := dF h3
     unfold cntP; omega
    refine ⟨i6 (by omega), ?_⟩
    refine ⟨i + 1, ⟨rfl, ⟨obX rfl, obR rfl ?_, trivial⟩, avR _ rfl, avQ rfl, avR _ rfl, avQ rfl, avR _ rfl, avI rfl rfl, trivial⟩, h2, (show l.length - (i + 1) < l.length - i by omega)⟩
    rw [ovrI_no h3]
    exact D.eqv_refl _
  ·have h2 : i = l.length := by have := dF h2; omega
   subst h2
   refine CallSt.fz [10] (l_ids l (ovrI s L 0 l.length) ovr_mem (by omega)) rfl rfl ?_
   exact ⟨D.eqv_refl _, rtI rfl rfl, trivial⟩
 ·have e : allR s b l = ([], givE s b l) := by unfold allR; rw [if_pos h0]
  have e1 : susR s b l = ([], givE s b l) := by unfold susR; rw [if_pos h0]
  rw [e, e1]
  refine Split.yes (by simpa using h0) ?_
  exact ⟨⟨_, _, _, _, rfl, rfl, .inl rfl⟩, rtI rfl rfl, trivial⟩
set_option maxHeartbeats 1000000 in
theorem l_Needed (s : Svc) (b : Brn) (l : List Rpt) : Spec PP 18 [s.v, b.v, .d (lR l)] [.d (lI (neeR s b l).1), .d (.int .i64 (neeR s b l).2)] := by
 refine spec_at Tryz.func18 rfl (by kernel_rfl) rfl ?_
 refine CallSt.ro (l_all s b l) rfl rfl ?_
 by_cases h0 : givE s b l = 0
 ·have e : allR s b l = (l.map (alwP s b), 0) := by unfold allR; rw [if_neg (fun hh => hh h0)]
  have e1 : neeR s b l = (idsL l (ovrI s (l.map (alwP s b)) (cntP s (metP (l.map (alwP s b)))) l.length), 0) := by unfold neeR; rw [if_neg (fun hh => hh h0)]
  have ok := giv_ok h0
  have hn := ok.n
  have hL : (l.map (alwP s b)).length = l.length := List.length_map _
  rw [e, e1]
  generalize l.map (alwP s b) = L at hL
  refine Split.ff ?_
  refine Exists.intro (List.range 5) (And.intro (by kernel_rfl) (FzOb.no ?_))
  refine CallOb.pure (l_meet L (by omega)) rfl rfl ?_
  refine CallOb.pure (l_count s (metP L) ok.s.c.m) rfl rfl ?_
  obtain ⟨c, hc⟩ : ∃ c, c = cntP s (metP L) := ⟨_, rfl⟩
  rw [← hc]
  refine LoopOb.of (σ := Nat) (fun i => ([(2, .d (lR l)), (3, .box 3 0), (8, .d (lB L)), (10, .d (I (c : Int))), (11, .own 11), (28, .d (I l.length)), (29, .d (I i))], [(3, .box (s.ds.map AV.d)), (11, .row 3 1 (ovrI s L c i).length (rowI (ovrI s L c i)))])) (fun i => i ≤ l.length) (fun i => l.length - i) 0
   ⟨rfl, ⟨obX rfl, obR rfl ⟨rfl, .inl rfl⟩, trivial⟩, avR _ rfl, avQ rfl, avR _ rfl, avI rfl (by rw [hc]; rfl), avQ rfl, avR _ rfl, avR _ rfl, trivial⟩ (Nat.zero_le _) fun i hi => ?_
  have hi : i ≤ l.length := hi
  have hol := ovrI_len s L c i
  refine Split.by (fun h2 => ?_) (fun h2 => ?_)
  ·have h2 : i < l.length := by have := dT h2; omega
   have hrl := rmB_len (L := L) (i := i) (by omega)
   refine Exists.intro (List.range 8) (And.intro (by kernel_rfl) (FzOb.no ?_))
   refine CallOb.ro (l_withoutB L i (by omega) (by omega)) rfl rfl ?_
   refine CallOb.pure (l_meet (rmB L i) (by omega)) rfl rfl ?_
   refine CallOb.pure (l_count s (metP (rmB L i)) ok.s.c.m) rfl rfl ?_
   refine Split.by (fun h3 => ?_) (fun h3 => ?_)
   ·have h3 : c < cntP s (metP (rmB L i)) := by
     have : (c : Int) < ((plsL s.c.M (metP (rmB L i))).length : Int) := dT h3
     unfold cntP; omega
    refine ⟨⟨.inr rfl, by unfold maxLen; omega, by show ((ovrI s L c i).length + 1) * 8 ≤ 140737488355328; omega⟩, ?_⟩
    refine ⟨i6 (by omega), ?_⟩
    refine ⟨i + 1, ⟨rfl, ⟨obX rfl, obR rfl ?_, trivial⟩, avR _ rfl, avQ rfl, avR _ rfl, avR _ rfl, avQ rfl, avR _ rfl, avI rfl rfl, trivial⟩, h2, (show l.length - (i + 1) < l.length - i by omega)⟩
    rw [ovrI_yes h3]
    exact pushI rfl
   ·have h3 : ¬ c < cntP s (metP (rmB L i)) := by
     have : ¬ (c : Int) < ((plsL s.c.M (metP (rmB L i))).length : Int) := dF h3
     unfold cntP; omega
    refine ⟨i6 (by omega), ?_⟩
    refine ⟨i + 1, ⟨rfl, ⟨obX rfl, obR rfl ?_, trivial⟩, avR _ rfl, avQ rfl, avR _ rfl, avR _ rfl, avQ rfl, avR _ rfl, avI rfl rfl, trivial⟩, h2, (show l.length - (i + 1) < l.length - i by omega)⟩
    rw [ovrI_no h3]
    exact D.eqv_refl _
  ·have h2 : i = l.length := by have := dF h2; omega
   subst h2
   refine CallSt.fz [11] (l_ids l (ovrI s L c l.length) ovr_mem (by omega)) rfl rfl ?_
   exact ⟨D.eqv_refl _, rtI rfl rfl, trivial⟩
 ·have e : allR s b l = ([], givE s b l) := by unfold allR; rw [if_pos h0]
  have e1 : neeR s b l = ([], givE s b l) := by unfold neeR; rw [if_pos h0]
  rw [e, e1]
  refine Split.yes (by simpa using h0) ?_
  exact ⟨⟨_, _, _, _, rfl, rfl, .inl rfl⟩, rtI rfl rfl, trivial⟩
section
variable {s : St} {o : Oper} {fo : Operand} {f : FuncId} {K : St → Prop} {E : Env}
end
structure Key (G : Prop) : Prop where
  out : G
section
variable {s : Svc} {l : List Rpt} {L : List (Nat → Bool)} {ps : List Place} {rs : List Rsn} {n : Nat} {q : Nat × Nat}
end
theorem take_flt {α : Type} (p : α → Bool) {l : List α} {i : Nat} (h : i < l.length) (d : α) : (l.take (i + 1)).filter p = (l.take i).filter p ++ (if p (l.getD i d) = true then [l.getD i d] else []) := by
 rw [take1 h d, List.filter_append]
 congr 1
 split
 ·rename_i hp; exact List.filter_cons_of_pos hp
 ·rename_i hp; exact List.filter_cons_of_neg hp
theorem flt_len {α : Type} (p : α → Bool) (l : List α) (i : Nat) : ((l.take i).filter p).length ≤ i := by
 have h1 := List.length_filter_le p (l.take i)
 rw [List.length_take] at h1
 omega
theorem sus_len (s : Svc) (b : Brn) (l : List Rpt) : (susR s b l).1.length ≤ l.length := by
 unfold susR
 split
 ·simp
 ·split
  ·simp
  ·dsimp only
   rw [ids_len]
   exact ovrI_len s _ 0 l.length
theorem nee_len (s : Svc) (b : Brn) (l : List Rpt) : (neeR s b l).1.length ≤ l.length := by
 unfold neeR
 split
 ·simp
 ·dsimp only
  rw [ids_len]
  exact ovrI_len s _ _ l.length
theorem r6_has (l : List Int) (n : Int) (hn : l.length ≤ 1000000) : Spec PP 123 [.d (lI l), N n] [B (l.contains n)] := by
 refine spec_at Tryz.func123 rfl (by kernel_rfl) rfl ?_
 refine LoopOb.of (σ := Nat) (fun i => ([(0, .d (lI l)), (1, .d (I n)), (5, .d (I i))], [])) (fun i => i ≤ l.length ∧ ∀ j, j < i → l.getD j 0 ≠ n) (fun i => l.length - i) 0
  ⟨rfl, trivial, avR _ rfl, avR _ rfl, avR _ rfl, trivial⟩ ⟨Nat.zero_le _, fun j hj => absurd hj (Nat.not_lt_zero _)⟩ fun i hi => ?_
 obtain ⟨hi, ha⟩ := hi
 refine Split.by (fun h1 => ?_) (fun h1 => ?_)
 ·have h1 : i < l.length := by have := dT h1; omega
  refine ⟨⟨rfl, by omega, by omega⟩, ?_⟩
  refine Split.by (fun h2 => ?_) (fun h2 => ?_)
  ·have h2 : l.getD i 0 = n := by simpa using h2
   refine r1B rfl ?_
   refine (List.contains_iff_mem.2 ?_).symm
   rw [← h2]; exact gd1 h1 0
  ·have h2 : l.getD i 0 ≠ n := by simpa using h2
   refine ⟨i6 (by omega), ?_⟩
   refine ⟨i + 1, ⟨rfl, trivial, avR _ rfl, avR _ rfl, avI rfl rfl, trivial⟩, ⟨h1, fun j hj => ?_⟩, (show l.length - (i + 1) < l.length - i by omega)⟩
   by_cases e : j = i
   ·subst e; exact h2
   ·exact ha j (by omega)
 ·have h1 : i = l.length := by have := dF h1; omega
  subst h1
  refine r1B rfl ?_
  cases hc : l.contains n with
  | false => rfl
  | true =>
   obtain ⟨j, hj, e⟩ := mem_gd 0 (List.contains_iff_mem.1 hc)
   exact absurd e.symm (ha j hj)
theorem rm_row {l : List Int} {i : Nat} (hi : i < l.length) {n m m' : Nat} {F : Nat → Nat → D} (hn : n = i) (hm : m = l.length - (i + 1)) (hm' : m' = i + 1) (hF : ∀ a, a < i → F a 0 = I (l.getD a 0)) :
  D.eqv (.slc 1 (n + m) (appRow n F fun a _ => I (l.getD (m' + a) 0))) (lI (rmL l i)) := by
 subst hn hm hm'
 refine ⟨by rw [rmL_len l hi]; omega, .inr ⟨rfl, fun a ha j hj => ?_⟩⟩
 obtain rfl : j = 0 := by omega
 show D.eqv (appRow n F (fun a _ => I (l.getD (n + 1 + a) 0)) a 0) (I ((rmL l n).getD a 0))
 rw [List.getD_eq_getElem?_getD, rm_get]
 unfold appRow
 by_cases h1 : a < n
 ·rw [if_pos h1, if_pos h1, hF a h1, ← List.getD_eq_getElem?_getD]; exact D.eqv_refl _
 ·rw [if_neg h1, if_neg h1, ← List.getD_eq_getElem?_getD]
  show D.eqv (I (l.getD (n + 1 + (a - n)) 0)) _
  rw [show n + 1 + (a - n) = a + 1 by omega]; exact D.eqv_refl _
theorem r6_less (l : List Int) (i : Nat) (hi : i < l.length) (hn : l.length ≤ 1000000) : Spec PP 70 [.d (lI l), N i] [.d (lI (rmL l i))] := by
 refine spec_at Tryz.func70 rfl (by kernel_rfl) rfl ?_
 refine ⟨⟨.inr rfl, by omega, by omega⟩, ?_⟩
 refine ⟨⟨.inr rfl, by simp only [maxLen]; omega, by dsimp only; omega⟩, ?_⟩
 refine ⟨i6 (by omega), ?_⟩
 refine ⟨⟨.inr rfl, by omega, by omega⟩, ?_⟩
 refine ⟨⟨.inr rfl, by simp only [maxLen]; omega, by dsimp only; omega⟩, ?_⟩
 refine ⟨⟨_, _, _, _, rfl, ?_⟩, trivial⟩
 exact rm_row hi (by omega) (by omega) (by omega) fun a ha => rfl
theorem insI_len (l : List Int) (n : Int) : (insI l n).length = l.length + 1 := by
 rw [(insI_perm l n).length_eq]; rfl
theorem insI_get (l : List Int) (n : Int) (m : Nat) : (insI l n).getD m 0 = if m < posI n l then l.getD m 0 else if m = posI n l then n else l.getD (m - 1) 0 := by
 have hl := posI_le n l
 unfold insI
 rw [List.getD_eq_getElem?_getD]
 by_cases h1 : m < posI n l
 ·rw [if_pos h1, List.getElem?_append_left (by rw [List.length_take]; omega), List.getElem?_take, if_pos h1, ← List.getD_eq_getElem?_getD]
 ·rw [if_neg h1, List.getElem?_append_right (by rw [List.length_take]; omega), List.length_take]
  rw [show min (posI n l) l.length = posI n l by omega]
  by_cases h2 : m = posI n l
  ·rw [if_pos h2, h2, Nat.sub_self]; rfl
  ·rw [if_neg h2]
   obtain ⟨d, hd⟩ : ∃ d, m - posI n l = d + 1 := ⟨m - posI n l - 1, by omega⟩
   rw [hd, List.getElem?_cons_succ, List.getElem?_drop, show posI n l + d = m - 1 by omega, ← List.getD_eq_getElem?_getD]
theorem ins_row {l : List Int} {x : Int} {i : Nat} (hi : i ≤ l.length) (hat : posI x l = i) {n n' : Nat} {F f : Nat → Nat → D} (hn : n = i) (hn' : n' = i) (hF : ∀ a, a < i → F a 0 = I (l.getD a 0)) (h : f 0 0 = I x) :
  D.eqv (.slc 1 (n + 1 + (l.length - n')) (appRow (n + 1) (appRow n F f) fun a _ => I (l.getD (n' + a) 0))) (lI (insI l x)) := by
 subst hn
 subst hn'
 refine ⟨by rw [insI_len]; omega, .inr ⟨rfl, fun m hm j hj => ?_⟩⟩
 obtain rfl : j = 0 := by omega
 show D.eqv (appRow (n' + 1) (appRow n' F f) (fun a _ => I (l.getD (n' + a) 0)) m 0) (I ((insI l x).getD m 0))
 rw [insI_get, hat]
 unfold appRow
 by_cases h1 : m < n'
 ·rw [if_pos (by omega), if_pos h1, if_pos h1, hF m h1]; exact D.eqv_refl _
 ·by_cases h2 : m = n'
  ·rw [if_pos (by omega), if_neg h1, if_neg h1, if_pos h2, h2, Nat.sub_self, h]; exact D.eqv_refl _
  ·rw [if_neg (by omega), if_neg h1, if_neg h2]
   show D.eqv (I (l.getD (n' + (m - (n' + 1))) 0)) _
   rw [show n' + (m - (n' + 1)) = m - 1 by omega]; exact D.eqv_refl _
set_option maxHeartbeats 1000000 in
theorem r6_IDs (l : List Rpt) (hn : l.length ≤ 1000000) : Spec PP 68 [.d (lR l)] [.d (lI (idsU l l.length))] := by
 refine spec_at Tryz.func68 rfl (by kernel_rfl) rfl ?_
 refine LoopOb.of (σ := Nat) (fun i => ([(0, .d (lR l)), (3, .d (lI (idsU l i))), (4, .d (I i))], [])) (fun i => i ≤ l.length) (fun i => l.length - i) 0
  ⟨rfl, trivial, avR _ rfl, avOw rfl rfl rfl ⟨rfl, .inl rfl⟩, avR _ rfl, trivial⟩ (Nat.zero_le _) fun i hi => ?_
 have hi : i ≤ l.length := hi
 refine Split.by (fun h1 => ?_) (fun h1 => ?_)
 ·have h1 : i < l.length := by have := dT h1; omega
  have hU := idsU_len l hi
  have hs := idsU_succ h1
  obtain ⟨U, eU⟩ : ∃ U, idsU l i = U := ⟨_, rfl⟩
  rw [eU] at hU hs ⊢
  refine ⟨⟨rfl, by omega, by omega⟩, ?_⟩
  refine LoopOb.of (σ := Nat) (fun k => ([(0, .d (lR l)), (3, .d (lI U)), (4, .d (I i)), (5, .d (I (l.getD i default).ID)), (6, .d (I k))], [])) (fun k => k ≤ U.length ∧ ∀ j, j < k → U.getD j 0 < (l.getD i default).ID) (fun k => U.length - k) 0
   ⟨rfl, trivial, avR _ rfl, avR _ rfl, avR _ rfl, avI rfl rfl, avR _ rfl, trivial⟩ ⟨Nat.zero_le _, fun j hj => absurd hj (Nat.not_lt_zero _)⟩ fun k hk => ?_
  obtain ⟨hk, ha⟩ := hk
  have go : (k < U.length → ¬ U.getD k 0 < (l.getD i default).ID) → posI (l.getD i default).ID U = k := posI_stop hk ha
  refine Split.by (fun h2 => ?_) (fun h2 => ?_)
  ·have h2 : k < U.length := by have := dT h2; omega
   refine ⟨⟨rfl, by omega, by omega⟩, ?_⟩
   repeat first | refine Split.tt ?_ | refine Split.ff ?_
   refine Split.by (fun h3 => ?_) (fun h3 => ?_)
   ·have h3 : U.getD k 0 < (l.getD i default).ID := dT h3
    refine ⟨i6 (by omega), ?_⟩
    refine ⟨k + 1, ⟨rfl, trivial, avR _ rfl, avR _ rfl, avR _ rfl, avR _ rfl, avI rfl rfl, trivial⟩, ⟨h2, fun j hj => ?_⟩, (show U.length - (k + 1) < U.length - k by omega)⟩
    by_cases e : j = k
    ·subst e; exact h3
    ·exact ha j (by omega)
   ·have h3 : ¬ U.getD k 0 < (l.getD i default).ID := dF h3
    have hp := go fun _ => h3
    refine ⟨⟨.inr rfl, by omega, by omega⟩, ?_⟩
    refine ⟨⟨.inr rfl, by simp only [maxLen]; omega, by dsimp only; omega⟩, ?_⟩
    refine ⟨⟨.inr rfl, by simp only [maxLen]; omega, by dsimp only; omega⟩, ?_⟩
    refine ⟨⟨.inr rfl, by omega, by omega⟩, ?_⟩
    refine ⟨⟨.inr rfl, by simp only [maxLen]; omega, by dsimp only; omega⟩, ?_⟩
    refine ⟨i6 (by omega), ?_⟩
    refine ⟨i + 1, ⟨rfl, trivial, avR _ rfl, avOw rfl rfl rfl ?_, avI rfl rfl, trivial⟩, h1, (show l.length - (i + 1) < l.length - i by omega)⟩
    rw [hs]
    exact ins_row hk hp (by omega) (by omega) (fun a _ => rfl) rfl
  ·have h2 : k = U.length := by have := dF h2; omega
   have hp := go fun h => by omega
   repeat first | refine Split.tt ?_ | refine Split.ff ?_
   refine ⟨⟨.inr rfl, by omega, by omega⟩, ?_⟩
   refine ⟨⟨.inr rfl, by simp only [maxLen]; omega, by dsimp only; omega⟩, ?_⟩
   refine ⟨⟨.inr rfl, by simp only [maxLen]; omega, by dsimp only; omega⟩, ?_⟩
   refine ⟨⟨.inr rfl, by omega, by omega⟩, ?_⟩
   refine ⟨⟨.inr rfl, by simp only [maxLen]; omega, by dsimp only; omega⟩, ?_⟩
   refine ⟨i6 (by omega), ?_⟩
   refine ⟨i + 1, ⟨rfl, trivial, avR _ rfl, avOw rfl rfl rfl ?_, avI rfl rfl, trivial⟩, h1, (show l.length - (i + 1) < l.length - i by omega)⟩
   rw [hs]
   exact ins_row hk hp (by omega) (by omega) (fun a _ => rfl) rfl
 ·have h1 : i = l.length := by have := dF h1; omega
  subst h1
  exact ⟨D.eqv_refl _, trivial⟩
def tabF (s : Svc) (b : Brn) (l : List Rpt) : Nat → Nat → D := fun i _ => .slc 1 l.length fun k _ => .bool (allB s b (l.getD k default) (plc s.c.M i))
abbrev tabD (s : Svc) (b : Brn) (l : List Rpt) : D := .slc 1 s.n (tabF s b l)
theorem push1 {n : Nat} {F g : Nat → Nat → D} (h : D.eqv (g 0 0) (F n 0)) : D.eqv (.slc 1 (n + 1) (appRow n F g)) (.slc 1 (n + 1) F) := by
 refine ⟨rfl, .inr ⟨rfl, fun i hi j hj => ?_⟩⟩
 obtain rfl : j = 0 := by omega
 unfold appRow
 by_cases h1 : i < n
 ·rw [if_pos h1]; exact D.eqv_refl _
 ·have e : i = n := by omega
  subst e
  rw [if_neg h1, Nat.sub_self]; exact h
set_option maxHeartbeats 1000000 in
theorem r6_table (s : Svc) (b : Brn) (l : List Rpt) (hv : validM s.c.M = true) (hT : s.c.T.length ≤ 1000000) (hl : l.length ≤ 24) (hr : ∀ i, i < l.length → RptOk s (l.getD i default)) : Spec PP 67 [s.v, b.v, .d (lR l)] [.d (tabD s b l)] := by
 obtain ⟨bw, bh, -, -⟩ := validM_spec hv
 have hn : s.n ≤ 49 * 49 := Nat.mul_le_mul (by show s.c.M.W.toNat ≤ 49; omega) (by show s.c.M.H.toNat ≤ 49; omega)
 refine specC_at [12] Tryz.func67 rfl (by kernel_rfl) rfl ?_
 refine CallSt.ro (r6_all s l hT hl hr) rfl rfl ?_
 refine CallSt.ro (r6_Map s hv) rfl rfl ?_
 have hml := mapK_len s.c.M s.n
 refine LoopOb.of (σ := Nat) (fun i => ([(3, .box 3 0), (4, .box 4 0), (7, .own 7), (8, .d (lM s l)), (9, .d (lP (mapK s.c.M s.n))), (10, .d (I i))], [(3, .box (s.ds.map AV.d)), (4, .box (b.ds.map AV.d)), (7, .row 200 1 i (tabF s b l))])) (fun i => i ≤ s.n) (fun i => s.n - i) 0
  ⟨rfl, ⟨obD s.ds rfl, obD b.ds rfl, obR rfl ⟨rfl, .inl rfl⟩, trivial⟩, avQ rfl, avQ rfl, avQ rfl, avR _ rfl, avR _ rfl, avR _ rfl, trivial⟩ (Nat.zero_le _) fun i hi => ?_
 have hi : i ≤ s.n := hi
 refine Split.by (fun h1 => ?_) (fun h1 => ?_)
 ·have h1 : i < s.n := by have := dT h1; rw [hml] at this; omega
  have hg := mapK_get (m := s.c.M) h1
  refine LoopOb.of (σ := Nat) (fun k => ([(3, .box 3 0), (4, .box 4 0), (7, .own 7), (8, .d (lM s l)), (9, .d (lP (mapK s.c.M s.n))), (10, .d (I i)), (11, .own 11), (12, .d (I k))], [(3, .box (s.ds.map AV.d)), (4, .box (b.ds.map AV.d)), (7, .row 200 1 i (tabF s b l)), (11, .row 4 1 k (fun k _ => .bool (allB s b (l.getD k default) (plc s.c.M i))))])) (fun k => k ≤ l.length) (fun k => l.length - k) 0
   ⟨rfl, ⟨obD s.ds rfl, obD b.ds rfl, obR rfl (D.eqv_refl _), obR rfl ⟨rfl, .inl rfl⟩, trivial⟩, avQ rfl, avQ rfl, avQ rfl, avR _ rfl, avR _ rfl, avR _ rfl, avQ rfl, avR _ rfl, trivial⟩ (Nat.zero_le _) fun k hk => ?_
  have hk : k ≤ l.length := hk
  refine Split.by (fun h2 => ?_) (fun h2 => ?_)
  ·have h2 : k < l.length := by have := dT h2; omega
   refine Exists.intro (List.range 15) (And.intro (by kernel_rfl) (FzOb.no ?_))
   refine ⟨⟨rfl, by omega, by omega⟩, ⟨⟨rfl, by omega, by rw [hml]; omega⟩, ?_⟩⟩
   refine CallOb.pureE (r6_allows s b (l.getD k default) (plc s.c.M i)) rfl ⟨eqvs_refl _, eqvs_refl _, eqvs_refl _, eqvs2 (congrArg Place.X hg) (congrArg Place.Y hg), trivial⟩ rfl ?_
   refine ⟨⟨.inr rfl, by unfold maxLen; omega, by show (k + 1) * 1 ≤ 140737488355328; omega⟩, ?_⟩
   refine ⟨i6 (by omega), ?_⟩
   refine ⟨k + 1, ⟨rfl, ⟨obD s.ds rfl, obD b.ds rfl, obR rfl (D.eqv_refl _), obR rfl (push1 (D.eqv_refl _)), trivial⟩, avQ rfl, avQ rfl, avQ rfl, avR _ rfl, avR _ rfl, avR _ rfl, avQ rfl, avI rfl rfl, trivial⟩, h2, (show l.length - (k + 1) < l.length - k by omega)⟩
  ·have h2 : k = l.length := by have := dF h2; omega
   subst h2
   refine CutOb.at [(3, .box 3 0), (4, .box 4 0), (7, .own 7), (8, .d (lM s l)), (9, .d (lP (mapK s.c.M s.n))), (10, .d (I i)), (11, .d (tabF s b l i 0))] [(3, .box (s.ds.map AV.d)), (4, .box (b.ds.map AV.d)), (7, .row 200 1 i (tabF s b l))]
    ⟨rfl, ⟨obD s.ds rfl, obD b.ds rfl, obR rfl (D.eqv_refl _), trivial⟩, avQ rfl, avQ rfl, avQ rfl, avR _ rfl, avR _ rfl, avR _ rfl, avOw rfl rfl rfl (D.eqv_refl _), trivial⟩ ?_
   refine ⟨⟨.inr rfl, by unfold maxLen; omega, by show (i + 1) * 24 ≤ 140737488355328; omega⟩, ?_⟩
   refine ⟨i6 (by omega), ?_⟩
   refine ⟨i + 1, ⟨rfl, ⟨obD s.ds rfl, obD b.ds rfl, obR rfl (push1 (D.eqv_refl _)), trivial⟩, avQ rfl, avQ rfl, avQ rfl, avR _ rfl, avR _ rfl, avI rfl rfl, trivial⟩, h1, (show s.n - (i + 1) < s.n - i by omega)⟩
 ·have h1 : i = s.n := by have := dF h1; rw [hml] at this; omega
  subst h1
  exact ⟨⟨_, _, _, _, rfl, D.eqv_refl _⟩, trivial⟩
def okR (s : Svc) (b : Brn) (ids : List Int) (i : Nat) (r : Rpt) : Bool := allB s b r (plc s.c.M i) || !ids.contains r.ID
def cntK (s : Svc) (b : Brn) (l : List Rpt) (ids : List Int) (i : Nat) : Nat := ((List.range i).filter fun n => l.all (okR s b ids n)).length
theorem cntK_yes {s : Svc} {b : Brn} {l : List Rpt} {ids : List Int} {i : Nat} (h : l.all (okR s b ids i) = true) : cntK s b l ids (i + 1) = cntK s b l ids i + 1 := by
 unfold cntK
 rw [List.range_succ, List.filter_append, List.length_append, List.filter_cons_of_pos (p := fun n => l.all (okR s b ids n)) h]; rfl
theorem cntK_no {s : Svc} {b : Brn} {l : List Rpt} {ids : List Int} {i : Nat} (h : l.all (okR s b ids i) = false) : cntK s b l ids (i + 1) = cntK s b l ids i := by
 unfold cntK
 rw [List.range_succ, List.filter_append, List.length_append, List.filter_cons_of_neg (p := fun n => l.all (okR s b ids n)) (by rw [h]; decide)]; rfl
theorem cntK_le (s : Svc) (b : Brn) (l : List Rpt) (ids : List Int) (i : Nat) : cntK s b l ids i ≤ i := by
 unfold cntK
 have := List.length_filter_le (fun n => l.all (okR s b ids n)) (List.range i)
 simpa using this
theorem cntK_all (s : Svc) (b : Brn) (l : List Rpt) (ids : List Int) : cntK s b l ids s.n = cntI s b l ids := by
 unfold cntK cntI
 congr 1
 refine List.filter_congr fun n hn => ?_
 have hn := List.mem_range.1 hn
 unfold okI
 congr 1
 funext r
 have e : alwP s b r n = allB s b r (plc s.c.M n) := by
  show (decide (n < s.n) && allB s b r (plc s.c.M n)) = _
  rw [decide_eq_true hn, Bool.true_and]
 unfold okR
 rw [e]
theorem all_take1 {α : Type} {p : α → Bool} {l : List α} {k : Nat} (h : k < l.length) (d : α) : (l.take (k + 1)).all p = ((l.take k).all p && p (l.getD k d)) := by
 rw [take1 h d, List.all_append]; simp
set_option maxHeartbeats 1000000 in
theorem r6_count (s : Svc) (b : Brn) (l : List Rpt) (ids : List Int) (hv : validM s.c.M = true) (hl : l.length ≤ 1000000) (hi : ids.length ≤ 1000000) : Spec PP 69 [.d (tabD s b l), .d (lR l), .d (lI ids)] [N (cntI s b l ids : Nat)] := by
 obtain ⟨bw, bh, -, -⟩ := validM_spec hv
 have hn : s.n ≤ 49 * 49 := Nat.mul_le_mul (by show s.c.M.W.toNat ≤ 49; omega) (by show s.c.M.H.toNat ≤ 49; omega)
 refine spec_at Tryz.func69 rfl (by kernel_rfl) rfl ?_
 refine LoopOb.of (σ := Nat) (fun i => ([(0, .d (tabD s b l)), (1, .d (lR l)), (2, .d (lI ids)), (7, .d (I (cntK s b l ids i : Nat))), (8, .d (I i))], [])) (fun i => i ≤ s.n) (fun i => s.n - i) 0
  ⟨rfl, trivial, avR _ rfl, avR _ rfl, avR _ rfl, avI rfl rfl, avR _ rfl, trivial⟩ (Nat.zero_le _) fun i hi => ?_
 have hi : i ≤ s.n := hi
 have hc := cntK_le s b l ids i
 refine Split.by (fun h1 => ?_) (fun h1 => ?_)
 ·have h1 : i < s.n := by have := dT h1; omega
  refine LoopOb.of (σ := Nat) (fun k => ([(0, .d (tabD s b l)), (1, .d (lR l)), (2, .d (lI ids)), (7, .d (I (cntK s b l ids i : Nat))), (8, .d (I i)), (9, .d (.bool ((l.take k).all (okR s b ids i)))), (10, .d (I k))], [])) (fun k => k ≤ l.length) (fun k => l.length - k) 0
   ⟨rfl, trivial, avR _ rfl, avR _ rfl, avR _ rfl, avR _ rfl, avR _ rfl, avBl rfl rfl, avR _ rfl, trivial⟩ (Nat.zero_le _) fun k hk => ?_
  have hk : k ≤ l.length := hk
  refine Split.by (fun h2 => ?_) (fun h2 => ?_)
  ·have h2 : k < l.length := by have := dT h2; omega
   have ea := all_take1 (p := okR s b ids i) h2 default
   have mu : l.length - (k + 1) < l.length - k := by omega
   refine Split.by (fun h3 => ?_) (fun h3 => ?_)
   ·have h3 : (l.take k).all (okR s b ids i) = true := h3
    refine ⟨⟨rfl, by omega, by omega⟩, ⟨⟨rfl, by omega, by omega⟩, ?_⟩⟩
    refine Split.by (fun h4 => ?_) (fun h4 => ?_)
    ·have h4 : allB s b (l.getD k default) (plc s.c.M i) = true := h4
     repeat first | refine Split.tt ?_ | refine Split.ff ?_
     refine ⟨i6 (by omega), ?_⟩
     refine ⟨k + 1, ⟨rfl, trivial, avR _ rfl, avR _ rfl, avR _ rfl, avR _ rfl, avR _ rfl, avBl rfl ?_, avI rfl rfl, trivial⟩, h2, mu⟩
     rw [ea, h3]; unfold okR; rw [h4]; rfl
    ·have h4 : allB s b (l.getD k default) (plc s.c.M i) = false := h4
     refine ⟨⟨rfl, by omega, by omega⟩, ?_⟩
     refine CallSt.pure (r6_has ids (l.getD k default).ID (by omega)) rfl rfl ?_
     repeat first | refine Split.tt ?_ | refine Split.ff ?_
     refine ⟨i6 (by omega), ?_⟩
     refine ⟨k + 1, ⟨rfl, trivial, avR _ rfl, avR _ rfl, avR _ rfl, avR _ rfl, avR _ rfl, avBl rfl ?_, avI rfl rfl, trivial⟩, h2, mu⟩
     rw [ea, h3]; unfold okR; rw [h4]; rfl
   ·have h3 : (l.take k).all (okR s b ids i) = false := h3
    repeat first | refine Split.tt ?_ | refine Split.ff ?_
    refine ⟨i6 (by omega), ?_⟩
    refine ⟨k + 1, ⟨rfl, trivial, avR _ rfl, avR _ rfl, avR _ rfl, avR _ rfl, avR _ rfl, avBl rfl ?_, avI rfl rfl, trivial⟩, h2, mu⟩
    rw [ea, h3]; rfl
  ·have h2 : k = l.length := by have := dF h2; omega
   subst h2
   rw [List.take_length]
   refine Split.by (fun h3 => ?_) (fun h3 => ?_)
   ·have h3 : l.all (okR s b ids i) = true := h3
    refine ⟨i6 (by omega), ?_⟩
    refine ⟨i6 (by omega), ?_⟩
    refine ⟨i + 1, ⟨rfl, trivial, avR _ rfl, avR _ rfl, avR _ rfl, avI rfl ?_, avI rfl rfl, trivial⟩, h1, (show s.n - (i + 1) < s.n - i by omega)⟩
    rw [cntK_yes h3]; rfl
   ·have h3 : l.all (okR s b ids i) = false := h3
    refine ⟨i6 (by omega), ?_⟩
    refine ⟨i + 1, ⟨rfl, trivial, avR _ rfl, avR _ rfl, avR _ rfl, avI rfl ?_, avI rfl rfl, trivial⟩, h1, (show s.n - (i + 1) < s.n - i by omega)⟩
    rw [cntK_no h3]
 ·have h1 : i = s.n := by have := dF h1; omega
  refine r1I rfl ?_
  rw [h1, cntK_all]
theorem crS_one {agr : List Int → Bool} {js : List Int} {i : Nat} (h : i < js.length) : crS agr (js.length - i) js i = if agr (rmL js i) = true then crS agr (js.length - i - 1) js (i + 1) else crS agr (js.length - i - 1) (rmL js i) i := by
 obtain ⟨d, hd⟩ : ∃ d, js.length - i = d + 1 := ⟨js.length - i - 1, by omega⟩
 rw [hd]; rfl
theorem idK_len (l : List Rpt) (js : List Int) : (idK l js).length = js.length := by unfold idK; rw [List.length_map]
set_option maxHeartbeats 1000000 in
theorem r6_Core (s : Svc) (b : Brn) (l : List Rpt) : Spec PP 27 [s.v, b.v, .d (lR l)] [.agg [lI (corR s b l).1, I (corR s b l).2]] := by
 refine spec_at Tryz.func27 rfl (by kernel_rfl) rfl ?_
 refine CallSt.pure (r6_Checked s b l) rfl rfl ?_
 by_cases h0 : givE s b l = 0
 ·have ok := giv_ok h0
  have hn := ok.n
  have hO := ordL_len l
  have hT := ok.s.c.t
  rw [h0]
  refine Split.ff ?_
  refine CallSt.ro (r6_table s b l ok.s.c.m (by omega) ok.n (fun i hi => rpt_ok (ok.r i hi).2)) rfl rfl ?_
  refine CallSt.ro (r6_IDs l (by omega)) rfl rfl ?_
  rw [ids_all]
  refine CallSt.pure (r6_count s b l (idK l (ordL l)) ok.s.c.m (by omega) (by rw [idK_len]; omega)) rfl rfl ?_
  have ea := agr_cnt h0 (js := ordL l) ordL_mem
  refine Split.by (fun h1 => ?_) (fun h1 => ?_)
  ·have h1 : 0 < cntI s b l (idK l (ordL l)) := by
    have : (0 : Int) < (cntI s b l (idK l (ordL l)) : Nat) := dT h1
    omega
   have e : corR s b l = ([], 5) := by unfold corR; rw [if_neg (fun hh => hh h0), if_pos (by rw [ea]; exact decide_eq_true h1)]
   rw [e]
   exact r1C rfl rfl rfl rfl rfl rfl ⟨rfl, ⟨rfl, rfl⟩, trivial⟩
  have h1 : ¬ 0 < cntI s b l (idK l (ordL l)) := by
   have : ¬ (0 : Int) < (cntI s b l (idK l (ordL l)) : Nat) := dF h1
   omega
  have e : corR s b l = (idK l (crL (agrB s (l.map (alwP s b))) (ordL l)), 0) := by
   unfold corR; rw [if_neg (fun hh => hh h0), if_neg (by rw [ea, decide_eq_false h1]; decide), ids_sub (js := crL (agrB s (l.map (alwP s b))) (ordL l)) (crS_sub _ _ _)]
  rw [e]
  refine LoopOb.of (σ := Nat × List Int) (fun p => ([(2, .d (lR l)), (6, .box 6 0), (8, .d (tabD s b l)), (9, .d (lI (idK l p.2))), (10, .d (I p.1))], [(6, .box [.nilsl, .d (I 0)])])) (fun p => p.1 ≤ p.2.length ∧ p.2.Sublist (ordL l) ∧ crS (agrB s (l.map (alwP s b))) (p.2.length - p.1) p.2 p.1 = crL (agrB s (l.map (alwP s b))) (ordL l)) (fun p => p.2.length - p.1) (0, ordL l)
   ⟨rfl, ⟨obX rfl, trivial⟩, avR _ rfl, avQ rfl, avR _ rfl, avR _ rfl, avR _ rfl, trivial⟩ ⟨Nat.zero_le _, List.Sublist.refl _, rfl⟩ fun ⟨i, js⟩ ⟨hi, hs, hc⟩ => ?_
  dsimp only at hi hs hc ⊢
  have hlen := hs.length_le
  have hkl := idK_len l js
  refine Split.by (fun h2 => ?_) (fun h2 => ?_)
  ·have h2 : i < js.length := by have := dT h2; omega
   have hrl := rmL_len js h2
   have ec := crS_one (agr := agrB s (l.map (alwP s b))) h2
   refine CallSt.ro (r6_less (idK l js) i (by omega) (by omega)) rfl rfl ?_
   rw [idK_rm]
   refine CallSt.pure (r6_count s b l (idK l (rmL js i)) ok.s.c.m (by omega) (by rw [idK_len]; omega)) rfl rfl ?_
   have eb := agr_cnt h0 (js := rmL js i) (fun j hj => ordL_mem j (hs.subset (rmL_mem hj)))
   refine Split.by (fun h3 => ?_) (fun h3 => ?_)
   ·have h3 : cntI s b l (idK l (rmL js i)) = 0 := by
     have : ((cntI s b l (idK l (rmL js i)) : Nat) : Int) = 0 := by simpa using h3
     omega
    refine ⟨(i, rmL js i), ⟨rfl, ⟨obX rfl, trivial⟩, avR _ rfl, avQ rfl, avR _ rfl, avR _ rfl, avR _ rfl, trivial⟩, ⟨(show i ≤ (rmL js i).length by omega), (rm_sublist js i).trans hs, ?_⟩, (show (rmL js i).length - i < js.length - i by omega)⟩
    dsimp only
    rw [← hc, ec, eb, h3, if_neg (by decide), hrl]
    congr 1; omega
   ·have h3 : 0 < cntI s b l (idK l (rmL js i)) := by
     have : ((cntI s b l (idK l (rmL js i)) : Nat) : Int) ≠ 0 := by simpa using h3
     omega
    refine ⟨i6 (by omega), ?_⟩
    refine ⟨(i + 1, js), ⟨rfl, ⟨obX rfl, trivial⟩, avR _ rfl, avQ rfl, avR _ rfl, avR _ rfl, avI rfl rfl, trivial⟩, ⟨h2, hs, ?_⟩, (show js.length - (i + 1) < js.length - i by omega)⟩
    dsimp only
    rw [← hc, ec, eb, if_pos (decide_eq_true h3)]
    congr 1
  ·have h2 : i = js.length := by have := dF h2; omega
   have ec : crL (agrB s (l.map (alwP s b))) (ordL l) = js := by rw [← hc, h2, Nat.sub_self]; rfl
   rw [ec]
   exact r1C rfl rfl rfl rfl rfl rfl (eqvs_refl _)
 ·have e : corR s b l = ([], givE s b l) := by unfold corR; rw [if_pos h0]
  rw [e]
  refine Split.yes (by simpa using h0) ?_
  exact r1C rfl rfl rfl rfl rfl rfl ⟨rfl, ⟨rfl, rfl⟩, trivial⟩
theorem avNd {s : St} {ob : Nat → Option Ob} {v : AV} {j e k : Nat} {f : Nat → Nat → D} (h : v = .d .nil) (h1 : s.ob j = none) (h2 : ob j = some (.row e k 0 f)) : AVle s ob v (.own j) := by subst h; exact ⟨h1, e, k, f, h2⟩
theorem ovrO_yes {s : Svc} {L : List (Nat → Bool)} {c : Nat} {js : List Int} {i : Nat} (h : i < js.length) (hc : c < cntP s (metP (rmB L (js.getD i 0).toNat))) : ovrO s L c (js.take (i + 1)) = ovrO s L c (js.take i) ++ [js.getD i 0] := by
 unfold ovrO
 rw [take_flt _ h 0, if_pos (decide_eq_true hc)]
theorem ovrO_no {s : Svc} {L : List (Nat → Bool)} {c : Nat} {js : List Int} {i : Nat} (h : i < js.length) (hc : ¬ c < cntP s (metP (rmB L (js.getD i 0).toNat))) : ovrO s L c (js.take (i + 1)) = ovrO s L c (js.take i) := by
 unfold ovrO
 rw [take_flt _ h 0, if_neg (by rw [decide_eq_false hc]; decide), List.append_nil]
theorem ovrO_len (s : Svc) (L : List (Nat → Bool)) (c : Nat) (js : List Int) (i : Nat) : (ovrO s L c (js.take i)).length ≤ i := flt_len _ js i
theorem idK_app (l : List Rpt) (a : List Int) (j : Int) : idK l (a ++ [j]) = idK l a ++ [(l.getD j.toNat default).ID] := by unfold idK; rw [List.map_append]; rfl
theorem idK_get {l : List Rpt} {js : List Int} {i : Nat} (h : i < js.length) : (idK l js).getD i 0 = (l.getD (js.getD i 0).toNat default).ID := by
 unfold idK
 rw [List.getD_eq_getElem?_getD, List.getD_eq_getElem?_getD (l := js), List.getElem?_map, List.getElem?_eq_getElem h]; rfl
def ovK (s : Svc) (b : Brn) (l : List Rpt) (c i : Nat) : List Int := idK l (ovrO s (l.map (alwP s b)) c ((ordL l).take i))
set_option maxHeartbeats 1000000 in
theorem r6_Suspects (s : Svc) (b : Brn) (l : List Rpt) : Spec PP 28 [s.v, b.v, .d (lR l)] [.agg [lI (susR s b l).1, I (susR s b l).2]] := by
 refine specC_at [14] Tryz.func28 rfl (by kernel_rfl) rfl ?_
 refine CallSt.pure (r6_Checked s b l) rfl rfl ?_
 by_cases h0 : givE s b l = 0
 ·have ok := giv_ok h0
  have hn := ok.n
  have hO := ordL_len l
  have hT := ok.s.c.t
  have hkl := idK_len l (ordL l)
  rw [h0]
  refine Split.ff ?_
  refine CallSt.ro (r6_table s b l ok.s.c.m (by omega) ok.n (fun i hi => rpt_ok (ok.r i hi).2)) rfl rfl ?_
  refine CallSt.ro (r6_IDs l (by omega)) rfl rfl ?_
  rw [ids_all]
  refine CallSt.pure (r6_count s b l (idK l (ordL l)) ok.s.c.m (by omega) (by omega)) rfl rfl ?_
  rw [cnt_all h0]
  refine Split.by (fun h1 => ?_) (fun h1 => ?_)
  ·have h1 : 0 < cntP s (metP (l.map (alwP s b))) := by
    have : (0 : Int) < (cntP s (metP (l.map (alwP s b))) : Nat) := dT h1
    omega
   have e : susR s b l = ([], 0) := by unfold susR; rw [if_neg (fun hh => hh h0), if_pos h1]
   rw [e]
   exact r1C rfl rfl rfl rfl rfl rfl ⟨rfl, ⟨rfl, rfl⟩, trivial⟩
  have h1 : ¬ 0 < cntP s (metP (l.map (alwP s b))) := by
   have : ¬ (0 : Int) < (cntP s (metP (l.map (alwP s b))) : Nat) := dF h1
   omega
  have e : susR s b l = (ovK s b l 0 l.length, 0) := by
   unfold susR ovK; rw [if_neg (fun hh => hh h0), if_neg h1, ovrO_ids 0, List.take_of_length_le (by omega)]
  rw [e]
  refine LoopOb.of (σ := Nat) (fun i => ([(2, .d (lR l)), (6, .box 6 0), (8, .d (tabD s b l)), (9, .d (lI (idK l (ordL l)))), (10, .box 10 0), (11, .d (I i))], [(6, .box [.nilsl, .d (I 0)]), (10, .box [.own 33, .d (I 0)]), (33, .row 3 1 (ovK s b l 0 i).length (rowI (ovK s b l 0 i)))])) (fun i => i ≤ l.length) (fun i => l.length - i) 0
   ⟨rfl, ⟨obX rfl, ⟨avNd rfl rfl rfl, D.eqv_refl _, trivial⟩, obZ rfl rfl, trivial⟩, avR _ rfl, avQ rfl, avR _ rfl, avR _ rfl, avQ rfl, avR _ rfl, trivial⟩ (Nat.zero_le _) fun i hi => ?_
  have hi : i ≤ l.length := hi
  have hov : (ovK s b l 0 i).length ≤ i := by
   have := ovrO_len s (l.map (alwP s b)) 0 (ordL l) i
   unfold ovK; rw [idK_len]; exact this
  refine Split.by (fun h2 => ?_) (fun h2 => ?_)
  ·have h2 : i < l.length := by have := dT h2; omega
   have hrl := rmL_len (idK l (ordL l)) (i := i) (by omega)
   refine CallSt.ro (r6_less (idK l (ordL l)) i (by omega) (by omega)) rfl rfl ?_
   refine CallSt.pure (r6_count s b l (rmL (idK l (ordL l)) i) ok.s.c.m (by omega) (by omega)) rfl rfl ?_
   rw [cnt_rm h0 h2]
   refine Split.by (fun h3 => ?_) (fun h3 => ?_)
   ·have h3 : 0 < cntP s (metP (rmB (l.map (alwP s b)) ((ordL l).getD i 0).toNat)) := by
     have : (0 : Int) < (cntP s (metP (rmB (l.map (alwP s b)) ((ordL l).getD i 0).toNat)) : Nat) := dT h3
     omega
    refine Exists.intro (List.range 10) (And.intro (by kernel_rfl) (FzOb.no ?_))
    refine ⟨⟨rfl, by omega, by omega⟩, ?_⟩
    refine ⟨⟨.inr rfl, by unfold maxLen; omega, by show ((ovK s b l 0 i).length + 1) * 8 ≤ 140737488355328; omega⟩, ?_⟩
    refine ⟨i6 (by omega), ?_⟩
    refine ⟨i + 1, ⟨rfl, ⟨obX rfl, ⟨rfl, D.eqv_refl _, trivial⟩, obR rfl ?_, trivial⟩, avR _ rfl, avQ rfl, avR _ rfl, avR _ rfl, avQ rfl, avI rfl rfl, trivial⟩, h2, (show l.length - (i + 1) < l.length - i by omega)⟩
    have ee : ovK s b l 0 (i + 1) = ovK s b l 0 i ++ [(l.getD ((ordL l).getD i 0).toNat default).ID] := by unfold ovK; rw [ovrO_yes (by omega) h3, idK_app]
    rw [ee]
    exact pushI (by rw [← idK_get (by omega)]; rfl)
   ·have h3 : ¬ 0 < cntP s (metP (rmB (l.map (alwP s b)) ((ordL l).getD i 0).toNat)) := by
     have : ¬ (0 : Int) < (cntP s (metP (rmB (l.map (alwP s b)) ((ordL l).getD i 0).toNat)) : Nat) := dF h3
     omega
    refine ⟨i6 (by omega), ?_⟩
    refine ⟨i + 1, ⟨rfl, ⟨obX rfl, ⟨rfl, D.eqv_refl _, trivial⟩, obR rfl ?_, trivial⟩, avR _ rfl, avQ rfl, avR _ rfl, avR _ rfl, avQ rfl, avI rfl rfl, trivial⟩, h2, (show l.length - (i + 1) < l.length - i by omega)⟩
    have ee : ovK s b l 0 (i + 1) = ovK s b l 0 i := by unfold ovK; rw [ovrO_no (by omega) h3]
    rw [ee]; exact D.eqv_refl _
  ·have h2 : i = l.length := by have := dF h2; omega
   subst h2
   refine CutOb.at [(6, .box 6 0), (10, .box 10 0)] [(6, .box [.nilsl, .d (I 0)]), (10, .box [.d (lI (ovK s b l 0 l.length)), .d (I 0)])] ⟨rfl, ⟨obX rfl, ⟨avOw rfl rfl rfl (D.eqv_refl _), D.eqv_refl _, trivial⟩, trivial⟩, avQ rfl, avQ rfl, trivial⟩ ?_
   exact r1C rfl rfl rfl rfl rfl rfl (eqvs_refl _)
 ·have e : susR s b l = ([], givE s b l) := by unfold susR; rw [if_pos h0]
  rw [e]
  refine Split.yes (by simpa using h0) ?_
  exact r1C rfl rfl rfl rfl rfl rfl ⟨rfl, ⟨rfl, rfl⟩, trivial⟩
set_option maxHeartbeats 1000000 in
theorem r6_Needed (s : Svc) (b : Brn) (l : List Rpt) : Spec PP 29 [s.v, b.v, .d (lR l)] [.agg [lI (neeR s b l).1, I (neeR s b l).2]] := by
 refine specC_at [12] Tryz.func29 rfl (by kernel_rfl) rfl ?_
 refine CallSt.pure (r6_Checked s b l) rfl rfl ?_
 by_cases h0 : givE s b l = 0
 ·have ok := giv_ok h0
  have hn := ok.n
  have hO := ordL_len l
  have hT := ok.s.c.t
  have hkl := idK_len l (ordL l)
  rw [h0]
  refine Split.ff ?_
  refine CallSt.ro (r6_table s b l ok.s.c.m (by omega) ok.n (fun i hi => rpt_ok (ok.r i hi).2)) rfl rfl ?_
  refine CallSt.ro (r6_IDs l (by omega)) rfl rfl ?_
  rw [ids_all]
  obtain ⟨c, hc⟩ : ∃ c, cntP s (metP (l.map (alwP s b))) = c := ⟨_, rfl⟩
  have e : neeR s b l = (ovK s b l c l.length, 0) := by
   unfold neeR ovK; rw [if_neg (fun hh => hh h0), ← hc, ovrO_ids, List.take_of_length_le (by omega)]
  rw [e]
  refine LoopOb.of (σ := Nat) (fun i => ([(2, .d (lR l)), (6, .box 6 0), (8, .d (tabD s b l)), (9, .d (lI (idK l (ordL l)))), (10, .box 10 0), (11, .d (I i))], [(6, .box [.nilsl, .d (I 0)]), (10, .box [.own 33, .d (I 0)]), (33, .row 3 1 (ovK s b l c i).length (rowI (ovK s b l c i)))])) (fun i => i ≤ l.length) (fun i => l.length - i) 0
   ⟨rfl, ⟨obX rfl, ⟨avNd rfl rfl rfl, D.eqv_refl _, trivial⟩, obZ rfl rfl, trivial⟩, avR _ rfl, avQ rfl, avR _ rfl, avR _ rfl, avQ rfl, avR _ rfl, trivial⟩ (Nat.zero_le _) fun i hi => ?_
  have hi : i ≤ l.length := hi
  have hov : (ovK s b l c i).length ≤ i := by
   have := ovrO_len s (l.map (alwP s b)) c (ordL l) i
   unfold ovK; rw [idK_len]; exact this
  refine Split.by (fun h2 => ?_) (fun h2 => ?_)
  ·have h2 : i < l.length := by have := dT h2; omega
   have hrl := rmL_len (idK l (ordL l)) (i := i) (by omega)
   refine CallSt.ro (r6_less (idK l (ordL l)) i (by omega) (by omega)) rfl rfl ?_
   refine CallSt.pure (r6_count s b l (rmL (idK l (ordL l)) i) ok.s.c.m (by omega) (by omega)) rfl rfl ?_
   refine CallSt.pure (r6_count s b l (idK l (ordL l)) ok.s.c.m (by omega) (by omega)) rfl rfl ?_
   rw [cnt_rm h0 h2, cnt_all h0, hc]
   refine Split.by (fun h3 => ?_) (fun h3 => ?_)
   ·have h3 : c < cntP s (metP (rmB (l.map (alwP s b)) ((ordL l).getD i 0).toNat)) := by
     have : (c : Int) < (cntP s (metP (rmB (l.map (alwP s b)) ((ordL l).getD i 0).toNat)) : Nat) := dT h3
     omega
    refine Exists.intro (List.range 10) (And.intro (by kernel_rfl) (FzOb.no ?_))
    refine ⟨⟨rfl, by omega, by omega⟩, ?_⟩
    refine ⟨⟨.inr rfl, by unfold maxLen; omega, by show ((ovK s b l c i).length + 1) * 8 ≤ 140737488355328; omega⟩, ?_⟩
    refine ⟨i6 (by omega), ?_⟩
    refine ⟨i + 1, ⟨rfl, ⟨obX rfl, ⟨rfl, D.eqv_refl _, trivial⟩, obR rfl ?_, trivial⟩, avR _ rfl, avQ rfl, avR _ rfl, avR _ rfl, avQ rfl, avI rfl rfl, trivial⟩, h2, (show l.length - (i + 1) < l.length - i by omega)⟩
    have ee : ovK s b l c (i + 1) = ovK s b l c i ++ [(l.getD ((ordL l).getD i 0).toNat default).ID] := by unfold ovK; rw [ovrO_yes (by omega) h3, idK_app]
    rw [ee]
    exact pushI (by rw [← idK_get (by omega)]; rfl)
   ·have h3 : ¬ c < cntP s (metP (rmB (l.map (alwP s b)) ((ordL l).getD i 0).toNat)) := by
     have : ¬ (c : Int) < (cntP s (metP (rmB (l.map (alwP s b)) ((ordL l).getD i 0).toNat)) : Nat) := dF h3
     omega
    refine ⟨i6 (by omega), ?_⟩
    refine ⟨i + 1, ⟨rfl, ⟨obX rfl, ⟨rfl, D.eqv_refl _, trivial⟩, obR rfl ?_, trivial⟩, avR _ rfl, avQ rfl, avR _ rfl, avR _ rfl, avQ rfl, avI rfl rfl, trivial⟩, h2, (show l.length - (i + 1) < l.length - i by omega)⟩
    have ee : ovK s b l c (i + 1) = ovK s b l c i := by unfold ovK; rw [ovrO_no (by omega) h3]
    rw [ee]; exact D.eqv_refl _
  ·have h2 : i = l.length := by have := dF h2; omega
   subst h2
   refine CutOb.at [(6, .box 6 0), (10, .box 10 0)] [(6, .box [.nilsl, .d (I 0)]), (10, .box [.d (lI (ovK s b l c l.length)), .d (I 0)])] ⟨rfl, ⟨obX rfl, ⟨avOw rfl rfl rfl (D.eqv_refl _), D.eqv_refl _, trivial⟩, trivial⟩, avQ rfl, avQ rfl, trivial⟩ ?_
   exact r1C rfl rfl rfl rfl rfl rfl (eqvs_refl _)
 ·have e : neeR s b l = ([], givE s b l) := by unfold neeR; rw [if_pos h0]
  rw [e]
  refine Split.yes (by simpa using h0) ?_
  exact r1C rfl rfl rfl rfl rfl rfl ⟨rfl, ⟨rfl, rfl⟩, trivial⟩
theorem crS_len {agr : List Int → Bool} (n : Nat) (js : List Int) (i : Nat) : (crS agr n js i).length ≤ js.length := (crS_sub n js i).length_le
theorem cor_len (s : Svc) (b : Brn) (l : List Rpt) : (corR s b l).1.length ≤ l.length := by
 unfold corR
 split
 ·simp
 ·split
  ·simp
  ·dsimp only
   rw [ids_len]
   have := crS_len (agr := agrB s (l.map (alwP s b))) (ordL l).length (ordL l) 0
   have e := ordL_len l
   unfold crL
   omega
set_option maxHeartbeats 1000000 in
theorem s_CellCores (s : Svc) (b : Brn) (l : List Rpt) : Spec PP 7 [s.v, b.v, .d (lR l)] [B true] := by
 refine spec_at Tryz.func7 rfl (by kernel_rfl) rfl ?_
 refine CallSt.pure (w_small s) rfl rfl ?_
 refine Split.by (fun h1 => ?_) (fun h1 => ?_)
 ·repeat first | refine Split.tt ?_ | refine Split.ff ?_
  refine CallSt.pure w_sanity rfl rfl ?_
  exact r1B rfl rfl
 refine CallSt.pure (w_few l 7) rfl rfl ?_
 repeat first | refine Split.tt ?_ | refine Split.ff ?_
 refine Split.by (fun h2 => ?_) (fun h2 => ?_)
 ·refine CallSt.pure w_sanity rfl rfl ?_
  exact r1B rfl rfl
 have hl : l.length ≤ 30 := by
  have : (!fewB l 7) = false := h2
  unfold fewB at this
  simp at this
  omega
 have c1 := cor_len s b l
 have c2 := sus_len s b l
 have c3 := nee_len s b l
 refine CallSt.ro (l_Core s b l) rfl rfl ?_
 refine CallSt.ro (r6_Core s b l) rfl rfl ?_
 refine CallSt.ro (l_Suspects s b l) rfl rfl ?_
 refine CallSt.ro (r6_Suspects s b l) rfl rfl ?_
 refine CallSt.ro (l_Needed s b l) rfl rfl ?_
 refine CallSt.ro (r6_Needed s b l) rfl rfl ?_
 refine CallSt.pure w_sanity rfl rfl ?_
 repeat first | refine Split.tt ?_ | refine Split.ff ?_ | refine Split.yes (by simp) ?_
 refine CallSt.pure (r_SameInts (corR s b l).1 (corR s b l).1 (by omega)) rfl rfl ?_
 repeat first | refine Split.tt ?_ | refine Split.ff ?_ | refine Split.yes (by simp) ?_
 refine CallSt.pure (r_SameInts (susR s b l).1 (susR s b l).1 (by omega)) rfl rfl ?_
 repeat first | refine Split.tt ?_ | refine Split.ff ?_ | refine Split.yes (by simp) ?_
 refine CallSt.pure (r_SameInts (neeR s b l).1 (neeR s b l).1 (by omega)) rfl rfl ?_
 repeat first | refine Split.tt ?_ | refine Split.ff ?_ | refine Split.yes (by simp) ?_
 exact r1B rfl (by simp)
end Go.Pg
