/- Texts joined and shortened by program. -/
import Derived.Test.YtcgifildhmkdfaaGreatK4
import Derived.Shelf.SlLaysE0
import Derived.Shelf.RegionOpenPlain
import Derived.WalkKit
import Derived.Deep.LoopGhost
import Derived.Deep.RegionLaw
import Derived.Lib.Walk
import Derived.Sort.WalkB12
import Derived.Lib.SliceRun
import Derived.Lib.SlicesDelete
import Derived.Test.YtcgifildhmkdfaaGreatKA
import Derived.Test.YtcgifildhmkdfaaGreatK8
set_option linter.all false
namespace Go.Pg
open Go.Proofs Go.Shelf Go.RowKit Go.Lib Go.Sort
variable {P : Program} {ρ : Ren}
theorem run_clearK (w : World) (t e ty : TypeId) (z : Value) (ht : P.underlying t = some (.slice e)) (hv : ∀ w, (zeroValue e).run P w = .ok z w) (b o n c : Nat) (zs : List Value) (hzs : (Builtin.zeroCells z.cells n).toList = zs) (ho : ∀ v ∈ zs, v.oneCell' = true) (hn : 0 < n)
    (hc : ∀ j, j < zs.length → (w.cell? ⟨b, o + j, none⟩).isSome = true) (hf : ∀ j, j < zs.length → w.frozen? ⟨b, o + j, none⟩ = false) :
    (Builtin.clear_ #[t] ty #[.slice (some ⟨b, o, none⟩) n c]).run P w = .ok (.tuple #[]) (w.setCells b o zs) := by
  have hst := run_storeCells_cells (P := P) b o zs 0 w (by simpa using hc) (by simpa using hf) ho
  simp only [Nat.add_zero] at hst
  obtain ⟨m, rfl⟩ : ∃ m, n = m + 1 := ⟨n - 1, by omega⟩
  simp [Builtin.clear_, run_underlying ht, hv, hzs, hst]
theorem lay2_arr (d : Array Value) (i j : Nat) (t : List Value) (hij : i ≤ j) (hj : j ≤ d.size) (ht : t.length = j - i) :
    lay (lay d i (d.toList.drop j)) (i + (d.size - j)) t = (d.toList.take i ++ d.toList.drop j ++ t).toArray := by
  apply Array.ext_getElem?
  intro u
  have l1 : (d.toList.take i).length = i := by simp; omega
  have l2 : (d.toList.drop j).length = d.size - j := by simp
  rw [lay_get? _ _ _ _ (by rw [lay_size]; omega), lay_get? _ _ _ _ (by rw [l2]; omega), show (d.toList.take i ++ d.toList.drop j ++ t).toArray[u]? = (d.toList.take i ++ d.toList.drop j ++ t)[u]? from by simp]
  simp only [l2, ht]
  by_cases c1 : u < i
  · rw [if_neg (by omega), if_neg (by omega), List.getElem?_append_left (by simp; omega), List.getElem?_append_left (by omega), List.getElem?_take, if_pos c1, Array.getElem?_toList]
  · by_cases c2 : u < i + (d.size - j)
    · rw [if_neg (by omega), if_pos (by omega), List.getElem?_append_left (by simp; omega), List.getElem?_append_right (by omega), l1]
    · rw [List.getElem?_append_right (by simp; omega)]
      simp only [List.length_append, l1, l2]
      by_cases c3 : u < d.size
      · rw [if_pos (by omega)]
      · rw [if_neg (by omega), if_neg (by omega), Array.getElem?_eq_none (by omega), List.getElem?_eq_none (by omega)]
set_option maxHeartbeats 4000000 in
set_option maxRecDepth 1000000 in
theorem delK_arr (L : SlLaysE0.n45 P ρ) {k : Nat} (hk : 0 < k) (a23 : ∀ w, (isAgg (ρ.t 23)).run P w = .ok true w) (z23 : ∀ w, (Go.sizeOf (ρ.t 23)).run P w = .ok k w) (i0 : TypeInfo) (hi0 : P.info? (ρ.t 23) = some i0) (hz1 : i0.size = k)
    (z : Value) (v23 : ∀ w, (zeroValue (ρ.t 23)).run P w = .ok z w) (zs : List Value) (blk off cap i j n : Nat) (hzs : (Builtin.zeroCells z.cells (j - i)).toList = zs) (hzl : zs.length = (j - i) * k) (hzo : ∀ v ∈ zs, v.oneCell' = true)
    (D : Array Value) (hD : D.size = n * k) (hDo : ∀ v ∈ D.toList, v.oneCell' = true) (w : World) (hH : Go.Sort.Holds id w blk off D) (hcap : n ≤ cap) (hm : cap ≤ 9223372036854775807) (hij : i < j) (hj : j ≤ n) :
    Calls P (ρ.f 45) #[.slice (some ⟨blk, off, none⟩) n cap, .int .i64 i, .int .i64 j] w fun e w' => e = .returned (.slice (some ⟨blk, off, none⟩) (n - (j - i)) cap) ∧ ∃ q, w' = putRow id (Sort.ahead w q) blk off (D.toList.take (i * k) ++ D.toList.drop (j * k) ++ zs).toArray := by
  have mixed := L.mixed; have t0 := L.t0; have a0 := L.a0; have z0 := L.z0; have v0 := L.v0; have t3 := L.t3; have a3 := L.a3; have z3 := L.z3; have v3 := L.v3; have t4 := L.t4; have a4 := L.a4; have z4 := L.z4; have v4 := L.v4; have t22 := L.t22; have a22 := L.a22; have z22 := L.z22; have v22 := L.v22
  have b1 : i * k ≤ j * k := Nat.mul_le_mul_right k (by omega)
  have b2 : j * k ≤ n * k := Nat.mul_le_mul_right k hj
  have b3 : (n - j) * k = n * k - j * k := Nat.sub_mul n j k
  have b4 : (j - i) * k = j * k - i * k := Nat.sub_mul j i k
  have b5' : (i + (n - j)) * k = i * k + (n * k - j * k) := by rw [Nat.add_mul, b3]
  have b5 : Hid ((i + (n - j)) * k = i * k + (n * k - j * k)) := b5'
  obtain ⟨news, hnews⟩ : ∃ news, news = D.toList.drop (j * k) := ⟨_, rfl⟩
  have hlen : news.length = (n - j) * k := by rw [hnews, List.length_drop, Array.length_toList, hD, b3]
  have hget : ∀ t, t < (n - j) * k → news[t]? = some D[j * k + t]! := by
    intro t ht
    rw [hnews, List.getElem?_drop, Array.getElem?_toList, getElem!_pos D (j * k + t) (by omega), Array.getElem?_eq_getElem (by omega)]
  obtain ⟨A, hA, hsrc⟩ : ∃ A : Addr, (if cap = j then some (⟨blk, off, none⟩ : Addr) else some ⟨blk, off + j * k, none⟩) = some A ∧ Hid (∀ t u, news[t]? = some u → w.drew.cell? (A.add t) = some u) := by
    by_cases h : cap = j
    · refine ⟨⟨blk, off, none⟩, by simp [h], fun t u hu => ?_⟩
      have h0 : news.length = 0 := by rw [hlen, show n - j = 0 by omega, Nat.zero_mul]
      rw [List.length_eq_zero_iff.1 h0] at hu
      simp at hu
    · refine ⟨⟨blk, off + j * k, none⟩, by simp [h], fun t u hu => ?_⟩
      have ht : t < (n - j) * k := by
        have := (List.getElem?_eq_some_iff.1 hu).1
        rwa [hlen] at this
      rw [hget t ht] at hu
      rw [Addr.add_lit, show off + j * k + t = off + (j * k + t) by omega]
      exact (hH (j * k + t) (by omega)).1.trans hu
  have s1 : Hid (news.length = (n - j) * k) := hlen
  have s2 : Hid (∀ u ∈ news, u.oneCell' = true) := by
    intro u hu
    rw [hnews] at hu
    exact hDo u (List.mem_of_mem_drop hu)
  have s3 : Hid (∀ t, t < news.length → (w.drew.cell? ⟨blk, off + i * k + t, none⟩).isSome = true ∧ w.drew.frozen? ⟨blk, off + i * k + t, none⟩ = false) := by
    intro t ht
    rw [hlen, b3] at ht
    rw [Nat.add_assoc]
    exact ⟨by show (w.cell? _).isSome = true; rw [(hH (i * k + t) (by omega)).1]; rfl, (hH (i * k + t) (by omega)).2⟩
  obtain ⟨W1, hW1⟩ : ∃ W1, W1 = w.drew.setCells blk (off + i * k) news := ⟨_, rfl⟩
  have hW1' : W1 = putRow id (Sort.ahead w 1) blk off (lay D (i * k) (D.toList.drop (j * k))) := by
    have e := putRow_setCells id (Sort.ahead w 1) blk off (D.toList.drop (j * k)) D (i * k) (by simp; omega)
    rw [List.map_id, putRow_self id (Sort.ahead w 1) blk off D (holds_ahead id w 1 blk off D hH)] at e
    rw [hW1, hnews, ← e]
    rfl
  have hH1 : Go.Sort.Holds id W1 blk off (lay D (i * k) (D.toList.drop (j * k))) := by rw [hW1']; exact holds_putRow id _ blk off D _ (holds_ahead id w 1 blk off D hH) (lay_size _ _ _)
  have hcl : ∀ ty, (Builtin.clear_ #[ρ.t 22] ty #[.slice (some ⟨blk, off + (i + (n - j)) * k, none⟩) (n - (i + (n - j))) (cap - (i + (n - j)))]).run P W1 = .ok (.tuple #[]) (W1.setCells blk (off + (i + (n - j)) * k) zs) :=
    fun ty => run_clearK W1 _ _ ty z t22 v23 blk (off + (i + (n - j)) * k) _ _ zs (by rw [show n - (i + (n - j)) = j - i by omega]; exact hzs) hzo (by omega)
      (fun t ht => by have := b5.out; rw [Nat.add_assoc, (hH1 _ (by rw [lay_size]; omega)).1]; rfl) (fun t ht => by have := b5.out; rw [Nat.add_assoc]; exact (hH1 _ (by rw [lay_size]; omega)).2)
  have X : Aside (W1 = putRow id (Sort.ahead w 1) blk off (lay D (i * k) (D.toList.drop (j * k)))) := hW1'
  have hW : Hid (W1 = w.drew.setCells blk (off + i * k) news) := hW1
  have hic : i ≤ cap := by omega
  have hjc : j ≤ cap := by omega
  clear hW1 hW1' hH1 hH hget hnews hlen b1 b2 b3 b4 b5' hzs hzo hDo hm
  obtain ⟨_, _, FG⟩ := L.f45
  go_enter FG, SlBodyN.n45_ntmps ρ
  go_wp2_with fail
  go_region_law_o (refine step_append_room rfl (.tmp 22) (.tmp 25) (ρ.t 22) rfl (ρ.t 23) i0 k t22 hi0 hz1 blk off i cap (by simp [Act.eval, Act.put]) A (n - j) (cap - j) news (by simp [Act.eval, Act.put]) s1.out hsrc.out s2.out (by omega) s3.out ?_; rw [← hW.out])
  go_wp2
  go_ret
  refine ⟨by rw [show n - (j - i) = i + (n - j) by omega]; rfl, 1, ?_⟩
  have b1 : i * k ≤ j * k := Nat.mul_le_mul_right k (by omega)
  have b2 : j * k ≤ n * k := Nat.mul_le_mul_right k hj
  have b4 : (j - i) * k = j * k - i * k := Nat.sub_mul j i k
  have e := putRow_setCells id (Sort.ahead w 1) blk off zs (lay D (i * k) (D.toList.drop (j * k))) ((i + (n - j)) * k) (by have := b5.out; rw [lay_size]; omega)
  rw [List.map_id] at e
  rw [X.out, e, b5.out, ← hD, lay2_arr D (i * k) (j * k) zs b1 (by omega) (by omega)]
theorem specT_deleteK (L : SlLaysE0.n45 P ρ) (hent : Ent P (ρ.f 45)) {k : Nat} (hk : 0 < k) (a23 : ∀ w, (isAgg (ρ.t 23)).run P w = .ok true w) (z23 : ∀ w, (Go.sizeOf (ρ.t 23)).run P w = .ok k w) (i0 : TypeInfo) (hi0 : P.info? (ρ.t 23) = some i0) (hz1 : i0.size = k)
    (z : Value) (v23 : ∀ w, (zeroValue (ρ.t 23)).run P w = .ok z w) (hzk : z.cells.size = k) (hzo : ∀ v ∈ z.cells.toList, v.oneCell' = true) (e : TypeId) (n i : Nat) (f : Nat → Nat → D) (hf : ∀ m j, m < n → j < k → (f m j).flat = true) (hi : i < n) :
    SpecT P (ρ.f 45) [] [.d (.int .i64 i), .d (.int .i64 ((i + 1 : Nat) : Int))] e k n f (n - 1) (fun m => if m < i then f m else f (m + 1)) := by
  refine ⟨hent, fun w ok vs us v xs hok h1 h2 hr => ?_⟩
  cases h1
  cases h2 with
  | cons h2 h3 =>
  cases h3 with
  | cons h3 h4 =>
  cases h4
  rename_i a b
  have ha : a = .int .i64 i := h2
  have hb : b = .int .i64 ((i + 1 : Nat) : Int) := h3
  subst ha; subst hb
  have hxl := hr.own.1
  rcases hr.own.2 with ⟨h4, h5⟩ | ⟨q, cap, cur, rfl, _, hh, hnc, hcap, hcs, htk⟩
  · omega
  · have b1 : i * k ≤ (i + 1) * k := Nat.mul_le_mul_right k (by omega)
    have b2 : (i + 1) * k ≤ n * k := Nat.mul_le_mul_right k hi
    have b3 : (i + 1) * k = i * k + k := by rw [Nat.add_mul, Nat.one_mul]
    have b4 : (n - 1) * k = n * k - k := by rw [Nat.sub_mul, Nat.one_mul]
    have hck : n * k ≤ cap * k := Nat.mul_le_mul_right k hnc
    have hxc : ∀ t, t < n * k → cur[t]? = xs[t]? := fun t ht => by
      rw [← htk, List.getElem?_take, if_pos ht, Array.getElem?_toList]
    have hH : Go.Sort.Holds id w q 0 xs.toArray := fun t ht => by
      have ht : t < n * k := by simpa [hxl] using ht
      have hx : xs[t]? = some xs.toArray[t]! := by
        rw [getElem!_pos xs.toArray t (by simpa [hxl] using ht), List.getElem?_eq_getElem (by omega)]; rfl
      refine ⟨?_, ?_⟩
      · simp only [World.cell?, hh, id_eq, Nat.zero_add]
        rw [hxc t ht, hx]; rfl
      · simp [World.frozen?, hh]
    obtain ⟨zs, hzs⟩ : ∃ zs, (Builtin.zeroCells z.cells (i + 1 - i)).toList = zs := ⟨_, rfl⟩
    have hzl : zs.length = (i + 1 - i) * k := by rw [← hzs, zeroCells_len, hzk]
    have hzo' : ∀ v ∈ zs, v.oneCell' = true := fun v hv => by
      obtain ⟨t, ht⟩ := List.getElem?_of_mem hv
      have htl : t < (i + 1 - i) * k := by have := (List.getElem?_eq_some_iff.1 ht).1; omega
      rw [← hzs, zeroCells_get _ _ _ (by rw [hzk]; exact htl)] at ht
      exact hzo v (List.mem_of_getElem? ht)
    have hrun := delK_arr L hk a23 z23 i0 hi0 hz1 z v23 zs q 0 cap i (i + 1) n hzs hzl hzo' xs.toArray (by simp [hxl]) (by simpa using hr.one) w hH hnc (by unfold maxLen at hcap; omega) (by omega) (by omega)
    refine hrun.mono ?_
    rintro en w' ⟨rfl, m, rfl⟩
    obtain ⟨R, hR⟩ : ∃ R, R = xs.take (i * k) ++ xs.drop ((i + 1) * k) ++ zs := ⟨_, rfl⟩
    have hzl' : zs.length = k := by rw [hzl, Nat.add_sub_cancel_left, Nat.one_mul]
    have hRl : R.length = n * k := by rw [hR, List.length_append, List.length_append, List.length_take, List.length_drop, hzl', hxl]; omega
    have hRg : ∀ t, t < (n - 1) * k → R[t]? = if t < i * k then xs[t]? else xs[t + k]? := fun t ht => by
      rw [hR, List.getElem?_append_left (by rw [List.length_append, List.length_take, List.length_drop, hxl]; omega)]
      split
      · rename_i h1; rw [List.getElem?_append_left (by rw [List.length_take, hxl]; omega), List.getElem?_take, if_pos h1]
      · rename_i h1
        rw [List.getElem?_append_right (by rw [List.length_take, hxl]; omega), List.getElem?_drop, List.length_take, hxl]
        congr 1; omega
    have eR : (xs.toArray.toList.take (i * k) ++ xs.toArray.toList.drop ((i + 1) * k) ++ zs).toArray = R.toArray := by rw [hR]
    rw [eR]
    have hg : q < w.heap.size := (Array.getElem?_eq_some_iff.1 hh).1
    have hheap : ∀ i, i < w.heap.size → (putRow id (Sort.ahead w m) q 0 R.toArray).heap[i]? = if i = q then some (.cells (putCells id 0 R.toArray cur) e (0, 0)) else w.heap[i]? := fun i hi => by
      simp only [putRow, mapBlock, Sort.ahead]
      rw [Array.getElem?_modify]
      by_cases e' : q = i
      · subst e'; simp [hh, onCells]
      · rw [if_neg e', if_neg (fun e'' => e' e''.symm)]
    have hsz : (putCells id 0 R.toArray cur).size = cap * k := by simp [putCells, hcs]
    have hsz' : (putCells id 0 R.toArray cur).toList.length = cap * k := (Array.length_toList).trans hsz
    have hget : ∀ t, t < n * k → (putCells id 0 R.toArray cur).toList[t]? = R[t]? := fun t ht => by
      have hlt : t < cur.size := by omega
      rw [Array.getElem?_toList, putCells, Array.getElem?_mapIdx, Array.getElem?_eq_getElem hlt]
      simp only [Option.map_some, Nat.zero_le, true_and, Nat.zero_add, List.size_toArray, hRl, if_pos ht, Nat.sub_zero, id_eq]
      rw [getElem!_pos R.toArray t (by simpa [hRl] using ht), List.getElem?_eq_getElem (by omega)]; rfl
    rw [show n - (i + 1 - i) = n - 1 by omega]
    refine ⟨_, rfl, ⟨rfl, rfl, rfl, by simp [putRow, mapBlock, Sort.ahead], fun i hi hne => ?_⟩, fun b hb => .inl hb, (putCells id 0 R.toArray cur).toList.take ((n - 1) * k), ⟨by rw [List.length_take, hsz']; omega, .inr ⟨q, cap, _, rfl, Nat.zero_le _, by rw [hheap q hg, if_pos rfl], by omega, hcap, hsz, rfl⟩⟩, fun u hu => ?_, fun m' hm' j hj => ?_⟩
    · rw [hheap i hi, if_neg fun e' => hne (by rw [e']; rfl)]
    · obtain ⟨t, ht⟩ := List.getElem?_of_mem hu
      rw [List.getElem?_take] at ht
      split at ht
      · rename_i hlt
        rw [hget t (by omega), hRg t hlt] at ht
        split at ht
        · exact hr.one u (List.mem_of_getElem? ht)
        · exact hr.one u (List.mem_of_getElem? ht)
      · cases ht
    · have hlt : m' * k + j < (n - 1) * k := by
        have : (m' + 1) * k ≤ (n - 1) * k := Nat.mul_le_mul_right k hm'
        rw [Nat.add_mul] at this; omega
      rw [List.getElem?_take, if_pos hlt, hget _ (by omega), hRg _ hlt]
      by_cases hmi : m' < i
      · have h6 : (m' + 1) * k ≤ i * k := Nat.mul_le_mul_right k hmi
        rw [Nat.add_mul] at h6
        rw [if_pos (by omega)]
        obtain ⟨u, hu, hrep⟩ := hr.rep m' (by omega) j hj
        refine ⟨u, hu, ?_⟩
        show Rep _ _ ((if m' < i then f m' else f (m' + 1)) j) u
        rw [if_pos hmi]
        exact Rep.flat (hf m' j (by omega) hj) hrep
      · have h6 : i * k ≤ m' * k := Nat.mul_le_mul_right k (by omega)
        rw [if_neg (by omega)]
        obtain ⟨u, hu, hrep⟩ := hr.rep (m' + 1) (by omega) j hj
        refine ⟨u, ?_, ?_⟩
        · rw [← hu]; congr 1; rw [Nat.add_mul]; omega
        · show Rep _ _ ((if m' < i then f m' else f (m' + 1)) j) u
          rw [if_neg hmi]
          exact Rep.flat (hf (m' + 1) j (by omega) hj) hrep
theorem agg_facts {e : Nat} {ei : TI} (h : TTab e = some ei) (ha : ei.agg = true) : ∃ i0 z, PP.info? e = some i0 ∧ i0.size = ei.size ∧ (∀ w, (isAgg e).run PP w = .ok true w) ∧ (∀ w, (Go.sizeOf e).run PP w = .ok ei.size w) ∧ (∀ w, (zeroValue e).run PP w = .ok z w) ∧ z.cells.toList = ei.zero := by
  obtain ⟨info, d, z, h1, h2, h3, h4, h5, h6, h7, h8⟩ := ti_facts (hT e ei h)
  refine ⟨info, z, h1, h4, fun w => ?_, fun w => ?_, fun w => ?_, h7⟩
  · rw [ha] at h6
    cases d <;> simp [TK.isAgg] at h6 <;> simp [isAgg, run_underlying h2]
  · simp [Go.sizeOf, typeInfo, h1, h4]
  · simp [zeroValue, typeInfo, h1, h3]
theorem SpecT.congr {P : Program} {f : FuncId} {pre post : List V1} {e k n n' n2 : Nat} {g g' g2 : Nat → Nat → D} (h : SpecT P f pre post e k n g n' g') (hn : n' = n2) (hg : ∀ m, m < n2 → ∀ j, j < k → g' m j = g2 m j) : SpecT P f pre post e k n g n2 g2 := by
  subst hn
  refine ⟨h.1, fun w ok vs us v xs h1 h2 h3 h4 => (h.2 w ok vs us v xs h1 h2 h3 h4).mono ?_⟩
  rintro en w' ⟨v', e1, e2, e3, xs', e4, e5, e6⟩
  exact ⟨v', e1, e2, e3, xs', e4, e5, fun m hm j hj => by rw [← hg m hm j hj]; exact e6 m hm j hj⟩
theorem flatB (L : List (Nat → Bool)) (m j : Nat) (hj : j < 38) : (rowB L m j).flat = true := by
  show (bAt (L.getD m default) j).flat = true
  rcases i38 hj with rfl | rfl | rfl | rfl | rfl | rfl | rfl | rfl | rfl | rfl | rfl | rfl | rfl | rfl | rfl | rfl | rfl | rfl | rfl | rfl | rfl | rfl | rfl | rfl | rfl | rfl | rfl | rfl | rfl | rfl | rfl | rfl | rfl | rfl | rfl | rfl | rfl | rfl <;> rfl
theorem o_cloneB (L : List (Nat → Bool)) (hn : L.length ≤ 1000000) : SpecO PP 108 [.d (lB L)] 123 38 L.length (rowB L) := by
  refine specO_at Tryz.func108 rfl (by kernel_rfl) rfl ?_
  refine fun b hb => ?_
  refine Split.by (fun h1 => ?_) (fun h1 => ?_)
  · have h0 := hb h1
    refine ⟨rfl, rfl, h0.symm, fun i hi => ?_⟩
    omega
  · refine ⟨⟨.inr rfl, by unfold maxLen; omega, by show (0 + L.length) * 304 ≤ 140737488355328; omega⟩, ?_⟩
    refine ⟨rfl, rfl, Nat.zero_add _, fun i hi j hj => ?_⟩
    exact D.eqv_refl _
theorem t_delB (L : List (Nat → Bool)) (i : Nat) (hi : i < L.length) : SpecT PP 107 [] [.d (.int .i64 i), .d (.int .i64 ((i + 1 : Nat) : Int))] 123 38 L.length (rowB L) (rmB L i).length (rowB (rmB L i)) := by
  obtain ⟨i0, z, h1, h2, h3, h4, h5, h6⟩ := agg_facts (e := 123) (ei := ⟨38, true, 304, List.replicate 38 (.int .u64 0), .array 38 121⟩) (by kernel_rfl) rfl
  have h := specT_deleteK Tryz.delB ⟨_, Tryz.func107, by kernel_rfl, by kernel_rfl⟩ (k := 38) (by decide) h3 h4 i0 h1 h2 z h5 (by rw [← Array.length_toList, h6]; rfl) (by rw [h6]; intro v hv; rw [List.eq_of_mem_replicate hv]; rfl) 123 L.length i (rowB L) (fun m j _ hj => flatB L m j hj) hi
  refine h.congr (rmB_len hi).symm fun m hm j hj => ?_
  have e : (rmB L i).getD m default = if m < i then L.getD m default else L.getD (m + 1) default := by
    rw [List.getD_eq_getElem?_getD, rmB_get hi]
    split <;> rfl
  show (if m < i then rowB L m else rowB L (m + 1)) j = bAt ((rmB L i).getD m default) j
  rw [e]
  split <;> rfl
theorem l_withoutB (L : List (Nat → Bool)) (i : Nat) (hi : i < L.length) (hn : L.length ≤ 1000000) : Spec PP 58 [.d (lB L), N i] [.d (lB (rmB L i))] := by
  refine spec_at Tryz.func58 rfl (by kernel_rfl) rfl ?_
  refine CallSt.own (o_cloneB L hn) rfl rfl (fun m j _ hj => flatB L m j hj) ?_
  refine ⟨i6 (by omega), ?_⟩
  refine CallSt.tk rfl (t_delB L i hi) ⟨⟨[], .tmp 6, [.tmp 7, .tmp 9], [], rfl, rfl, rfl, rfl, rfl, rfl, rfl⟩⟩ rfl ?_
  exact ⟨⟨_, _, _, _, rfl, D.eqv_refl _⟩, trivial⟩
theorem ovr_mem {s : Svc} {L : List (Nat → Bool)} {c k : Nat} : ∀ j ∈ ovrI s L c k, 0 ≤ j ∧ j < k := fun j hj => by
  obtain ⟨i, hi, -, rfl⟩ := ovrI_mem.1 hj
  omega
set_option maxHeartbeats 1000000 in
theorem l_Suspects (s : Svc) (b : Brn) (l : List Rpt) : Spec PP 21 [s.v, b.v, .d (lR l)] [.d (lI (susR s b l).1), .d (.int .i64 (susR s b l).2)] := by
  refine spec_at Tryz.func21 rfl (by kernel_rfl) rfl ?_
  refine CallSt.ro (l_all s b l) rfl rfl ?_
  by_cases h0 : givE s b l = 0
  · have e : allR s b l = (l.map (alwP s b), 0) := by unfold allR; rw [if_neg (fun hh => hh h0)]
    have e1 : susR s b l = if 0 < cntP s (metP (l.map (alwP s b))) then ([], 0) else (idsL l (ovrI s (l.map (alwP s b)) 0 l.length), 0) := by unfold susR; rw [if_neg (fun hh => hh h0)]
    have ok := giv_ok h0
    have hn := ok.n
    have hL : (l.map (alwP s b)).length = l.length := List.length_map _
    rw [e, e1]
    generalize l.map (alwP s b) = L at hL
    refine Split.ff ?_
    refine Exists.intro (List.range 5) (And.intro (by kernel_rfl) (FzOb.no ?_))
    refine CallOb.pure (l_meet L (by omega)) rfl rfl ?_
    refine CallOb.pure (l_count s (metP L) ok.s.c.m) rfl rfl ?_
    refine Split.by (fun h1 => ?_) (fun h1 => ?_)
    · have h1 : 0 < cntP s (metP L) := by
        have : (0 : Int) < ((plsL s.c.M (metP L)).length : Int) := dT h1
        unfold cntP; omega
      rw [if_pos h1]
      exact ⟨⟨_, _, _, _, rfl, rfl, .inl rfl⟩, rtI rfl rfl, trivial⟩
    have h1 : ¬ 0 < cntP s (metP L) := by
      have : ¬ (0 : Int) < ((plsL s.c.M (metP L)).length : Int) := dF h1
      unfold cntP; omega
    rw [if_neg h1]
    refine LoopOb.of (σ := Nat) (fun i => ([(2, .d (lR l)), (3, .box 3 0), (8, .d (lB L)), (10, .own 10), (28, .d (I l.length)), (29, .d (I i))], [(3, .box (s.ds.map AV.d)), (10, .row 3 1 (ovrI s L 0 i).length (rowI (ovrI s L 0 i)))])) (fun i => i ≤ l.length) (fun i => l.length - i) 0
      ⟨rfl, ⟨obX rfl, obR rfl ⟨rfl, .inl rfl⟩, trivial⟩, avR _ rfl, avQ rfl, avR _ rfl, avQ rfl, avR _ rfl, avR _ rfl, trivial⟩ (Nat.zero_le _) fun i hi => ?_
    have hi : i ≤ l.length := hi
    have hol := ovrI_len s L 0 i
    refine Split.by (fun h2 => ?_) (fun h2 => ?_)
    · have h2 : i < l.length := by have := dT h2; omega
      have hrl := rmB_len (L := L) (i := i) (by omega)
      refine Exists.intro (List.range 7) (And.intro (by kernel_rfl) (FzOb.no ?_))
      refine CallOb.ro (l_withoutB L i (by omega) (by omega)) rfl rfl ?_
      refine CallOb.pure (l_meet (rmB L i) (by omega)) rfl rfl ?_
      refine CallOb.pure (l_count s (metP (rmB L i)) ok.s.c.m) rfl rfl ?_
      refine Split.by (fun h3 => ?_) (fun h3 => ?_)
      · have h3 : 0 < cntP s (metP (rmB L i)) := by
          have : (0 : Int) < ((plsL s.c.M (metP (rmB L i))).length : Int) := dT h3
          unfold cntP; omega
        refine ⟨⟨.inr rfl, by unfold maxLen; omega, by show ((ovrI s L 0 i).length + 1) * 8 ≤ 140737488355328; omega⟩, ?_⟩
        refine ⟨i6 (by omega), ?_⟩
        refine ⟨i + 1, ⟨rfl, ⟨obX rfl, obR rfl ?_, trivial⟩, avR _ rfl, avQ rfl, avR _ rfl, avQ rfl, avR _ rfl, avI rfl rfl, trivial⟩, h2, (show l.length - (i + 1) < l.length - i by omega)⟩
        rw [ovrI_yes h3]
        exact pushI rfl
      · have h3 : ¬ 0 < cntP s (metP (rmB L i)) := by
          have : ¬ (0 : Int) < ((plsL s.c.M (metP (rmB L i))).length : Int) := dF h3
          unfold cntP; omega
        refine ⟨i6 (by omega), ?_⟩
        refine ⟨i + 1, ⟨rfl, ⟨obX rfl, obR rfl ?_, trivial⟩, avR _ rfl, avQ rfl, avR _ rfl, avQ rfl, avR _ rfl, avI rfl rfl, trivial⟩, h2, (show l.length - (i + 1) < l.length - i by omega)⟩
        rw [ovrI_no h3]
        exact D.eqv_refl _
    · have h2 : i = l.length := by have := dF h2; omega
      subst h2
      refine CallSt.fz [10] (l_ids l (ovrI s L 0 l.length) ovr_mem (by omega)) rfl rfl ?_
      exact ⟨D.eqv_refl _, rtI rfl rfl, trivial⟩
  · have e : allR s b l = ([], givE s b l) := by unfold allR; rw [if_pos h0]
    have e1 : susR s b l = ([], givE s b l) := by unfold susR; rw [if_pos h0]
    rw [e, e1]
    refine Split.yes (by simpa using h0) ?_
    exact ⟨⟨_, _, _, _, rfl, rfl, .inl rfl⟩, rtI rfl rfl, trivial⟩
set_option maxHeartbeats 1000000 in
theorem l_Needed (s : Svc) (b : Brn) (l : List Rpt) : Spec PP 18 [s.v, b.v, .d (lR l)] [.d (lI (neeR s b l).1), .d (.int .i64 (neeR s b l).2)] := by
  refine spec_at Tryz.func18 rfl (by kernel_rfl) rfl ?_
  refine CallSt.ro (l_all s b l) rfl rfl ?_
  by_cases h0 : givE s b l = 0
  · have e : allR s b l = (l.map (alwP s b), 0) := by unfold allR; rw [if_neg (fun hh => hh h0)]
    have e1 : neeR s b l = (idsL l (ovrI s (l.map (alwP s b)) (cntP s (metP (l.map (alwP s b)))) l.length), 0) := by unfold neeR; rw [if_neg (fun hh => hh h0)]
    have ok := giv_ok h0
    have hn := ok.n
    have hL : (l.map (alwP s b)).length = l.length := List.length_map _
    rw [e, e1]
    generalize l.map (alwP s b) = L at hL
    refine Split.ff ?_
    refine Exists.intro (List.range 5) (And.intro (by kernel_rfl) (FzOb.no ?_))
    refine CallOb.pure (l_meet L (by omega)) rfl rfl ?_
    refine CallOb.pure (l_count s (metP L) ok.s.c.m) rfl rfl ?_
    obtain ⟨c, hc⟩ : ∃ c, c = cntP s (metP L) := ⟨_, rfl⟩
    rw [← hc]
    refine LoopOb.of (σ := Nat) (fun i => ([(2, .d (lR l)), (3, .box 3 0), (8, .d (lB L)), (10, .d (I (c : Int))), (11, .own 11), (28, .d (I l.length)), (29, .d (I i))], [(3, .box (s.ds.map AV.d)), (11, .row 3 1 (ovrI s L c i).length (rowI (ovrI s L c i)))])) (fun i => i ≤ l.length) (fun i => l.length - i) 0
      ⟨rfl, ⟨obX rfl, obR rfl ⟨rfl, .inl rfl⟩, trivial⟩, avR _ rfl, avQ rfl, avR _ rfl, avI rfl (by rw [hc]; rfl), avQ rfl, avR _ rfl, avR _ rfl, trivial⟩ (Nat.zero_le _) fun i hi => ?_
    have hi : i ≤ l.length := hi
    have hol := ovrI_len s L c i
    refine Split.by (fun h2 => ?_) (fun h2 => ?_)
    · have h2 : i < l.length := by have := dT h2; omega
      have hrl := rmB_len (L := L) (i := i) (by omega)
      refine Exists.intro (List.range 8) (And.intro (by kernel_rfl) (FzOb.no ?_))
      refine CallOb.ro (l_withoutB L i (by omega) (by omega)) rfl rfl ?_
      refine CallOb.pure (l_meet (rmB L i) (by omega)) rfl rfl ?_
      refine CallOb.pure (l_count s (metP (rmB L i)) ok.s.c.m) rfl rfl ?_
      refine Split.by (fun h3 => ?_) (fun h3 => ?_)
      · have h3 : c < cntP s (metP (rmB L i)) := by
          have : (c : Int) < ((plsL s.c.M (metP (rmB L i))).length : Int) := dT h3
          unfold cntP; omega
        refine ⟨⟨.inr rfl, by unfold maxLen; omega, by show ((ovrI s L c i).length + 1) * 8 ≤ 140737488355328; omega⟩, ?_⟩
        refine ⟨i6 (by omega), ?_⟩
        refine ⟨i + 1, ⟨rfl, ⟨obX rfl, obR rfl ?_, trivial⟩, avR _ rfl, avQ rfl, avR _ rfl, avR _ rfl, avQ rfl, avR _ rfl, avI rfl rfl, trivial⟩, h2, (show l.length - (i + 1) < l.length - i by omega)⟩
        rw [ovrI_yes h3]
        exact pushI rfl
      · have h3 : ¬ c < cntP s (metP (rmB L i)) := by
          have : ¬ (c : Int) < ((plsL s.c.M (metP (rmB L i))).length : Int) := dF h3
          unfold cntP; omega
        refine ⟨i6 (by omega), ?_⟩
        refine ⟨i + 1, ⟨rfl, ⟨obX rfl, obR rfl ?_, trivial⟩, avR _ rfl, avQ rfl, avR _ rfl, avR _ rfl, avQ rfl, avR _ rfl, avI rfl rfl, trivial⟩, h2, (show l.length - (i + 1) < l.length - i by omega)⟩
        rw [ovrI_no h3]
        exact D.eqv_refl _
    · have h2 : i = l.length := by have := dF h2; omega
      subst h2
      refine CallSt.fz [11] (l_ids l (ovrI s L c l.length) ovr_mem (by omega)) rfl rfl ?_
      exact ⟨D.eqv_refl _, rtI rfl rfl, trivial⟩
  · have e : allR s b l = ([], givE s b l) := by unfold allR; rw [if_pos h0]
    have e1 : neeR s b l = ([], givE s b l) := by unfold neeR; rw [if_pos h0]
    rw [e, e1]
    refine Split.yes (by simpa using h0) ?_
    exact ⟨⟨_, _, _, _, rfl, rfl, .inl rfl⟩, rtI rfl rfl, trivial⟩
section
variable {s : St} {o : Oper} {fo : Operand} {f : FuncId} {K : St → Prop} {E : Env}
theorem CallSt.lend (ids : List Nat) {args : Array Operand} {at' : Array TypeId} (hop : o.op = .call { callee := .value fo, args, argTypes := at' }) {xs ys res : List V1} (h : SpecG E.dr PP f ys res) (hx : toV1c (s.freezes ids) fo args.toList = some (f, xs)) (he : eqV1s xs ys)
    (hr : res.all V1.flat = true) (hk : K (s.putO o.dst (resAV res))) : CallSt E PP s o fo args.toList K := by
  obtain ⟨ex, h1, h2⟩ := toV1c_some hx
  rw [CallSt_iff]
  refine .inr (.inr (.inl ⟨_, ⟨fun cx a w hD hd hR => ?_⟩, hk⟩))
  obtain ⟨γ, hg⟩ := hR
  obtain ⟨γ', h'⟩ := R.freezes ids ⟨γ, hg⟩
  obtain ⟨cvs, hcx, hcm⟩ := callee_m h1 (ev_m h' fo).1
  have hm := (toV1s_m h' h2 ((evs_m h' args.toList).append hcm)).1
  refine .enter (enter_run hop hcx h.1) ?_
  refine ((h.eqv he).2 w _ _ (fun b hb => hb) hm).mono fun en w' ⟨v, e, hb, hres⟩ => ⟨v, e, γ, ?_⟩
  exact (hg.grow hb.1 fun e => hb.2 (hD e)).putO hd (resRep_m (.inr hr) hres) (fun j hj => by rw [resAV_refs] at hj; cases hj)
end
theorem CodeOb.rangeC (ids : List Nat) {K : KK} {s : St} {fo : Operand} {ps : Array Tmp} {asg body : Code} {g m : Nat} {cap : Nat → D} {τ : Type} {encV : τ → List Value} {xs : List τ} (hseq : SeqC PP g m cap encV xs) (hc : callee (ev s fo) = some (g, (List.range m).map fun j => AV.d (cap j)))
    (enc : τ → List V1) (henc : ∀ x (w : World) ok, All2 (Rep1 w ok) (enc x) (encV x)) (hps : ∀ x, (enc x).length = ps.size) (hnd : ps.toList.Nodup)
    (sl : List (Nat × AV)) (rc : List (Nat × Nat)) (ob : List τ → List (Nat × Ob)) (hsl : okSl sl = true) (hob : ∀ pre, okOb sl rc (ob pre) = true) (hw : Weak s sl (ob []))
    {Iv : List τ → Prop} (hI0 : Iv [])
    (hbody : ∀ (v : Nat → Value) pre x, pre ++ [x] <+: xs → Iv pre → awp PP TTab (EC ids) asg (St.of (psl ps.toList (enc x) ++ pinS v sl) (ob pre)) (Ka PP TTab (EC ids) K sl rc v ob Iv body pre x))
    (hend : Iv xs → K .normal (St.of sl (ob xs))) : CodeOb (EC ids).dr (EC ids).it PP (.rangeFunc fo ps asg body) s K :=
  CodeOb.range (E := EC ids) hT hE hM hseq hc enc henc hps hnd sl rc ob hsl hob hw hI0 hbody hend
theorem s_idxR2 (l : List Rpt) (g : FuncId) (c0 c1 : D) (p : Rpt → Bool) (hn : l.length ≤ 1000000) (hp : ∀ i, i < l.length → Spec PP g [(l.getD i default).v, .d c0, .d c1] [B (p (l.getD i default))]) : Spec PP 73 [.d (lR l), .d (cloB g [c0, c1])] [N (idxL p l)] := by
  refine spec_at Tryz.func73 rfl (by kernel_rfl) rfl ?_
  refine LoopOb.of (σ := Nat) (fun i => ([(0, .d (lR l)), (1, .d (cloB g [c0, c1])), (6, .d (lR l)), (7, .d (I l.length)), (8, .d (I i))], [])) (fun i => i ≤ l.length ∧ ∀ j, j < i → p (l.getD j default) = false) (fun i => l.length - i) 0
    ⟨rfl, trivial, avR _ rfl, avR _ rfl, avR _ rfl, avR _ rfl, avR _ rfl, trivial⟩ ⟨Nat.zero_le _, fun j hj => absurd hj (Nat.not_lt_zero _)⟩ fun i hi => ?_
  obtain ⟨hi, ha⟩ := hi
  refine Split.by (fun h1 => ?_) (fun h1 => ?_)
  · have h1 : i < l.length := by have := dT h1; omega
    refine ⟨⟨rfl, by omega, by omega⟩, ?_⟩
    refine CallSt.pure (hp i h1) rfl rfl ?_
    refine Split.by (fun h2 => ?_) (fun h2 => ?_)
    · refine r1I rfl ?_
      exact (idxL_stop default h1 h2 ha).symm
    · refine ⟨i6 (by omega), ?_⟩
      refine ⟨i + 1, ⟨rfl, trivial, avR _ rfl, avR _ rfl, avR _ rfl, avR _ rfl, avI rfl rfl, trivial⟩, ⟨h1, fun j hj => ?_⟩, (show l.length - (i + 1) < l.length - i by omega)⟩
      by_cases e : j = i
      · subst e; exact h2
      · exact ha j (by omega)
  have h1 : i = l.length := by have := dF h1; omega
  subst h1
  refine r1I rfl ?_
  exact (idxL_none default ha).symm
theorem l_CheckCell1 (r : Rpt) (rs : List Rsn) (w : Nat) (hw : w < rs.length) : Spec PP 74 [r.v, .d (capB [lRs rs]), .d (capB [I (w : Int)])] [B (r.ID == (rs.getD w default).R)] := by
  refine spec_at Tryz.func74 rfl (by kernel_rfl) rfl ?_
  refine Exists.intro (List.range 9) (And.intro (by kernel_rfl) (FzOb.no ?_))
  refine ⟨⟨rfl, by omega, by omega⟩, ?_⟩
  exact r1B rfl rfl
theorem ckR_none {s : Svc} {l : List Rpt} {L : List (Nat → Bool)} {ps : List Place} {rs : List Rsn} {n : Nat} (h : ckR s l L ps rs n = none) : ∀ m, n ≤ m → ckR s l L ps rs m = none
  | 0, hm => by
    have : n = 0 := by omega
    rw [this] at h; exact h
  | m + 1, hm => by
    by_cases e : n = m + 1
    · rw [← e]; exact h
    · have := ckR_none h m (by omega)
      show (ckR s l L ps rs m).bind _ = none
      rw [this]; rfl
def ckQ (s : Svc) (l : List Rpt) (L : List (Nat → Bool)) (ps : List Place) (rs : List Rsn) (n : Nat) : Nat × Nat := (ckR s l L ps rs n).getD (0, 0)
def chkR (s : Svc) (b : Brn) (l : List Rpt) (ps : List Place) (rs : List Rsn) : Int := if givE s b l ≠ 0 then givE s b l else if ckE s l (l.map (alwP s b)) ps rs = true then 0 else 8
def obCk (s : Svc) (l : List Rpt) (L : List (Nat → Bool)) (ps : List Place) (rs : List Rsn) (e : Int) (q : Nat × Nat) : List (Nat × Ob) :=
  [(7, .box [.d (lR l)]), (8, .box [.d (lP ps)]), (9, .box [.d (lRs rs)]), (10, .box [.d (I e)]), (11, .box [.d (lB L)]), (13, .box [.d (I (q.1 : Int))]), (14, .box [.d (I (q.2 : Int))])]
structure Key (G : Prop) : Prop where
  out : G
theorem two_ {G T : Prop} (h : Key G → T) (g : G) : T := h ⟨g⟩
section
variable {s : Svc} {l : List Rpt} {L : List (Nat → Bool)} {ps : List Place} {rs : List Rsn} {n : Nat} {q : Nat × Nat}
theorem ck_no (hq : ckR s l L ps rs n = some q) (hn : n < s.n) (h : cks s l L ps rs n q = none) : ckE s l L ps rs = false := by
  have h1 : ckR s l L ps rs (n + 1) = none := by
    show (ckR s l L ps rs n).bind _ = none
    rw [hq]; exact h
  unfold ckE
  rw [ckR_none h1 s.n (by omega)]
theorem ck_yes {q' : Nat × Nat} (hq : ckR s l L ps rs n = some q) (h : cks s l L ps rs n q = some q') : ckR s l L ps rs (n + 1) = some q' := by
  show (ckR s l L ps rs n).bind _ = _
  rw [hq]; exact h
theorem cks_eq (h : inB s ps q.1 n = outB s rs q.2 n) : cks s l L ps rs n q = none := by unfold cks; rw [if_pos h]
theorem cks_in (h1 : inB s ps q.1 n = true) (h2 : outB s rs q.2 n = false) : cks s l L ps rs n q = if 0 ≤ fstI L n then none else some (q.1 + 1, q.2) := by
  unfold cks; rw [if_neg (by rw [h1, h2]; decide), if_pos h1]
theorem cks_out (h1 : inB s ps q.1 n = false) (h2 : outB s rs q.2 n = true) : cks s l L ps rs n q = if rptI l (rs.getD q.2 default).R < 0 ∨ L.getD (rptI l (rs.getD q.2 default).R).toNat default n = true then none else some (q.1, q.2 + 1) := by
  unfold cks; rw [if_neg (by rw [h1, h2]; decide), if_neg (by rw [h1]; decide)]
theorem outB_lt (h : outB s rs q.2 n = true) : q.2 < rs.length := by
  unfold outB at h
  rw [Bool.and_eq_true, decide_eq_true_iff] at h
  exact h.1
end
theorem rptI_lt {l : List Rpt} {id : Int} (h : ¬ rptI l id < 0) : (rptI l id).toNat < l.length ∧ 0 ≤ rptI l id := by
  rcases idxL_cases (fun r : Rpt => r.ID == id) l default with ⟨h1, _⟩ | ⟨i, h1, h2, _⟩
  · exact absurd (show rptI l id < 0 by unfold rptI; rw [h1]; decide) h
  · unfold rptI; rw [h2]; exact ⟨h1, by omega⟩
theorem capB2 (x y : D) {f : Nat → D} (h0 : f 0 = .ptr 1 (getD' [x])) (h1 : f 1 = .ptr 1 (getD' [y])) : ∀ j, j < 2 → D.eqv (f j) (getD' [capB [x], capB [y]] j)
  | 0, _ => by rw [h0]; exact D.eqv_refl _
  | 1, _ => by rw [h1]; exact D.eqv_refl _
abbrev ckSl : List (Nat × AV) := [(7, .box 7 0), (8, .box 8 0), (9, .box 9 0), (10, .box 10 0), (11, .box 11 0), (13, .box 13 0), (14, .box 14 0)]
abbrev ckP (s : Svc) (n : Nat) : List (Nat × Ob) := [(16, .box [.d (I (plc s.c.M n).X), .d (I (plc s.c.M n).Y)])]
set_option maxHeartbeats 4000000 in
theorem l_CheckCell (s : Svc) (b : Brn) (l : List Rpt) (ps : List Place) (rs : List Rsn) (hp : ps.length ≤ 1000000) (hr : rs.length ≤ 1000000) : Spec PP 32 [s.v, b.v, .d (lR l), .d (lP ps), .d (lRs rs)] [.d (.int .i64 (chkR s b l ps rs))] := by
  refine specC_at [9, 14] Tryz.func32 rfl (by kernel_rfl) rfl ?_
  refine CallSt.ro (l_all s b l) rfl rfl ?_
  by_cases h0 : givE s b l = 0
  · have e : allR s b l = (l.map (alwP s b), 0) := by unfold allR; rw [if_neg (fun hh => hh h0)]
    have e1 : chkR s b l ps rs = if ckE s l (l.map (alwP s b)) ps rs = true then 0 else 8 := by unfold chkR; rw [if_neg (fun hh => hh h0)]
    have ok := giv_ok h0
    have hn := ok.n
    have hL : (l.map (alwP s b)).length = l.length := List.length_map _
    have hl := spots_lt ok.s.c.m
    rw [e, e1]
    generalize l.map (alwP s b) = L at hL
    refine Split.ff ?_
    refine CallSt.ro (l_spots s.c.M) rfl rfl ?_
    refine CodeOb.rangeC [9, 14] (l_spots1 s.c.M ok.s.c.m) rfl (spEnc s.c.M) (val_sp s.c.M) (fun _ => rfl) (by decide) ckSl []
      (fun pre => obCk s l L ps rs 0 (ckQ s l L ps rs pre.length)) rfl (fun _ => rfl) ?_ (Iv := fun pre => ckR s l L ps rs pre.length = some (ckQ s l L ps rs pre.length)) rfl (fun v pre x hx hI => ?_) (fun hI => ?_)
    · exact ⟨rfl, ⟨obX rfl, obX rfl, obX rfl, obX rfl, obX rfl, obX rfl, obX rfl, trivial⟩, avQ rfl, avQ rfl, avQ rfl, avQ rfl, avQ rfl, avQ rfl, avQ rfl, trivial⟩
    · obtain ⟨rfl, hk⟩ := sp_get hx
      have hnn := spots_nat ok.s.c.m (k := pre.length)
      obtain ⟨q, hq⟩ : ∃ q, ckQ s l L ps rs pre.length = q := ⟨_, rfl⟩
      have hle := ckR_le hI
      have hpl : (pre ++ [(pre.length / s.c.M.w, pre.length % s.c.M.w)]).length = pre.length + 1 := by simp
      rw [hq] at hI hle ⊢
      have nx : ∀ q', cks s l L ps rs pre.length q = some q' → ckR s l L ps rs (pre ++ [(pre.length / s.c.M.w, pre.length % s.c.M.w)]).length = some (ckQ s l L ps rs (pre ++ [(pre.length / s.c.M.w, pre.length % s.c.M.w)]).length) ∧ ckQ s l L ps rs (pre ++ [(pre.length / s.c.M.w, pre.length % s.c.M.w)]).length = q' := fun q' h => by
        have h1 := ck_yes hI h
        rw [hpl]
        have h2 : ckQ s l L ps rs (pre.length + 1) = q' := by unfold ckQ; rw [h1]; rfl
        exact ⟨by rw [h1, h2], h2⟩
      have stop : cks s l L ps rs pre.length q = none → (8 : Int) = if ckE s l L ps rs = true then 0 else 8 := fun h => by rw [if_neg (by rw [ck_no hI hk h]; decide)]
      refine Exists.intro (List.range 13) (And.intro (by kernel_rfl) (FzOb.no ?_))
      apply two_
      · intro key
        refine Split.by (fun h1 => ?_) (fun h1 => ?_)
        · have h1 : q.1 < ps.length := by have := dT h1; omega
          refine ⟨⟨rfl, by omega, by omega⟩, ?_⟩
          repeat first | refine Split.tt ?_ | refine Split.ff ?_
          refine CutOb.at (pinS v ckSl ++ [(15, .d (I pre.length)), (16, .box 16 0), (17, .d (.bool (inB s ps q.1 pre.length)))]) (obCk s l L ps rs 0 q ++ ckP s pre.length) ?_ ?_
          refine ⟨rfl, ⟨obX rfl, obX rfl, obX rfl, obX rfl, obX rfl, obX rfl, obX rfl, obX rfl, trivial⟩, avQ rfl, avQ rfl, avQ rfl, avQ rfl, avQ rfl, avQ rfl, avQ rfl, avI rfl hnn, avQ rfl, avE rfl ?_, trivial⟩
          · refine D.eqv_of_eq (congrArg D.bool ?_)
            unfold inB
            rw [decide_eq_true h1, Bool.true_and]
            exact eqPW (ps.getD q.1 default) (plc s.c.M pre.length)
          · exact key.out
        · have h1 : ¬ q.1 < ps.length := by have := dF h1; omega
          repeat first | refine Split.tt ?_ | refine Split.ff ?_
          refine CutOb.at (pinS v ckSl ++ [(15, .d (I pre.length)), (16, .box 16 0), (17, .d (.bool (inB s ps q.1 pre.length)))]) (obCk s l L ps rs 0 q ++ ckP s pre.length) ?_ ?_
          refine ⟨rfl, ⟨obX rfl, obX rfl, obX rfl, obX rfl, obX rfl, obX rfl, obX rfl, obX rfl, trivial⟩, avQ rfl, avQ rfl, avQ rfl, avQ rfl, avQ rfl, avQ rfl, avQ rfl, avI rfl hnn, avQ rfl, avE rfl ?_, trivial⟩
          · refine D.eqv_of_eq (congrArg D.bool ?_)
            unfold inB
            rw [decide_eq_false h1]; rfl
          · exact key.out
      · refine Exists.intro (List.range 14) (And.intro (by kernel_rfl) (FzOb.no ?_))
        apply two_
        · intro key
          refine Split.by (fun h1 => ?_) (fun h1 => ?_)
          · have h1 : q.2 < rs.length := by have := dT h1; omega
            refine ⟨⟨rfl, by omega, by omega⟩, ?_⟩
            repeat first | refine Split.tt ?_ | refine Split.ff ?_
            refine CutOb.at (pinS v ckSl ++ [(15, .d (I pre.length)), (16, .box 16 0), (17, .d (.bool (inB s ps q.1 pre.length))), (18, .d (.bool (outB s rs q.2 pre.length)))]) (obCk s l L ps rs 0 q ++ ckP s pre.length) ?_ ?_
            refine ⟨rfl, ⟨obX rfl, obX rfl, obX rfl, obX rfl, obX rfl, obX rfl, obX rfl, obX rfl, trivial⟩, avQ rfl, avQ rfl, avQ rfl, avQ rfl, avQ rfl, avQ rfl, avQ rfl, avR _ rfl, avQ rfl, avR _ rfl, avE rfl ?_, trivial⟩
            · refine D.eqv_of_eq (congrArg D.bool ?_)
              unfold outB
              rw [decide_eq_true h1, Bool.true_and]
              exact eqPW (rs.getD q.2 default).At (plc s.c.M pre.length)
            · exact key.out
          · have h1 : ¬ q.2 < rs.length := by have := dF h1; omega
            repeat first | refine Split.tt ?_ | refine Split.ff ?_
            refine CutOb.at (pinS v ckSl ++ [(15, .d (I pre.length)), (16, .box 16 0), (17, .d (.bool (inB s ps q.1 pre.length))), (18, .d (.bool (outB s rs q.2 pre.length)))]) (obCk s l L ps rs 0 q ++ ckP s pre.length) ?_ ?_
            refine ⟨rfl, ⟨obX rfl, obX rfl, obX rfl, obX rfl, obX rfl, obX rfl, obX rfl, obX rfl, trivial⟩, avQ rfl, avQ rfl, avQ rfl, avQ rfl, avQ rfl, avQ rfl, avQ rfl, avR _ rfl, avQ rfl, avR _ rfl, avE rfl ?_, trivial⟩
            · refine D.eqv_of_eq (congrArg D.bool ?_)
              unfold outB
              rw [decide_eq_false h1]; rfl
            · exact key.out
        · have fail : cks s l L ps rs pre.length q = none → _ := fun h => stop h
          refine Split.by (fun h1 => ?_) (fun h1 => ?_)
          · have h1 : inB s ps q.1 pre.length = outB s rs q.2 pre.length := by simpa using h1
            refine ⟨obCk s l L ps rs 8 q, rfl, ⟨rfl, ⟨obX rfl, obX rfl, obX rfl, obX rfl, obX rfl, obX rfl, obX rfl, trivial⟩, avQ rfl, avQ rfl, avQ rfl, avQ rfl, avQ rfl, avQ rfl, avQ rfl, trivial⟩, ?_⟩
            exact r1CD rfl rfl rfl rfl rfl ⟨rfl, stop (cks_eq h1)⟩
          have h1 : inB s ps q.1 pre.length ≠ outB s rs q.2 pre.length := by simpa using h1
          refine Split.by (fun h2 => ?_) (fun h2 => ?_)
          · have h2 : inB s ps q.1 pre.length = true := h2
            have h3 : outB s rs q.2 pre.length = false := by
              cases ho : outB s rs q.2 pre.length with
              | false => rfl
              | true => rw [h2, ho] at h1; exact absurd rfl h1
            have hc := cks_in h2 h3 (l := l) (L := L)
            refine ⟨i6 (by omega), ?_⟩
            refine CallSt.pure (l_first L pre.length pre.length rfl (by omega) (by omega)) rfl rfl ?_
            refine Split.by (fun h4 => ?_) (fun h4 => ?_)
            · have h4 : 0 ≤ fstI L pre.length := dT h4
              refine ⟨obCk s l L ps rs 8 (q.1 + 1, q.2), rfl, ⟨rfl, ⟨obX rfl, obX rfl, obX rfl, obX rfl, obX rfl, obX rfl, obX rfl, trivial⟩, avQ rfl, avQ rfl, avQ rfl, avQ rfl, avQ rfl, avQ rfl, avQ rfl, trivial⟩, ?_⟩
              exact r1CD rfl rfl rfl rfl rfl ⟨rfl, stop (by rw [hc, if_pos h4])⟩
            · have h4 : ¬ 0 ≤ fstI L pre.length := dF h4
              obtain ⟨n1, n2⟩ := nx _ (by rw [hc, if_neg h4])
              exact ⟨n1, rfl, ⟨obX rfl, obX rfl, obX rfl, obX rfl, obX rfl, obX (by rw [n2]; rfl), obX (by rw [n2]; rfl), trivial⟩, avQ rfl, avQ rfl, avQ rfl, avQ rfl, avQ rfl, avQ rfl, avQ rfl, trivial⟩
          · have h2 : inB s ps q.1 pre.length = false := h2
            have h3 : outB s rs q.2 pre.length = true := by
              cases ho : outB s rs q.2 pre.length with
              | true => rfl
              | false => rw [h2, ho] at h1; exact absurd rfl h1
            have hc := cks_out h2 h3 (l := l) (L := L)
            have hw := outB_lt h3
            refine CallSt.lend [9, 14] rfl (s_idxR2 l 74 (capB [lRs rs]) (capB [I (q.2 : Int)]) (fun r => r.ID == (rs.getD q.2 default).R) (by omega) (fun i hi => l_CheckCell1 _ rs q.2 hw)) rfl ⟨D.eqv_refl _, ⟨rfl, rfl, capB2 _ _ rfl rfl⟩, trivial⟩ rfl ?_
            refine Split.by (fun h4 => ?_) (fun h4 => ?_)
            · have h4 : rptI l (rs.getD q.2 default).R < 0 := dT h4
              repeat first | refine Split.tt ?_ | refine Split.ff ?_
              refine ⟨obCk s l L ps rs 8 q, rfl, ⟨rfl, ⟨obX rfl, obX rfl, obX rfl, obX rfl, obX rfl, obX rfl, obX rfl, trivial⟩, avQ rfl, avQ rfl, avQ rfl, avQ rfl, avQ rfl, avQ rfl, avQ rfl, trivial⟩, ?_⟩
              exact r1CD rfl rfl rfl rfl rfl ⟨rfl, stop (by rw [hc, if_pos (.inl h4)])⟩
            · have h4 : ¬ rptI l (rs.getD q.2 default).R < 0 := dF h4
              obtain ⟨h5, h6⟩ := rptI_lt h4
              have h7 : (rptI l (rs.getD q.2 default).R).toNat < L.length := by omega
              have hh := l_has (L.getD (rptI l (rs.getD q.2 default).R).toNat default) pre.length (by omega)
              refine ⟨⟨rfl, h6, by show rptI l (rs.getD q.2 default).R < (L.length : Int); omega⟩, ?_⟩
              refine CallSt.pure hh rfl rfl ?_
              repeat first | refine Split.tt ?_ | refine Split.ff ?_
              refine Split.by (fun h8 => ?_) (fun h8 => ?_)
              · have h8 : L.getD (rptI l (rs.getD q.2 default).R).toNat default pre.length = true := h8
                refine ⟨obCk s l L ps rs 8 q, rfl, ⟨rfl, ⟨obX rfl, obX rfl, obX rfl, obX rfl, obX rfl, obX rfl, obX rfl, trivial⟩, avQ rfl, avQ rfl, avQ rfl, avQ rfl, avQ rfl, avQ rfl, avQ rfl, trivial⟩, ?_⟩
                exact r1CD rfl rfl rfl rfl rfl ⟨rfl, stop (by rw [hc, if_pos (.inr h8)])⟩
              · have h8 : L.getD (rptI l (rs.getD q.2 default).R).toNat default pre.length = false := h8
                obtain ⟨n1, n2⟩ := nx _ (by rw [hc, if_neg (fun h => h.elim h4 (fun g => by rw [h8] at g; cases g))])
                refine ⟨i6 (by omega), ?_⟩
                exact ⟨n1, rfl, ⟨obX rfl, obX rfl, obX rfl, obX rfl, obX rfl, obX (by rw [n2]; rfl), obX (by rw [n2]; rfl), trivial⟩, avQ rfl, avQ rfl, avQ rfl, avQ rfl, avQ rfl, avQ rfl, avQ rfl, trivial⟩
    · rw [spL_len] at hI ⊢
      obtain ⟨q, hq⟩ : ∃ q, ckQ s l L ps rs (s.c.M.w * s.c.M.h) = q := ⟨_, rfl⟩
      rw [hq] at hI ⊢
      have hle := ckR_le hI
      have ee : ckE s l L ps rs = (decide (ps.length ≤ q.1) && decide (rs.length ≤ q.2)) := by unfold ckE; rw [show ckR s l L ps rs s.n = some q from hI]
      refine Split.by (fun h1 => ?_) (fun h1 => ?_)
      · have h1 : q.1 < ps.length := by have := dT h1; omega
        repeat first | refine Split.tt ?_ | refine Split.ff ?_
        exact r1CD rfl rfl rfl rfl rfl ⟨rfl, by rw [ee, decide_eq_false (show ¬ ps.length ≤ q.1 by omega), Bool.false_and, if_neg (by decide)]⟩
      · have h1 : ¬ q.1 < ps.length := by have := dF h1; omega
        repeat first | refine Split.tt ?_ | refine Split.ff ?_
        refine Split.by (fun h2 => ?_) (fun h2 => ?_)
        · have h2 : q.2 < rs.length := by have := dT h2; omega
          exact r1CD rfl rfl rfl rfl rfl ⟨rfl, by rw [ee, decide_eq_false (show ¬ rs.length ≤ q.2 by omega), Bool.and_false, if_neg (by decide)]⟩
        · have h2 : ¬ q.2 < rs.length := by have := dF h2; omega
          exact r1CD rfl rfl rfl rfl rfl ⟨rfl, by rw [ee, decide_eq_true (show ps.length ≤ q.1 by omega), decide_eq_true (show rs.length ≤ q.2 by omega)]; rfl⟩
  · have e : allR s b l = ([], givE s b l) := by unfold allR; rw [if_pos h0]
    have e1 : chkR s b l ps rs = givE s b l := by unfold chkR; rw [if_pos h0]
    rw [e, e1]
    refine Split.yes (by simpa using h0) ?_
    exact r1CD rfl rfl rfl rfl rfl (D.eqv_refl _)
abbrev rowRp (l : List Rpt) : Nat → Nat → D := fun i => (l.getD i default).at
theorem pushR {vs : List Rpt} {p : Rpt} {g : Nat → Nat → D} (hg : ∀ j, j < 8 → D.eqv (g 0 j) (p.at j)) : D.eqv (.slc 8 (vs.length + 1) (appRow vs.length (rowRp vs) g)) (.slc 8 (vs ++ [p]).length (rowRp (vs ++ [p]))) := by
  refine ⟨by simp, .inr ⟨rfl, fun i hi j hj => ?_⟩⟩
  show D.eqv (appRow vs.length (rowRp vs) g i j) (((vs ++ [p]).getD i default).at j)
  unfold appRow
  by_cases h : i < vs.length
  · rw [if_pos h, List.getD_eq_getElem?_getD, List.getElem?_append_left h, ← List.getD_eq_getElem?_getD]
    exact D.eqv_refl _
  · have e : i = vs.length := by omega
    subst e
    rw [if_neg h, Nat.sub_self, List.getD_eq_getElem?_getD, List.getElem?_append_right (Nat.le_refl _), Nat.sub_self]
    exact hg j hj
theorem at8 {f : Nat → D} {r : Rpt} (h : ∀ j, j < 8 → f j = getD' r.ds j) : ∀ j, j < 8 → D.eqv (f j) (r.at j) := fun j hj => by
  rw [h j hj]
  match j, hj with
  | 0, _ => exact ⟨rfl, rfl⟩
  | 1, _ => exact ⟨rfl, rfl⟩
  | 2, _ => exact ⟨rfl, rfl⟩
  | 3, _ => exact ⟨rfl, rfl⟩
  | 4, _ => exact ⟨rfl, rfl⟩
  | 5, _ => exact ⟨rfl, rfl⟩
  | 6, _ => exact ⟨rfl, rfl⟩
  | 7, _ => exact ⟨rfl, rfl⟩
theorem rd8 (r : Rpt) : ∀ j, j < 8 → D.eqv (rowOf 8 r.ds 0 j) (r.at j) := fun j hj => at8 (r := r) (f := fun j => rowOf 8 r.ds 0 j) (fun j _ => by show getD' r.ds (0 * 8 + j) = _; rw [Nat.zero_mul, Nat.zero_add]) j hj
theorem take_flt {α : Type} (p : α → Bool) {l : List α} {i : Nat} (h : i < l.length) (d : α) : (l.take (i + 1)).filter p = (l.take i).filter p ++ (if p (l.getD i d) = true then [l.getD i d] else []) := by
  rw [take1 h d, List.filter_append]
  congr 1
  split
  · rename_i hp; exact List.filter_cons_of_pos hp
  · rename_i hp; exact List.filter_cons_of_neg hp
theorem flt_len {α : Type} (p : α → Bool) (l : List α) (i : Nat) : ((l.take i).filter p).length ≤ i := by
  have h1 := List.length_filter_le p (l.take i)
  rw [List.length_take] at h1
  omega
theorem w_without (l : List Rpt) (id : Int) (hn : l.length ≤ 1000000) : Spec PP 22 [.d (lR l), N id] [.d (lR (l.filter fun r => r.ID != id))] := by
  refine spec_at Tryz.func22 rfl (by kernel_rfl) rfl ?_
  refine LoopOb.of (σ := Nat) (fun i => ([(1, .d (I id)), (5, .own 5), (8, .d (lR l)), (9, .d (I l.length)), (10, .d (I i))], [(5, .row 49 8 ((l.take i).filter fun r => r.ID != id).length (rowRp ((l.take i).filter fun r => r.ID != id)))])) (fun i => i ≤ l.length) (fun i => l.length - i) 0
    ⟨rfl, ⟨obR rfl ⟨rfl, .inl rfl⟩, trivial⟩, avR _ rfl, avQ rfl, avR _ rfl, avR _ rfl, avR _ rfl, trivial⟩ (Nat.zero_le _) fun i hi => ?_
  have hi : i ≤ l.length := hi
  refine Split.by (fun h1 => ?_) (fun h1 => ?_)
  · have h1 : i < l.length := by have := dT h1; omega
    have hl := flt_len (fun r : Rpt => r.ID != id) l i
    have et := take_flt (fun r : Rpt => r.ID != id) h1 default
    refine ⟨⟨rfl, by omega, by omega⟩, ?_⟩
    refine Split.by (fun h2 => ?_) (fun h2 => ?_)
    · have h2 : ((l.getD i default).ID != id) = true := h2
      rw [if_pos h2] at et
      refine ⟨⟨.inr rfl, by unfold maxLen; omega, by show (((l.take i).filter fun r => r.ID != id).length + 1) * 64 ≤ 140737488355328; omega⟩, ?_⟩
      refine ⟨i6 (by omega), ?_⟩
      refine ⟨i + 1, ⟨rfl, ⟨obR rfl ?_, trivial⟩, avR _ rfl, avQ rfl, avR _ rfl, avR _ rfl, avI rfl rfl, trivial⟩, h1, (show l.length - (i + 1) < l.length - i by omega)⟩
      rw [et]
      exact pushR (rd8 _)
    · have h2 : ((l.getD i default).ID != id) = false := h2
      rw [if_neg (by rw [h2]; decide), List.append_nil] at et
      refine ⟨i6 (by omega), ?_⟩
      refine ⟨i + 1, ⟨rfl, ⟨obR rfl ?_, trivial⟩, avR _ rfl, avQ rfl, avR _ rfl, avR _ rfl, avI rfl rfl, trivial⟩, h1, (show l.length - (i + 1) < l.length - i by omega)⟩
      rw [et]
      exact D.eqv_refl _
  · have h1 : i = l.length := by have := dF h1; omega
    subst h1
    rw [List.take_length]
    exact ⟨⟨_, _, _, _, rfl, D.eqv_refl _⟩, trivial⟩
theorem w_has (l : List Place) (p : Place) (hn : l.length ≤ 1000000) : Spec PP 17 [.d (lP l), p.v] [B (l.contains p)] := by
  refine spec_at Tryz.func17 rfl (by kernel_rfl) rfl ?_
  refine LoopOb.of (σ := Nat) (fun i => ([(3, .box 3 0), (7, .d (lP l)), (8, .d (I l.length)), (9, .d (I i))], [(3, .box ([I p.X, I p.Y].map AV.d))])) (fun i => i ≤ l.length ∧ ∀ j, j < i → l.getD j default ≠ p) (fun i => l.length - i) 0
    ⟨rfl, ⟨obD [I p.X, I p.Y] rfl, trivial⟩, avQ rfl, avR _ rfl, avR _ rfl, avR _ rfl, trivial⟩ ⟨Nat.zero_le _, fun j hj => absurd hj (Nat.not_lt_zero _)⟩ fun i hi => ?_
  obtain ⟨hi, ha⟩ := hi
  refine Split.by (fun h1 => ?_) (fun h1 => ?_)
  · have h1 : i < l.length := by have := dT h1; omega
    refine ⟨⟨rfl, by omega, by omega⟩, ?_⟩
    refine Split.by (fun h2 => ?_) (fun h2 => ?_)
    · have h2 : l.getD i default = p := of_decide_eq_true ((eqPW _ _).symm.trans h2)
      refine r1B rfl ?_
      refine (List.contains_iff_mem.2 ?_).symm
      rw [← h2]; exact gd1 h1 default
    · have h2 : l.getD i default ≠ p := of_decide_eq_false ((eqPW _ _).symm.trans h2)
      refine ⟨i6 (by omega), ?_⟩
      refine ⟨i + 1, ⟨rfl, ⟨obD [I p.X, I p.Y] rfl, trivial⟩, avQ rfl, avR _ rfl, avR _ rfl, avI rfl rfl, trivial⟩, ⟨h1, fun j hj => ?_⟩, (show l.length - (i + 1) < l.length - i by omega)⟩
      by_cases e : j = i
      · subst e; exact h2
      · exact ha j (by omega)
  · have h1 : i = l.length := by have := dF h1; omega
    subst h1
    refine r1B rfl ?_
    cases hc : l.contains p with
    | false => rfl
    | true =>
      obtain ⟨j, hj, e⟩ := mem_gd default (List.contains_iff_mem.1 hc)
      exact absurd e.symm (ha j hj)
theorem plc_ok {s : Svc} {b : Brn} {l : List Rpt} (h : givE s b l = 0) : plcR s b l = (plsL s.c.M (metP (l.map (alwP s b))), 0) := by unfold plcR; rw [if_neg (fun hh => hh h)]
theorem plc_no {s : Svc} {b : Brn} {l : List Rpt} (h : givE s b l ≠ 0) : plcR s b l = ([], givE s b l) := by unfold plcR; rw [if_pos h]
theorem l_Plc {s : Svc} {b : Brn} {l : List Rpt} (h : givE s b l = 0) : Spec PP 16 [s.v, b.v, .d (lR l)] [.d (lP (plsL s.c.M (metP (l.map (alwP s b))))), .d (.int .i64 0)] := by
  have := l_Places s b l
  rw [plc_ok h] at this
  exact this
theorem nee_len (s : Svc) (b : Brn) (l : List Rpt) : (neeR s b l).1.length ≤ l.length := by
  unfold neeR
  split
  · simp
  · dsimp only
    rw [ids_len]
    exact ovrI_len s _ _ l.length
theorem rep_take {c : List Int} {k : Nat} (h : k < c.length) (x : Int) : (c.take (k + 1)).count x = (c.take k).count x + (if c.getD k 0 = x then 1 else 0) := by
  rw [take1 h 0, List.count_append]
  congr 1
  by_cases e : c.getD k 0 = x
  · rw [if_pos e, e]; simp
  · rw [if_neg e, List.count_singleton, if_neg (by simpa using e)]
def selK (l : List Rpt) (c : List Int) (i k : Nat) : List Rpt := smL (l.take i) c ++ List.replicate ((c.take k).count (l.getD i default).ID) (l.getD i default)
theorem selK_yes {l : List Rpt} {c : List Int} {i k : Nat} (h : k < c.length) (e : (l.getD i default).ID = c.getD k 0) : selK l c i (k + 1) = selK l c i k ++ [l.getD i default] := by
  unfold selK
  rw [rep_take h, if_pos e.symm, List.append_assoc, List.replicate_succ']
theorem selK_no {l : List Rpt} {c : List Int} {i k : Nat} (h : k < c.length) (e : ¬ (l.getD i default).ID = c.getD k 0) : selK l c i (k + 1) = selK l c i k := by
  unfold selK
  rw [rep_take h, if_neg (fun q => e q.symm), Nat.add_zero]
theorem selK_0 (l : List Rpt) (c : List Int) (i : Nat) : selK l c i 0 = smL (l.take i) c := by unfold selK; simp
theorem selK_end {l : List Rpt} {c : List Int} (hc : c.Nodup) {i : Nat} (h : i < l.length) : selK l c i c.length = smL (l.take (i + 1)) c := by
  unfold selK smL
  rw [take_flt _ h default, List.take_length]
  congr 1
  rw [hc.count]
  by_cases e : (l.getD i default).ID ∈ c
  · rw [if_pos e, if_pos (List.contains_iff_mem.2 e)]; rfl
  · rw [if_neg e, if_neg (fun q => e (List.contains_iff_mem.1 q))]; rfl
theorem selK_len (l : List Rpt) (c : List Int) (i k : Nat) : (selK l c i k).length ≤ i + k := by
  unfold selK smL
  rw [List.length_append, List.length_replicate]
  have h1 := flt_len (fun r : Rpt => c.contains r.ID) l i
  have h2 := List.count_le_length (a := (l.getD i default).ID) (l := c.take k)
  rw [List.length_take] at h2
  omega
theorem ids_take {c : List Int} {k : Nat} (h : k < c.length) (x : Int) : ((c.take (k + 1)).contains x) = ((c.take k).contains x || decide (c.getD k 0 = x)) := by
  rw [take1 h 0, Bool.eq_iff_iff, List.contains_iff_mem, List.mem_append, Bool.or_eq_true, List.contains_iff_mem, decide_eq_true_iff, List.mem_singleton]
  exact ⟨fun h => h.imp id Eq.symm, fun h => h.imp id Eq.symm⟩
theorem ne0 {n : Nat} (h : 0 < n) : ((n : Int) == 0) = false := by simp; omega
set_option maxHeartbeats 2000000 in
theorem s_CellMinimal (s : Svc) (b : Brn) (l : List Rpt) : Spec PP 5 [s.v, b.v, .d (lR l)] [B true] := by
  refine spec_at Tryz.func5 rfl (by kernel_rfl) rfl ?_
  refine CallSt.pure (w_small s) rfl rfl ?_
  refine Split.by (fun h1 => ?_) (fun h1 => ?_)
  · repeat first | refine Split.tt ?_ | refine Split.ff ?_
    refine CallSt.pure w_sanity rfl rfl ?_
    exact r1B rfl rfl
  repeat first | refine Split.tt ?_ | refine Split.ff ?_
  refine Split.by (fun h2 => ?_) (fun h2 => ?_)
  · refine CallSt.pure w_sanity rfl rfl ?_
    exact r1B rfl rfl
  have h2 : l.length ≤ 7 := by have : ¬ (7 : Int) < l.length := dF h2; omega
  refine CallSt.ro (l_Core s b l) rfl rfl ?_
  refine CallSt.ro (l_Suspects s b l) rfl rfl ?_
  by_cases h0 : givE s b l = 0
  · cases ha : agrB s (l.map (alwP s b)) (ordL l) with
    | true =>
      have e1 : corR s b l = ([], 5) := by unfold corR; rw [if_neg (fun hh => hh h0), if_pos ha]
      have hp := agr_pls (s := s) (b := b) (l := l) ordL_mem (fun r => reps_ord r)
      rw [ha] at hp
      have hp : 0 < cntP s (metP (l.map (alwP s b))) := of_decide_eq_true hp.symm
      have e2 : susR s b l = ([], 0) := by unfold susR; rw [if_neg (fun hh => hh h0), if_pos hp]
      rw [e1, e2]
      repeat first | refine Split.tt ?_ | refine Split.ff ?_ | refine Split.yes rfl ?_
      refine CallSt.pure w_sanity rfl rfl ?_
      repeat first | refine Split.tt ?_ | refine Split.ff ?_ | refine Split.yes rfl ?_
      exact r1B rfl rfl
    | false =>
      have hJ := cr_ok ha
      have e1 : corR s b l = (idsL l (crL (agrB s (l.map (alwP s b))) (ordL l)), 0) := by unfold corR; rw [if_neg (fun hh => hh h0), if_neg (by rw [ha]; decide)]
      have hp := agr_pls (s := s) (b := b) (l := l) ordL_mem (fun r => reps_ord r)
      rw [ha] at hp
      have hp : ¬ 0 < cntP s (metP (l.map (alwP s b))) := of_decide_eq_false hp.symm
      have e2 : susR s b l = (idsL l (ovrI s (l.map (alwP s b)) 0 l.length), 0) := by unfold susR; rw [if_neg (fun hh => hh h0), if_neg hp]
      rw [e1, e2]
      have hJl : (crL (agrB s (l.map (alwP s b))) (ordL l)).length ≤ 7 := by
        obtain ⟨-, -, h3⟩ := crS_spec (agr_mono (s := s) (L := l.map (alwP s b))) (ordL l).length (ordL l) 0 (by omega) (Nat.zero_le _) ha fun k hk => absurd hk (Nat.not_lt_zero _)
        have h4 := h3.length_le
        have h5 := ordL_len l
        unfold crL
        omega
      generalize crL (agrB s (l.map (alwP s b))) (ordL l) = J at hJ hJl
      have hCn : (idsL l J).Nodup := ids_nd h0 hJ.i hJ.n
      have hCl : (idsL l J).length ≤ 7 := by rw [ids_len]; exact hJl
      have hno := core_no h0 hJ
      have hmin : ∀ x ∈ idsL l J, _ := fun x hx => core_min h0 hJ hx
      have hsm := sm_len h0 hJ.i hJ.n
      have gsm : givE s b (smL l (idsL l J)) = 0 := filter_giv h0 _
      have hsl : (smL l (idsL l J)).length ≤ 7 := by rw [hsm]; exact hJl
      have hDl : (idsL l (ovrI s (l.map (alwP s b)) 0 l.length)).length ≤ 7 := by
        rw [ids_len]
        have := ovrI_len s (l.map (alwP s b)) 0 l.length
        omega
      have hD : ∀ x ∈ idsL l (ovrI s (l.map (alwP s b)) 0 l.length), x ∈ idsL l J ∧ 0 < (plsL s.c.M (metP ((l.filter fun r => r.ID != x).map (alwP s b)))).length := fun x hx => by
        obtain ⟨j, hj, e⟩ := ids_mem.1 hx
        obtain ⟨i, hi, hc, rfl⟩ := ovrI_mem.1 hj
        have e' : (l.getD i default).ID = x := e
        have q1 := sus_core h0 hJ hi hc
        rw [e'] at q1
        have q2 := rm_cnt h0 hi
        rw [e'] at q2
        exact ⟨q1, by rw [← q2]; exact hc⟩
      rw [← ids_len l J] at hsm
      generalize idsL l (ovrI s (l.map (alwP s b)) 0 l.length) = D' at hD hDl
      generalize idsL l J = C at *
      repeat first | refine Split.tt ?_ | refine Split.ff ?_
      refine LoopOb.of (σ := Nat) (fun i => ([(2, .d (lR l)), (3, .box 3 0), (4, .box 4 0), (7, .d (lI C)), (9, .d (lI D')), (10, .d (I 0)), (11, .own 11), (69, .d (lR l)), (70, .d (I l.length)), (71, .d (I i))], [(3, .box (s.ds.map AV.d)), (4, .box (b.ds.map AV.d)), (11, .row 49 8 (smL (l.take i) C).length (rowRp (smL (l.take i) C)))])) (fun i => i ≤ l.length) (fun i => l.length - i) 0
        ⟨rfl, ⟨obD s.ds rfl, obD b.ds rfl, obR rfl ⟨rfl, .inl rfl⟩, trivial⟩, avR _ rfl, avQ rfl, avQ rfl, avR _ rfl, avR _ rfl, avR _ rfl, avQ rfl, avR _ rfl, avR _ rfl, avR _ rfl, trivial⟩ (Nat.zero_le _) fun i hi => ?_
      have hi : i ≤ l.length := hi
      refine Split.by (fun h3 => ?_) (fun h3 => ?_)
      · have h3 : i < l.length := by have := dT h3; omega
        refine ⟨⟨rfl, by omega, by omega⟩, ?_⟩
        refine LoopOb.of (σ := Nat) (fun k => ([(2, .d (lR l)), (3, .box 3 0), (4, .box 4 0), (7, .d (lI C)), (9, .d (lI D')), (10, .d (I 0)), (11, .own 11), (13, .box 13 0), (69, .d (lR l)), (70, .d (I l.length)), (71, .d (I i)), (75, .d (lI C)), (76, .d (I C.length)), (77, .d (I k))], [(3, .box (s.ds.map AV.d)), (4, .box (b.ds.map AV.d)), (11, .row 49 8 (selK l C i k).length (rowRp (selK l C i k))), (13, .box ((l.getD i default).ds.map AV.d))])) (fun k => k ≤ C.length) (fun k => C.length - k) 0
          ⟨rfl, ⟨obD s.ds rfl, obD b.ds rfl, obR rfl (by rw [selK_0]; exact D.eqv_refl _), obX rfl, trivial⟩, avR _ rfl, avQ rfl, avQ rfl, avR _ rfl, avR _ rfl, avR _ rfl, avQ rfl, avQ rfl, avR _ rfl, avR _ rfl, avR _ rfl, avR _ rfl, avR _ rfl, avR _ rfl, trivial⟩ (Nat.zero_le _) fun k hk => ?_
        have hk : k ≤ C.length := hk
        have hkl := selK_len l C i k
        refine Split.by (fun h4 => ?_) (fun h4 => ?_)
        · have h4 : k < C.length := by have := dT h4; omega
          refine ⟨⟨rfl, by omega, by omega⟩, ?_⟩
          refine Split.by (fun h5 => ?_) (fun h5 => ?_)
          · have h5 : (l.getD i default).ID = C.getD k 0 := by simpa using h5
            refine ⟨⟨.inr rfl, by unfold maxLen; omega, by show ((selK l C i k).length + 1) * 64 ≤ 140737488355328; omega⟩, ?_⟩
            refine ⟨i6 (by omega), ?_⟩
            refine ⟨k + 1, ⟨rfl, ⟨obD s.ds rfl, obD b.ds rfl, obR rfl ?_, obX rfl, trivial⟩, avR _ rfl, avQ rfl, avQ rfl, avR _ rfl, avR _ rfl, avR _ rfl, avQ rfl, avQ rfl, avR _ rfl, avR _ rfl, avR _ rfl, avR _ rfl, avR _ rfl, avI rfl rfl, trivial⟩, h4, (show C.length - (k + 1) < C.length - k by omega)⟩
            rw [selK_yes h4 h5]
            exact pushR (rd8 _)
          · have h5 : ¬ (l.getD i default).ID = C.getD k 0 := by simpa using h5
            refine ⟨i6 (by omega), ?_⟩
            refine ⟨k + 1, ⟨rfl, ⟨obD s.ds rfl, obD b.ds rfl, obR rfl ?_, obX rfl, trivial⟩, avR _ rfl, avQ rfl, avQ rfl, avR _ rfl, avR _ rfl, avR _ rfl, avQ rfl, avQ rfl, avR _ rfl, avR _ rfl, avR _ rfl, avR _ rfl, avR _ rfl, avI rfl rfl, trivial⟩, h4, (show C.length - (k + 1) < C.length - k by omega)⟩
            rw [selK_no h4 h5]; exact D.eqv_refl _
        · have h4 : k = C.length := by have := dF h4; omega
          subst h4
          refine ⟨i6 (by omega), ?_⟩
          refine ⟨i + 1, ⟨rfl, ⟨obD s.ds rfl, obD b.ds rfl, obR rfl ?_, trivial⟩, avR _ rfl, avQ rfl, avQ rfl, avR _ rfl, avR _ rfl, avR _ rfl, avQ rfl, avR _ rfl, avR _ rfl, avI rfl rfl, trivial⟩, h3, (show l.length - (i + 1) < l.length - i by omega)⟩
          rw [selK_end hCn h3]; exact D.eqv_refl _
      have h3 : i = l.length := by have := dF h3; omega
      subst h3
      rw [List.take_length]
      refine CallSt.fz [11] (l_Plc gsm) rfl rfl ?_
      repeat first | refine Split.tt ?_ | refine Split.ff ?_ | refine Split.no (by simp [hno, hsm]) ?_
      refine LoopOb.of (σ := Nat) (fun k => ([(2, .d (lR l)), (3, .box 3 0), (4, .box 4 0), (7, .d (lI C)), (9, .d (lI D')), (11, .d (lR (smL l C))), (116, .d (lI C)), (117, .d (I C.length)), (118, .d (I k))], [(3, .box (s.ds.map AV.d)), (4, .box (b.ds.map AV.d))])) (fun k => k ≤ C.length) (fun k => C.length - k) 0
        ⟨rfl, ⟨obD s.ds rfl, obD b.ds rfl, trivial⟩, avR _ rfl, avQ rfl, avQ rfl, avR _ rfl, avR _ rfl, avR _ rfl, avR _ rfl, avR _ rfl, avR _ rfl, trivial⟩ (Nat.zero_le _) fun k hk => ?_
      have hk : k ≤ C.length := hk
      refine Split.by (fun h4 => ?_) (fun h4 => ?_)
      · have h4 : k < C.length := by have := dT h4; omega
        have hm := hmin _ (gd1 h4 0)
        have gw : givE s b ((smL l C).filter fun r => r.ID != C.getD k 0) = 0 := filter_giv gsm _
        refine ⟨⟨rfl, by omega, by omega⟩, ?_⟩
        refine Exists.intro (List.range 11) (And.intro (by kernel_rfl) (FzOb.no ?_))
        refine CallOb.ro (w_without (smL l C) (C.getD k 0) (by omega)) rfl rfl ?_
        refine CallOb.ro (l_Plc gw) rfl rfl ?_
        repeat first | refine Split.tt ?_ | refine Split.ff ?_ | refine Split.no (ne0 hm) ?_
        refine ⟨i6 (by omega), ?_⟩
        exact ⟨k + 1, ⟨rfl, ⟨obD s.ds rfl, obD b.ds rfl, trivial⟩, avR _ rfl, avQ rfl, avQ rfl, avR _ rfl, avR _ rfl, avR _ rfl, avR _ rfl, avR _ rfl, avI rfl rfl, trivial⟩, h4, (show C.length - (k + 1) < C.length - k by omega)⟩
      have h4 : k = C.length := by have := dF h4; omega
      refine LoopOb.of (σ := Nat) (fun i => ([(2, .d (lR l)), (3, .box 3 0), (4, .box 4 0), (7, .d (lI C)), (9, .d (lI D')), (139, .d (lI D')), (140, .d (I D'.length)), (141, .d (I i))], [(3, .box (s.ds.map AV.d)), (4, .box (b.ds.map AV.d))])) (fun i => i ≤ D'.length) (fun i => D'.length - i) 0
        ⟨rfl, ⟨obD s.ds rfl, obD b.ds rfl, trivial⟩, avR _ rfl, avQ rfl, avQ rfl, avR _ rfl, avR _ rfl, avR _ rfl, avR _ rfl, avR _ rfl, trivial⟩ (Nat.zero_le _) fun i hi => ?_
      have hi : i ≤ D'.length := hi
      refine Split.by (fun h5 => ?_) (fun h5 => ?_)
      · have h5 : i < D'.length := by have := dT h5; omega
        obtain ⟨q1, q2⟩ := hD _ (gd1 h5 0)
        have gw : givE s b (l.filter fun r => r.ID != D'.getD i 0) = 0 := filter_giv h0 _
        refine ⟨⟨rfl, by omega, by omega⟩, ?_⟩
        refine LoopOb.of (σ := Nat) (fun k => ([(2, .d (lR l)), (3, .box 3 0), (4, .box 4 0), (7, .d (lI C)), (9, .d (lI D')), (23, .d (I (D'.getD i 0))), (24, .d (.bool ((C.take k).contains (D'.getD i 0)))), (139, .d (lI D')), (140, .d (I D'.length)), (141, .d (I i)), (145, .d (lI C)), (146, .d (I C.length)), (147, .d (I k))], [(3, .box (s.ds.map AV.d)), (4, .box (b.ds.map AV.d))])) (fun k => k ≤ C.length) (fun k => C.length - k) 0
          ⟨rfl, ⟨obD s.ds rfl, obD b.ds rfl, trivial⟩, avR _ rfl, avQ rfl, avQ rfl, avR _ rfl, avR _ rfl, avR _ rfl, avR _ rfl, avR _ rfl, avR _ rfl, avR _ rfl, avR _ rfl, avR _ rfl, avR _ rfl, trivial⟩ (Nat.zero_le _) fun k hk => ?_
        have hk : k ≤ C.length := hk
        refine Split.by (fun h6 => ?_) (fun h6 => ?_)
        · have h6 : k < C.length := by have := dT h6; omega
          have hat := ids_take h6 (D'.getD i 0)
          refine ⟨⟨rfl, by omega, by omega⟩, ?_⟩
          refine Split.by (fun h7 => ?_) (fun h7 => ?_)
          · have h7 : (C.take k).contains (D'.getD i 0) = true := h7
            repeat first | refine Split.tt ?_ | refine Split.ff ?_
            refine ⟨i6 (by omega), ?_⟩
            refine ⟨k + 1, ⟨rfl, ⟨obD s.ds rfl, obD b.ds rfl, trivial⟩, avR _ rfl, avQ rfl, avQ rfl, avR _ rfl, avR _ rfl, avR _ rfl, avE rfl ?_, avR _ rfl, avR _ rfl, avR _ rfl, avR _ rfl, avR _ rfl, avI rfl rfl, trivial⟩, h6, (show C.length - (k + 1) < C.length - k by omega)⟩
            rw [hat, h7]; exact D.eqv_refl _
          · have h7 : (C.take k).contains (D'.getD i 0) = false := h7
            repeat first | refine Split.tt ?_ | refine Split.ff ?_
            refine ⟨i6 (by omega), ?_⟩
            refine ⟨k + 1, ⟨rfl, ⟨obD s.ds rfl, obD b.ds rfl, trivial⟩, avR _ rfl, avQ rfl, avQ rfl, avR _ rfl, avR _ rfl, avR _ rfl, avE rfl ?_, avR _ rfl, avR _ rfl, avR _ rfl, avR _ rfl, avR _ rfl, avI rfl rfl, trivial⟩, h6, (show C.length - (k + 1) < C.length - k by omega)⟩
            rw [hat, h7]
            exact D.eqv_of_eq (congrArg D.bool (Bool.false_or _).symm)
        · have h6 : k = C.length := by have := dF h6; omega
          subst h6
          have hin : C.contains (D'.getD i 0) = true := List.contains_iff_mem.2 q1
          rw [List.take_length, hin]
          refine Exists.intro (List.range 11) (And.intro (by kernel_rfl) (FzOb.no ?_))
          refine CallOb.ro (w_without l (D'.getD i 0) (by omega)) rfl rfl ?_
          refine CallOb.ro (l_Plc gw) rfl rfl ?_
          repeat first | refine Split.tt ?_ | refine Split.ff ?_ | refine Split.no (ne0 q2) ?_
          refine ⟨i6 (by omega), ?_⟩
          exact ⟨i + 1, ⟨rfl, ⟨obD s.ds rfl, obD b.ds rfl, trivial⟩, avR _ rfl, avQ rfl, avQ rfl, avR _ rfl, avR _ rfl, avR _ rfl, avR _ rfl, avI rfl rfl, trivial⟩, h5, (show D'.length - (i + 1) < D'.length - i by omega)⟩
      refine CallSt.pure w_sanity rfl rfl ?_
      exact r1B rfl rfl
  · have e1 : corR s b l = ([], givE s b l) := by unfold corR; rw [if_pos h0]
    have e2 : susR s b l = ([], givE s b l) := by unfold susR; rw [if_pos h0]
    rw [e1, e2]
    refine Split.yes (by simpa using h0) ?_
    refine CallSt.pure w_sanity rfl rfl ?_
    repeat first | refine Split.tt ?_ | refine Split.ff ?_ | refine Split.yes rfl ?_
    refine Split.yes (by simp) ?_
    repeat first | refine Split.tt ?_ | refine Split.ff ?_ | refine Split.yes rfl ?_
    exact r1B rfl (by simp)
end Go.Pg
