/- Texts joined and shortened by program. -/
import Derived.Test.YtogcomikcdbopaaGreatM4
import Derived.Shelf.SlLaysE0
import Derived.Shelf.RegionOpenPlain
import Derived.WalkKit
import Derived.Deep.LoopGhost
import Derived.Deep.RegionLaw
import Derived.Lib.Walk
import Derived.Sort.WalkB12
import Derived.Lib.SliceRun
import Derived.Lib.SlicesDelete
import Derived.Test.YtogcomikcdbopaaGreatMD
import Derived.Test.YtogcomikcdbopaaGreatM8
import Derived.Test.YtogcomikcdbopaaGreatMA
import Derived.Test.YtogcomikcdbopaaGreatMC
set_option maxHeartbeats 4000000
set_option linter.all false
namespace Go.Pg
open Go.Proofs Go.Shelf Go.RowKit Go.Lib Go.Sort
variable {P : Program} {ρ : Ren}
theorem zht (w : World) (t e ty : TypeId) (z : Value) (ht : P.underlying t = some (.slice e)) (hv : ∀ w, (zeroValue e).run P w = .ok z w) (b o n c : Nat) (zs : List Value) (hzs : (Builtin.zeroCells z.cells n).toList = zs) (ho : ∀ v ∈ zs, v.oneCell' = true) (hn : 0 < n)
  (hc : ∀ j, j < zs.length -> (w.cell? ⟨b, o + j, none⟩).isSome = true) (hf : ∀ j, j < zs.length -> w.frozen? ⟨b, o + j, none⟩ = false) :
  (Builtin.clear_ #[t] ty #[.slice (some ⟨b, o, none⟩) n c]).run P w = .ok (.tuple #[]) (w.setCells b o zs) := by
 have hst := run_storeCells_cells (P := P) b o zs 0 w (by simpa using hc) (by simpa using hf) ho
 simp only [Nat.add_zero] at hst
 obtain ⟨m, rfl⟩ : ∃ m, n = m + 1 := ⟨n - 1, by omega⟩
 simp [Builtin.clear_, run_underlying ht, hv, hzs, hst]
theorem zkU (d : Array Value) (i j : Nat) (t : List Value) (hij : i <= j) (hj : j <= d.size) (ht : t.length = j - i) :
  lay (lay d i (d.toList.drop j)) (i + (d.size - j)) t = (d.toList.take i ++ d.toList.drop j ++ t).toArray := by
 apply Array.ext_getElem?
 intro u
 have l1 : (d.toList.take i).length = i := by simp; omega
 have l2 : (d.toList.drop j).length = d.size - j := by simp
 rw [lay_get? _ _ _ _ (by rw [lay_size]; omega), lay_get? _ _ _ _ (by rw [l2]; omega), show (d.toList.take i ++ d.toList.drop j ++ t).toArray[u]? = (d.toList.take i ++ d.toList.drop j ++ t)[u]? from by simp]
 simp only [l2, ht]
 by_cases c1 : u < i
 ·rw [if_neg (by omega), if_neg (by omega), List.getElem?_append_left (by simp; omega), List.getElem?_append_left (by omega), List.getElem?_take, if_pos c1, Array.getElem?_toList]
 ·by_cases c2 : u < i + (d.size - j)
  ·rw [if_neg (by omega), if_pos (by omega), List.getElem?_append_left (by simp; omega), List.getElem?_append_right (by omega), l1]
  ·rw [List.getElem?_append_right (by simp; omega)]
   simp only [List.length_append, l1, l2]
   by_cases c3 : u < d.size
   ·rw [if_pos (by omega)]
   ·rw [if_neg (by omega), if_neg (by omega), Array.getElem?_eq_none (by omega), List.getElem?_eq_none (by omega)]
set_option maxRecDepth 1000000 in
theorem zll (L : SlLaysE0.n45 P ρ) {k : Nat} (hk : 0 < k) (a23 : ∀ w, (isAgg (ρ.t 23)).run P w = .ok true w) (z23 : ∀ w, (Go.sizeOf (ρ.t 23)).run P w = .ok k w) (i0 : TypeInfo) (hi0 : P.info? (ρ.t 23) = some i0) (hz1 : i0.size = k)
  (z : Value) (v23 : ∀ w, (zeroValue (ρ.t 23)).run P w = .ok z w) (zs : List Value) (blk off cap i j n : Nat) (hzs : (Builtin.zeroCells z.cells (j - i)).toList = zs) (hzl : zs.length = (j - i) * k) (hzo : ∀ v ∈ zs, v.oneCell' = true)
  (D : Array Value) (hD : D.size = n * k) (hDo : ∀ v ∈ D.toList, v.oneCell' = true) (w : World) (hH : Go.Sort.Holds id w blk off D) (hcap : n <= cap) (hm : cap <= 9223372036854775807) (hij : i < j) (hj : j <= n) :
  Calls P (ρ.f 45) #[.slice (some ⟨blk, off, none⟩) n cap, .int .i64 i, .int .i64 j] w fun e w' => e = .returned (.slice (some ⟨blk, off, none⟩) (n - (j - i)) cap) /\ ∃ q, w' = putRow id (Sort.ahead w q) blk off (D.toList.take (i * k) ++ D.toList.drop (j * k) ++ zs).toArray := by
 have mixed := L.mixed; have t0 := L.t0; have a0 := L.a0; have z0 := L.z0; have v0 := L.v0; have t3 := L.t3; have a3 := L.a3; have z3 := L.z3; have v3 := L.v3; have t4 := L.t4; have a4 := L.a4; have z4 := L.z4; have v4 := L.v4; have t22 := L.t22; have a22 := L.a22; have z22 := L.z22; have v22 := L.v22
 have b1 : i * k <= j * k := Nat.mul_le_mul_right k (by omega)
 have b2 : j * k <= n * k := Nat.mul_le_mul_right k hj
 have b3 : (n - j) * k = n * k - j * k := Nat.sub_mul n j k
 have b4 : (j - i) * k = j * k - i * k := Nat.sub_mul j i k
 have b5' : (i + (n - j)) * k = i * k + (n * k - j * k) := by rw [Nat.add_mul, b3]
 have b5 : Hid ((i + (n - j)) * k = i * k + (n * k - j * k)) := b5'
 obtain ⟨news, hnews⟩ : ∃ news, news = D.toList.drop (j * k) := ⟨_, rfl⟩
 have hlen : news.length = (n - j) * k := by rw [hnews, List.length_drop, Array.length_toList, hD, b3]
 have hget : ∀ t, t < (n - j) * k -> news[t]? = some D[j * k + t]! := by
  intro t ht
  rw [hnews, List.getElem?_drop, Array.getElem?_toList, getElem!_pos D (j * k + t) (by omega), Array.getElem?_eq_getElem (by omega)]
 obtain ⟨A, hA, hsrc⟩ : ∃ A : Addr, (if cap = j then some (⟨blk, off, none⟩ : Addr) else some ⟨blk, off + j * k, none⟩) = some A /\ Hid (∀ t u, news[t]? = some u -> w.drew.cell? (A.add t) = some u) := by
  by_cases h : cap = j
  ·refine ⟨⟨blk, off, none⟩, by simp [h], fun t u hu => ?_⟩
   have h0 : news.length = 0 := by rw [hlen, show n - j = 0 by omega, Nat.zero_mul]
   rw [List.length_eq_zero_iff.1 h0] at hu
   simp at hu
  ·refine ⟨⟨blk, off + j * k, none⟩, by simp [h], fun t u hu => ?_⟩
   have ht : t < (n - j) * k := by
    have := (List.getElem?_eq_some_iff.1 hu).1
    rwa [hlen] at this
   rw [hget t ht] at hu
   rw [Addr.add_lit, show off + j * k + t = off + (j * k + t) by omega]
   exact (hH (j * k + t) (by omega)).1.trans hu
 have s1 : Hid (news.length = (n - j) * k) := hlen
 have s2 : Hid (∀ u ∈ news, u.oneCell' = true) := by
  intro u hu
  rw [hnews] at hu
  exact hDo u (List.mem_of_mem_drop hu)
 have s3 : Hid (∀ t, t < news.length -> (w.drew.cell? ⟨blk, off + i * k + t, none⟩).isSome = true /\ w.drew.frozen? ⟨blk, off + i * k + t, none⟩ = false) := by
  intro t ht
  rw [hlen, b3] at ht
  rw [Nat.add_assoc]
  exact ⟨by show (w.cell? _).isSome = true; rw [(hH (i * k + t) (by omega)).1]; rfl, (hH (i * k + t) (by omega)).2⟩
 obtain ⟨W1, hW1⟩ : ∃ W1, W1 = w.drew.setCells blk (off + i * k) news := ⟨_, rfl⟩
 have hW1' : W1 = putRow id (Sort.ahead w 1) blk off (lay D (i * k) (D.toList.drop (j * k))) := by
  have e := putRow_setCells id (Sort.ahead w 1) blk off (D.toList.drop (j * k)) D (i * k) (by simp; omega)
  rw [List.map_id, putRow_self id (Sort.ahead w 1) blk off D (holds_ahead id w 1 blk off D hH)] at e
  rw [hW1, hnews, <- e]
  rfl
 have hH1 : Go.Sort.Holds id W1 blk off (lay D (i * k) (D.toList.drop (j * k))) := by rw [hW1']; exact holds_putRow id _ blk off D _ (holds_ahead id w 1 blk off D hH) (lay_size _ _ _)
 have hcl : ∀ ty, (Builtin.clear_ #[ρ.t 22] ty #[.slice (some ⟨blk, off + (i + (n - j)) * k, none⟩) (n - (i + (n - j))) (cap - (i + (n - j)))]).run P W1 = .ok (.tuple #[]) (W1.setCells blk (off + (i + (n - j)) * k) zs) :=
  fun ty => zht W1 _ _ ty z t22 v23 blk (off + (i + (n - j)) * k) _ _ zs (by rw [show n - (i + (n - j)) = j - i by omega]; exact hzs) hzo (by omega)
   (fun t ht => by have := b5.out; rw [Nat.add_assoc, (hH1 _ (by rw [lay_size]; omega)).1]; rfl) (fun t ht => by have := b5.out; rw [Nat.add_assoc]; exact (hH1 _ (by rw [lay_size]; omega)).2)
 have X : Aside (W1 = putRow id (Sort.ahead w 1) blk off (lay D (i * k) (D.toList.drop (j * k)))) := hW1'
 have hW : Hid (W1 = w.drew.setCells blk (off + i * k) news) := hW1
 have hic : i <= cap := by omega
 have hjc : j <= cap := by omega
 clear hW1 hW1' hH1 hH hget hnews hlen b1 b2 b3 b4 b5' hzs hzo hDo hm
 obtain ⟨_, _, FG⟩ := L.f45
 go_enter FG, SlBodyN.n45_ntmps ρ
 go_wp2_with fail
 go_region_law_o (refine step_append_room rfl (.tmp 22) (.tmp 25) (ρ.t 22) rfl (ρ.t 23) i0 k t22 hi0 hz1 blk off i cap (by simp [Act.eval, Act.put]) A (n - j) (cap - j) news (by simp [Act.eval, Act.put]) s1.out hsrc.out s2.out (by omega) s3.out ?_; rw [<- hW.out])
 go_wp2
 go_ret
 refine ⟨by rw [show n - (j - i) = i + (n - j) by omega]; rfl, 1, ?_⟩
 have b1 : i * k <= j * k := Nat.mul_le_mul_right k (by omega)
 have b2 : j * k <= n * k := Nat.mul_le_mul_right k hj
 have b4 : (j - i) * k = j * k - i * k := Nat.sub_mul j i k
 have e := putRow_setCells id (Sort.ahead w 1) blk off zs (lay D (i * k) (D.toList.drop (j * k))) ((i + (n - j)) * k) (by have := b5.out; rw [lay_size]; omega)
 rw [List.map_id] at e
 rw [X.out, e, b5.out, <- hD, zkU D (i * k) (j * k) zs b1 (by omega) (by omega)]
theorem zbX (L : SlLaysE0.n45 P ρ) (hent : Ent P (ρ.f 45)) {k : Nat} (hk : 0 < k) (a23 : ∀ w, (isAgg (ρ.t 23)).run P w = .ok true w) (z23 : ∀ w, (Go.sizeOf (ρ.t 23)).run P w = .ok k w) (i0 : TypeInfo) (hi0 : P.info? (ρ.t 23) = some i0) (hz1 : i0.size = k)
  (z : Value) (v23 : ∀ w, (zeroValue (ρ.t 23)).run P w = .ok z w) (hzk : z.cells.size = k) (hzo : ∀ v ∈ z.cells.toList, v.oneCell' = true) (e : TypeId) (n i : Nat) (f : Nat -> Nat -> D) (hf : ∀ m j, m < n -> j < k -> (f m j).flat = true) (hi : i < n) :
  SpecT P (ρ.f 45) [] [.d (.int .i64 i), .d (.int .i64 ((i + 1 : Nat) : Int))] e k n f (n - 1) (fun m => if m < i then f m else f (m + 1)) := by
 refine ⟨hent, fun w ok vs us v xs hok h1 h2 hr => ?_⟩
 cases h1
 cases h2 with
 | cons h2 h3 =>
 cases h3 with
 | cons h3 h4 =>
 cases h4
 rename_i a b
 have ha : a = .int .i64 i := h2
 have hb : b = .int .i64 ((i + 1 : Nat) : Int) := h3
 subst ha; subst hb
 have hxl := hr.own.1
 rcases hr.own.2 with ⟨h4, h5⟩ | ⟨q, cap, cur, rfl, _, hh, hnc, hcap, hcs, htk⟩
 ·omega
 ·have b1 : i * k <= (i + 1) * k := Nat.mul_le_mul_right k (by omega)
  have b2 : (i + 1) * k <= n * k := Nat.mul_le_mul_right k hi
  have b3 : (i + 1) * k = i * k + k := by rw [Nat.add_mul, Nat.one_mul]
  have b4 : (n - 1) * k = n * k - k := by rw [Nat.sub_mul, Nat.one_mul]
  have hck : n * k <= cap * k := Nat.mul_le_mul_right k hnc
  have hxc : ∀ t, t < n * k -> cur[t]? = xs[t]? := fun t ht => by
   rw [<- htk, List.getElem?_take, if_pos ht, Array.getElem?_toList]
  have hH : Go.Sort.Holds id w q 0 xs.toArray := fun t ht => by
   have ht : t < n * k := by simpa [hxl] using ht
   have hx : xs[t]? = some xs.toArray[t]! := by
    rw [getElem!_pos xs.toArray t (by simpa [hxl] using ht), gqe (by omega)]; rfl
   refine ⟨?_, ?_⟩
   ·simp only [World.cell?, hh, id_eq, Nat.zero_add]
    rw [hxc t ht, hx]; rfl
   ·simp [World.frozen?, hh]
  obtain ⟨zs, hzs⟩ : ∃ zs, (Builtin.zeroCells z.cells (i + 1 - i)).toList = zs := ⟨_, rfl⟩
  have hzl : zs.length = (i + 1 - i) * k := by rw [<- hzs, zbQ, hzk]
  have hzo' : ∀ v ∈ zs, v.oneCell' = true := fun v hv => by
   obtain ⟨t, ht⟩ := List.getElem?_of_mem hv
   have htl : t < (i + 1 - i) * k := by have := (List.getElem?_eq_some_iff.1 ht).1; omega
   rw [<- hzs, zbR _ _ _ (by rw [hzk]; exact htl)] at ht
   exact hzo v (List.mem_of_getElem? ht)
  have hrun := zll L hk a23 z23 i0 hi0 hz1 z v23 zs q 0 cap i (i + 1) n hzs hzl hzo' xs.toArray (by simp [hxl]) (by simpa using hr.one) w hH hnc (by unfold maxLen at hcap; omega) (by omega) (by omega)
  refine hrun.mono ?_
  rintro en w' ⟨rfl, m, rfl⟩
  obtain ⟨R, hR⟩ : ∃ R, R = xs.take (i * k) ++ xs.drop ((i + 1) * k) ++ zs := ⟨_, rfl⟩
  have hzl' : zs.length = k := by rw [hzl, Nat.add_sub_cancel_left, Nat.one_mul]
  have hRl : R.length = n * k := by rw [hR, List.length_append, List.length_append, List.length_take, List.length_drop, hzl', hxl]; omega
  have hRg : ∀ t, t < (n - 1) * k -> R[t]? = if t < i * k then xs[t]? else xs[t + k]? := fun t ht => by
   rw [hR, List.getElem?_append_left (by rw [List.length_append, List.length_take, List.length_drop, hxl]; omega)]
   split
   ·rename_i h1; rw [List.getElem?_append_left (by rw [List.length_take, hxl]; omega), List.getElem?_take, if_pos h1]
   ·rename_i h1
    rw [List.getElem?_append_right (by rw [List.length_take, hxl]; omega), List.getElem?_drop, List.length_take, hxl]
    congr 1; omega
  have eR : (xs.toArray.toList.take (i * k) ++ xs.toArray.toList.drop ((i + 1) * k) ++ zs).toArray = R.toArray := by rw [hR]
  rw [eR]
  have hg : q < w.heap.size := (Array.getElem?_eq_some_iff.1 hh).1
  have hheap : ∀ i, i < w.heap.size -> (putRow id (Sort.ahead w m) q 0 R.toArray).heap[i]? = if i = q then some (.cells (putCells id 0 R.toArray cur) e (0, 0)) else w.heap[i]? := fun i hi => by
   simp only [putRow, mapBlock, Sort.ahead]
   rw [Array.getElem?_modify]
   by_cases e' : q = i
   ·subst e'; simp [hh, onCells]
   ·rw [if_neg e', if_neg (fun e'' => e' e''.symm)]
  have hsz : (putCells id 0 R.toArray cur).size = cap * k := by simp [putCells, hcs]
  have hsz' : (putCells id 0 R.toArray cur).toList.length = cap * k := (Array.length_toList).trans hsz
  have hget : ∀ t, t < n * k -> (putCells id 0 R.toArray cur).toList[t]? = R[t]? := fun t ht => by
   have hlt : t < cur.size := by omega
   rw [Array.getElem?_toList, putCells, Array.getElem?_mapIdx, Array.getElem?_eq_getElem hlt]
   simp only [Option.map_some, Nat.zero_le, true_and, Nat.zero_add, List.size_toArray, hRl, if_pos ht, Nat.sub_zero, id_eq]
   rw [getElem!_pos R.toArray t (by simpa [hRl] using ht), gqe (by omega)]; rfl
  rw [show n - (i + 1 - i) = n - 1 by omega]
  refine ⟨_, rfl, ⟨rfl, rfl, rfl, by simp [putRow, mapBlock, Sort.ahead], fun i hi hne => ?_⟩, fun b hb => .inl hb, (putCells id 0 R.toArray cur).toList.take ((n - 1) * k), ⟨by rw [List.length_take, hsz']; omega, .inr ⟨q, cap, _, rfl, Nat.zero_le _, by rw [hheap q hg, if_pos rfl], by omega, hcap, hsz, rfl⟩⟩, fun u hu => ?_, fun m' hm' j hj => ?_⟩
  ·rw [hheap i hi, if_neg fun e' => hne (by rw [e']; rfl)]
  ·obtain ⟨t, ht⟩ := List.getElem?_of_mem hu
   rw [List.getElem?_take] at ht
   split at ht
   ·rename_i hlt
    rw [hget t (by omega), hRg t hlt] at ht
    split at ht
    ·exact hr.one u (List.mem_of_getElem? ht)
    ·exact hr.one u (List.mem_of_getElem? ht)
   ·cases ht
  ·have hlt : m' * k + j < (n - 1) * k := by
    have : (m' + 1) * k <= (n - 1) * k := Nat.mul_le_mul_right k hm'
    rw [Nat.add_mul] at this; omega
   rw [List.getElem?_take, if_pos hlt, hget _ (by omega), hRg _ hlt]
   by_cases hmi : m' < i
   ·have h6 : (m' + 1) * k <= i * k := Nat.mul_le_mul_right k hmi
    rw [Nat.add_mul] at h6
    rw [if_pos (by omega)]
    obtain ⟨u, hu, hrep⟩ := hr.rep m' (by omega) j hj
    refine ⟨u, hu, ?_⟩
    show Rep _ _ ((if m' < i then f m' else f (m' + 1)) j) u
    rw [if_pos hmi]
    exact Rep.flat (hf m' j (by omega) hj) hrep
   ·have h6 : i * k <= m' * k := Nat.mul_le_mul_right k (by omega)
    rw [if_neg (by omega)]
    obtain ⟨u, hu, hrep⟩ := hr.rep (m' + 1) (by omega) j hj
    refine ⟨u, ?_, ?_⟩
    ·rw [<- hu]; congr 1; rw [Nat.add_mul]; omega
    ·show Rep _ _ ((if m' < i then f m' else f (m' + 1)) j) u
     rw [if_neg hmi]
     exact Rep.flat (hf (m' + 1) j (by omega) hj) hrep
theorem zfK {e : Nat} {ei : TI} (h : TTab e = some ei) (ha : ei.agg = true) : ∃ i0 z, PP.info? e = some i0 /\ i0.size = ei.size /\ (∀ w, (isAgg e).run PP w = .ok true w) /\ (∀ w, (Go.sizeOf e).run PP w = .ok ei.size w) /\ (∀ w, (zeroValue e).run PP w = .ok z w) /\ z.cells.toList = ei.zero := by
 obtain ⟨info, d, z, h1, h2, h3, h4, h5, h6, h7, h8⟩ := zaf (hT e ei h)
 refine ⟨info, z, h1, h4, fun w => ?_, fun w => ?_, fun w => ?_, h7⟩
 ·rw [ha] at h6
  cases d <;> simp [TK.isAgg] at h6 <;> simp [isAgg, run_underlying h2]
 ·simp [Go.sizeOf, typeInfo, h1, h4]
 ·simp [zeroValue, typeInfo, h1, h3]
theorem SpecT.congr {P : Program} {f : FuncId} {pre post : List V1} {e k n n' n2 : Nat} {g g' g2 : Nat -> Nat -> D} (h : SpecT P f pre post e k n g n' g') (hn : n' = n2) (hg : ∀ m, m < n2 -> ∀ j, j < k -> g' m j = g2 m j) : SpecT P f pre post e k n g n2 g2 := by
 subst hn
 refine ⟨h.1, fun w ok vs us v xs h1 h2 h3 h4 => (h.2 w ok vs us v xs h1 h2 h3 h4).mono ?_⟩
 rintro en w' ⟨v', e1, e2, e3, xs', e4, e5, e6⟩
 exact ⟨v', e1, e2, e3, xs', e4, e5, fun m hm j hj => by rw [<- hg m hm j hj]; exact e6 m hm j hj⟩
theorem znC (L : List (Nat -> Bool)) (m j : Nat) (hj : j < 38) : (rowB L m j).flat = true := by
 show (bAt (L.getD m default) j).flat = true
 rcases i38 hj with rfl | rfl | rfl | rfl | rfl | rfl | rfl | rfl | rfl | rfl | rfl | rfl | rfl | rfl | rfl | rfl | rfl | rfl | rfl | rfl | rfl | rfl | rfl | rfl | rfl | rfl | rfl | rfl | rfl | rfl | rfl | rfl | rfl | rfl | rfl | rfl | rfl | rfl <;> rfl
theorem zkL (L : List (Nat -> Bool)) (hn : L.length <= 1000000) : SpecO PP 92 [.d (lB L)] 101 38 L.length (rowB L) := by
 refine zbc Tryz.func92 rfl (by kernel_rfl) rfl ?_
 refine fun b hb => ?_
 apply sB <;> intro h1
 ·have h0 := hb h1
  refine ⟨rfl, rfl, h0.symm, fun i hi => ?_⟩
  omega
 ·refine ⟨⟨.inr rfl, by unfold maxLen; omega, by show (0 + L.length) * 304 <= 140737488355328; omega⟩, ?_⟩
  refine ⟨rfl, rfl, Nat.zero_add _, fun i hi j hj => ?_⟩
  exact dE _
theorem zog (L : List (Nat -> Bool)) (i : Nat) (hi : i < L.length) : SpecT PP 91 [] [.d (.int .i64 i), .d (.int .i64 ((i + 1 : Nat) : Int))] 101 38 L.length (rowB L) (rmB L i).length (rowB (rmB L i)) := by
 obtain ⟨i0, z, h1, h2, h3, h4, h5, h6⟩ := zfK (e := 101) (ei := ⟨38, true, 304, List.replicate 38 (.int .u64 0), .array 38 99⟩) (by kernel_rfl) rfl
 have h := zbX Tryz.delB ⟨_, Tryz.func91, by kernel_rfl, by kernel_rfl⟩ (k := 38) (by decide) h3 h4 i0 h1 h2 z h5 (by rw [<- Array.length_toList, h6]; rfl) (by rw [h6]; intro v hv; rw [List.eq_of_mem_replicate hv]; rfl) 101 L.length i (rowB L) (fun m j _ hj => znC L m j hj) hi
 refine h.congr (zmM hi).symm fun m hm j hj => ?_
 have e : (rmB L i).getD m default = if m < i then L.getD m default else L.getD (m + 1) default := by
  rw [gdq, zmN hi]
  split <;> rfl
 show (if m < i then rowB L m else rowB L (m + 1)) j = bAt ((rmB L i).getD m default) j
 rw [e]
 split <;> rfl
section
variable {s : St} {o : Oper} {fo : Operand} {f : FuncId} {K : St -> Prop} {E : Env}
theorem CallSt.lend (ids : List Nat) {args : Array Operand} {at' : Array TypeId} (hop : o.op = .call { callee := .value fo, args, argTypes := at' }) {xs ys res : List V1} (h : SpecG E.dr PP f ys res) (hx : toV1c (s.freezes ids) fo args.toList = some (f, xs)) (he : eqV1s xs ys)
    (hr : res.all V1.flat = true) (hk : K (s.putO o.dst (resAV res))) : CallSt E PP s o fo args.toList K := by
  obtain ⟨ex, h1, h2⟩ := zaB hx
  rw [zah]
  refine .inr (.inr (.inl ⟨_, ⟨fun cx a w hD hd hR => ?_⟩, hk⟩))
  obtain ⟨γ, hg⟩ := hR
  obtain ⟨γ', h'⟩ := R.freezes ids ⟨γ, hg⟩
  obtain ⟨cvs, hcx, hcm⟩ := zaO h1 (ev_m h' fo).1
  have hm := (zbk h' h2 ((zbL h' args.toList).append hcm)).1
  refine .enter (zaF hop hcx h.1) ?_
  refine ((h.eqv he).2 w _ _ (fun b hb => hb) hm).mono fun en w' ⟨v, e, hb, hres⟩ => ⟨v, e, γ, ?_⟩
  exact (hg.grow hb.1 fun e => hb.2 (hD e)).putO hd (zbl (.inr hr) hres) (fun j hj => by rw [zaT] at hj; cases hj)
end
theorem zis (l : List Rpt) (g : FuncId) (c0 : D) (p : Rpt -> Bool) (hn : l.length <= 1000000) (hp : ∀ i, i < l.length -> Spec PP g [(l.getD i default).v, .d c0] [B (p (l.getD i default))]) : Spec PP 38 [.d (lR l), .d (cloB g [c0])] [N (idxL p l)] := by
 refine sA Tryz.func38 ?_
 refine LoopOb.of (σ := Nat) (fun i => ([(0, .d (lR l)), (1, .d (cloB g [c0])), (6, .d (lR l)), (7, .d (I l.length)), (8, .d (I i))], [])) (fun i => i <= l.length /\ ∀ j, j < i -> p (l.getD j default) = false) (fun i => l.length - i) 0
  ⟨rfl, trivial, wq rfl⟩ z0L fun i hi => ?_
 obtain ⟨hi, ha⟩ := hi
 apply sB <;> intro h1
 ·have h1 : i < l.length := by have := dT h1; omega
  refine ⟨⟨rfl, by omega, by omega⟩, ?_⟩
  refine cP (hp i h1) rfl rfl ?_
  apply sB <;> intro h2
  ·refine r1I rfl ?_
   exact (zam default h1 h2 ha).symm
  ·refine ⟨i6, ?_⟩
   refine ⟨i + 1, ⟨rfl, trivial, wq rfl⟩, ⟨h1, fun j hj => ?_⟩, (msr (by omega))⟩
   by_cases e : j = i
   ·subst e; exact h2
   ·exact ha j (by omega)
 have h1 : i = l.length := by have := dF h1; omega
 subst h1
 refine r1I rfl ?_
 exact (zaq default ha).symm
structure Key (G : Prop) : Prop where
  out : G
theorem two_ {G T : Prop} (h : Key G -> T) (g : G) : T := h ⟨g⟩
section
variable {s : Svc} {l : List Rpt} {L : List (Nat -> Bool)} {ps : List Place} {rs : List Rsn} {n : Nat} {q : Nat × Nat}
end
abbrev rowRp (l : List Rpt) : Nat -> Nat -> D := fun i => (l.getD i default).at
theorem zoz {vs : List Rpt} {p : Rpt} {g : Nat -> Nat -> D} (hg : ∀ j, j < 8 -> D.eqv (g 0 j) (p.at j)) : D.eqv (.slc 8 (vs.length + 1) (appRow vs.length (rowRp vs) g)) (.slc 8 (vs ++ [p]).length (rowRp (vs ++ [p]))) := by
 refine ⟨by simp, .inr ⟨rfl, fun i hi j hj => ?_⟩⟩
 show D.eqv (appRow vs.length (rowRp vs) g i j) (((vs ++ [p]).getD i default).at j)
 unfold appRow
 by_cases h : i < vs.length
 ·rw [if_pos h, gdq, List.getElem?_append_left h, <- gdq]
  exact dE _
 ·have e : i = vs.length := by omega
  subst e
  rw [if_neg h, Nat.sub_self, gdq, List.getElem?_append_right (Nat.le_refl _), Nat.sub_self]
  exact hg j hj
theorem at8 {f : Nat -> D} {r : Rpt} (h : ∀ j, j < 8 -> f j = getD' r.ds j) : ∀ j, j < 8 -> D.eqv (f j) (r.at j) := fun j hj => by
 rw [h j hj]
 match j, hj with
 | 0, _ => exact ⟨rfl, rfl⟩
 | 1, _ => exact ⟨rfl, rfl⟩
 | 2, _ => exact ⟨rfl, rfl⟩
 | 3, _ => exact ⟨rfl, rfl⟩
 | 4, _ => exact ⟨rfl, rfl⟩
 | 5, _ => exact ⟨rfl, rfl⟩
 | 6, _ => exact ⟨rfl, rfl⟩
 | 7, _ => exact ⟨rfl, rfl⟩
theorem rd8 (r : Rpt) : ∀ j, j < 8 -> D.eqv (rowOf 8 r.ds 0 j) (r.at j) := fun j hj => at8 (r := r) (f := fun j => rowOf 8 r.ds 0 j) (fun j _ => by show getD' r.ds (0 * 8 + j) = _; rw [Nat.zero_mul, Nat.zero_add]) j hj
theorem zoE {s : Svc} {b : Brn} {l : List Rpt} (h : givE s b l = 0) : plcR s b l = (plsL s.c.M (metP (l.map (alwP s b))), 0) := by unfold plcR; rw [if_neg (fun hh => hh h)]
end Go.Pg
