/-
  Thin and Core: the polygon stays, and nothing more can be left out. Plain lists.
-/
import Derived.Test.YtlmljmgappiehaaGreatKI
import Derived.Test.YtlmljmgappiehaaGreatK8
set_option linter.all false
namespace Go.Pg
open Go.Proofs Go.RowKit

/-- A point of a system's polygon. -/
def Pt (l : List Half) (q : Corner) : Prop := 0 < q.Den ∧ Fe (hsL l) q
theorem hsL_mono {l m : List Half} (h : ∀ x ∈ l, x ∈ m) : ∀ x ∈ hsL l, x ∈ hsL m := fun x hx => by
  rcases List.mem_append.1 hx with hx | hx
  · exact List.mem_append_left _ (h x hx)
  · exact List.mem_append_right _ hx
theorem pt_mono {l m : List Half} (h : ∀ x ∈ l, x ∈ m) {q : Corner} (hq : Pt m q) : Pt l q := ⟨hq.1, fe_mono (hsL_mono h) hq.2⟩
theorem cor_pt {l m : List Half} (h1 : checkL l = 0) (h2 : checkL m = 0) : cornersL l = cornersL m ↔ ∀ q, Pt l q ↔ Pt m q := by
  obtain ⟨_, _, hl⟩ := checkL_ok h1
  obtain ⟨_, _, hm⟩ := checkL_ok h2
  rw [cor_eq hl hm, vt_same (okS_of h1) (okS_of h2)]
  constructor
  · intro h q
    exact ⟨fun ⟨a, b⟩ => ⟨a, (h q a).1 b⟩, fun ⟨a, b⟩ => ⟨a, (h q a).2 b⟩⟩
  · intro h q hD
    exact ⟨fun b => ((h q).1 ⟨hD, b⟩).2, fun b => ((h q).2 ⟨hD, b⟩).2⟩
theorem cert_pt {l : List Half} (h1 : checkL l = 0) : Cert (hsL l) ↔ ∀ q, ¬ Pt l q := by
  constructor
  · exact fun c q hq => cert_no c hq.1 hq.2
  · intro h
    rcases lp (okS_of h1) (f := ⟨0, 0⟩) ⟨by decide, by decide⟩ with c | ⟨g, _, k, _, D, hV⟩
    · exact c
    · exact (h _ ⟨by have := (okC_of hV.va).d; omega, hV.fe⟩).elim
theorem nil_pt {l : List Half} (h1 : checkL l = 0) : cornersL l = [] ↔ ∀ q, ¬ Pt l q := by
  obtain ⟨_, _, hl⟩ := checkL_ok h1
  rw [cor_nil_iff hl, ← cert_pt h1]
  constructor
  · intro h
    rcases lp (okS_of h1) (f := ⟨0, 0⟩) ⟨by decide, by decide⟩ with c | ⟨g, _, k, _, D, hV⟩
    · exact c
    · exact (h ⟨_, hV⟩).elim
  · rintro c ⟨q, hV⟩
    exact cert_no c (by have := (okC_of hV.va).d; omega) hV.fe
theorem ref_nil {l : List Half} (h1 : checkL l = 0) : refL l ≠ [] ↔ cornersL l = [] := by rw [ref_iff, cert_pt h1, nil_pt h1]
theorem checkL_of {l m : List Half} (h : checkL l = 0) (hm : ∀ x ∈ m, x ∈ l) (hn : m.length ≤ 40) : checkL m = 0 := by
  obtain ⟨n1, n2, n3⟩ := checkL_ok h
  unfold checkL
  rw [if_neg (by omega), if_pos (List.all_eq_true.2 fun x hx => n2 x (hm x hx))]
/-! ### Lists without one of their elements -/
theorem rm_get (l : List Int) (i j : Nat) : (rmL l i)[j]? = if j < i then l[j]? else l[j + 1]? := by
  have e : rmL l i = l.eraseIdx i := by unfold rmL; rw [List.eraseIdx_eq_take_drop_succ]
  rw [e, List.getElem?_eraseIdx]
theorem rm_mem {l : List Int} {i : Nat} {x : Int} : x ∈ rmL l i ↔ ∃ j, j ≠ i ∧ l[j]? = some x := by
  rw [List.mem_iff_getElem?]
  constructor
  · rintro ⟨j, hj⟩
    rw [rm_get] at hj
    split at hj
    · exact ⟨j, by omega, hj⟩
    · exact ⟨j + 1, by omega, hj⟩
  · rintro ⟨j, hne, hj⟩
    rcases Nat.lt_or_gt_of_ne hne with h | h
    · exact ⟨j, by rw [rm_get, if_pos h, hj]⟩
    · exact ⟨j - 1, by rw [rm_get, if_neg (by omega), show j - 1 + 1 = j by omega, hj]⟩
theorem rm_up {l : List Int} {k m : Nat} (h : k ≤ m) {x : Int} (hx : x ∈ rmL (rmL l k) m) : x ∈ rmL l (m + 1) := by
  obtain ⟨j, hne, hj⟩ := rm_mem.1 hx
  rw [rm_get] at hj
  split at hj
  · exact rm_mem.2 ⟨j, by omega, hj⟩
  · exact rm_mem.2 ⟨j + 1, by omega, hj⟩
theorem rm_dn {l : List Int} {k m : Nat} (h : m < k) {x : Int} (hx : x ∈ rmL (rmL l k) m) : x ∈ rmL l m := by
  obtain ⟨j, hne, hj⟩ := rm_mem.1 hx
  rw [rm_get] at hj
  split at hj
  · exact rm_mem.2 ⟨j, by omega, hj⟩
  · exact rm_mem.2 ⟨j + 1, by omega, hj⟩
theorem pick_mono (l : List Half) {js ks : List Int} (h : ∀ j ∈ js, j ∈ ks) : ∀ x ∈ pickL l js, x ∈ pickL l ks := fun x hx => by
  unfold pickL at hx ⊢
  obtain ⟨j, hj, rfl⟩ := List.mem_map.1 hx
  exact List.mem_map.2 ⟨j, h j hj, rfl⟩
theorem pick_all (l : List Half) : pickL l (upTo l.length) = l := by
  unfold pickL upTo
  rw [List.map_map]
  refine List.ext_getElem (by simp) fun i h1 h2 => ?_
  simp only [List.getElem_map, List.getElem_range, Function.comp]
  show l.getD (i : Int).toNat default = _
  rw [Int.toNat_natCast, gdI h2]
/-- Indices of a system. -/
structure Js (l : List Half) (js : List Int) : Prop where
  len : js.length ≤ 40
  mem : ∀ j ∈ js, 0 ≤ j ∧ j < l.length
theorem Js.rm {l : List Half} {js : List Int} (h : Js l js) (i : Nat) : Js l (rmL js i) :=
  ⟨by have := h.len; unfold rmL; simp; omega, fun j hj => h.mem j (rmL_mem hj)⟩
theorem Js.ck {l : List Half} {js : List Int} (h : Js l js) (h1 : checkL l = 0) : checkL (pickL l js) = 0 := checkL_of h1 (pickL_mem h.mem) (by rw [pickL_len]; exact h.len)
theorem Js.all {l : List Half} (h1 : checkL l = 0) : Js l (upTo l.length) := ⟨by rw [upTo_len]; exact (checkL_ok h1).1, fun j hj => upTo_mem hj⟩
theorem sand {l a b : List Half} (h1 : checkL l = 0) (ha : checkL a = 0) (hb : checkL b = 0) (hab : ∀ x ∈ a, x ∈ b) (hbl : ∀ x ∈ b, x ∈ l) (e : cornersL a = cornersL l) : cornersL b = cornersL l :=
  (cor_pt hb h1).2 fun q => ⟨fun h => ((cor_pt ha h1).1 e q).1 (pt_mono hab h), fun h => pt_mono hbl h⟩
theorem thin_inv {l : List Half} (h1 : checkL l = 0) : ∀ (n : Nat) (left : List Int), n ≤ left.length → Js l left → cornersL (pickL l left) = cornersL l → (∀ m, n ≤ m → m < left.length → cornersL (pickL l (rmL left m)) ≠ cornersL l) →
    Js l (thinRun l (cornersL l) n left) ∧ cornersL (pickL l (thinRun l (cornersL l) n left)) = cornersL l ∧ ∀ m, m < (thinRun l (cornersL l) n left).length → cornersL (pickL l (rmL (thinRun l (cornersL l) n left) m)) ≠ cornersL l
  | 0, left, _, hj, e, hm => ⟨hj, e, fun m => hm m (Nat.zero_le _)⟩
  | n + 1, left, hn, hj, e, hm => by
    have hl := rmL_len left (i := n) (by omega)
    simp only [thinRun]
    by_cases h : cornersL (pickL l (rmL left n)) = cornersL l
    · rw [if_pos h]
      refine thin_inv h1 n (rmL left n) (by omega) (hj.rm n) h fun m m1 m2 e2 => ?_
      refine hm (m + 1) (by omega) (by omega) ?_
      exact sand h1 (((hj.rm n).rm m).ck h1) ((hj.rm (m + 1)).ck h1) (pick_mono l fun j => rm_up m1) (pickL_mem (hj.rm (m + 1)).mem) e2
    · rw [if_neg h]
      refine thin_inv h1 n left (by omega) hj e fun m m1 m2 => ?_
      rcases Nat.lt_or_ge n m with h2 | h2
      · exact hm m h2 m2
      · obtain rfl : m = n := by omega
        exact h
theorem thin_is {l : List Half} (h1 : checkL l = 0) : Js l (thinL l) ∧ cornersL (pickL l (thinL l)) = cornersL l ∧ ∀ m, m < (thinL l).length → cornersL (pickL l (rmL (thinL l) m)) ≠ cornersL l := by
  unfold thinL
  have hu := upTo_len l.length
  exact thin_inv h1 l.length (upTo l.length) (by omega) (Js.all h1) (by rw [pick_all]) fun m m1 m2 => by omega
theorem core_inv {l : List Half} (h1 : checkL l = 0) : ∀ (n : Nat) (left : List Int) (i : Nat), left.length - i = n → Js l left → cornersL (pickL l left) = [] → (∀ m, m < i → cornersL (pickL l (rmL left m)) ≠ []) →
    Js l (coreRun l n left i) ∧ cornersL (pickL l (coreRun l n left i)) = [] ∧ ∀ m, m < (coreRun l n left i).length → cornersL (pickL l (rmL (coreRun l n left i) m)) ≠ []
  | 0, left, i, hn, hj, e, hm => ⟨hj, e, fun m m1 => hm m (by have : m < left.length := m1; omega)⟩
  | n + 1, left, i, hn, hj, e, hm => by
    have hl := rmL_len left (i := i) (by omega)
    simp only [coreRun]
    by_cases h : cornersL (pickL l (rmL left i)) = []
    · rw [if_pos h]
      refine core_inv h1 n (rmL left i) i (by omega) (hj.rm i) h fun m m1 e2 => ?_
      refine hm m m1 ((nil_pt ((hj.rm m).ck h1)).2 fun q hq => ?_)
      exact (nil_pt (((hj.rm i).rm m).ck h1)).1 e2 q (pt_mono (pick_mono l fun j => rm_dn m1) hq)
    · rw [if_neg h]
      refine core_inv h1 n left (i + 1) (by omega) hj e fun m m1 => ?_
      rcases Nat.lt_or_ge m i with h2 | h2
      · exact hm m h2
      · obtain rfl : m = i := by omega
        exact h
theorem core_is {l : List Half} (h1 : checkL l = 0) (h0 : cornersL l = []) : Js l (coreL l) ∧ cornersL (pickL l (coreL l)) = [] ∧ ∀ m, m < (coreL l).length → cornersL (pickL l (rmL (coreL l) m)) ≠ [] := by
  unfold coreL
  have hu := upTo_len l.length
  exact core_inv h1 l.length (upTo l.length) 0 (by omega) (Js.all h1) (by rw [pick_all]; exact h0) fun m m1 => by omega
/-- A half-plane of a pick is still there without some other place. -/
theorem still (l : List Half) (js : List Int) {g : Half} (hg : g ∈ hsL (pickL l js)) : ∃ a, ∀ m, m ≠ a → g ∈ hsL (pickL l (rmL js m)) := by
  rcases List.mem_append.1 hg with h | h
  · unfold pickL at h
    obtain ⟨j, hj, rfl⟩ := List.mem_map.1 h
    obtain ⟨a, ha⟩ := List.mem_iff_getElem?.1 hj
    refine ⟨a, fun m hm => List.mem_append_left _ ?_⟩
    unfold pickL
    exact List.mem_map.2 ⟨j, rm_mem.2 ⟨a, fun e => hm e.symm, ha⟩, rfl⟩
  · exact ⟨0, fun m _ => List.mem_append_right _ h⟩
theorem pick3 (a b c : Nat) : ∃ m, m < 4 ∧ m ≠ a ∧ m ≠ b ∧ m ≠ c := by
  by_cases h0 : 0 ≠ a ∧ 0 ≠ b ∧ 0 ≠ c
  · exact ⟨0, by omega, h0⟩
  by_cases h1 : 1 ≠ a ∧ 1 ≠ b ∧ 1 ≠ c
  · exact ⟨1, by omega, h1⟩
  by_cases h2 : 2 ≠ a ∧ 2 ≠ b ∧ 2 ≠ c
  · exact ⟨2, by omega, h2⟩
  exact ⟨3, by omega, by omega, by omega, by omega⟩
theorem core_three {l : List Half} (h1 : checkL l = 0) (h0 : cornersL l = []) : (coreL l).length ≤ 3 := by
  obtain ⟨hj, e, hm⟩ := core_is h1 h0
  rcases Nat.lt_or_ge 3 (coreL l).length with h | h
  · exfalso
    have c : Cert (hsL (pickL l (coreL l))) := (cert_pt (hj.ck h1)).2 ((nil_pt (hj.ck h1)).1 e)
    have bad : ∀ m, m < 4 → ¬ Cert (hsL (pickL l (rmL (coreL l) m))) := fun m hm4 c => hm m (by omega) ((nil_pt ((hj.rm m).ck h1)).2 ((cert_pt ((hj.rm m).ck h1)).1 c))
    rcases c with ⟨g, hg, k, hk, c⟩ | ⟨g, hg, k, hk, j, hj', c⟩
    · obtain ⟨a, ha⟩ := still l _ hg
      obtain ⟨b, hb⟩ := still l _ hk
      obtain ⟨m, m1, m2, m3, _⟩ := pick3 a b b
      exact bad m m1 (.inl ⟨g, ha m m2, k, hb m m3, c⟩)
    · obtain ⟨a, ha⟩ := still l _ hg
      obtain ⟨b, hb⟩ := still l _ hk
      obtain ⟨d, hd⟩ := still l _ hj'
      obtain ⟨m, m1, m2, m3, m4⟩ := pick3 a b d
      exact bad m m1 (.inr ⟨g, ha m m2, k, hb m m3, j, hd m m4, c⟩)
  · exact h
end Go.Pg
/-
  slices.Delete of one half-plane, on a row of the caller's own.
-/
set_option linter.all false
set_option maxRecDepth 100000
namespace Go.Pg
open Go.Proofs Go.RowKit Go.Shelf Go.Lib Go.Sort

@[irreducible] def rmH (l : List Half) (i : Nat) : List Half := l.take i ++ l.drop (i + 1)
/-- clear of a run of elements of k cells. -/
theorem run_clear_k {P : Program} (w : World) (t e ty : TypeId) (z : Value) (ht : P.underlying t = some (.slice e)) (hv : ∀ w, (zeroValue e).run P w = .ok z w) (h1 : ∀ v ∈ z.cells.toList, v.oneCell' = true) (b o n c : Nat) (hn : 0 < n)
    (hc : ∀ j, j < (Builtin.zeroCells z.cells n).toList.length → (w.cell? ⟨b, o + j, none⟩).isSome = true) (hf : ∀ j, j < (Builtin.zeroCells z.cells n).toList.length → w.frozen? ⟨b, o + j, none⟩ = false) :
    (Builtin.clear_ #[t] ty #[.slice (some ⟨b, o, none⟩) n c]).run P w = .ok (.tuple #[]) (w.setCells b o (Builtin.zeroCells z.cells n).toList) := by
  have h1' : ∀ v ∈ (Builtin.zeroCells z.cells n).toList, v.oneCell' = true := fun v hv' => by
    obtain ⟨q, hq⟩ := List.getElem?_of_mem hv'
    have hl := zeroCells_len z.cells n
    have hlt := (List.getElem?_eq_some_iff.1 hq).1
    rw [zeroCells_get _ _ _ (by omega)] at hq
    exact h1 v (List.mem_of_getElem? hq)
  have hst := run_storeCells_cells (P := P) b o (Builtin.zeroCells z.cells n).toList 0 w (by simpa using hc) (by simpa using hf) h1'
  simp only [Nat.add_zero] at hst
  obtain ⟨m, rfl⟩ : ∃ m, n = m + 1 := ⟨n - 1, by omega⟩
  simp [Builtin.clear_, run_underlying ht, hv, hst]
set_option maxHeartbeats 4000000 in
theorem calls_delH (i0 : TypeInfo) (z0 : Value) (t22 : Tryz.prog.underlying 22 = some (.slice 48)) (hi0 : Tryz.prog.info? 48 = some i0) (hz1 : i0.size = 3) (v23 : ∀ w, (zeroValue 48).run Tryz.prog w = .ok z0 w) (hz : z0.cells = #[Value.int .i64 0, Value.int .i64 0, Value.int .i64 0])
    (g cap i j n : Nat) (hje : j = i + 1) (d : Array Value) (w : World) (hd : d.size = n * 3) (hH : Go.Sort.Holds id w g 0 d) (h1 : ∀ v ∈ d.toList, v.oneCell' = true) (hcap : n ≤ cap) (hm : cap ≤ 9223372036854775807) (hi : i < n) :
    Calls Tryz.prog 125 #[.slice (some ⟨g, 0, none⟩) n cap, .int .i64 i, .int .i64 j] w fun e w' => e = .returned (.slice (some ⟨g, 0, none⟩) (n - 1) cap) ∧
      ∃ q, w' = putRow id (Sort.ahead w q) g 0 (d.toList.take (i * 3) ++ d.toList.drop (j * 3) ++ List.replicate 3 (Value.int .i64 0)).toArray := by
  have hij : i < j := by omega
  have hjn : j ≤ n := by omega
  obtain ⟨news, hnews⟩ : ∃ news, news = d.toList.drop (j * 3) := ⟨_, rfl⟩
  have hlen : news.length = (n - j) * 3 := by rw [hnews]; simp; omega
  have hget : ∀ t, t < news.length → news[t]? = some (d[j * 3 + t]!) := by
    intro t ht
    rw [hnews, List.getElem?_drop, Array.getElem?_toList, getElem!_pos d (j * 3 + t) (by omega), Array.getElem?_eq_getElem (by omega)]
  obtain ⟨A, hA, hsrc⟩ : ∃ A : Addr, (if cap = j then some (⟨g, 0, none⟩ : Addr) else some ⟨g, j * 3, none⟩) = some A ∧ Hid (∀ t u, news[t]? = some u → w.drew.cell? (A.add t) = some u) := by
    by_cases h : cap = j
    · refine ⟨⟨g, 0, none⟩, by simp [h], fun t u hu => ?_⟩
      have h0 : news.length = 0 := by rw [hlen]; omega
      rw [List.length_eq_zero_iff.1 h0] at hu
      simp at hu
    · refine ⟨⟨g, j * 3, none⟩, by simp [h], fun t u hu => ?_⟩
      have ht : t < news.length := (List.getElem?_eq_some_iff.1 hu).1
      rw [hget t ht] at hu
      rw [Addr.add_lit]
      have := (hH (j * 3 + t) (by omega)).1
      rw [Nat.zero_add] at this
      exact this.trans hu
  have s1 : Hid (news.length = (n - j) * 3) := hlen
  have s2 : Hid (∀ u ∈ news, u.oneCell' = true) := by
    intro u hu
    rw [hnews] at hu
    exact h1 u (List.mem_of_mem_drop hu)
  have s3 : Hid (∀ t, t < news.length → (w.drew.cell? ⟨g, 0 + i * 3 + t, none⟩).isSome = true ∧ w.drew.frozen? ⟨g, 0 + i * 3 + t, none⟩ = false) := by
    intro t ht
    rw [hlen] at ht
    have := hH (i * 3 + t) (by omega)
    rw [← Nat.add_assoc] at this
    exact ⟨by show (w.cell? _).isSome = true; rw [this.1]; rfl, this.2⟩
  have hW0 : putRow id (Sort.ahead w 1) g 0 d = w.drew := putRow_self id (Sort.ahead w 1) g 0 d (holds_ahead id w 1 g 0 d hH)
  obtain ⟨W1, hW1⟩ : ∃ W1, W1 = w.drew.setCells g (0 + i * 3) news := ⟨_, rfl⟩
  have hW1' : W1 = putRow id (Sort.ahead w 1) g 0 (lay d (i * 3) news) := by
    rw [hW1, ← putRow_setCells id (Sort.ahead w 1) g 0 _ d (i * 3) (by omega), hW0, List.map_id]
  have hH1 : Go.Sort.Holds id W1 g 0 (lay d (i * 3) news) := by rw [hW1']; exact holds_putRow id _ g 0 d _ (holds_ahead id w 1 g 0 d hH) (lay_size _ _ _)
  have hzc : (Builtin.zeroCells z0.cells 1).toList = List.replicate 3 (Value.int .i64 0) := by rw [hz]; kernel_rfl
  have hcl : ∀ ty, (Builtin.clear_ #[22] ty #[.slice (some ⟨g, (i + (n - j)) * 3, none⟩) (n - (i + (n - j))) (cap - (i + (n - j)))]).run Tryz.prog W1 = .ok (.tuple #[]) (W1.setCells g (0 + (n - 1) * 3) (List.replicate 3 (Value.int .i64 0))) := fun ty => by
    have e1 : i + (n - j) = n - 1 := by omega
    have e2 : n - (n - 1) = 1 := by omega
    rw [e1, e2, ← hzc, Nat.zero_add]
    have hl3 : (Builtin.zeroCells z0.cells 1).toList.length = 3 := by rw [hzc]; rfl
    refine run_clear_k W1 _ _ ty z0 t22 v23 (fun v hv => ?_) g ((n - 1) * 3) 1 _ (by omega) (fun j hj => ?_) (fun j hj => ?_)
    · rw [hz] at hv; simp at hv; subst hv; rfl
    · have := (hH1 ((n - 1) * 3 + j) (by rw [lay_size]; omega)).1
      rw [Nat.zero_add] at this
      rw [this]; rfl
    · have := (hH1 ((n - 1) * 3 + j) (by rw [lay_size]; omega)).2
      rw [Nat.zero_add] at this
      exact this
  have X : Aside (W1 = putRow id (Sort.ahead w 1) g 0 (lay d (i * 3) news)) := hW1'
  have Y : Aside (news = d.toList.drop (j * 3)) := hnews
  have Z : Aside (news.length = (n - j) * 3 ∧ d.size = n * 3 ∧ j = i + 1) := ⟨hlen, hd, hje⟩
  have hW : Hid (W1 = w.drew.setCells g (0 + i * 3) news) := hW1
  have hic : i ≤ cap := by omega
  have hjc : j ≤ cap := by omega
  have mixed : Tryz.prog.follows .mixedOrders = true := by kernel_rfl
  clear hW1 hW1' hH1 hH hget hnews hlen hW0 hzc hd h1 hz v23 hje
  go_enter Tryz.func125, Tryz.ntmps125
  go_wp2_with fail
  go_region_law_o (refine step_append_room rfl (.tmp 22) (.tmp 25) 22 rfl 48 i0 3 t22 hi0 hz1 g 0 i cap (by simp [Act.eval, Act.put]) A (n - j) (cap - j) news (by simp [Act.eval, Act.put]) s1.out hsrc.out s2.out (by omega) s3.out ?_; rw [← hW.out])
  go_wp2
  go_ret
  obtain ⟨z1, z2, z3⟩ := Z.out
  refine ⟨by rw [show n - 1 = i + (n - j) by omega]; rfl, 1, ?_⟩
  have e0 : [Value.int IntKind.i64 0, Value.int IntKind.i64 0, Value.int IntKind.i64 0] = (List.replicate 3 (Value.int .i64 0)).map id := rfl
  have e1 := delete_arr d (i * 3) (j * 3) (Value.int .i64 0) (by omega) (by omega)
  rw [show j * 3 - i * 3 = 3 by omega, show i * 3 + (d.size - j * 3) = (n - 1) * 3 by omega] at e1
  rw [← e1, ← Y.out, e0, X.out]
  have := putRow_setCells id (Sort.ahead w 1) g 0 (List.replicate 3 (Value.int .i64 0)) (lay d (i * 3) news) ((n - 1) * 3) (by rw [lay_size]; simp; omega)
  rw [Nat.zero_add] at this
  exact this
/-! ### Rows of structs, cell by cell -/
theorem flatMap_get {α β : Type} {k : Nat} {f : α → List β} (hf : ∀ x, (f x).length = k) (hk : 0 < k) : ∀ (l : List α) (t : Nat), (l.flatMap f)[t]? = (l[t / k]?).bind fun x => (f x)[t % k]?
  | [], t => by simp
  | x :: l, t => by
    rw [List.flatMap_cons]
    by_cases h : t < k
    · rw [List.getElem?_append_left (by rw [hf]; exact h), Nat.div_eq_of_lt h, Nat.mod_eq_of_lt h]; rfl
    · rw [List.getElem?_append_right (by rw [hf]; omega), flatMap_get hf hk l, hf]
      obtain ⟨u, rfl⟩ : ∃ u, t = u + k := ⟨t - k, by omega⟩
      rw [Nat.add_sub_cancel, Nat.add_div_right _ hk, Nat.add_mod_right]
      rfl
theorem flatMap_take {α β : Type} {k : Nat} {f : α → List β} (hf : ∀ x, (f x).length = k) : ∀ (l : List α) (i : Nat), (l.flatMap f).take (i * k) = (l.take i).flatMap f
  | [], i => by simp
  | x :: l, 0 => by simp
  | x :: l, i + 1 => by
    rw [List.flatMap_cons, List.take_succ_cons, List.flatMap_cons, ← flatMap_take hf l i, List.take_append, hf, List.take_of_length_le (by rw [hf, Nat.add_mul]; omega)]
    congr 2
    rw [Nat.add_mul]; omega
theorem flatMap_drop {α β : Type} {k : Nat} {f : α → List β} (hf : ∀ x, (f x).length = k) : ∀ (l : List α) (i : Nat), (l.flatMap f).drop (i * k) = (l.drop i).flatMap f
  | [], i => by simp
  | x :: l, 0 => by simp
  | x :: l, i + 1 => by
    rw [List.flatMap_cons, List.drop_succ_cons, ← flatMap_drop hf l i, List.drop_append, hf, List.drop_eq_nil_of_le (by rw [hf, Nat.add_mul]; omega), List.nil_append]
    congr 1
    rw [Nat.add_mul]; omega
def IH : Ints Half 3 where
  lst x := [x.A, x.B, x.C]
  len _ := rfl
  at_ x j := x.at j
  hat x j hj := by
    match j, hj with
    | 0, _ => rfl
    | 1, _ => rfl
    | 2, _ => rfl
theorem flat_list (l : List Half) : (flatK IH.enc 3 l.toArray).toList = l.flatMap IH.enc := by
  apply List.ext_getElem?
  intro t
  rw [flatMap_get IH.enc_len (by decide)]
  by_cases h : t < l.length * 3
  · have h2 : t / 3 < l.length := Nat.div_lt_of_lt_mul (by rwa [Nat.mul_comm] at h)
    have h3 : t < l.toArray.size * 3 := by simpa using h
    have e1 := IH.flat_get l.toArray h3
    have hs : t < (flatK IH.enc 3 l.toArray).size := by rw [IH.flat_size]; exact h3
    rw [getElem!_pos _ t hs] at e1
    rw [Array.getElem?_toList, Array.getElem?_eq_getElem hs, e1, List.getElem?_eq_getElem h2, toArray_get l h2, gdI h2]
    exact (IH.enc_get _ (Nat.mod_lt t (by decide))).symm
  · rw [List.getElem?_eq_none (by rw [Array.length_toList, IH.flat_size]; simpa using h), List.getElem?_eq_none (by
      have := (Nat.le_div_iff_mul_le (k := 3) (x := l.length) (y := t) (by decide)).2 (by omega)
      exact this)]
    rfl
theorem flat_del (l : List Half) (i j : Nat) : ((flatK IH.enc 3 l.toArray).toList.take (i * 3) ++ (flatK IH.enc 3 l.toArray).toList.drop (j * 3) ++ List.replicate 3 (Value.int .i64 0)).toArray = flatK IH.enc 3 (l.take i ++ l.drop j ++ [(⟨0, 0, 0⟩ : Half)]).toArray := by
  have e : (flatK IH.enc 3 (l.take i ++ l.drop j ++ [(⟨0, 0, 0⟩ : Half)]).toArray) = ((flatK IH.enc 3 (l.take i ++ l.drop j ++ [(⟨0, 0, 0⟩ : Half)]).toArray).toList).toArray := by simp
  rw [e, flat_list, flat_list, flatMap_take IH.enc_len, flatMap_drop IH.enc_len, List.flatMap_append, List.flatMap_append]
  rfl
theorem t_delH (l : List Half) (i : Nat) (hi : i < l.length) (hn : l.length ≤ 1000000) : SpecT PP 125 [] [.d (.int .i64 i), .d (.int .i64 ((i + 1 : Nat) : Int))] 48 3 l.length (rowH l) (rmH l i).length (rowH (rmH l i)) := by
  have hent : Ent PP 125 := ⟨_, Tryz.func125, by kernel_rfl, by kernel_rfl⟩
  refine ⟨hent, fun w ok vs us v xs hok h1 h2 hr => ?_⟩
  cases h1
  cases h2 with
  | cons h2 h3 =>
  cases h3 with
  | cons h3 h4 =>
  cases h4
  rename_i a b
  have ha : a = .int .i64 i := h2
  have hb : b = .int .i64 ((i + 1 : Nat) : Int) := h3
  subst ha; subst hb
  have hl2 : (rmH l i).length = l.length - 1 := by unfold rmH; simp; omega
  rcases hr.own.2 with ⟨h4, h5⟩ | ⟨q, cap, cur, rfl, _, hh, hnc, hcap, hcs, htk⟩
  · omega
  · have hH := IH.holds (cap := cap) hh htk hr.rep
    obtain ⟨ti, ht1, ht2, ht3⟩ : ∃ ti, TTab 48 = some ti ∧ ti.size = 3 ∧ ti.zero = [Value.int .i64 0, Value.int .i64 0, Value.int .i64 0] := ⟨_, rfl, rfl, rfl⟩
    obtain ⟨b1, b2, b3, b4, ht4⟩ : ∃ b1 b2 b3 b4, TTab 22 = some ⟨b1, b2, b3, b4, .slice 48⟩ := ⟨_, _, _, _, rfl⟩
    obtain ⟨i0, ds, z, hi0, _, hz0, hz1, _, _, hzc, _⟩ := ti_facts (hT 48 _ ht1)
    have hund := slice_parts hT ht4
    rw [ht2] at hz1
    rw [ht3] at hzc
    have hrun := calls_delH i0 z hund hi0 hz1 (fun w => by simp [zeroValue, typeInfo, hi0, hz0]) (by have := congrArg List.toArray hzc; simpa using this) q cap i (i + 1) l.length rfl (flatK IH.enc 3 l.toArray) w (by rw [IH.flat_size]; simp) hH
      (fun v hv => by
        rw [flat_list] at hv
        obtain ⟨x, _, hx⟩ := List.mem_flatMap.1 hv
        exact IH.enc_one x v hx) hnc (by unfold maxLen at hcap; omega) hi
    refine hrun.mono ?_
    rintro en w' ⟨rfl, m, rfl⟩
    have hlen : (l.take i ++ l.drop (i + 1) ++ [(⟨0, 0, 0⟩ : Half)]).length = l.length := by simp; omega
    obtain ⟨p1, xs', p2, p3, p4⟩ := IH.put m (l.take i ++ l.drop (i + 1) ++ [(⟨0, 0, 0⟩ : Half)]) #[] hh (by rw [hlen]; exact hnc) hcap hcs
    rw [hlen] at p2 p4
    rw [flat_del]
    rw [show putRow id (Sort.ahead w m) q 0 (flatK IH.enc 3 (l.take i ++ l.drop (i + 1) ++ [(⟨0, 0, 0⟩ : Half)]).toArray) = putRowK IH.enc 3 (Sort.ahead w m) q 0 (l.take i ++ l.drop (i + 1) ++ [(⟨0, 0, 0⟩ : Half)]).toArray from rfl, putK_eq IH]
    rw [hl2]
    rcases p2.2 with ⟨h6, h7⟩ | ⟨q', cap', cur', h6, h7, h8, h9, h10, h11, h12⟩
    · cases h6
    · obtain ⟨rfl, rfl⟩ : q = q' ∧ cap = cap' := by simpa using h6
      refine ⟨_, rfl, p1, fun b hb => .inl hb, xs'.take ((l.length - 1) * 3), ⟨by rw [List.length_take, p2.1]; omega, .inr ⟨q, cap, cur', rfl, h7, h8, by omega, h10, h11, by rw [← h12, List.take_take]; congr 1; omega⟩⟩, fun u hu => p3 u (List.mem_of_mem_take hu), fun m' hm' j' hj' => ?_⟩
      obtain ⟨u, hu, hrep⟩ := p4 m' (by omega) j' hj'
      refine ⟨u, by rw [List.getElem?_take, if_pos (by omega)]; exact hu, ?_⟩
      have : IH.row (l.take i ++ l.drop (i + 1) ++ [(⟨0, 0, 0⟩ : Half)]) m' j' = rowH (rmH l i) m' j' := by
        unfold Ints.row rmH
        show Half.at _ j' = Half.at _ j'
        rw [List.getD_eq_getElem?_getD, List.getD_eq_getElem?_getD, List.getElem?_append_left (by simp; omega)]
      rw [← this]; exact hrep
end Go.Pg
/-
  Contracts: Spare, Thin, of the code and of the specification; the law HalfThins: walk.
-/
set_option linter.all false
set_option maxRecDepth 100000
namespace Go.Pg
open Go.Proofs Go.RowKit

theorem o_cloneH (l : List Half) (hn : l.length ≤ 1000000) : SpecO PP 126 [slH l] 48 3 l.length (rowH l) := by
  refine specO_at Tryz.func126 rfl (by kernel_rfl) rfl ?_
  refine fun b hb => ?_
  refine Split.by (fun h1 => ?_) (fun h1 => ?_)
  · have h0 := hb h1
    refine ⟨rfl, rfl, h0.symm, fun i hi => ?_⟩
    omega
  · refine ⟨⟨.inr rfl, by unfold maxLen; omega, by show (0 + l.length) * 24 ≤ 140737488355328; omega⟩, ?_⟩
    refine ⟨rfl, rfl, Nat.zero_add _, fun i hi j hj => ?_⟩
    exact D.eqv_refl _
theorem s_withoutH (l : List Half) (i : Nat) (hi : i < l.length) (hn : l.length ≤ 1000000) : Spec PP 96 [slH l, N i] [slH (rmH l i)] := by
  refine spec_at Tryz.func96 rfl (by kernel_rfl) rfl ?_
  refine CallSt.own (o_cloneH l hn) rfl rfl (fun m j _ _ => flatH _ m j) ?_
  refine ⟨inI64 (by omega) (by omega), ?_⟩
  refine CallSt.tk rfl (t_delH l i hi hn) ⟨⟨[], .tmp 6, [.tmp 7, .tmp 9], [], rfl, rfl, rfl, rfl, rfl, rfl, rfl⟩⟩ rfl ?_
  exact ⟨⟨_, _, _, _, rfl, D.eqv_refl _⟩, trivial⟩
theorem rmH_len (l : List Half) {i : Nat} (h : i < l.length) : (rmH l i).length = l.length - 1 := by unfold rmH; simp; omega
theorem rmH_mem {l : List Half} {i : Nat} {x : Half} (h : x ∈ rmH l i) : x ∈ l := by
  unfold rmH at h
  rcases List.mem_append.1 h with h | h
  · exact List.mem_of_mem_take h
  · exact List.mem_of_mem_drop h
/-- The specification's rest is the code's. -/
theorem upTo_get {n i : Nat} (h : i < n) : (upTo n).getD i 0 = i := by
  unfold upTo
  simp [List.getD_eq_getElem?_getD, h]
theorem pick_rm (l : List Half) {i : Nat} (hi : i < l.length) : pickL l (rmL (upTo l.length) i) = rmH l i := by
  have hu := upTo_len l.length
  apply List.ext_getElem
  · rw [pickL_len, rmL_len _ (by omega), rmH_len l hi, hu]
  · intro m h1 h2
    rw [pickL_len, rmL_len _ (by omega), hu] at h1
    have e1 : ((rmL (upTo l.length) i)[m]'(by rw [rmL_len _ (by omega), hu]; omega)) = if m < i then (m : Int) else (m : Int) + 1 := by
      have hlt : m < (rmL (upTo l.length) i).length := by rw [rmL_len _ (by omega), hu]; omega
      have : (rmL (upTo l.length) i)[m]? = some (if m < i then (m : Int) else (m : Int) + 1) := by
        unfold rmL
        by_cases hm : m < i
        · rw [List.getElem?_append_left (by simp; omega), List.getElem?_take, if_pos hm, if_pos hm]
          have := upTo_get (show m < l.length by omega)
          rw [List.getD_eq_getElem?_getD, List.getElem?_eq_getElem (by omega)] at this
          rw [List.getElem?_eq_getElem (by omega)]
          simpa using this
        · rw [List.getElem?_append_right (by simp; omega), if_neg hm, List.getElem?_drop]
          have e2 : i + 1 + (m - ((upTo l.length).take i).length) = m + 1 := by simp; omega
          rw [e2]
          have := upTo_get (show m + 1 < l.length by omega)
          rw [List.getD_eq_getElem?_getD, List.getElem?_eq_getElem (by omega)] at this
          rw [List.getElem?_eq_getElem (by omega)]
          simpa using this
      rw [List.getElem?_eq_getElem hlt] at this
      exact Option.some.inj this
    have e3 : (pickL l (rmL (upTo l.length) i))[m]? = some (l.getD (if m < i then (m : Int) else (m : Int) + 1).toNat default) := by
      unfold pickL
      rw [List.getElem?_map, List.getElem?_eq_getElem (by rw [rmL_len _ (by omega), hu]; omega), Option.map_some, e1]
    have e4 : (rmH l i)[m]? = some (l.getD (if m < i then (m : Int) else (m : Int) + 1).toNat default) := by
      unfold rmH
      by_cases hm : m < i
      · rw [List.getElem?_append_left (by simp; omega), List.getElem?_take, if_pos hm, if_pos hm, Int.toNat_natCast, List.getD_eq_getElem?_getD, List.getElem?_eq_getElem (by omega)]; rfl
      · rw [List.getElem?_append_right (by simp; omega), if_neg hm, List.getElem?_drop]
        have e2 : i + 1 + (m - (l.take i).length) = m + 1 := by simp; omega
        have e5 : ((m : Int) + 1).toNat = m + 1 := by omega
        rw [e2, e5, List.getD_eq_getElem?_getD, List.getElem?_eq_getElem (by omega)]; rfl
    have e6 := e3.trans e4.symm
    rw [List.getElem?_eq_getElem (by rw [pickL_len, rmL_len _ (by omega), hu]; omega), List.getElem?_eq_getElem h2] at e6
    exact Option.some.inj e6
/-- Indices for which something holds. -/
@[irreducible] def idx (p : Nat → Bool) (n : Nat) : List Int := ((List.range n).filter p).map fun i : Nat => (i : Int)
theorem idx_zero (p : Nat → Bool) : idx p 0 = [] := by unfold idx; rfl
theorem idx_succ (p : Nat → Bool) (n : Nat) : idx p (n + 1) = idx p n ++ (if p n = true then [(n : Int)] else []) := by
  unfold idx
  rw [List.range_succ, List.filter_append, List.map_append]
  congr 1
  by_cases h : p n = true
  · rw [if_pos h, List.filter_cons_of_pos h]; rfl
  · rw [if_neg h, List.filter_cons_of_neg h]; rfl
theorem idx_len (p : Nat → Bool) (n : Nat) : (idx p n).length ≤ n := by
  unfold idx
  rw [List.length_map]
  exact Nat.le_trans (List.length_filter_le _ _) (by simp)
def spB (l : List Half) (i : Nat) : Bool := decide (cornersL (rmH l i) = cornersL l)
@[irreducible] def spareE (l : List Half) : List Int × Int := if checkL l = 0 then (idx (spB l) l.length, 0) else ([], checkL l)
theorem s_Spare (l : List Half) : Spec PP 42 [slH l] [slI (spareE l).1, N (spareE l).2] := by
  refine spec_at Tryz.func42 rfl (by kernel_rfl) rfl ?_
  refine CallSt.pure (s_Check l) rfl rfl ?_
  refine Split.by (fun h1 => ?_) (fun h1 => ?_)
  · have h1 : checkL l ≠ 0 := by simpa using h1
    have e : spareE l = ([], checkL l) := by unfold spareE; rw [if_neg h1]
    rw [e]
    exact ⟨⟨_, _, _, _, rfl, rfl, .inl rfl⟩, rtI rfl rfl, trivial⟩
  have h1 : checkL l = 0 := by simpa using h1
  obtain ⟨n1, n2, n3⟩ := checkL_ok h1
  have e : spareE l = (idx (spB l) l.length, 0) := by unfold spareE; rw [if_pos h1]
  have c1 := hullC_len l (by omega)
  refine CallSt.ro (s_corners l n3 (by omega)) rfl rfl ?_
  refine LoopOb.of (σ := Nat) (fun i => ([(0, avOf (slH l)), (5, avOf (slC (cornersL l))), (6, .own 6), (16, .d (I l.length)), (17, .d (I i))], [(6, .row 3 1 (idx (spB l) i).length (rowI (idx (spB l) i)))])) (fun i => i ≤ l.length) (fun i => l.length - i) 0
    ⟨rfl, ⟨obR rfl ⟨(by rw [idx_zero]; rfl), .inl rfl⟩, trivial⟩, avR _ rfl, avR _ rfl, avQ rfl, avR _ rfl, avR _ rfl, trivial⟩ (Nat.zero_le _) fun i hi => ?_
  have hl := idx_len (spB l) i
  refine Split.by (fun g1 => ?_) (fun g1 => ?_)
  · have g1 : i < l.length := by have := dT g1; omega
    have hr := rmH_len l g1
    have hc := hullC_len (rmH l i) (by omega)
    refine CallSt.ro (s_withoutH l i g1 (by omega)) rfl rfl ?_
    refine CallSt.ro (s_corners (rmH l i) (fun y hy => n3 y (rmH_mem hy)) (by omega)) rfl rfl ?_
    refine CallSt.pure (s_Equal (cornersL (rmH l i)) (cornersL l) (by omega)) rfl rfl ?_
    refine Split.by (fun g2 => ?_) (fun g2 => ?_)
    · have g2 : spB l i = true := g2
      refine ⟨⟨.inr rfl, by unfold maxLen; omega, by show ((idx (spB l) i).length + 1) * 8 ≤ 140737488355328; omega⟩, ?_⟩
      refine ⟨inI64 (by omega) (by omega), ?_⟩
      refine ⟨i + 1, ⟨rfl, ⟨obR rfl ?_, trivial⟩, avR _ rfl, avR _ rfl, avQ rfl, avR _ rfl, avI rfl rfl, trivial⟩, g1, (show l.length - (i + 1) < l.length - i by omega)⟩
      rw [idx_succ, if_pos g2]
      exact pushI rfl rfl
    · have g2 : spB l i = false := g2
      refine ⟨inI64 (by omega) (by omega), ?_⟩
      refine ⟨i + 1, ⟨rfl, ⟨obR rfl ?_, trivial⟩, avR _ rfl, avR _ rfl, avQ rfl, avR _ rfl, avI rfl rfl, trivial⟩, g1, (show l.length - (i + 1) < l.length - i by omega)⟩
      rw [idx_succ, if_neg (by rw [g2]; decide), List.append_nil]
      exact D.eqv_refl _
  · have g1 : i = l.length := by have := dF g1; omega
    subst g1
    rw [e]
    exact ⟨⟨_, _, _, _, rfl, D.eqv_refl _⟩, rtI rfl rfl, trivial⟩
/-- Without a half-plane that the others imply there is the same polygon. -/
theorem imp_spare {l : List Half} (h1 : checkL l = 0) {i : Nat} (hi : i < l.length) : impR (rmH l i) (l.getD i default) = spB l i := by
  obtain ⟨n1, n2, n3⟩ := checkL_ok h1
  have hr := rmH_len l hi
  have hc := checkL_of (m := rmH l i) h1 (fun x hx => rmH_mem hx) (by omega)
  have e := same_eq hc h1
  unfold spB
  rw [← e]
  have hmem : ∀ x, x ∈ l → x ∈ rmH l i ∨ x = l.getD i default := fun x hx => by
    have : l = l.take i ++ l.getD i default :: l.drop (i + 1) := by
      rw [gdI hi]; simp
    rw [this] at hx
    unfold rmH
    rcases List.mem_append.1 hx with h | h
    · exact .inl (List.mem_append_left _ h)
    · rcases List.mem_cons.1 h with h | h
      · exact .inr h
      · exact .inl (List.mem_append_right _ h)
  have sub : ∀ (m : List Half), checkL m = 0 → ∀ h ∈ m, impR m h = true := fun m hm h hh => by
    obtain ⟨_, _, m3⟩ := checkL_ok hm
    unfold impR
    refine List.all_eq_true.2 fun q hq => ?_
    have := ((crs_iff m3 q).1 hq).fe
    exact (lies_ef h q).2 (this h (List.mem_append_left _ hh))
  rw [Bool.eq_iff_iff]
  unfold sameR
  rw [Bool.and_eq_true, List.all_eq_true, List.all_eq_true]
  constructor
  · intro h
    refine ⟨fun x hx => ?_, fun x hx => sub l h1 x (rmH_mem hx)⟩
    rcases hmem x hx with h2 | h2
    · exact sub _ hc x h2
    · rw [h2]; exact h
  · rintro ⟨h, _⟩
    exact h _ (gd1 hi default)
theorem r_Spare (l : List Half) : Spec PP 43 [slH l] [vInts (spareE l)] := by
  refine specC_at [11] Tryz.func43 rfl (by kernel_rfl) rfl ?_
  refine CallSt.pure (r_Check l) rfl rfl ?_
  refine Split.by (fun h1 => ?_) (fun h1 => ?_)
  · have h1 : checkL l ≠ 0 := by simpa using h1
    have e : spareE l = ([], checkL l) := by unfold spareE; rw [if_neg h1]
    rw [e]
    exact r1C rfl rfl rfl rfl rfl rfl (eqvI (l := []) rfl rfl)
  have h1 : checkL l = 0 := by simpa using h1
  obtain ⟨n1, n2, n3⟩ := checkL_ok h1
  have e : spareE l = (idx (spB l) l.length, 0) := by unfold spareE; rw [if_pos h1]
  have hu := upTo_len l.length
  refine LoopOb.of (σ := Nat) (fun i => ([(0, avOf (slH l)), (2, .box 2 0), (4, .box 4 0), (5, .d (I i))], [(2, .box [.nilsl, .d (I 0)]), (4, .box [.own 40, .d (I 0)]), (40, .row 3 1 (idx (spB l) i).length (rowI (idx (spB l) i)))])) (fun i => i ≤ l.length) (fun i => l.length - i) 0
    ⟨rfl, ⟨obX rfl, ⟨⟨rfl, 3, 1, rowI [], (show some (Ob.row 3 1 (idx (spB l) 0).length (rowI (idx (spB l) 0))) = some (Ob.row 3 1 0 (rowI [])) by rw [idx_zero]; rfl)⟩, D.eqv_refl _, trivial⟩, obZ rfl (by rw [idx_zero]; rfl), trivial⟩, avR _ rfl, avQ rfl, avQ rfl, avR _ rfl, trivial⟩ (Nat.zero_le _) fun i hi => ?_
  have hl := idx_len (spB l) i
  refine Split.by (fun g1 => ?_) (fun g1 => ?_)
  · have g1 : i < l.length := by have := dT g1; omega
    have hr := rmH_len l g1
    have hrl := rmL_len (upTo l.length) (i := i) (by omega)
    have hrm : ∀ j ∈ rmL (upTo l.length) i, 0 ≤ j ∧ j < l.length := fun j hj => upTo_mem (rmL_mem hj)
    refine Exists.intro (List.range 12) (And.intro (by kernel_rfl) (FzOb.no ?_))
    refine CallOb.ro (r_every l (by omega)) rfl rfl ?_
    refine CallOb.ro (r_less (upTo l.length) i (by omega) (by omega)) rfl rfl ?_
    refine CallOb.ro (r_Some l (rmL (upTo l.length) i) hrm (by omega)) rfl rfl ?_
    refine ⟨⟨rfl, by omega, by omega⟩, ?_⟩
    have c := r_implied (rmH l i) (l.getD i default) (fun y hy => n3 y (rmH_mem hy)) (n3 _ (gd1 g1 default)) (by omega)
    rw [← pick_rm l g1] at c
    refine CallOb.pure c rfl rfl ?_
    have ei := imp_spare h1 g1
    unfold impR at ei
    rw [← pick_rm l g1] at ei
    refine Split.by (fun g2 => ?_) (fun g2 => ?_)
    · have g2 : spB l i = true := by rw [← ei]; exact g2
      refine ⟨⟨.inr rfl, by unfold maxLen; omega, by show ((idx (spB l) i).length + 1) * 8 ≤ 140737488355328; omega⟩, ?_⟩
      refine ⟨inI64 (by omega) (by omega), ?_⟩
      refine ⟨i + 1, ⟨rfl, ⟨obX rfl, obX rfl, obR rfl ?_, trivial⟩, avR _ rfl, avQ rfl, avQ rfl, avI rfl rfl, trivial⟩, g1, (show l.length - (i + 1) < l.length - i by omega)⟩
      rw [idx_succ, if_pos g2]
      exact pushI rfl rfl
    · have g2 : spB l i = false := by rw [← ei]; exact g2
      refine ⟨inI64 (by omega) (by omega), ?_⟩
      refine ⟨i + 1, ⟨rfl, ⟨obX rfl, obX rfl, obR rfl ?_, trivial⟩, avR _ rfl, avQ rfl, avQ rfl, avI rfl rfl, trivial⟩, g1, (show l.length - (i + 1) < l.length - i by omega)⟩
      rw [idx_succ, if_neg (by rw [g2]; decide), List.append_nil]
      exact D.eqv_refl _
  · have g1 : i = l.length := by have := dF g1; omega
    subst g1
    rw [e]
    refine CutOb.at [(2, .box 2 0), (4, .box 4 0)] [(2, .box [.nilsl, .d (I 0)]), (4, .box [avOf (slI (idx (spB l) l.length)), .d (I 0)])] ⟨rfl, ⟨obX rfl, ⟨⟨rfl, _, _, _, _, rfl, D.eqv_refl _⟩, D.eqv_refl _, trivial⟩, trivial⟩, avQ rfl, avQ rfl, trivial⟩ ?_
    exact r1C rfl rfl rfl rfl rfl rfl (eqvI (D.eqv_refl _) rfl)
theorem r_Thin (l : List Half) : Spec PP 45 [slH l] [vInts (thinE l)] := by
  refine spec_at Tryz.func45 rfl (by kernel_rfl) rfl ?_
  refine CallSt.pure (r_Check l) rfl rfl ?_
  refine Split.by (fun h1 => ?_) (fun h1 => ?_)
  · have h1 : checkL l ≠ 0 := by simpa using h1
    have e : thinE l = ([], checkL l) := by unfold thinE; rw [if_neg h1]
    rw [e]
    exact r1C rfl rfl rfl rfl rfl rfl (eqvI (l := []) rfl rfl)
  have h1 : checkL l = 0 := by simpa using h1
  obtain ⟨n1, n2, n3⟩ := checkL_ok h1
  have e : thinE l = (thinL l, 0) := by unfold thinE; rw [if_pos h1]
  have hu := upTo_len l.length
  refine CallSt.ro (r_every l (by omega)) rfl rfl ?_
  refine ⟨inI64 (by omega) (by omega), ?_⟩
  refine LoopOb.of (σ := List Int × Nat) (fun x => ([(0, avOf (slH l)), (2, .box 2 0), (4, avOf (slI x.1)), (5, .d (I ((x.2 : Int) - 1)))], [(2, .box [.nilsl, .d (I 0)])])) (fun x => x.2 ≤ x.1.length ∧ x.1.length ≤ 40 ∧ (∀ j ∈ x.1, 0 ≤ j ∧ j < l.length) ∧ thinRun l (cornersL l) x.2 x.1 = thinL l) (fun x => x.2) (upTo l.length, l.length)
    ⟨rfl, ⟨obX rfl, trivial⟩, avR _ rfl, avQ rfl, avR _ rfl, avI rfl (by rw [hu]), trivial⟩ ⟨(show l.length ≤ (upTo l.length).length by omega), (show (upTo l.length).length ≤ 40 by omega), fun j hj => upTo_mem hj, by unfold thinL; rfl⟩ fun x hx => ?_
  obtain ⟨x1, x2, x3, x4⟩ := hx
  refine Split.by (fun g1 => ?_) (fun g1 => ?_)
  · have g1 : 0 < x.2 := by have := dT g1; omega
    obtain ⟨k, hk⟩ : ∃ k, x.2 = k + 1 := ⟨x.2 - 1, by omega⟩
    have ek : (x.2 : Int) - 1 = ((k : Nat) : Int) := by omega
    have hrl := rmL_len x.1 (i := k) (by omega)
    have hrm : ∀ j ∈ rmL x.1 k, 0 ≤ j ∧ j < l.length := fun j hj => x3 j (rmL_mem hj)
    have hpl := pickL_len l (rmL x.1 k)
    have hck := checkL_of (m := pickL l (rmL x.1 k)) h1 (pickL_mem hrm) (by omega)
    obtain ⟨p1, p2, p3⟩ := checkL_ok hck
    refine CallSt.fzE [] (r_less x.1 k (by omega) (by omega)) rfl ⟨D.eqv_refl _, ⟨rfl, ek⟩, trivial⟩ rfl ?_
    refine CallSt.ro (r_Some l (rmL x.1 k) hrm (by omega)) rfl rfl ?_
    have c := r_same (pickL l (rmL x.1 k)) l p3 n3 (by omega) (by omega)
    rw [same_eq hck h1] at c
    refine CallSt.pure c rfl rfl ?_
    refine Split.by (fun g2 => ?_) (fun g2 => ?_)
    · have g2 : cornersL (pickL l (rmL x.1 k)) = cornersL l := dT g2
      refine ⟨inI64 (by omega) (by omega), ?_⟩
      refine ⟨(rmL x.1 k, k), ⟨rfl, ⟨obX rfl, trivial⟩, avR _ rfl, avQ rfl, avR _ rfl, avI rfl (by show (x.2 : Int) - 1 - 1 = (k : Int) - 1; omega), trivial⟩, ⟨(show k ≤ (rmL x.1 k).length by omega), (show (rmL x.1 k).length ≤ 40 by omega), hrm, ?_⟩, (show k < x.2 by omega)⟩
      show thinRun l (cornersL l) k (rmL x.1 k) = thinL l
      rw [← x4, hk, thinRun, if_pos g2]
    · have g2 : cornersL (pickL l (rmL x.1 k)) ≠ cornersL l := dF g2
      refine ⟨inI64 (by omega) (by omega), ?_⟩
      refine ⟨(x.1, k), ⟨rfl, ⟨obX rfl, trivial⟩, avR _ rfl, avQ rfl, avR _ rfl, avI rfl (by show (x.2 : Int) - 1 - 1 = (k : Int) - 1; omega), trivial⟩, ⟨(show k ≤ x.1.length by omega), x2, x3, ?_⟩, (show k < x.2 by omega)⟩
      show thinRun l (cornersL l) k x.1 = thinL l
      rw [← x4, hk, thinRun, if_neg g2]
  · have g1 : x.2 = 0 := by have := dF g1; omega
    rw [g1] at x4
    rw [e, ← x4]
    exact r1C rfl rfl rfl rfl rfl rfl (eqvI (D.eqv_refl _) rfl)
theorem thinRun_len (l : List Half) (w : List Corner) : ∀ (n : Nat) (left : List Int), (thinRun l w n left).length ≤ left.length
  | 0, _ => Nat.le_refl _
  | n + 1, left => by
    simp only [thinRun]
    split
    · have h := thinRun_len l w n (rmL left n)
      have : (rmL left n).length ≤ left.length := by unfold rmL; simp; omega
      omega
    · exact thinRun_len l w n left
theorem thinE_len (l : List Half) : (thinE l).1.length ≤ l.length := by
  unfold thinE
  split
  · show (thinL l).length ≤ _
    unfold thinL
    have := thinRun_len l (cornersL l) l.length (upTo l.length)
    rw [upTo_len] at this
    exact this
  · simp
theorem spareE_len (l : List Half) : (spareE l).1.length ≤ l.length := by
  unfold spareE
  split
  · exact idx_len _ _
  · simp
theorem s_HalfThins (l : List Half) : Spec PP 8 [slH l] [B true] := by
  refine spec_at Tryz.func8 rfl (by kernel_rfl) rfl ?_
  refine CallSt.pure (s_few l) rfl rfl ?_
  refine Split.by (fun h1 => ?_) (fun h1 => ?_)
  · refine CallSt.pure s_sanity rfl rfl ?_
    exact r1B rfl rfl
  have h1 : fewL l.length = true := by simpa using h1
  have hl := fewL_len h1
  have hc := spareE_len l
  have ht := thinE_len l
  refine CallSt.ro (s_Spare l) rfl rfl ?_
  refine CallSt.ro (r_Spare l) rfl rfl ?_
  refine CallSt.ro (s_Thin l) rfl rfl ?_
  refine CallSt.ro (r_Thin l) rfl rfl ?_
  refine CallSt.pure s_sanity rfl rfl ?_
  refine Split.tt ?_
  refine Split.tt ?_
  refine Split.yes (ieq _) ?_
  refine CallSt.pure (r_SameInts (spareE l).1 (spareE l).1 (by omega)) rfl rfl ?_
  refine Split.tt ?_
  refine Split.yes (decide_eq_true rfl) ?_
  refine Split.tt ?_
  refine Split.yes (ieq _) ?_
  refine CallSt.pure (r_SameInts (thinE l).1 (thinE l).1 (by omega)) rfl rfl ?_
  refine Split.tt ?_
  exact r1B rfl (decide_eq_true rfl)
end Go.Pg
