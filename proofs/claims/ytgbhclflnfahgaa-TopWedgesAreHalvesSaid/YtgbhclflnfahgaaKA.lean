/-
  Contracts: Implied, Same, Thin; slices.ContainsFunc, slices.Equal on corners.
-/
import Derived.Test.YtgbhclflnfahgaaK7
import Derived.Test.YtgbhclflnfahgaaK8
import Derived.Test.YtgbhclflnfahgaaK6
set_option linter.all false
set_option maxRecDepth 100000
namespace Go.Pg
open Go.Proofs Go.RowKit

theorem isIdx_any {p : Corner → Bool} {l : List Corner} {r : Int} (h : IsIdx p l r) : decide (0 ≤ r) = l.any p := by
  rcases h with ⟨rfl, h1⟩ | ⟨i, rfl, h1, h2, h3⟩
  · have : l.any p = false := by
      rw [List.any_eq_false]
      intro q hq
      obtain ⟨i, hi, rfl⟩ := List.getElem_of_mem hq
      have := h1 i hi
      rw [gdI hi] at this
      simp [this]
    rw [this]; rfl
  · have : l.any p = true := List.any_eq_true.2 ⟨_, gd1 h1 default, h2⟩
    rw [this]
    exact decide_eq_true (by omega)
@[irreducible] def impliedE (l : List Half) (h : Half) : Bool × Int := if checkL l = 0 then if fit h = true then (!(cornersL l).any fun q => !lies h q, 0) else (false, 1) else (false, checkL l)
theorem hullC_len (l : List Half) (hn : l.length ≤ 60) : (cornersL l).length ≤ 20000 := by
  have h1 := ptsV_len l (pairsL (allL l))
  have h2 := pairsL_len (allL l)
  have h3 := allL_len l
  have h4 : (allL l).length * (allL l).length ≤ 64 * 64 := Nat.mul_le_mul (by omega) (by omega)
  have h5 := compL_len (sortedL l)
  have h6 : (sortedL l).length = (ptsV l (pairsL (allL l))).length := by unfold sortedL; rw [List.length_map, sortV_len]
  have h7 := hullL_len (compL (sortedL l))
  unfold cornersL
  omega
/-! ### slices.Equal -/
/-! ### Same -/
@[irreducible] def sameE (l m : List Half) : Bool × Int := if checkL l = 0 then if checkL m = 0 then (decide (cornersL l = cornersL m), 0) else (false, checkL m) else (false, checkL l)
/-! ### Thin -/
def thinRun (l : List Half) (whole : List Corner) : Nat → List Int → List Int
  | 0, left => left
  | k + 1, left => if cornersL (pickL l (rmL left k)) = whole then thinRun l whole k (rmL left k) else thinRun l whole k left
@[irreducible] def thinL (l : List Half) : List Int := thinRun l (cornersL l) l.length (upTo l.length)
@[irreducible] def thinE (l : List Half) : List Int × Int := if checkL l = 0 then (thinL l, 0) else ([], checkL l)
end Go.Pg
/-
  Thin and Core: the polygon stays, and nothing more can be left out. Plain lists.
-/
set_option linter.all false
namespace Go.Pg
open Go.Proofs Go.RowKit

/-- A point of a system's polygon. -/
def Pt (l : List Half) (q : Corner) : Prop := 0 < q.Den ∧ Fe (hsL l) q
theorem hsL_mono {l m : List Half} (h : ∀ x ∈ l, x ∈ m) : ∀ x ∈ hsL l, x ∈ hsL m := fun x hx => by
  rcases List.mem_append.1 hx with hx | hx
  · exact List.mem_append_left _ (h x hx)
  · exact List.mem_append_right _ hx
theorem pt_mono {l m : List Half} (h : ∀ x ∈ l, x ∈ m) {q : Corner} (hq : Pt m q) : Pt l q := ⟨hq.1, fe_mono (hsL_mono h) hq.2⟩
theorem cor_pt {l m : List Half} (h1 : checkL l = 0) (h2 : checkL m = 0) : cornersL l = cornersL m ↔ ∀ q, Pt l q ↔ Pt m q := by
  obtain ⟨_, _, hl⟩ := checkL_ok h1
  obtain ⟨_, _, hm⟩ := checkL_ok h2
  rw [cor_eq hl hm, vt_same (okS_of h1) (okS_of h2)]
  constructor
  · intro h q
    exact ⟨fun ⟨a, b⟩ => ⟨a, (h q a).1 b⟩, fun ⟨a, b⟩ => ⟨a, (h q a).2 b⟩⟩
  · intro h q hD
    exact ⟨fun b => ((h q).1 ⟨hD, b⟩).2, fun b => ((h q).2 ⟨hD, b⟩).2⟩
theorem cert_pt {l : List Half} (h1 : checkL l = 0) : Cert (hsL l) ↔ ∀ q, ¬ Pt l q := by
  constructor
  · exact fun c q hq => cert_no c hq.1 hq.2
  · intro h
    rcases lp (okS_of h1) (f := ⟨0, 0⟩) ⟨by decide, by decide⟩ with c | ⟨g, _, k, _, D, hV⟩
    · exact c
    · exact (h _ ⟨by have := (okC_of hV.va).d; omega, hV.fe⟩).elim
theorem nil_pt {l : List Half} (h1 : checkL l = 0) : cornersL l = [] ↔ ∀ q, ¬ Pt l q := by
  obtain ⟨_, _, hl⟩ := checkL_ok h1
  rw [cor_nil_iff hl, ← cert_pt h1]
  constructor
  · intro h
    rcases lp (okS_of h1) (f := ⟨0, 0⟩) ⟨by decide, by decide⟩ with c | ⟨g, _, k, _, D, hV⟩
    · exact c
    · exact (h ⟨_, hV⟩).elim
  · rintro c ⟨q, hV⟩
    exact cert_no c (by have := (okC_of hV.va).d; omega) hV.fe
theorem ref_nil {l : List Half} (h1 : checkL l = 0) : refL l ≠ [] ↔ cornersL l = [] := by rw [ref_iff, cert_pt h1, nil_pt h1]
theorem checkL_of {l m : List Half} (h : checkL l = 0) (hm : ∀ x ∈ m, x ∈ l) (hn : m.length ≤ 40) : checkL m = 0 := by
  obtain ⟨n1, n2, n3⟩ := checkL_ok h
  unfold checkL
  rw [if_neg (by omega), if_pos (List.all_eq_true.2 fun x hx => n2 x (hm x hx))]
/-! ### Lists without one of their elements -/
theorem rm_get (l : List Int) (i j : Nat) : (rmL l i)[j]? = if j < i then l[j]? else l[j + 1]? := by
  have e : rmL l i = l.eraseIdx i := by unfold rmL; rw [List.eraseIdx_eq_take_drop_succ]
  rw [e, List.getElem?_eraseIdx]
theorem rm_mem {l : List Int} {i : Nat} {x : Int} : x ∈ rmL l i ↔ ∃ j, j ≠ i ∧ l[j]? = some x := by
  rw [List.mem_iff_getElem?]
  constructor
  · rintro ⟨j, hj⟩
    rw [rm_get] at hj
    split at hj
    · exact ⟨j, by omega, hj⟩
    · exact ⟨j + 1, by omega, hj⟩
  · rintro ⟨j, hne, hj⟩
    rcases Nat.lt_or_gt_of_ne hne with h | h
    · exact ⟨j, by rw [rm_get, if_pos h, hj]⟩
    · exact ⟨j - 1, by rw [rm_get, if_neg (by omega), show j - 1 + 1 = j by omega, hj]⟩
theorem rm_up {l : List Int} {k m : Nat} (h : k ≤ m) {x : Int} (hx : x ∈ rmL (rmL l k) m) : x ∈ rmL l (m + 1) := by
  obtain ⟨j, hne, hj⟩ := rm_mem.1 hx
  rw [rm_get] at hj
  split at hj
  · exact rm_mem.2 ⟨j, by omega, hj⟩
  · exact rm_mem.2 ⟨j + 1, by omega, hj⟩
theorem rm_dn {l : List Int} {k m : Nat} (h : m < k) {x : Int} (hx : x ∈ rmL (rmL l k) m) : x ∈ rmL l m := by
  obtain ⟨j, hne, hj⟩ := rm_mem.1 hx
  rw [rm_get] at hj
  split at hj
  · exact rm_mem.2 ⟨j, by omega, hj⟩
  · exact rm_mem.2 ⟨j + 1, by omega, hj⟩
theorem pick_mono (l : List Half) {js ks : List Int} (h : ∀ j ∈ js, j ∈ ks) : ∀ x ∈ pickL l js, x ∈ pickL l ks := fun x hx => by
  unfold pickL at hx ⊢
  obtain ⟨j, hj, rfl⟩ := List.mem_map.1 hx
  exact List.mem_map.2 ⟨j, h j hj, rfl⟩
theorem pick_all (l : List Half) : pickL l (upTo l.length) = l := by
  unfold pickL upTo
  rw [List.map_map]
  refine List.ext_getElem (by simp) fun i h1 h2 => ?_
  simp only [List.getElem_map, List.getElem_range, Function.comp]
  show l.getD (i : Int).toNat default = _
  rw [Int.toNat_natCast, gdI h2]
/-- Indices of a system. -/
structure Js (l : List Half) (js : List Int) : Prop where
  len : js.length ≤ 40
  mem : ∀ j ∈ js, 0 ≤ j ∧ j < l.length
theorem Js.rm {l : List Half} {js : List Int} (h : Js l js) (i : Nat) : Js l (rmL js i) :=
  ⟨by have := h.len; unfold rmL; simp; omega, fun j hj => h.mem j (rmL_mem hj)⟩
theorem Js.ck {l : List Half} {js : List Int} (h : Js l js) (h1 : checkL l = 0) : checkL (pickL l js) = 0 := checkL_of h1 (pickL_mem h.mem) (by rw [pickL_len]; exact h.len)
theorem Js.all {l : List Half} (h1 : checkL l = 0) : Js l (upTo l.length) := ⟨by rw [upTo_len]; exact (checkL_ok h1).1, fun j hj => upTo_mem hj⟩
theorem sand {l a b : List Half} (h1 : checkL l = 0) (ha : checkL a = 0) (hb : checkL b = 0) (hab : ∀ x ∈ a, x ∈ b) (hbl : ∀ x ∈ b, x ∈ l) (e : cornersL a = cornersL l) : cornersL b = cornersL l :=
  (cor_pt hb h1).2 fun q => ⟨fun h => ((cor_pt ha h1).1 e q).1 (pt_mono hab h), fun h => pt_mono hbl h⟩
theorem thin_inv {l : List Half} (h1 : checkL l = 0) : ∀ (n : Nat) (left : List Int), n ≤ left.length → Js l left → cornersL (pickL l left) = cornersL l → (∀ m, n ≤ m → m < left.length → cornersL (pickL l (rmL left m)) ≠ cornersL l) →
    Js l (thinRun l (cornersL l) n left) ∧ cornersL (pickL l (thinRun l (cornersL l) n left)) = cornersL l ∧ ∀ m, m < (thinRun l (cornersL l) n left).length → cornersL (pickL l (rmL (thinRun l (cornersL l) n left) m)) ≠ cornersL l
  | 0, left, _, hj, e, hm => ⟨hj, e, fun m => hm m (Nat.zero_le _)⟩
  | n + 1, left, hn, hj, e, hm => by
    have hl := rmL_len left (i := n) (by omega)
    simp only [thinRun]
    by_cases h : cornersL (pickL l (rmL left n)) = cornersL l
    · rw [if_pos h]
      refine thin_inv h1 n (rmL left n) (by omega) (hj.rm n) h fun m m1 m2 e2 => ?_
      refine hm (m + 1) (by omega) (by omega) ?_
      exact sand h1 (((hj.rm n).rm m).ck h1) ((hj.rm (m + 1)).ck h1) (pick_mono l fun j => rm_up m1) (pickL_mem (hj.rm (m + 1)).mem) e2
    · rw [if_neg h]
      refine thin_inv h1 n left (by omega) hj e fun m m1 m2 => ?_
      rcases Nat.lt_or_ge n m with h2 | h2
      · exact hm m h2 m2
      · obtain rfl : m = n := by omega
        exact h
theorem thin_is {l : List Half} (h1 : checkL l = 0) : Js l (thinL l) ∧ cornersL (pickL l (thinL l)) = cornersL l ∧ ∀ m, m < (thinL l).length → cornersL (pickL l (rmL (thinL l) m)) ≠ cornersL l := by
  unfold thinL
  have hu := upTo_len l.length
  exact thin_inv h1 l.length (upTo l.length) (by omega) (Js.all h1) (by rw [pick_all]) fun m m1 m2 => by omega
theorem core_inv {l : List Half} (h1 : checkL l = 0) : ∀ (n : Nat) (left : List Int) (i : Nat), left.length - i = n → Js l left → cornersL (pickL l left) = [] → (∀ m, m < i → cornersL (pickL l (rmL left m)) ≠ []) →
    Js l (coreRun l n left i) ∧ cornersL (pickL l (coreRun l n left i)) = [] ∧ ∀ m, m < (coreRun l n left i).length → cornersL (pickL l (rmL (coreRun l n left i) m)) ≠ []
  | 0, left, i, hn, hj, e, hm => ⟨hj, e, fun m m1 => hm m (by have : m < left.length := m1; omega)⟩
  | n + 1, left, i, hn, hj, e, hm => by
    have hl := rmL_len left (i := i) (by omega)
    simp only [coreRun]
    by_cases h : cornersL (pickL l (rmL left i)) = []
    · rw [if_pos h]
      refine core_inv h1 n (rmL left i) i (by omega) (hj.rm i) h fun m m1 e2 => ?_
      refine hm m m1 ((nil_pt ((hj.rm m).ck h1)).2 fun q hq => ?_)
      exact (nil_pt (((hj.rm i).rm m).ck h1)).1 e2 q (pt_mono (pick_mono l fun j => rm_dn m1) hq)
    · rw [if_neg h]
      refine core_inv h1 n left (i + 1) (by omega) hj e fun m m1 => ?_
      rcases Nat.lt_or_ge m i with h2 | h2
      · exact hm m h2
      · obtain rfl : m = i := by omega
        exact h
theorem core_is {l : List Half} (h1 : checkL l = 0) (h0 : cornersL l = []) : Js l (coreL l) ∧ cornersL (pickL l (coreL l)) = [] ∧ ∀ m, m < (coreL l).length → cornersL (pickL l (rmL (coreL l) m)) ≠ [] := by
  unfold coreL
  have hu := upTo_len l.length
  exact core_inv h1 l.length (upTo l.length) 0 (by omega) (Js.all h1) (by rw [pick_all]; exact h0) fun m m1 => by omega
/-- A half-plane of a pick is still there without some other place. -/
theorem still (l : List Half) (js : List Int) {g : Half} (hg : g ∈ hsL (pickL l js)) : ∃ a, ∀ m, m ≠ a → g ∈ hsL (pickL l (rmL js m)) := by
  rcases List.mem_append.1 hg with h | h
  · unfold pickL at h
    obtain ⟨j, hj, rfl⟩ := List.mem_map.1 h
    obtain ⟨a, ha⟩ := List.mem_iff_getElem?.1 hj
    refine ⟨a, fun m hm => List.mem_append_left _ ?_⟩
    unfold pickL
    exact List.mem_map.2 ⟨j, rm_mem.2 ⟨a, fun e => hm e.symm, ha⟩, rfl⟩
  · exact ⟨0, fun m _ => List.mem_append_right _ h⟩
theorem pick3 (a b c : Nat) : ∃ m, m < 4 ∧ m ≠ a ∧ m ≠ b ∧ m ≠ c := by
  by_cases h0 : 0 ≠ a ∧ 0 ≠ b ∧ 0 ≠ c
  · exact ⟨0, by omega, h0⟩
  by_cases h1 : 1 ≠ a ∧ 1 ≠ b ∧ 1 ≠ c
  · exact ⟨1, by omega, h1⟩
  by_cases h2 : 2 ≠ a ∧ 2 ≠ b ∧ 2 ≠ c
  · exact ⟨2, by omega, h2⟩
  exact ⟨3, by omega, by omega, by omega, by omega⟩
theorem core_three {l : List Half} (h1 : checkL l = 0) (h0 : cornersL l = []) : (coreL l).length ≤ 3 := by
  obtain ⟨hj, e, hm⟩ := core_is h1 h0
  rcases Nat.lt_or_ge 3 (coreL l).length with h | h
  · exfalso
    have c : Cert (hsL (pickL l (coreL l))) := (cert_pt (hj.ck h1)).2 ((nil_pt (hj.ck h1)).1 e)
    have bad : ∀ m, m < 4 → ¬ Cert (hsL (pickL l (rmL (coreL l) m))) := fun m hm4 c => hm m (by omega) ((nil_pt ((hj.rm m).ck h1)).2 ((cert_pt ((hj.rm m).ck h1)).1 c))
    rcases c with ⟨g, hg, k, hk, c⟩ | ⟨g, hg, k, hk, j, hj', c⟩
    · obtain ⟨a, ha⟩ := still l _ hg
      obtain ⟨b, hb⟩ := still l _ hk
      obtain ⟨m, m1, m2, m3, _⟩ := pick3 a b b
      exact bad m m1 (.inl ⟨g, ha m m2, k, hb m m3, c⟩)
    · obtain ⟨a, ha⟩ := still l _ hg
      obtain ⟨b, hb⟩ := still l _ hk
      obtain ⟨d, hd⟩ := still l _ hj'
      obtain ⟨m, m1, m2, m3, m4⟩ := pick3 a b d
      exact bad m m1 (.inr ⟨g, ha m m2, k, hb m m3, j, hd m m4, c⟩)
  · exact h
end Go.Pg
/-
  What refuted finds: at most three uses of different half-planes, the sums of whose normals are 0, and whose sum of C is below 0. Plain lists.
-/
set_option linter.all false
namespace Go.Pg
open Go.Proofs Go.RowKit

def plusH (a : Half) (t : Int) (h : Half) : Half := ⟨a.A + t * h.A, a.B + t * h.B, a.C + t * h.C⟩
theorem ef_plus (a : Half) (t : Int) (h : Half) (q : Corner) : ef (plusH a t h) q = ef a q + t * ef h q := by unfold plusH ef; grind
/-- The half-plane with a number. -/
def useH (l : List Half) (n : Int) : Half := if n < 0 then sidesL.getD (-1 - n).toNat default else l.getD n.toNat default
def sumU (l : List Half) (U : List Use) : Half := U.foldl (fun a u => plusH a u.T (useH l u.H)) ⟨0, 0, 0⟩
theorem allL_use {l : List Half} {x : Num} (hx : x ∈ allL l) : x.h = useH l x.n ∧ -4 ≤ x.n ∧ x.n < l.length := by
  unfold allL at hx
  obtain ⟨i, hi, rfl⟩ := List.mem_map.1 hx
  have hi := List.mem_range.1 hi
  unfold allAt
  by_cases h : i < l.length
  · rw [if_pos h]
    refine ⟨?_, (by show -4 ≤ (i : Int); omega), (by show (i : Int) < _; omega)⟩
    show l.getD i default = useH l (i : Int)
    unfold useH
    rw [if_neg (by omega), Int.toNat_natCast]
  · rw [if_neg h]
    refine ⟨?_, (by show -4 ≤ -1 - ((i : Int) - l.length); omega), (by show -1 - ((i : Int) - l.length) < _; omega)⟩
    show sidesL.getD (i - l.length) default = useH l (-1 - ((i : Int) - l.length))
    unfold useH
    rw [if_pos (by omega)]
    congr 1; omega
/-- Uses that prove that a system is empty. -/
structure Prf (l : List Half) (U : List Use) : Prop where
  len : U.length ≤ 3
  ne : U ≠ []
  mem : ∀ u ∈ U, (-4 ≤ u.H ∧ u.H < l.length) ∧ 0 < u.T ∧ u.T ≤ 2000000
  dis : (U.map fun u => u.H).Nodup
  A : (sumU l U).A = 0
  B : (sumU l U).B = 0
  C : (sumU l U).C < 0
theorem det_bd2 {g h : Half} (hg : okH g) (hh : okH h) : -2000000 ≤ det g h ∧ det g h ≤ 2000000 := by
  have b1 := mulB hg.a hh.b
  have b2 := mulB hh.a hg.b
  rw [det_def]; omega
theorem nrm_bd {g : Half} (hg : okH g) : nrm g ≤ 1000 := by
  have := hg.a; have := hg.b
  unfold nrm; omega
theorem cert2_zero {g h : Half} (c : Cert2 g h) : (nrm h * g.A + nrm g * h.A = 0 ∧ nrm h * g.B + nrm g * h.B = 0) ∧ 0 < nrm g ∧ 0 < nrm h := by
  obtain ⟨c1, c2, c3⟩ := c
  rw [det_def] at c1
  have hgz : g.A ≠ 0 ∨ g.B ≠ 0 := by
    refine Classical.not_not.1 fun hn => ?_
    have e1 : g.A = 0 := by omega
    have e2 : g.B = 0 := by omega
    rw [e1, e2] at c2
    simp at c2
  have hhz : h.A ≠ 0 ∨ h.B ≠ 0 := by
    refine Classical.not_not.1 fun hn => ?_
    have e1 : h.A = 0 := by omega
    have e2 : h.B = 0 := by omega
    rw [e1, e2] at c2
    simp at c2
  have hp := sq_pos hgz
  have kA : (g.A * g.A + g.B * g.B) * h.A = -(-(g.A * h.A + g.B * h.B) * g.A) := by grind
  have kB : (g.A * g.A + g.B * g.B) * h.B = -(-(g.A * h.A + g.B * h.B) * g.B) := by grind
  have hn := nrm_scale (h := g) (j := h) (b := -(g.A * h.A + g.B * h.B)) (d := g.A * g.A + g.B * g.B) (by omega) hp kA kB
  have zA : (g.A * g.A + g.B * g.B) * (nrm h * g.A + nrm g * h.A) = 0 := by grind
  have zB : (g.A * g.A + g.B * g.B) * (nrm h * g.B + nrm g * h.B) = 0 := by grind
  refine ⟨⟨?_, ?_⟩, (by unfold nrm; omega), (by unfold nrm; omega)⟩
  · rcases Int.mul_eq_zero.1 zA with e | e
    · omega
    · exact e
  · rcases Int.mul_eq_zero.1 zB with e | e
    · omega
    · exact e
theorem num_inj {l : List Half} {x y : Num} (hx : x ∈ allL l) (hy : y ∈ allL l) (h : x.h ≠ y.h) : x.n ≠ y.n := fun e => h (by rw [(allL_use hx).1, (allL_use hy).1, e])
theorem ref_prf {l : List Half} (hl : ∀ x ∈ l, okH x) (h : refL l ≠ []) : Prf l (refL l) := by
  have hok := allL_ok hl
  obtain ⟨x, y, hx, hy, hc⟩ := ref_found h
  have ux := allL_use hx
  have uy := allL_use hy
  rcases hc with hc | ⟨z, hz, hc⟩
  · have c : Cert2 x.h y.h := (two_iff x y).1 (by rw [hc]; exact fun e => by cases e)
    obtain ⟨⟨zA, zB⟩, p1, p2⟩ := cert2_zero c
    have b1 := nrm_bd (hok x hx)
    have b2 := nrm_bd (hok y hy)
    have hne := num_inj hx hy (cert2_ne c)
    have e : refL l = [⟨x.n, nrm y.h⟩, ⟨y.n, nrm x.h⟩] := by
      unfold two at hc
      split at hc
      · rename_i h1
        have ho := h1.1
        unfold scS scT at hc
        rw [if_pos ho, if_pos ho, most_nrm, most_nrm] at hc
        exact (Option.some.inj hc).symm
      · cases hc
    rw [e]
    have es : sumU l [⟨x.n, nrm y.h⟩, ⟨y.n, nrm x.h⟩] = ⟨nrm y.h * x.h.A + nrm x.h * y.h.A, nrm y.h * x.h.B + nrm x.h * y.h.B, nrm y.h * x.h.C + nrm x.h * y.h.C⟩ := by
      simp only [sumU, List.foldl, plusH, ← ux.1, ← uy.1, Int.zero_add]
    refine ⟨by simp, by simp, fun u hu => ?_, by simpa using hne, by rw [es]; exact zA, by rw [es]; exact zB, by rw [es]; exact c.2.2⟩
    simp only [List.mem_cons, List.not_mem_nil, or_false] at hu
    rcases hu with rfl | rfl
    · exact ⟨ux.2, p2, (by show nrm y.h ≤ 2000000; omega)⟩
    · exact ⟨uy.2, p1, (by show nrm x.h ≤ 2000000; omega)⟩
  · have uz := allL_use hz
    have c : Tri x.h y.h z.h := (three_iff x y z).1 (by rw [hc]; exact fun e => by cases e)
    have d1 := det_bd2 (hok y hy) (hok z hz)
    have d2 := det_bd2 (hok z hz) (hok x hx)
    have d3 := det_bd2 (hok x hx) (hok y hy)
    have hpos : (0 < triA x.h y.h z.h ∧ 0 < triB x.h y.h z.h ∧ 0 < triC x.h y.h z.h) ∧ triA x.h y.h z.h * x.h.C + triB x.h y.h z.h * y.h.C + triC x.h y.h z.h * z.h.C < 0 := by
      unfold three at hc
      split at hc
      · rename_i h1; exact h1
      · cases hc
    have e : refL l = [⟨x.n, triA x.h y.h z.h⟩, ⟨y.n, triB x.h y.h z.h⟩, ⟨z.n, triC x.h y.h z.h⟩] := by
      unfold three at hc
      rw [if_pos hpos] at hc
      exact (Option.some.inj hc).symm
    have hdet : det x.h y.h ≠ 0 ∧ det y.h z.h ≠ 0 ∧ det z.h x.h ≠ 0 := by
      rcases c with ⟨c1, c2, c3, _⟩ | ⟨c1, c2, c3, _⟩
      · omega
      · rw [det_swap] at c1 c2 c3; omega
    have n1 : x.n ≠ y.n := num_inj hx hy fun e => hdet.1 (by rw [e, det_self])
    have n2 : y.n ≠ z.n := num_inj hy hz fun e => hdet.2.1 (by rw [e, det_self])
    have n3 : z.n ≠ x.n := num_inj hz hx fun e => hdet.2.2 (by rw [e, det_self])
    have bd : (triA x.h y.h z.h ≤ 2000000 ∧ triB x.h y.h z.h ≤ 2000000 ∧ triC x.h y.h z.h ≤ 2000000) ∧
        triA x.h y.h z.h * x.h.A + triB x.h y.h z.h * y.h.A + triC x.h y.h z.h * z.h.A = 0 ∧ triA x.h y.h z.h * x.h.B + triB x.h y.h z.h * y.h.B + triC x.h y.h z.h * z.h.B = 0 := by
      unfold triA triB triC flip
      split
      · refine ⟨⟨by omega, by omega, by omega⟩, ?_, ?_⟩ <;> · simp only [det_def]; grind
      · refine ⟨⟨by omega, by omega, by omega⟩, ?_, ?_⟩ <;> · simp only [det_def]; grind
    rw [e]
    have es : sumU l [⟨x.n, triA x.h y.h z.h⟩, ⟨y.n, triB x.h y.h z.h⟩, ⟨z.n, triC x.h y.h z.h⟩] = ⟨triA x.h y.h z.h * x.h.A + triB x.h y.h z.h * y.h.A + triC x.h y.h z.h * z.h.A, triA x.h y.h z.h * x.h.B + triB x.h y.h z.h * y.h.B + triC x.h y.h z.h * z.h.B, triA x.h y.h z.h * x.h.C + triB x.h y.h z.h * y.h.C + triC x.h y.h z.h * z.h.C⟩ := by
      simp only [sumU, List.foldl, plusH, ← ux.1, ← uy.1, ← uz.1, Int.zero_add]
    refine ⟨by simp, by simp, fun u hu => ?_, ?_, by rw [es]; exact bd.2.1, by rw [es]; exact bd.2.2, by rw [es]; exact hpos.2⟩
    · simp only [List.mem_cons, List.not_mem_nil, or_false] at hu
      rcases hu with rfl | rfl | rfl
      · exact ⟨ux.2, hpos.1.1, bd.1.1⟩
      · exact ⟨uy.2, hpos.1.2.1, bd.1.2.1⟩
      · exact ⟨uz.2, hpos.1.2.2, bd.1.2.2⟩
    · simp only [List.map_cons, List.map_nil, List.nodup_cons, List.mem_cons, List.not_mem_nil, or_false, not_or, not_false_eq_true, List.nodup_nil, and_true]
      exact ⟨⟨n1, fun e => n3 e.symm⟩, n2⟩
end Go.Pg
/-
  The greatest value of a form: Best finds it. Plain.
-/
set_option linter.all false
namespace Go.Pg
open Go.Proofs Go.RowKit

/-- Best finds something wherever there are corners and the form is right. -/
theorem best_val {l : List Half} {f : Form} (h1 : checkL l = 0) (h0 : cornersL l ≠ []) (hf : slope f.X f.Y = true) : ∃ b, bestE l f = (b, 0) ∧ b.V = value f (bestAt f (cornersL l)) := by
  unfold bestE
  rw [if_pos h1, if_pos hf, if_neg h0]
  split
  · exact ⟨_, rfl, rfl⟩
  · split
    · exact ⟨_, rfl, rfl⟩
    · exact ⟨_, rfl, rfl⟩
theorem bestAt_mem {l : List Corner} (f : Form) (h0 : l ≠ []) : bestAt f l ∈ l := by
  unfold bestAt
  exact bestTo_mem f l (List.length_pos_iff.2 h0) l.length (Nat.le_refl _)
theorem best_none {l : List Half} {f : Form} (h1 : checkL l = 0) (hf : slope f.X f.Y = false) : bestE l f = (noBound, 1) := by
  unfold bestE
  rw [if_pos h1, if_neg (by rw [hf]; decide)]
def fv (f : Form) (p : Corner) : Int := f.X * p.X + f.Y * p.Y
theorem value_spec {f : Form} {p : Corner} (hf : slope f.X f.Y = true) (hp : valid p = true) : fraction (value f p) = true ∧ ∃ g : Int, 0 < g ∧ fv f p = g * (value f p).Num ∧ p.Den = g * (value f p).Den := by
  have oF := okF_of hf
  have oC := okC_of hp
  have b1 := mulB oF.x oC.x
  have b2 := mulB oF.y oC.y
  have d := oC.d
  have e : value f p = ⟨(fv f p).tdiv (Nat.gcd (fv f p).natAbs p.Den.natAbs), p.Den.tdiv (Nat.gcd (fv f p).natAbs p.Den.natAbs)⟩ := by
    unfold value fv
    simp only [gcdL, List.foldl_cons, List.foldl_nil, Nat.gcd_zero_left]
  have nb : -2199023255552 ≤ fv f p ∧ fv f p ≤ 2199023255552 := by unfold fv; omega
  have hg : 0 < Nat.gcd (fv f p).natAbs p.Den.natAbs := Nat.gcd_pos_of_pos_right _ (by omega)
  rw [e]
  generalize fv f p = n at *
  generalize hG : Nat.gcd n.natAbs p.Den.natAbs = G at *
  obtain ⟨a, ha⟩ : (G : Int) ∣ n := Int.ofNat_dvd_left.2 (by rw [← hG]; exact Nat.gcd_dvd_left _ _)
  obtain ⟨b, hb⟩ : (G : Int) ∣ p.Den := Int.ofNat_dvd_left.2 (by rw [← hG]; exact Nat.gcd_dvd_right _ _)
  have gpos : (0 : Int) < G := by omega
  have e1 : n.tdiv G = a := by rw [ha]; exact Int.mul_tdiv_cancel_left _ (by omega)
  have e2 : p.Den.tdiv G = b := by rw [hb]; exact Int.mul_tdiv_cancel_left _ (by omega)
  have hbpos : 0 < b := by
    have : 0 < (G : Int) * b := by omega
    exact Int.pos_of_mul_pos_right this (by omega) |> fun h => h
  have hle : b ≤ (G : Int) * b := by
    have := Int.mul_le_mul_of_nonneg_right (show (1 : Int) ≤ G by omega) (show 0 ≤ b by omega)
    omega
  have hna : a.natAbs ≤ n.natAbs := by
    rw [ha, Int.natAbs_mul, Int.natAbs_natCast]
    exact Nat.le_mul_of_pos_left _ hg
  have hone : Nat.gcd a.natAbs b.natAbs = 1 := by
    have : G * Nat.gcd a.natAbs b.natAbs = G := by
      rw [← Nat.gcd_mul_left]
      have q1 : G * a.natAbs = n.natAbs := by rw [ha, Int.natAbs_mul, Int.natAbs_natCast]
      have q2 : G * b.natAbs = p.Den.natAbs := by rw [hb, Int.natAbs_mul, Int.natAbs_natCast]
      rw [q1, q2, hG]
    exact Nat.eq_of_mul_eq_mul_left hg (by omega)
  refine ⟨?_, G, gpos, by rw [e1]; exact ha, by rw [e2]; exact hb⟩
  unfold fraction
  rw [e1, e2]
  simp only [Bool.and_eq_true, within_spec, beq_iff_eq, gcdL, List.foldl_cons, List.foldl_nil, Nat.gcd_zero_left, hone]
  exact ⟨⟨⟨by omega, by omega⟩, by omega, by omega⟩, rfl⟩
/-- The one's value is at most the other one's. -/
def vle (f : Form) (p q : Corner) : Prop := fv f p * q.Den ≤ fv f q * p.Den
theorem vle_refl (f : Form) (p : Corner) : vle f p p := Int.le_refl _
theorem vle_trans {f : Form} {p q r : Corner} (hp : 0 < p.Den) (hq : 0 < q.Den) (hr : 0 < r.Den) (h1 : vle f p q) (h2 : vle f q r) : vle f p r := by
  unfold vle at *
  have a1 := Int.mul_le_mul_of_nonneg_right h1 (Int.le_of_lt hr)
  have a2 := Int.mul_le_mul_of_nonneg_right h2 (Int.le_of_lt hp)
  have e1 : fv f q * p.Den * r.Den = fv f q * r.Den * p.Den := by grind
  have e2 : fv f p * q.Den * r.Den = q.Den * (fv f p * r.Den) := by grind
  have e3 : fv f r * q.Den * p.Den = q.Den * (fv f r * p.Den) := by grind
  have : q.Den * (fv f p * r.Den) ≤ q.Den * (fv f r * p.Den) := by omega
  exact Int.le_of_mul_le_mul_left this hq
theorem less_vle {f : Form} {p q : Corner} (hf : slope f.X f.Y = true) (hp : valid p = true) (hq : valid q = true) : ¬ less (value f p) (value f q) < 0 ↔ vle f q p := by
  obtain ⟨f1, g1, p1, n1, d1⟩ := value_spec hf hp
  obtain ⟨f2, g2, p2, n2, d2⟩ := value_spec hf hq
  unfold less
  rw [if_pos ⟨f1, f2⟩]
  unfold vle
  rw [n1, n2, d1, d2]
  have e1 : g2 * (value f q).Num * (g1 * (value f p).Den) = g1 * g2 * ((value f q).Num * (value f p).Den) := by grind
  have e2 : g1 * (value f p).Num * (g2 * (value f q).Den) = g1 * g2 * ((value f p).Num * (value f q).Den) := by grind
  rw [e1, e2]
  have gp := Int.mul_pos p1 p2
  unfold ord
  constructor
  · intro h
    refine Int.mul_le_mul_of_nonneg_left ?_ (Int.le_of_lt gp)
    refine Classical.byContradiction fun hh => h ?_
    rw [if_pos (by omega)]; decide
  · intro h
    have := Int.le_of_mul_le_mul_left h gp
    rw [if_neg (by omega)]
    split <;> decide
theorem bestTo_max {f : Form} {l : List Corner} (hf : slope f.X f.Y = true) (hl : ∀ q ∈ l, valid q = true) (h0 : 0 < l.length) : ∀ i, i ≤ l.length → ∀ j, j < i ∨ j = 0 → vle f (l.getD j default) (bestTo f l i)
  | 0, _, j, hj => by
    obtain rfl : j = 0 := by omega
    rw [bestTo_zero]; exact vle_refl f _
  | i + 1, hi, j, hj => by
    have vi := hl _ (gd1 (show i < l.length by omega) default)
    have vb := hl _ (bestTo_mem f l h0 i (by omega))
    have den := fun (q : Corner) (h : valid q = true) => (okC_of h).d
    have vj : valid (l.getD j default) = true := hl _ (gd1 (by omega) default)
    rw [bestTo_succ f l (by omega)]
    unfold stepB
    by_cases hc : less (value f (bestTo f l i)) (value f (l.getD i default)) < 0
    · rw [if_pos hc]
      have hle : vle f (bestTo f l i) (l.getD i default) := by
        unfold vle
        have : ¬ vle f (l.getD i default) (bestTo f l i) := fun h => ((less_vle hf vb vi).2 h) hc
        unfold vle at this
        omega
      rcases Nat.lt_or_ge j i with h | h
      · exact vle_trans (by have := den _ vj; omega) (by have := den _ vb; omega) (by have := den _ vi; omega) (bestTo_max hf hl h0 i (by omega) j (.inl h)) hle
      · by_cases hj0 : j = 0
        · exact vle_trans (by have := den _ vj; omega) (by have := den _ vb; omega) (by have := den _ vi; omega) (bestTo_max hf hl h0 i (by omega) j (.inr hj0)) hle
        · obtain rfl : j = i := by omega
          exact vle_refl f _
    · rw [if_neg hc]
      rcases Nat.lt_or_ge j i with h | h
      · exact bestTo_max hf hl h0 i (by omega) j (.inl h)
      · by_cases hj0 : j = 0
        · exact bestTo_max hf hl h0 i (by omega) j (.inr hj0)
        · obtain rfl : j = i := by omega
          exact (less_vle hf vb vi).1 hc
theorem bestAt_max {f : Form} {l : List Corner} (hf : slope f.X f.Y = true) (hl : ∀ q ∈ l, valid q = true) {q : Corner} (hq : q ∈ l) : vle f q (bestAt f l) := by
  obtain ⟨j, hj, rfl⟩ := List.getElem_of_mem hq
  have := bestTo_max hf hl (by omega) l.length (Nat.le_refl _) j (.inl hj)
  unfold bestAt
  rwa [gdI hj] at this
/-- No point of the polygon has a greater value. -/
theorem best_all {l : List Half} {f : Form} (h1 : checkL l = 0) (hf : slope f.X f.Y = true) {q : Corner} (hq : Pt l q) : vle f q (bestAt f (cornersL l)) := by
  obtain ⟨_, _, n3⟩ := checkL_ok h1
  obtain ⟨p, hV, _, hmax⟩ := vt_max (okS_of h1) (f := f) (okF_of hf).to4 hq.1 hq.2
  have hp := (cor_mem n3 p).2 hV
  have hb := bestAt_mem f (l := cornersL l) (fun e => by rw [e] at hp; cases hp)
  have vb := ((cor_mem n3 _).1 hb).va
  have d1 := (okC_of hV.va).d
  have d2 := (okC_of vb).d
  refine vle_trans hq.1 (by omega) (by omega) (hmax q hq.1 hq.2) (bestAt_max hf (cornersL_ok n3) hp)
end Go.Pg
