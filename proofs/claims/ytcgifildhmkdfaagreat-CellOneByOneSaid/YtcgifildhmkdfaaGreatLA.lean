/- Texts joined and shortened by program. -/
import Derived.Test.YtcgifildhmkdfaaGreatL8
set_option linter.all false
set_option maxRecDepth 100000
namespace Go.Pg
open Go.Proofs Go.RowKit
def smlB (s : Svc) : Bool := decide ((s.c.M.G.length : Int) ≤ 200) && decide (s.c.M.W ≤ 12) && decide (s.c.M.H ≤ 12) && (decide ((s.c.T.length : Int) ≤ 4) || (decide ((12 : Int) < s.c.T.length) && decide ((s.c.T.length : Int) ≤ 20))) && decide ((s.c.Z.length : Int) ≤ 4) && decide ((s.k.C.length : Int) ≤ 4) && decide ((s.k.K.length : Int) ≤ 6)
set_option maxHeartbeats 1000000 in
theorem w_small (s : Svc) : Spec PP 12 [s.v] [B (smlB s)] := by
  refine spec_at Tryz.func12 rfl (by kernel_rfl) rfl ?_
  refine Split.by (fun h1 => ?_) (fun h1 => ?_)
  rotate_left
  · have h1 : decide ((s.c.M.G.length : Int) ≤ 200) = false := h1
    repeat first | refine Split.tt ?_ | refine Split.ff ?_
    exact r1B rfl (by unfold smlB; rw [h1]; simp)
  have h1 : decide ((s.c.M.G.length : Int) ≤ 200) = true := h1
  repeat first | refine Split.tt ?_ | refine Split.ff ?_
  refine Split.by (fun h2 => ?_) (fun h2 => ?_)
  rotate_left
  · have h2 : decide (s.c.M.W ≤ 12) = false := h2
    repeat first | refine Split.tt ?_ | refine Split.ff ?_
    exact r1B rfl (by unfold smlB; rw [h2]; simp)
  have h2 : decide (s.c.M.W ≤ 12) = true := h2
  repeat first | refine Split.tt ?_ | refine Split.ff ?_
  refine Split.by (fun h3 => ?_) (fun h3 => ?_)
  rotate_left
  · have h3 : decide (s.c.M.H ≤ 12) = false := h3
    repeat first | refine Split.tt ?_ | refine Split.ff ?_
    exact r1B rfl (by unfold smlB; rw [h3]; simp)
  have h3 : decide (s.c.M.H ≤ 12) = true := h3
  repeat first | refine Split.tt ?_ | refine Split.ff ?_
  have last : ∀ (t : Bool), t = (decide ((s.c.T.length : Int) ≤ 4) || (decide ((12 : Int) < s.c.T.length) && decide ((s.c.T.length : Int) ≤ 20))) → smlB s = (t && decide ((s.c.Z.length : Int) ≤ 4) && decide ((s.k.C.length : Int) ≤ 4) && decide ((s.k.K.length : Int) ≤ 6)) := fun t ht => by
    unfold smlB; rw [h1, h2, h3, ← ht]; rfl
  refine Split.by (fun h4 => ?_) (fun h4 => ?_)
  · have h4 : decide ((s.c.T.length : Int) ≤ 4) = true := h4
    have last := last true (by rw [h4]; rfl)
    repeat first | refine Split.tt ?_ | refine Split.ff ?_
    refine Split.by (fun h5 => ?_) (fun h5 => ?_)
    rotate_left
    · have h5 : decide ((s.c.Z.length : Int) ≤ 4) = false := h5
      repeat first | refine Split.tt ?_ | refine Split.ff ?_
      exact r1B rfl (by rw [last, h5]; rfl)
    have h5 : decide ((s.c.Z.length : Int) ≤ 4) = true := h5
    repeat first | refine Split.tt ?_ | refine Split.ff ?_
    refine Split.by (fun h6 => ?_) (fun h6 => ?_)
    rotate_left
    · have h6 : decide ((s.k.C.length : Int) ≤ 4) = false := h6
      repeat first | refine Split.tt ?_ | refine Split.ff ?_
      exact r1B rfl (by rw [last, h5, h6]; rfl)
    have h6 : decide ((s.k.C.length : Int) ≤ 4) = true := h6
    repeat first | refine Split.tt ?_ | refine Split.ff ?_
    exact r1B rfl (by rw [last, h5, h6]; rfl)
  · have h4 : decide ((s.c.T.length : Int) ≤ 4) = false := h4
    repeat first | refine Split.tt ?_ | refine Split.ff ?_
    refine Split.by (fun h7 => ?_) (fun h7 => ?_)
    · have h7 : decide ((12 : Int) < s.c.T.length) = true := h7
      repeat first | refine Split.tt ?_ | refine Split.ff ?_
      refine Split.by (fun h8 => ?_) (fun h8 => ?_)
      rotate_left
      · have h8 : decide ((s.c.T.length : Int) ≤ 20) = false := h8
        have last := last false (by rw [h4, h7, h8]; rfl)
        repeat first | refine Split.tt ?_ | refine Split.ff ?_
        exact r1B rfl (by rw [last]; rfl)
      have h8 : decide ((s.c.T.length : Int) ≤ 20) = true := h8
      have last := last true (by rw [h4, h7, h8]; rfl)
      repeat first | refine Split.tt ?_ | refine Split.ff ?_
      refine Split.by (fun h5 => ?_) (fun h5 => ?_)
      rotate_left
      · have h5 : decide ((s.c.Z.length : Int) ≤ 4) = false := h5
        repeat first | refine Split.tt ?_ | refine Split.ff ?_
        exact r1B rfl (by rw [last, h5]; rfl)
      have h5 : decide ((s.c.Z.length : Int) ≤ 4) = true := h5
      repeat first | refine Split.tt ?_ | refine Split.ff ?_
      refine Split.by (fun h6 => ?_) (fun h6 => ?_)
      rotate_left
      · have h6 : decide ((s.k.C.length : Int) ≤ 4) = false := h6
        repeat first | refine Split.tt ?_ | refine Split.ff ?_
        exact r1B rfl (by rw [last, h5, h6]; rfl)
      have h6 : decide ((s.k.C.length : Int) ≤ 4) = true := h6
      repeat first | refine Split.tt ?_ | refine Split.ff ?_
      exact r1B rfl (by rw [last, h5, h6]; rfl)
    · have h7 : decide ((12 : Int) < s.c.T.length) = false := h7
      have last := last false (by rw [h4, h7]; rfl)
      repeat first | refine Split.tt ?_ | refine Split.ff ?_
      exact r1B rfl (by rw [last]; rfl)
theorem rep_aggE {w : World} {ok : Nat → Prop} : ∀ {xs ys : List D} {vs : List Value}, All2 (Rep w ok) xs vs → eqvs xs ys → All2 (Rep w ok) ys vs
  | [], [], _, h, _ => h
  | _ :: _, _ :: _, _, .cons h r, ⟨e, es⟩ => .cons (Rep.eqv h e) (rep_aggE r es)
abbrev shI (k : Nat) : Sh := .sl k fun j => shSl.getD' (List.replicate k (.int .i64)) j
theorem shI_at {k j : Nat} (h : j < k) : shSl.getD' (List.replicate k (.int .i64)) j = .int .i64 := by
  induction k generalizing j with
  | zero => omega
  | succ k ih =>
    cases j with
    | zero => rfl
    | succ j => exact ih (j := j) (by omega)
theorem fitI {α : Type} [Inhabited α] {k : Nat} {at_ : α → Nat → D} {x : D} (mkα : (Nat → Int) → α) (hk : ∀ g : Nat → Int, ∀ j, j < k → at_ (mkα g) j = I (g j)) (h : Fits (shI k) x) : ∃ l : List α, D.eqv x (.slc k l.length fun i => at_ (l.getD i default)) := by
  obtain ⟨l, _, _, e⟩ := fitsL (at_ := at_) mkα (fun j hj => shI_at hj) hk h
  exact ⟨l, e⟩
abbrev shSvc : List Sh := [.int .i64, .int .i64, shI 1, shI 4, shI 3, shI 8, shI 7]
theorem rep_Svc {w : World} {ok : Nat → Prop} {xs : List D} {v : Value} (hr : Rep1 w ok (.agg xs) v) (h : All2 Fits shSvc xs) : ∃ s : Svc, Rep1 w ok s.v v := by
  obtain ⟨vs, e, hv⟩ := hr
  cases h with | cons h0 h =>
  cases h with | cons h1 h =>
  cases h with | cons h2 h =>
  cases h with | cons h3 h =>
  cases h with | cons h4 h =>
  cases h with | cons h5 h =>
  cases h with | cons h6 h =>
  cases h
  obtain ⟨n0, -, rfl⟩ := h0
  obtain ⟨n1, -, rfl⟩ := h1
  obtain ⟨l2, e2⟩ := fitI (α := Int) (at_ := fun a _ => I a) (fun g => g 0) (fun g j hj => by
    match j, hj with
    | 0, _ => rfl) h2
  obtain ⟨l3, e3⟩ := fitI (α := Twr) (at_ := Twr.at) (fun g => ⟨g 0, ⟨g 1, g 2⟩, g 3⟩) (fun g j hj => by
    match j, hj with
    | 0, _ => rfl
    | 1, _ => rfl
    | 2, _ => rfl
    | 3, _ => rfl) h3
  obtain ⟨l4, e4⟩ := fitI (α := Hz) (at_ := Hz.at) (fun g => ⟨g 0, g 1, g 2⟩) (fun g j hj => by
    match j, hj with
    | 0, _ => rfl
    | 1, _ => rfl
    | 2, _ => rfl) h4
  obtain ⟨l5, e5⟩ := fitI (α := Cir) (at_ := Cir.at) (fun g => ⟨g 0, ⟨g 1, g 2⟩, g 3, g 4, g 5, g 6, g 7⟩) (fun g j hj => by
    match j, hj with
    | 0, _ => rfl
    | 1, _ => rfl
    | 2, _ => rfl
    | 3, _ => rfl
    | 4, _ => rfl
    | 5, _ => rfl
    | 6, _ => rfl
    | 7, _ => rfl) h5
  obtain ⟨l6, e6⟩ := fitI (α := Chk) (at_ := Chk.at) (fun g => ⟨g 0, g 1, g 2, ⟨g 3, g 4⟩, g 5, g 6⟩) (fun g j hj => by
    match j, hj with
    | 0, _ => rfl
    | 1, _ => rfl
    | 2, _ => rfl
    | 3, _ => rfl
    | 4, _ => rfl
    | 5, _ => rfl
    | 6, _ => rfl) h6
  exact ⟨⟨⟨⟨n0, n1, l2⟩, l3, l4⟩, ⟨l5, l6⟩⟩, vs, e, rep_aggE hv ⟨⟨rfl, rfl⟩, ⟨rfl, rfl⟩, e2, e3, e4, e5, e6, trivial⟩⟩
theorem pair_gd {α : Type} [Inhabited α] {r : α → α → Prop} {l : List α} : l.Pairwise r ↔ ∀ i j, i < j → j < l.length → r (l.getD i default) (l.getD j default) := by
  rw [List.pairwise_iff_getElem]
  constructor
  · intro h i j hij hj
    have := h i j (by omega) hj hij
    rw [List.getD_eq_getElem?_getD, List.getD_eq_getElem?_getD, List.getElem?_eq_getElem (by omega), List.getElem?_eq_getElem hj]
    exact this
  · intro h i j hi hj hij
    have := h i j hij hj
    rw [List.getD_eq_getElem?_getD, List.getD_eq_getElem?_getD, List.getElem?_eq_getElem (by omega), List.getElem?_eq_getElem hj] at this
    exact this
theorem ids_has {l : List Rpt} {i : Nat} (hi : i ≤ l.length) (x : Int) : ((l.take i).map Rpt.ID).contains x = true ↔ ∃ j, j < i ∧ (l.getD j default).ID = x := by
  rw [List.contains_iff_mem, List.mem_map]
  constructor
  · rintro ⟨r, hr, rfl⟩
    obtain ⟨j, hj, rfl⟩ := mem_gd default hr
    rw [List.length_take] at hj
    refine ⟨j, by omega, ?_⟩
    rw [List.getD_eq_getElem?_getD, List.getD_eq_getElem?_getD, List.getElem?_take, if_pos (by omega)]
  · rintro ⟨j, hj, rfl⟩
    refine ⟨l.getD j default, ?_, rfl⟩
    have := gd1 (l := l.take i) (i := j) (by rw [List.length_take]; omega) default
    rw [List.getD_eq_getElem?_getD, List.getElem?_take, if_pos hj, ← List.getD_eq_getElem?_getD] at this
    exact this
theorem giv_iff {s : Svc} {b : Brn} {l : List Rpt} : givE s b l = 0 ↔ svcE s = 0 ∧ brnB b = true ∧ l.length ≤ 24 ∧ (∀ r ∈ l, rptE s r = 0) ∧ (l.map Rpt.ID).Nodup := by
  have hnd : (l.map Rpt.ID).Nodup ↔ ∀ i j, i < j → j < l.length → (l.getD i default).ID ≠ (l.getD j default).ID := by
    unfold List.Nodup
    rw [List.pairwise_map]
    exact pair_gd (r := fun a b : Rpt => a.ID ≠ b.ID)
  have hc : ∀ i, i < l.length → (((l.take i).map Rpt.ID).contains (l.getD i default).ID = false ↔ ∀ j, j < i → (l.getD j default).ID ≠ (l.getD i default).ID) := fun i hi => by
    constructor
    · intro h j hj e
      rw [(ids_has (Nat.le_of_lt hi) _).2 ⟨j, hj, e⟩] at h; cases h
    · intro h
      cases hh : ((l.take i).map Rpt.ID).contains (l.getD i default).ID with
      | false => rfl
      | true => obtain ⟨j, hj, e⟩ := (ids_has (Nat.le_of_lt hi) _).1 hh; exact absurd e (h j hj)
  constructor
  · intro h
    have h0 : svcE s = 0 := by
      refine Classical.byContradiction fun g => ?_
      unfold givE at h; rw [if_pos g] at h; exact g h
    unfold givE at h
    rw [if_neg (fun hh => hh h0)] at h
    cases hb : brnB b with
    | false => rw [hb, if_pos rfl] at h; cases h
    | true =>
      rw [hb, if_neg (by decide)] at h
      by_cases hl : 24 < l.length
      · rw [if_pos hl] at h; cases h
      rw [if_neg hl] at h
      have hz := err1_zero h
      have hr : ∀ j, j < l.length → rptE s (l.getD j default) = 0 ∧ ((l.take j).map Rpt.ID).contains (l.getD j default).ID = false := fun j hj => by
        have h1 := hz j hj
        unfold rp1E at h1
        by_cases h2 : rptE s (l.getD j default) = 0
        · rw [if_neg (fun hh => hh h2)] at h1
          refine ⟨h2, ?_⟩
          cases h3 : ((l.take j).map Rpt.ID).contains (l.getD j default).ID with
          | false => rfl
          | true => rw [h3, if_pos rfl] at h1; cases h1
        · rw [if_pos h2] at h1; exact absurd h1 h2
      refine ⟨h0, rfl, by omega, fun r hrr => ?_, hnd.2 fun i j hij hj => (hc j hj).1 (hr j hj).2 i hij⟩
      obtain ⟨j, hj, rfl⟩ := mem_gd default hrr
      exact (hr j hj).1
  · rintro ⟨h0, hb, hl, hr, hn⟩
    have hn := hnd.1 hn
    unfold givE
    rw [if_neg (fun hh => hh h0), if_neg (by rw [hb]; decide), if_neg (by omega)]
    refine err1_ok fun j hj => ?_
    unfold rp1E
    rw [if_neg (fun hh => hh (hr _ (gd1 hj default))), if_neg (by rw [(hc j hj).2 fun i hi => hn i j hi hj]; decide)]
theorem giv_sub {s : Svc} {b : Brn} {l m : List Rpt} (h : givE s b l = 0) (hl : m.length ≤ 24) (hs : ∀ r ∈ m, r ∈ l) (hn : (m.map Rpt.ID).Nodup) : givE s b m = 0 := by
  obtain ⟨h1, h2, h3, h4, h5⟩ := giv_iff.1 h
  exact giv_iff.2 ⟨h1, h2, hl, fun r hr => h4 r (hs r hr), hn⟩
theorem giv_id {s : Svc} {b : Brn} {l : List Rpt} (h : givE s b l = 0) {x y : Rpt} (hx : x ∈ l) (hy : y ∈ l) (e : x.ID = y.ID) : x = y := by
  obtain ⟨-, -, -, -, h5⟩ := giv_iff.1 h
  have h6 := List.pairwise_map.1 h5
  obtain ⟨i, hi, rfl⟩ := mem_gd default hx
  obtain ⟨j, hj, rfl⟩ := mem_gd default hy
  have h7 := (pair_gd (r := fun a b : Rpt => a.ID ≠ b.ID)).1 h6
  rcases Nat.lt_trichotomy i j with h | h | h
  · exact absurd e (h7 i j h hj)
  · rw [h]
  · exact absurd e.symm (h7 j i h hi)
theorem metP_iff {L : List (Nat → Bool)} {n : Nat} : metP L n = true ↔ ∀ P ∈ L, P n = true := by unfold metP; exact List.all_eq_true
theorem alw_iff {s : Svc} {b : Brn} {r : Rpt} {n : Nat} : alwP s b r n = true ↔ n < s.n ∧ allB s b r (plc s.c.M n) = true := by
  show (decide (n < s.n) && allB s b r (plc s.c.M n)) = true ↔ _
  rw [Bool.and_eq_true, decide_eq_true_iff]
@[irreducible] def rmB (L : List (Nat → Bool)) (i : Nat) : List (Nat → Bool) := L.take i ++ L.drop (i + 1)
theorem rmB_get {L : List (Nat → Bool)} {i j : Nat} (hi : i < L.length) : (rmB L i)[j]? = if j < i then L[j]? else L[j + 1]? := by
  unfold rmB
  by_cases h : j < i
  · rw [if_pos h, List.getElem?_append_left (by rw [List.length_take]; omega), List.getElem?_take, if_pos h]
  · rw [if_neg h, List.getElem?_append_right (by rw [List.length_take]; omega), List.getElem?_drop, List.length_take]
    congr 1; omega
theorem rmB_len {L : List (Nat → Bool)} {i : Nat} (hi : i < L.length) : (rmB L i).length = L.length - 1 := by unfold rmB; simp; omega
section
variable {s : Svc} {b : Brn} {l : List Rpt} (h : givE s b l = 0)
include h
structure CrOk (s : Svc) (b : Brn) (l : List Rpt) (J : List Int) : Prop where
  i : ∀ j ∈ J, 0 ≤ j ∧ j < l.length
  n : J.Nodup
  c : agrB s (l.map (alwP s b)) J = false
  m : ∀ k, k < J.length → agrB s (l.map (alwP s b)) (rmL J k) = true
end
structure LkOk (s : Svc) (x : Lk) : Prop where
  r : rptE s (blkO x) = 0
  w : (x.To - x.From) % 3600 + 2 * x.Slack + (zLk s x).Hi - (zLk s x).Lo ≤ 900
section
variable {s : Svc} {x : Lk} (h0 : svcE s = 0) (hx : LkOk s x) {id : Int} (hid : 1 ≤ id ∧ id ≤ 1099511627776)
include h0 hx hid
end
theorem plc_inj {m : Mp} {i j : Nat} (hw : 0 < m.w) (h : plc m i = plc m j) : i = j := by
  unfold plc at h
  have h1 : ((i % m.w : Nat) : Int) = ((j % m.w : Nat) : Int) := congrArg Place.X h
  have h2 : ((i / m.w : Nat) : Int) = ((j / m.w : Nat) : Int) := congrArg Place.Y h
  have a := Nat.div_add_mod i m.w
  have c := Nat.div_add_mod j m.w
  rw [show i / m.w = j / m.w by omega, show i % m.w = j % m.w by omega] at a
  omega
end Go.Pg
