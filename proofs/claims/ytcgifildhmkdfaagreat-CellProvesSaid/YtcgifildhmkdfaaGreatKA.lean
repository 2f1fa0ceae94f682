/- Texts joined and shortened by program. -/
import Derived.Test.YtcgifildhmkdfaaGreatK8
set_option linter.all false
set_option maxRecDepth 100000
namespace Go.Pg
open Go.Proofs Go.RowKit
def smlB (s : Svc) : Bool := decide ((s.c.M.G.length : Int) ≤ 200) && decide (s.c.M.W ≤ 12) && decide (s.c.M.H ≤ 12) && (decide ((s.c.T.length : Int) ≤ 4) || (decide ((12 : Int) < s.c.T.length) && decide ((s.c.T.length : Int) ≤ 20))) && decide ((s.c.Z.length : Int) ≤ 4) && decide ((s.k.C.length : Int) ≤ 4) && decide ((s.k.K.length : Int) ≤ 6)
set_option maxHeartbeats 1000000 in
theorem w_small (s : Svc) : Spec PP 12 [s.v] [B (smlB s)] := by
  refine spec_at Tryz.func12 rfl (by kernel_rfl) rfl ?_
  refine Split.by (fun h1 => ?_) (fun h1 => ?_)
  rotate_left
  · have h1 : decide ((s.c.M.G.length : Int) ≤ 200) = false := h1
    repeat first | refine Split.tt ?_ | refine Split.ff ?_
    exact r1B rfl (by unfold smlB; rw [h1]; simp)
  have h1 : decide ((s.c.M.G.length : Int) ≤ 200) = true := h1
  repeat first | refine Split.tt ?_ | refine Split.ff ?_
  refine Split.by (fun h2 => ?_) (fun h2 => ?_)
  rotate_left
  · have h2 : decide (s.c.M.W ≤ 12) = false := h2
    repeat first | refine Split.tt ?_ | refine Split.ff ?_
    exact r1B rfl (by unfold smlB; rw [h2]; simp)
  have h2 : decide (s.c.M.W ≤ 12) = true := h2
  repeat first | refine Split.tt ?_ | refine Split.ff ?_
  refine Split.by (fun h3 => ?_) (fun h3 => ?_)
  rotate_left
  · have h3 : decide (s.c.M.H ≤ 12) = false := h3
    repeat first | refine Split.tt ?_ | refine Split.ff ?_
    exact r1B rfl (by unfold smlB; rw [h3]; simp)
  have h3 : decide (s.c.M.H ≤ 12) = true := h3
  repeat first | refine Split.tt ?_ | refine Split.ff ?_
  have last : ∀ (t : Bool), t = (decide ((s.c.T.length : Int) ≤ 4) || (decide ((12 : Int) < s.c.T.length) && decide ((s.c.T.length : Int) ≤ 20))) → smlB s = (t && decide ((s.c.Z.length : Int) ≤ 4) && decide ((s.k.C.length : Int) ≤ 4) && decide ((s.k.K.length : Int) ≤ 6)) := fun t ht => by
    unfold smlB; rw [h1, h2, h3, ← ht]; rfl
  refine Split.by (fun h4 => ?_) (fun h4 => ?_)
  · have h4 : decide ((s.c.T.length : Int) ≤ 4) = true := h4
    have last := last true (by rw [h4]; rfl)
    repeat first | refine Split.tt ?_ | refine Split.ff ?_
    refine Split.by (fun h5 => ?_) (fun h5 => ?_)
    rotate_left
    · have h5 : decide ((s.c.Z.length : Int) ≤ 4) = false := h5
      repeat first | refine Split.tt ?_ | refine Split.ff ?_
      exact r1B rfl (by rw [last, h5]; rfl)
    have h5 : decide ((s.c.Z.length : Int) ≤ 4) = true := h5
    repeat first | refine Split.tt ?_ | refine Split.ff ?_
    refine Split.by (fun h6 => ?_) (fun h6 => ?_)
    rotate_left
    · have h6 : decide ((s.k.C.length : Int) ≤ 4) = false := h6
      repeat first | refine Split.tt ?_ | refine Split.ff ?_
      exact r1B rfl (by rw [last, h5, h6]; rfl)
    have h6 : decide ((s.k.C.length : Int) ≤ 4) = true := h6
    repeat first | refine Split.tt ?_ | refine Split.ff ?_
    exact r1B rfl (by rw [last, h5, h6]; rfl)
  · have h4 : decide ((s.c.T.length : Int) ≤ 4) = false := h4
    repeat first | refine Split.tt ?_ | refine Split.ff ?_
    refine Split.by (fun h7 => ?_) (fun h7 => ?_)
    · have h7 : decide ((12 : Int) < s.c.T.length) = true := h7
      repeat first | refine Split.tt ?_ | refine Split.ff ?_
      refine Split.by (fun h8 => ?_) (fun h8 => ?_)
      rotate_left
      · have h8 : decide ((s.c.T.length : Int) ≤ 20) = false := h8
        have last := last false (by rw [h4, h7, h8]; rfl)
        repeat first | refine Split.tt ?_ | refine Split.ff ?_
        exact r1B rfl (by rw [last]; rfl)
      have h8 : decide ((s.c.T.length : Int) ≤ 20) = true := h8
      have last := last true (by rw [h4, h7, h8]; rfl)
      repeat first | refine Split.tt ?_ | refine Split.ff ?_
      refine Split.by (fun h5 => ?_) (fun h5 => ?_)
      rotate_left
      · have h5 : decide ((s.c.Z.length : Int) ≤ 4) = false := h5
        repeat first | refine Split.tt ?_ | refine Split.ff ?_
        exact r1B rfl (by rw [last, h5]; rfl)
      have h5 : decide ((s.c.Z.length : Int) ≤ 4) = true := h5
      repeat first | refine Split.tt ?_ | refine Split.ff ?_
      refine Split.by (fun h6 => ?_) (fun h6 => ?_)
      rotate_left
      · have h6 : decide ((s.k.C.length : Int) ≤ 4) = false := h6
        repeat first | refine Split.tt ?_ | refine Split.ff ?_
        exact r1B rfl (by rw [last, h5, h6]; rfl)
      have h6 : decide ((s.k.C.length : Int) ≤ 4) = true := h6
      repeat first | refine Split.tt ?_ | refine Split.ff ?_
      exact r1B rfl (by rw [last, h5, h6]; rfl)
    · have h7 : decide ((12 : Int) < s.c.T.length) = false := h7
      have last := last false (by rw [h4, h7]; rfl)
      repeat first | refine Split.tt ?_ | refine Split.ff ?_
      exact r1B rfl (by rw [last]; rfl)
theorem rep_aggE {w : World} {ok : Nat → Prop} : ∀ {xs ys : List D} {vs : List Value}, All2 (Rep w ok) xs vs → eqvs xs ys → All2 (Rep w ok) ys vs
  | [], [], _, h, _ => h
  | _ :: _, _ :: _, _, .cons h r, ⟨e, es⟩ => .cons (Rep.eqv h e) (rep_aggE r es)
abbrev shI (k : Nat) : Sh := .sl k fun j => shSl.getD' (List.replicate k (.int .i64)) j
theorem shI_at {k j : Nat} (h : j < k) : shSl.getD' (List.replicate k (.int .i64)) j = .int .i64 := by
  induction k generalizing j with
  | zero => omega
  | succ k ih =>
    cases j with
    | zero => rfl
    | succ j => exact ih (j := j) (by omega)
theorem fitI {α : Type} [Inhabited α] {k : Nat} {at_ : α → Nat → D} {x : D} (mkα : (Nat → Int) → α) (hk : ∀ g : Nat → Int, ∀ j, j < k → at_ (mkα g) j = I (g j)) (h : Fits (shI k) x) : ∃ l : List α, D.eqv x (.slc k l.length fun i => at_ (l.getD i default)) := by
  obtain ⟨l, _, _, e⟩ := fitsL (at_ := at_) mkα (fun j hj => shI_at hj) hk h
  exact ⟨l, e⟩
abbrev shSvc : List Sh := [.int .i64, .int .i64, shI 1, shI 4, shI 3, shI 8, shI 7]
theorem rep_Svc {w : World} {ok : Nat → Prop} {xs : List D} {v : Value} (hr : Rep1 w ok (.agg xs) v) (h : All2 Fits shSvc xs) : ∃ s : Svc, Rep1 w ok s.v v := by
  obtain ⟨vs, e, hv⟩ := hr
  cases h with | cons h0 h =>
  cases h with | cons h1 h =>
  cases h with | cons h2 h =>
  cases h with | cons h3 h =>
  cases h with | cons h4 h =>
  cases h with | cons h5 h =>
  cases h with | cons h6 h =>
  cases h
  obtain ⟨n0, -, rfl⟩ := h0
  obtain ⟨n1, -, rfl⟩ := h1
  obtain ⟨l2, e2⟩ := fitI (α := Int) (at_ := fun a _ => I a) (fun g => g 0) (fun g j hj => by
    match j, hj with
    | 0, _ => rfl) h2
  obtain ⟨l3, e3⟩ := fitI (α := Twr) (at_ := Twr.at) (fun g => ⟨g 0, ⟨g 1, g 2⟩, g 3⟩) (fun g j hj => by
    match j, hj with
    | 0, _ => rfl
    | 1, _ => rfl
    | 2, _ => rfl
    | 3, _ => rfl) h3
  obtain ⟨l4, e4⟩ := fitI (α := Hz) (at_ := Hz.at) (fun g => ⟨g 0, g 1, g 2⟩) (fun g j hj => by
    match j, hj with
    | 0, _ => rfl
    | 1, _ => rfl
    | 2, _ => rfl) h4
  obtain ⟨l5, e5⟩ := fitI (α := Cir) (at_ := Cir.at) (fun g => ⟨g 0, ⟨g 1, g 2⟩, g 3, g 4, g 5, g 6, g 7⟩) (fun g j hj => by
    match j, hj with
    | 0, _ => rfl
    | 1, _ => rfl
    | 2, _ => rfl
    | 3, _ => rfl
    | 4, _ => rfl
    | 5, _ => rfl
    | 6, _ => rfl
    | 7, _ => rfl) h5
  obtain ⟨l6, e6⟩ := fitI (α := Chk) (at_ := Chk.at) (fun g => ⟨g 0, g 1, g 2, ⟨g 3, g 4⟩, g 5, g 6⟩) (fun g j hj => by
    match j, hj with
    | 0, _ => rfl
    | 1, _ => rfl
    | 2, _ => rfl
    | 3, _ => rfl
    | 4, _ => rfl
    | 5, _ => rfl
    | 6, _ => rfl) h6
  exact ⟨⟨⟨⟨n0, n1, l2⟩, l3, l4⟩, ⟨l5, l6⟩⟩, vs, e, rep_aggE hv ⟨⟨rfl, rfl⟩, ⟨rfl, rfl⟩, e2, e3, e4, e5, e6, trivial⟩⟩
theorem drf_comm (x : Cir) (a b : Int) : drf x a b = drf x b a := by
  unfold drf
  rw [show max (a - b) (b - a) = max (b - a) (a - b) by omega]
def cl2 (x : Cir) (a b : Thg) : Bool := decide (drf x a.k.Tick b.k.Tick < gap a b)
def Fine (x : Cir) (l : List Thg) : Prop := (∀ t ∈ l, noneB t = false) ∧ l.Pairwise fun a b => cl2 x a b = false
theorem pair_gd {α : Type} [Inhabited α] {r : α → α → Prop} {l : List α} : l.Pairwise r ↔ ∀ i j, i < j → j < l.length → r (l.getD i default) (l.getD j default) := by
  rw [List.pairwise_iff_getElem]
  constructor
  · intro h i j hij hj
    have := h i j (by omega) hj hij
    rw [List.getD_eq_getElem?_getD, List.getD_eq_getElem?_getD, List.getElem?_eq_getElem (by omega), List.getElem?_eq_getElem hj]
    exact this
  · intro h i j hi hj hij
    have := h i j hij hj
    rw [List.getD_eq_getElem?_getD, List.getD_eq_getElem?_getD, List.getElem?_eq_getElem (by omega), List.getElem?_eq_getElem hj] at this
    exact this
theorem cls_fine (x : Cir) (l : List Thg) : clsL x l = [] ↔ Fine x l := by
  have e1 : clsL x l = [] ↔ ∀ i, i < l.length → clsI x l i = [] := by
    unfold clsL clsU
    rw [List.flatMap_eq_nil_iff]
    exact ⟨fun h i hi => h i (List.mem_range.2 hi), fun h i hi => h i (List.mem_range.1 hi)⟩
  have e2 : ∀ i, i < l.length → (clsI x l i = [] ↔ noneB (l.getD i default) = false ∧ ∀ j, i < j → j < l.length → clB x (l.getD i default) (l.getD j default) = false) := fun i hi => by
    unfold clsI
    cases hn : noneB (l.getD i default) with
    | true => simp
    | false =>
      simp only [Bool.false_eq_true, if_false, true_and]
      unfold clsJ
      rw [List.map_eq_nil_iff, List.filter_eq_nil_iff]
      constructor
      · intro h j hij hj
        have hm : l.getD j default ∈ (l.drop (i + 1)).take (l.length - (i + 1)) := by
          rw [List.take_of_length_le (by rw [List.length_drop]; omega)]
          have := gd1 (l := l.drop (i + 1)) (i := j - (i + 1)) (by rw [List.length_drop]; omega) default
          rw [dropD (by omega), show i + 1 + (j - (i + 1)) = j by omega] at this
          exact this
        have := h _ hm
        simpa using this
      · intro h t ht
        have ht := List.mem_of_mem_take ht
        obtain ⟨j, hj, rfl⟩ := mem_gd default ht
        rw [List.length_drop] at hj
        rw [dropD (by omega), h (i + 1 + j) (by omega) (by omega)]
        decide
  rw [e1]
  unfold Fine
  rw [pair_gd]
  constructor
  · intro h
    refine ⟨fun t ht => ?_, fun i j hij hj => ?_⟩
    · obtain ⟨i, hi, rfl⟩ := mem_gd default ht
      exact ((e2 i hi).1 (h i hi)).1
    · have h1 := ((e2 i (by omega)).1 (h i (by omega))).2 j hij hj
      have h2 := ((e2 j hj).1 (h j hj)).1
      unfold clB at h1
      rw [h2] at h1
      exact h1
  · intro ⟨h1, h2⟩ i hi
    refine (e2 i hi).2 ⟨h1 _ (gd1 hi default), fun j hij hj => ?_⟩
    have := h2 i j hij hj
    unfold clB
    unfold cl2 at this
    rw [this, Bool.and_false]
theorem zer_lo (x : Cir) (t : Int) : ∀ (l : List Thg) (z : ZS) (y : Int), (l.foldl (zStep x t) z).lo ≤ y ↔ z.lo ≤ y ∧ ∀ g ∈ l, g.s.Lo - drf x g.k.Tick t ≤ y
  | [], z, y => by simp
  | g :: r, z, y => by
    rw [List.foldl_cons, zer_lo x t r, List.forall_mem_cons]
    unfold zStep
    dsimp only
    constructor
    · rintro ⟨h1, h2⟩
      split at h1 <;> exact ⟨by omega, by omega, h2⟩
    · rintro ⟨h1, h2, h3⟩
      split <;> exact ⟨by omega, h3⟩
theorem zer_hi (x : Cir) (t : Int) : ∀ (l : List Thg) (z : ZS) (y : Int), y ≤ (l.foldl (zStep x t) z).hi ↔ y ≤ z.hi ∧ ∀ g ∈ l, y ≤ g.s.Hi + drf x g.k.Tick t
  | [], z, y => by simp
  | g :: r, z, y => by
    rw [List.foldl_cons, zer_hi x t r, List.forall_mem_cons]
    unfold zStep
    dsimp only
    constructor
    · rintro ⟨h1, h2⟩
      split at h1 <;> exact ⟨by omega, by omega, h2⟩
    · rintro ⟨h1, h2, h3⟩
      split <;> exact ⟨by omega, h3⟩
theorem ids_has {l : List Rpt} {i : Nat} (hi : i ≤ l.length) (x : Int) : ((l.take i).map Rpt.ID).contains x = true ↔ ∃ j, j < i ∧ (l.getD j default).ID = x := by
  rw [List.contains_iff_mem, List.mem_map]
  constructor
  · rintro ⟨r, hr, rfl⟩
    obtain ⟨j, hj, rfl⟩ := mem_gd default hr
    rw [List.length_take] at hj
    refine ⟨j, by omega, ?_⟩
    rw [List.getD_eq_getElem?_getD, List.getD_eq_getElem?_getD, List.getElem?_take, if_pos (by omega)]
  · rintro ⟨j, hj, rfl⟩
    refine ⟨l.getD j default, ?_, rfl⟩
    have := gd1 (l := l.take i) (i := j) (by rw [List.length_take]; omega) default
    rw [List.getD_eq_getElem?_getD, List.getElem?_take, if_pos hj, ← List.getD_eq_getElem?_getD] at this
    exact this
theorem giv_iff {s : Svc} {b : Brn} {l : List Rpt} : givE s b l = 0 ↔ svcE s = 0 ∧ brnB b = true ∧ l.length ≤ 24 ∧ (∀ r ∈ l, rptE s r = 0) ∧ (l.map Rpt.ID).Nodup := by
  have hnd : (l.map Rpt.ID).Nodup ↔ ∀ i j, i < j → j < l.length → (l.getD i default).ID ≠ (l.getD j default).ID := by
    unfold List.Nodup
    rw [List.pairwise_map]
    exact pair_gd (r := fun a b : Rpt => a.ID ≠ b.ID)
  have hc : ∀ i, i < l.length → (((l.take i).map Rpt.ID).contains (l.getD i default).ID = false ↔ ∀ j, j < i → (l.getD j default).ID ≠ (l.getD i default).ID) := fun i hi => by
    constructor
    · intro h j hj e
      rw [(ids_has (Nat.le_of_lt hi) _).2 ⟨j, hj, e⟩] at h; cases h
    · intro h
      cases hh : ((l.take i).map Rpt.ID).contains (l.getD i default).ID with
      | false => rfl
      | true => obtain ⟨j, hj, e⟩ := (ids_has (Nat.le_of_lt hi) _).1 hh; exact absurd e (h j hj)
  constructor
  · intro h
    have h0 : svcE s = 0 := by
      refine Classical.byContradiction fun g => ?_
      unfold givE at h; rw [if_pos g] at h; exact g h
    unfold givE at h
    rw [if_neg (fun hh => hh h0)] at h
    cases hb : brnB b with
    | false => rw [hb, if_pos rfl] at h; cases h
    | true =>
      rw [hb, if_neg (by decide)] at h
      by_cases hl : 24 < l.length
      · rw [if_pos hl] at h; cases h
      rw [if_neg hl] at h
      have hz := err1_zero h
      have hr : ∀ j, j < l.length → rptE s (l.getD j default) = 0 ∧ ((l.take j).map Rpt.ID).contains (l.getD j default).ID = false := fun j hj => by
        have h1 := hz j hj
        unfold rp1E at h1
        by_cases h2 : rptE s (l.getD j default) = 0
        · rw [if_neg (fun hh => hh h2)] at h1
          refine ⟨h2, ?_⟩
          cases h3 : ((l.take j).map Rpt.ID).contains (l.getD j default).ID with
          | false => rfl
          | true => rw [h3, if_pos rfl] at h1; cases h1
        · rw [if_pos h2] at h1; exact absurd h1 h2
      refine ⟨h0, rfl, by omega, fun r hrr => ?_, hnd.2 fun i j hij hj => (hc j hj).1 (hr j hj).2 i hij⟩
      obtain ⟨j, hj, rfl⟩ := mem_gd default hrr
      exact (hr j hj).1
  · rintro ⟨h0, hb, hl, hr, hn⟩
    have hn := hnd.1 hn
    unfold givE
    rw [if_neg (fun hh => hh h0), if_neg (by rw [hb]; decide), if_neg (by omega)]
    refine err1_ok fun j hj => ?_
    unfold rp1E
    rw [if_neg (fun hh => hh (hr _ (gd1 hj default))), if_neg (by rw [(hc j hj).2 fun i hi => hn i j hi hj]; decide)]
theorem giv_sub {s : Svc} {b : Brn} {l m : List Rpt} (h : givE s b l = 0) (hl : m.length ≤ 24) (hs : ∀ r ∈ m, r ∈ l) (hn : (m.map Rpt.ID).Nodup) : givE s b m = 0 := by
  obtain ⟨h1, h2, h3, h4, h5⟩ := giv_iff.1 h
  exact giv_iff.2 ⟨h1, h2, hl, fun r hr => h4 r (hs r hr), hn⟩
theorem giv_id {s : Svc} {b : Brn} {l : List Rpt} (h : givE s b l = 0) {x y : Rpt} (hx : x ∈ l) (hy : y ∈ l) (e : x.ID = y.ID) : x = y := by
  obtain ⟨-, -, -, -, h5⟩ := giv_iff.1 h
  have h6 := List.pairwise_map.1 h5
  obtain ⟨i, hi, rfl⟩ := mem_gd default hx
  obtain ⟨j, hj, rfl⟩ := mem_gd default hy
  have h7 := (pair_gd (r := fun a b : Rpt => a.ID ≠ b.ID)).1 h6
  rcases Nat.lt_trichotomy i j with h | h | h
  · exact absurd e (h7 i j h hj)
  · rw [h]
  · exact absurd e.symm (h7 j i h hi)
theorem metP_iff {L : List (Nat → Bool)} {n : Nat} : metP L n = true ↔ ∀ P ∈ L, P n = true := by unfold metP; exact List.all_eq_true
theorem alw_iff {s : Svc} {b : Brn} {r : Rpt} {n : Nat} : alwP s b r n = true ↔ n < s.n ∧ allB s b r (plc s.c.M n) = true := by
  show (decide (n < s.n) && allB s b r (plc s.c.M n)) = true ↔ _
  rw [Bool.and_eq_true, decide_eq_true_iff]
theorem met_alw {s : Svc} {b : Brn} {l : List Rpt} {n : Nat} : metP (l.map (alwP s b)) n = true ↔ ∀ r ∈ l, alwP s b r n = true := by
  rw [metP_iff]
  constructor
  · intro h r hr; exact h _ (List.mem_map_of_mem hr)
  · intro h P hP
    obtain ⟨r, hr, rfl⟩ := List.mem_map.1 hP
    exact h r hr
theorem met_perm {s : Svc} {b : Brn} {l m : List Rpt} (h : ∀ r, r ∈ l ↔ r ∈ m) : metP (l.map (alwP s b)) = metP (m.map (alwP s b)) := by
  funext n
  rw [Bool.eq_iff_iff, met_alw, met_alw]
  exact ⟨fun g r hr => g r ((h r).2 hr), fun g r hr => g r ((h r).1 hr)⟩
theorem pls_pos {m : Mp} {P : Nat → Bool} : 0 < (plsL m P).length ↔ ∃ n, n < m.w * m.h ∧ P n = true := by
  unfold plsL plsK
  rw [List.length_map, List.length_pos_iff_exists_mem]
  constructor
  · rintro ⟨n, hn⟩
    rw [List.mem_filter, List.mem_range] at hn
    exact ⟨n, hn⟩
  · rintro ⟨n, hn⟩
    exact ⟨n, by rw [List.mem_filter, List.mem_range]; exact hn⟩
theorem pls_mono {m : Mp} {P Q : Nat → Bool} (h : ∀ n, n < m.w * m.h → P n = true → Q n = true) : (plsL m P).Sublist (plsL m Q) := by
  unfold plsL plsK
  refine List.Sublist.map _ ?_
  have e : (List.range (m.w * m.h)).filter P = ((List.range (m.w * m.h)).filter Q).filter P := by
    rw [List.filter_filter]
    refine List.filter_congr fun n hn => ?_
    have hn := List.mem_range.1 hn
    cases hP : P n with
    | false => rfl
    | true => rw [h n hn hP]; rfl
  rw [e]
  exact List.filter_sublist
theorem rm_sublist (l : List Int) (i : Nat) : (rmL l i).Sublist l := by
  unfold rmL
  have h1 : l.take i ++ l.drop (i + 1) = l.take i ++ (l.drop i).drop 1 := by rw [List.drop_drop]
  rw [h1]
  conv => rhs; rw [← List.take_append_drop i l]
  exact List.Sublist.append (List.Sublist.refl _) (List.drop_sublist 1 _)
theorem rm_get {l : List Int} {i j : Nat} : (rmL l i)[j]? = if j < i then l[j]? else l[j + 1]? := by
  unfold rmL
  by_cases hi : i ≤ l.length
  · by_cases h : j < i
    · rw [if_pos h, List.getElem?_append_left (by rw [List.length_take]; omega), List.getElem?_take, if_pos h]
    · rw [if_neg h, List.getElem?_append_right (by rw [List.length_take]; omega), List.getElem?_drop, List.length_take]
      congr 1; omega
  · rw [List.take_of_length_le (by omega), List.drop_eq_nil_of_le (by omega), List.append_nil]
    split
    · rfl
    · rw [List.getElem?_eq_none (by omega), List.getElem?_eq_none (by omega)]
theorem rm_rm {l : List Int} {i k : Nat} (hk : k < i) : ∀ x ∈ rmL (rmL l i) k, x ∈ rmL l k := fun x hx => by
  obtain ⟨j, hj⟩ := List.mem_iff_getElem?.1 hx
  rw [rm_get] at hj
  rw [List.mem_iff_getElem?]
  split at hj
  · rename_i h1
    rw [rm_get, if_pos (by omega)] at hj
    exact ⟨j, by rw [rm_get, if_pos h1]; exact hj⟩
  · rename_i h1
    rw [rm_get] at hj
    split at hj
    · exact ⟨j, by rw [rm_get, if_neg h1]; exact hj⟩
    · exact ⟨j + 1, by rw [rm_get, if_neg (by omega)]; exact hj⟩
theorem crS_spec {agr : List Int → Bool} (mono : ∀ a b : List Int, (∀ x ∈ a, x ∈ b) → agr b = true → agr a = true) : ∀ (n : Nat) (js : List Int) (i : Nat), n = js.length - i → i ≤ js.length → agr js = false → (∀ k, k < i → agr (rmL js k) = true) →
    agr (crS agr n js i) = false ∧ (∀ k, k < (crS agr n js i).length → agr (rmL (crS agr n js i) k) = true) ∧ (crS agr n js i).Sublist js
  | 0, js, i, hn, hi, h1, h2 => ⟨h1, fun k hk => h2 k (by have : k < js.length := hk; omega), List.Sublist.refl _⟩
  | n + 1, js, i, hn, hi, h1, h2 => by
    cases h3 : agr (rmL js i) with
    | true =>
      have e : crS agr (n + 1) js i = crS agr n js (i + 1) := by show (if _ then _ else _) = _; rw [if_pos h3]
      rw [e]
      refine crS_spec mono n js (i + 1) (by omega) (by omega) h1 fun k hk => ?_
      by_cases q : k = i
      · subst q; exact h3
      · exact h2 k (by omega)
    | false =>
      have e : crS agr (n + 1) js i = crS agr n (rmL js i) i := by show (if _ then _ else _) = _; rw [if_neg (by rw [h3]; decide)]
      have hl := rmL_len js (i := i) (by omega)
      rw [e]
      obtain ⟨g1, g2, g3⟩ := crS_spec mono n (rmL js i) i (by omega) (by omega) h3 fun k hk => mono _ _ (rm_rm hk) (h2 k hk)
      exact ⟨g1, g2, g3.trans (rm_sublist js i)⟩
theorem agr_iff {s : Svc} {L : List (Nat → Bool)} {js : List Int} : agrB s L js = true ↔ ∃ n, n < s.n ∧ ∀ j ∈ js, L.getD j.toNat default n = true := by
  unfold agrB
  rw [decide_eq_true_iff, pls_pos]
  have e : ∀ n, metP (selL L js) n = true ↔ ∀ j ∈ js, L.getD j.toNat default n = true := fun n => by
    rw [metP_iff]
    unfold selL
    constructor
    · intro h j hj; exact h _ (List.mem_map_of_mem hj)
    · intro h P hP
      obtain ⟨j, hj, rfl⟩ := List.mem_map.1 hP
      exact h j hj
  constructor
  · rintro ⟨n, h1, h2⟩; exact ⟨n, h1, (e n).1 h2⟩
  · rintro ⟨n, h1, h2⟩; exact ⟨n, h1, (e n).2 h2⟩
theorem agr_mono {s : Svc} {L : List (Nat → Bool)} (a b : List Int) (h : ∀ x ∈ a, x ∈ b) (hb : agrB s L b = true) : agrB s L a = true := by
  obtain ⟨n, h1, h2⟩ := agr_iff.1 hb
  exact agr_iff.2 ⟨n, h1, fun j hj => h2 j (h j hj)⟩
@[irreducible] def rmB (L : List (Nat → Bool)) (i : Nat) : List (Nat → Bool) := L.take i ++ L.drop (i + 1)
theorem rmB_get {L : List (Nat → Bool)} {i j : Nat} (hi : i < L.length) : (rmB L i)[j]? = if j < i then L[j]? else L[j + 1]? := by
  unfold rmB
  by_cases h : j < i
  · rw [if_pos h, List.getElem?_append_left (by rw [List.length_take]; omega), List.getElem?_take, if_pos h]
  · rw [if_neg h, List.getElem?_append_right (by rw [List.length_take]; omega), List.getElem?_drop, List.length_take]
    congr 1; omega
theorem rmB_len {L : List (Nat → Bool)} {i : Nat} (hi : i < L.length) : (rmB L i).length = L.length - 1 := by unfold rmB; simp; omega
theorem met_rm {L : List (Nat → Bool)} {i n : Nat} (hi : i < L.length) : metP (rmB L i) n = true ↔ ∀ k, k < L.length → k ≠ i → L.getD k default n = true := by
  rw [metP_iff]
  constructor
  · intro h k hk hki
    refine h _ (List.mem_iff_getElem?.2 ?_)
    by_cases h1 : k < i
    · exact ⟨k, by rw [rmB_get hi, if_pos h1]; exact gdS hk default⟩
    · exact ⟨k - 1, by rw [rmB_get hi, if_neg (by omega), show k - 1 + 1 = k by omega]; exact gdS hk default⟩
  · intro h P hP
    obtain ⟨j, hj⟩ := List.mem_iff_getElem?.1 hP
    rw [rmB_get hi] at hj
    split at hj
    · rename_i h1
      have e : L.getD j default = P := by rw [List.getD_eq_getElem?_getD, hj]; rfl
      rw [← e]; exact h j (by omega) (by omega)
    · rename_i h1
      have hl : j + 1 < L.length := by
        rcases Nat.lt_or_ge (j + 1) L.length with g | g
        · exact g
        · rw [List.getElem?_eq_none g] at hj; cases hj
      have e : L.getD (j + 1) default = P := by rw [List.getD_eq_getElem?_getD, hj]; rfl
      rw [← e]; exact h (j + 1) hl (by omega)
def cntP (s : Svc) (P : Nat → Bool) : Nat := (plsL s.c.M P).length
def ovrI (s : Svc) (L : List (Nat → Bool)) (c : Nat) (k : Nat) : List Int := ((List.range k).filter fun i => decide (c < cntP s (metP (rmB L i)))).map fun i : Nat => (i : Int)
theorem ovrI_yes {s : Svc} {L : List (Nat → Bool)} {c k : Nat} (h : c < cntP s (metP (rmB L k))) : ovrI s L c (k + 1) = ovrI s L c k ++ [(k : Int)] := by
  unfold ovrI
  rw [List.range_succ, List.filter_append, List.map_append, List.filter_cons_of_pos (p := fun i => decide (c < cntP s (metP (rmB L i)))) (decide_eq_true h)]; rfl
theorem ovrI_no {s : Svc} {L : List (Nat → Bool)} {c k : Nat} (h : ¬ c < cntP s (metP (rmB L k))) : ovrI s L c (k + 1) = ovrI s L c k := by
  unfold ovrI
  rw [List.range_succ, List.filter_append, List.map_append, List.filter_cons_of_neg (p := fun i => decide (c < cntP s (metP (rmB L i)))) (by rw [decide_eq_false h]; decide)]; simp
theorem ovrI_len (s : Svc) (L : List (Nat → Bool)) (c k : Nat) : (ovrI s L c k).length ≤ k := by
  unfold ovrI
  have := List.length_filter_le (fun i => decide (c < cntP s (metP (rmB L i)))) (List.range k)
  simpa using this
theorem ovrI_mem {s : Svc} {L : List (Nat → Bool)} {c k : Nat} {j : Int} : j ∈ ovrI s L c k ↔ ∃ i : Nat, i < k ∧ c < cntP s (metP (rmB L i)) ∧ j = i := by
  unfold ovrI
  rw [List.mem_map]
  constructor
  · rintro ⟨i, hi, rfl⟩
    rw [List.mem_filter, List.mem_range, decide_eq_true_iff] at hi
    exact ⟨i, hi.1, hi.2, rfl⟩
  · rintro ⟨i, h1, h2, rfl⟩
    exact ⟨i, by rw [List.mem_filter, List.mem_range, decide_eq_true_iff]; exact ⟨h1, h2⟩, rfl⟩
def susR (s : Svc) (b : Brn) (l : List Rpt) : List Int × Int :=
  if givE s b l ≠ 0 then ([], givE s b l) else if 0 < cntP s (metP (l.map (alwP s b))) then ([], 0) else (idsL l (ovrI s (l.map (alwP s b)) 0 l.length), 0)
def neeR (s : Svc) (b : Brn) (l : List Rpt) : List Int × Int :=
  if givE s b l ≠ 0 then ([], givE s b l) else (idsL l (ovrI s (l.map (alwP s b)) (cntP s (metP (l.map (alwP s b)))) l.length), 0)
theorem ids_mem {l : List Rpt} {js : List Int} {x : Int} : x ∈ idsL l js ↔ ∃ j ∈ js, (l.getD j.toNat default).ID = x := by
  unfold idsL idK
  rw [(List.mergeSort_perm _ _).mem_iff, List.mem_map]
theorem ids_len (l : List Rpt) (js : List Int) : (idsL l js).length = js.length := by unfold idsL idK; rw [List.length_mergeSort, List.length_map]
theorem ids_nd {s : Svc} {b : Brn} {l : List Rpt} (h : givE s b l = 0) {js : List Int} (hj : ∀ j ∈ js, 0 ≤ j ∧ j < l.length) (hn : js.Nodup) : (idsL l js).Nodup := by
  unfold idsL idK
  rw [(List.mergeSort_perm _ _).nodup_iff]
  unfold List.Nodup
  rw [List.pairwise_map]
  refine List.Pairwise.imp_of_mem (fun {a c} ha hc hac e => ?_) hn
  have ok := ids_ok (giv_ok h)
  have h1 := hj a ha
  have h2 := hj c hc
  have := ok.d a.toNat c.toNat (by omega) (by omega) e
  exact hac (by omega)
theorem ordL_nd (l : List Rpt) : (ordL l).Nodup := by
  unfold ordL ordF
  unfold List.Nodup
  rw [List.pairwise_map]
  have h1 : ((List.finRange l.length).mergeSort fun x y => decide ((l.getD x.val default).ID ≤ (l.getD y.val default).ID)).Nodup := (List.mergeSort_perm _ _).nodup_iff.2 (by
    unfold List.Nodup
    rw [List.pairwise_iff_getElem]
    intro i j hi hj hij e
    rw [List.getElem_finRange, List.getElem_finRange] at e
    have := congrArg Fin.val e
    simp at this
    omega)
  exact List.Pairwise.imp (fun {a c} hac e => hac (Fin.ext (by omega))) h1
theorem ordL_all {l : List Rpt} {i : Nat} (hi : i < l.length) : (i : Int) ∈ ordL l := by
  unfold ordL ordF
  refine List.mem_map.2 ⟨⟨i, hi⟩, ?_, rfl⟩
  rw [(List.mergeSort_perm _ _).mem_iff]
  exact List.mem_iff_getElem?.2 ⟨i, by rw [List.getElem?_eq_getElem (by rw [List.length_finRange]; exact hi), List.getElem_finRange]; rfl⟩
section
variable {s : Svc} {b : Brn} {l : List Rpt} (h : givE s b l = 0)
include h
abbrev reps (l : List Rpt) (js : List Int) : List Rpt := js.map fun j => l.getD j.toNat default
omit h in
theorem mapD {js : Int} (h1 : 0 ≤ js ∧ js < l.length) : (l.map (alwP s b)).getD js.toNat default = alwP s b (l.getD js.toNat default) := by
  have : js.toNat < l.length := by omega
  rw [List.getD_eq_getElem?_getD, List.getD_eq_getElem?_getD, List.getElem?_map, List.getElem?_eq_getElem this]; rfl
omit h in
theorem agr_pls {js : List Int} (hj : ∀ j ∈ js, 0 ≤ j ∧ j < l.length) {m : List Rpt} (hm : ∀ r, r ∈ m ↔ r ∈ reps l js) : agrB s (l.map (alwP s b)) js = decide (0 < (plsL s.c.M (metP (m.map (alwP s b)))).length) := by
  rw [Bool.eq_iff_iff, agr_iff, decide_eq_true_iff, pls_pos]
  constructor
  · rintro ⟨n, h1, h2⟩
    refine ⟨n, h1, met_alw.2 fun r hr => ?_⟩
    obtain ⟨j, hjj, rfl⟩ := List.mem_map.1 ((hm r).1 hr)
    have := h2 j hjj
    rw [mapD (hj j hjj)] at this; exact this
  · rintro ⟨n, h1, h2⟩
    refine ⟨n, h1, fun j hjj => ?_⟩
    rw [mapD (hj j hjj)]
    exact met_alw.1 h2 _ ((hm _).2 (List.mem_map_of_mem hjj))
omit h in
theorem reps_ord (r : Rpt) : r ∈ l ↔ r ∈ reps l (ordL l) := by
  constructor
  · intro hr
    obtain ⟨i, hi, rfl⟩ := mem_gd default hr
    exact List.mem_map.2 ⟨(i : Int), ordL_all hi, rfl⟩
  · intro hr
    obtain ⟨j, hj, rfl⟩ := List.mem_map.1 hr
    have := ordL_mem j hj
    exact gd1 (by omega) default
structure CrOk (s : Svc) (b : Brn) (l : List Rpt) (J : List Int) : Prop where
  i : ∀ j ∈ J, 0 ≤ j ∧ j < l.length
  n : J.Nodup
  c : agrB s (l.map (alwP s b)) J = false
  m : ∀ k, k < J.length → agrB s (l.map (alwP s b)) (rmL J k) = true
omit h in
theorem cr_ok (h1 : agrB s (l.map (alwP s b)) (ordL l) = false) : CrOk s b l (crL (agrB s (l.map (alwP s b))) (ordL l)) := by
  obtain ⟨g1, g2, g3⟩ := crS_spec (agr_mono (s := s) (L := l.map (alwP s b))) (ordL l).length (ordL l) 0 (by omega) (Nat.zero_le _) h1 fun k hk => absurd hk (Nat.not_lt_zero _)
  exact ⟨fun j hj => ordL_mem j (g3.subset hj), g3.nodup (ordL_nd l), g1, g2⟩
theorem rep_id {j : Int} {js : List Int} (hj : ∀ j ∈ js, 0 ≤ j ∧ j < l.length) {r : Rpt} (hr : r ∈ l) : r.ID ∈ idsL l js ↔ r ∈ reps l js := by
  rw [ids_mem]
  constructor
  · rintro ⟨j, hjj, e⟩
    have h1 := hj j hjj
    have := giv_id h (gd1 (by omega : j.toNat < l.length) default) hr e
    exact List.mem_map.2 ⟨j, hjj, this⟩
  · intro hh
    obtain ⟨j, hjj, rfl⟩ := List.mem_map.1 hh
    exact ⟨j, hjj, rfl⟩
def smL (l : List Rpt) (c : List Int) : List Rpt := l.filter fun r => c.contains r.ID
omit h in
theorem sm_mem {c : List Int} {r : Rpt} : r ∈ smL l c ↔ r ∈ l ∧ r.ID ∈ c := by unfold smL; rw [List.mem_filter, List.contains_iff_mem]
theorem sm_reps {js : List Int} (hj : ∀ j ∈ js, 0 ≤ j ∧ j < l.length) (r : Rpt) : r ∈ smL l (idsL l js) ↔ r ∈ reps l js := by
  rw [sm_mem]
  constructor
  · rintro ⟨h1, h2⟩; exact (rep_id h (j := 0) hj h1).1 h2
  · intro hr
    have hl : r ∈ l := by
      obtain ⟨j, hjj, rfl⟩ := List.mem_map.1 hr
      have := hj j hjj
      exact gd1 (by omega) default
    exact ⟨hl, (rep_id h (j := 0) hj hl).2 hr⟩
theorem l_nd : l.Nodup := by
  obtain ⟨-, -, -, -, h5⟩ := giv_iff.1 h
  exact (List.pairwise_map.1 h5).imp fun hab e => hab (by rw [e])
theorem reps_nd {js : List Int} (hj : ∀ j ∈ js, 0 ≤ j ∧ j < l.length) (hn : js.Nodup) : (reps l js).Nodup := by
  unfold reps List.Nodup
  rw [List.pairwise_map]
  refine List.Pairwise.imp_of_mem (fun {a c} ha hc hac e => ?_) hn
  have ok := ids_ok (giv_ok h)
  have h1 := hj a ha
  have h2 := hj c hc
  have := ok.d a.toNat c.toNat (by omega) (by omega) (congrArg Rpt.ID e)
  exact hac (by omega)
theorem sm_len {js : List Int} (hj : ∀ j ∈ js, 0 ≤ j ∧ j < l.length) (hn : js.Nodup) : (smL l (idsL l js)).length = js.length := by
  have hp : (smL l (idsL l js)).Perm (reps l js) := (List.perm_ext_iff_of_nodup ((l_nd h).filter _) (reps_nd h hj hn)).2 fun r => sm_reps h hj r
  rw [hp.length_eq]; simp
omit h in
theorem filter_giv (h : givE s b l = 0) (p : Rpt → Bool) : givE s b (l.filter p) = 0 := by
  obtain ⟨-, -, h3, -, h5⟩ := giv_iff.1 h
  refine giv_sub h (Nat.le_trans (List.length_filter_le _ _) h3) (fun r hr => (List.mem_filter.1 hr).1) ?_
  exact (List.filter_sublist.map Rpt.ID).nodup h5
theorem core_no {J : List Int} (hJ : CrOk s b l J) : (plsL s.c.M (metP ((smL l (idsL l J)).map (alwP s b)))).length = 0 := by
  have h1 := agr_pls (s := s) (b := b) hJ.i (sm_reps h hJ.i)
  rw [hJ.c] at h1
  have := of_decide_eq_false h1.symm
  omega
theorem core_min {J : List Int} (hJ : CrOk s b l J) {x : Int} (hx : x ∈ idsL l J) : 0 < (plsL s.c.M (metP (((smL l (idsL l J)).filter fun r => r.ID != x).map (alwP s b)))).length := by
  obtain ⟨j, hj, e⟩ := ids_mem.1 hx
  obtain ⟨k, hk⟩ := List.mem_iff_getElem?.1 hj
  have hkl : k < J.length := by
    rcases Nat.lt_or_ge k J.length with g | g
    · exact g
    · rw [List.getElem?_eq_none g] at hk; cases hk
  obtain ⟨n, h1, h2⟩ := agr_iff.1 (hJ.m k hkl)
  refine pls_pos.2 ⟨n, h1, met_alw.2 fun r hr => ?_⟩
  obtain ⟨hr1, hr2⟩ := List.mem_filter.1 hr
  obtain ⟨i, hi, rfl⟩ := List.mem_map.1 ((sm_reps h hJ.i r).1 hr1)
  have hi' := hJ.i i hi
  rw [← mapD hi']
  refine h2 i ?_
  have hne : i ≠ j := fun q => by subst q; rw [e] at hr2; simp at hr2
  obtain ⟨m, hm⟩ := List.mem_iff_getElem?.1 hi
  have hmk : m ≠ k := fun q => by subst q; rw [hm] at hk; exact hne (by simpa using hk)
  rw [List.mem_iff_getElem?]
  by_cases hlt : m < k
  · exact ⟨m, by rw [rm_get, if_pos hlt]; exact hm⟩
  · exact ⟨m - 1, by rw [rm_get, if_neg (by omega), show m - 1 + 1 = m by omega]; exact hm⟩
theorem rm_pls {i : Nat} (hi : i < l.length) {n : Nat} : metP (rmB (l.map (alwP s b)) i) n = true ↔ metP ((l.filter fun r => r.ID != (l.getD i default).ID).map (alwP s b)) n = true := by
  have hl : (l.map (alwP s b)).length = l.length := List.length_map _
  rw [met_rm (by omega), met_alw, hl]
  constructor
  · intro g r hr
    obtain ⟨hr1, hr2⟩ := List.mem_filter.1 hr
    obtain ⟨k, hk, rfl⟩ := mem_gd default hr1
    have := g k hk fun q => by subst q; simp at hr2
    have e := mapD (s := s) (b := b) (l := l) (js := (k : Int)) (by omega)
    rw [show ((k : Int)).toNat = k by omega] at e
    rw [e] at this; exact this
  · intro g k hk hki
    have e := mapD (s := s) (b := b) (l := l) (js := (k : Int)) (by omega)
    rw [show ((k : Int)).toNat = k by omega] at e
    rw [e]
    refine g _ (List.mem_filter.2 ⟨gd1 hk default, ?_⟩)
    have ok := ids_ok (giv_ok h)
    have : (l.getD k default).ID ≠ (l.getD i default).ID := fun q => hki (ok.d k i hk hi q)
    simpa using this
theorem rm_cnt {i : Nat} (hi : i < l.length) : cntP s (metP (rmB (l.map (alwP s b)) i)) = (plsL s.c.M (metP ((l.filter fun r => r.ID != (l.getD i default).ID).map (alwP s b)))).length := by
  have e : metP (rmB (l.map (alwP s b)) i) = metP ((l.filter fun r => r.ID != (l.getD i default).ID).map (alwP s b)) := funext fun n => by
    rw [Bool.eq_iff_iff]; exact rm_pls h hi
  unfold cntP; rw [e]
theorem sus_core {J : List Int} (hJ : CrOk s b l J) {i : Nat} (hi : i < l.length) (hc : 0 < cntP s (metP (rmB (l.map (alwP s b)) i))) : (l.getD i default).ID ∈ idsL l J := by
  refine ids_mem.2 ⟨(i : Int), ?_, rfl⟩
  refine Classical.byContradiction fun hn => ?_
  obtain ⟨n, h1, h2⟩ := pls_pos.1 hc
  have hl : (l.map (alwP s b)).length = l.length := List.length_map _
  have h3 := (met_rm (by omega)).1 h2
  have : agrB s (l.map (alwP s b)) J = true := agr_iff.2 ⟨n, h1, fun j hj => by
    have := hJ.i j hj
    refine h3 j.toNat (by omega) fun q => hn ?_
    have e : j = (i : Int) := by omega
    rw [← e]; exact hj⟩
  rw [hJ.c] at this; cases this
end
theorem getD_app {α : Type} {l m : List α} {i : Nat} (h : i < l.length) (d : α) : (l ++ m).getD i d = l.getD i d := by
  rw [List.getD_eq_getElem?_getD, List.getD_eq_getElem?_getD, List.getElem?_append_left h]
theorem giv_0 {s : Svc} {b : Brn} {l : List Rpt} (h0 : svcE s = 0) : givE s b l = if brnB b = false then 1 else if 24 < l.length then 2 else err1 (rp1E s l) l.length := by unfold givE; rw [if_neg (fun hh => hh h0)]
theorem giv_app {s : Svc} {b : Brn} {l : List Rpt} {r : Rpt} (h : givE s b l ≠ 0) (hl : l.length ≤ 6) : givE s b (l ++ [r]) = givE s b l := by
  have hl' : (l ++ [r]).length = l.length + 1 := by simp
  by_cases h0 : svcE s = 0
  · rw [giv_0 h0] at h ⊢
    rw [giv_0 h0]
    cases hb : brnB b with
    | false => rfl
    | true =>
      rw [hb] at h
      have h : (if 24 < l.length then (2 : Int) else err1 (rp1E s l) l.length) ≠ 0 := h
      show (if 24 < (l ++ [r]).length then (2 : Int) else err1 (rp1E s (l ++ [r])) (l ++ [r]).length) = (if 24 < l.length then (2 : Int) else err1 (rp1E s l) l.length)
      rw [if_neg (show ¬ 24 < l.length by omega)] at h ⊢
      rw [if_neg (show ¬ 24 < (l ++ [r]).length by omega), hl']
      have e : err1 (rp1E s (l ++ [r])) l.length = err1 (rp1E s l) l.length := err1_congr fun j hj => by
        unfold rp1E
        rw [getD_app hj, List.take_append_of_le_length (by omega)]
      show (if err1 (rp1E s (l ++ [r])) l.length ≠ 0 then _ else _) = _
      rw [e, if_pos h]
  · have e : ∀ l : List Rpt, givE s b l = svcE s := fun l => by unfold givE; rw [if_pos h0]
    rw [e, e]
theorem giv_perm {s : Svc} {b : Brn} {l m : List Rpt} (hp : m.Perm l) (h : givE s b l = 0) : givE s b m = 0 := by
  obtain ⟨h1, h2, h3, h4, h5⟩ := giv_iff.1 h
  exact giv_iff.2 ⟨h1, h2, by rw [hp.length_eq]; exact h3, fun x hx => h4 x (hp.mem_iff.1 hx), (hp.map Rpt.ID).nodup_iff.2 h5⟩
theorem rot_perm (l : List Rpt) (k : Nat) : (l.drop k ++ l.take k).Perm l := by
  conv => rhs; rw [← List.take_append_drop k l]
  exact List.perm_append_comm
theorem rot_met {s : Svc} {b : Brn} {l : List Rpt} (k : Nat) : metP ((l.drop k ++ l.take k).map (alwP s b)) = metP (l.map (alwP s b)) := met_perm fun r => (rot_perm l k).mem_iff
theorem more_pls {s : Svc} {b : Brn} {l : List Rpt} {r : Rpt} : (plsL s.c.M (metP ((l ++ [r]).map (alwP s b)))).Sublist (plsL s.c.M (metP (l.map (alwP s b)))) :=
  pls_mono fun n _ h => met_alw.2 fun x hx => met_alw.1 h x (List.mem_append_left _ hx)
theorem rm_last {s : Svc} {b : Brn} {l : List Rpt} {r : Rpt} : metP (rmB ((l ++ [r]).map (alwP s b)) l.length) = metP (l.map (alwP s b)) := by
  unfold rmB
  rw [List.map_append, List.take_append_of_le_length (by simp), List.take_of_length_le (by simp), List.drop_eq_nil_of_le (by simp), List.append_nil]
theorem needed_last {s : Svc} {b : Brn} {l : List Rpt} {r : Rpt} (h : givE s b (l ++ [r]) = 0) : (neeR s b (l ++ [r])).1.contains r.ID = decide ((plsL s.c.M (metP ((l ++ [r]).map (alwP s b)))).length < (plsL s.c.M (metP (l.map (alwP s b)))).length) := by
  have hl' : (l ++ [r]).length = l.length + 1 := by simp
  have hr : (l ++ [r]).getD l.length default = r := by
    rw [List.getD_eq_getElem?_getD, List.getElem?_append_right (Nat.le_refl _), Nat.sub_self]; rfl
  have e : (neeR s b (l ++ [r])).1 = idsL (l ++ [r]) (ovrI s ((l ++ [r]).map (alwP s b)) (cntP s (metP ((l ++ [r]).map (alwP s b)))) (l ++ [r]).length) := by
    unfold neeR; rw [if_neg (fun hh => hh h)]
  have ok := ids_ok (giv_ok h)
  rw [e, Bool.eq_iff_iff, List.contains_iff_mem, ids_mem, decide_eq_true_iff]
  constructor
  · rintro ⟨j, hj, ej⟩
    obtain ⟨i, hi, hc, rfl⟩ := ovrI_mem.1 hj
    have : i = l.length := ok.d i l.length hi (by omega) (by rw [hr]; exact ej)
    subst this
    rw [rm_last] at hc; exact hc
  · intro hc
    refine ⟨(l.length : Int), ovrI_mem.2 ⟨l.length, by omega, ?_, rfl⟩, ?_⟩
    · rw [rm_last]; exact hc
    · exact congrArg Rpt.ID hr
theorem drf_nn {x : Cir} (hx : 0 ≤ x.Drift) (a b : Int) : 0 ≤ drf x a b := by
  have := Int.mul_nonneg hx (show 0 ≤ max (a - b) (b - a) by omega)
  unfold drf; omega
theorem drf_tri {x : Cir} (hx : 0 ≤ x.Drift) (a b t : Int) : drf x a b ≤ drf x a t + drf x b t := by
  have h1 := Int.mul_le_mul_of_nonneg_left (show max (a - b) (b - a) ≤ max (a - t) (t - a) + max (b - t) (t - b) by omega) hx
  rw [Int.mul_add] at h1
  unfold drf; omega
theorem fine_le {x : Cir} {l : List Thg} (hx : 0 ≤ x.Drift) (hf : Fine x l) {a b : Thg} (ha : a ∈ l) (hb : b ∈ l) (t : Int) : a.s.Lo - drf x a.k.Tick t ≤ b.s.Hi + drf x b.k.Tick t := by
  have key : ∀ i j, i < j → j < l.length → (l.getD i default).s.Lo - (l.getD j default).s.Hi ≤ drf x (l.getD i default).k.Tick (l.getD j default).k.Tick ∧ (l.getD j default).s.Lo - (l.getD i default).s.Hi ≤ drf x (l.getD i default).k.Tick (l.getD j default).k.Tick := fun i j hij hj => by
    have := of_decide_eq_false (pair_gd.1 hf.2 i j hij hj)
    unfold gap at this
    omega
  obtain ⟨i, hi, rfl⟩ := mem_gd default ha
  obtain ⟨j, hj, rfl⟩ := mem_gd default hb
  have n1 := drf_nn hx (l.getD i default).k.Tick t
  have n2 := drf_nn hx (l.getD j default).k.Tick t
  have t1 := drf_tri hx (l.getD i default).k.Tick (l.getD j default).k.Tick t
  rcases Nat.lt_trichotomy i j with h | h | h
  · have := key i j h hj; omega
  · subst h
    have := of_decide_eq_false (hf.1 _ (gd1 hi default))
    omega
  · have := key j i h hi
    rw [drf_comm] at this
    omega
theorem zer_le {x : Cir} {l : List Thg} (hx : 0 ≤ x.Drift) (hf : Fine x l) (ho : ∀ g ∈ l, ThgOk g) (t : Int) : (zer x l t).lo ≤ (zer x l t).hi := by
  unfold zer
  refine (zer_lo x t l _ _).2 ⟨(zer_hi x t l _ _).2 ⟨by decide, fun g hg => ?_⟩, fun g hg => (zer_hi x t l _ _).2 ⟨?_, fun g' hg' => fine_le hx hf hg hg' t⟩⟩
  · have := (ho g hg).hi
    have := drf_nn hx g.k.Tick t
    show (-300 : Int) ≤ _
    omega
  · have := (ho g hg).lo
    have := drf_nn hx g.k.Tick t
    show _ ≤ (300 : Int)
    omega
theorem zerR_le {c : Cirs} {id t : Int} (h : (zerR c id t).2 = 0) : (zerR c id t).1.Lo ≤ (zerR c id t).1.Hi := by
  unfold zerR at h ⊢
  split at h
  · rename_i h1; exact absurd h h1
  · rename_i h1
    rw [if_neg h1]
    have h1 : (atR c id t).2.2 = 0 := Classical.byContradiction h1
    have h0 := atR_0 h1
    obtain ⟨k1, k2, k3, k4, k5⟩ := knw_0 h0
    have ok := cirs_ok k1
    have hx := ok.cs _ (cirI_lt k2).1
    have e1 : (atR c id t).1 = c.C.getD (cirI c id).toNat default := k4
    have e2 : (atR c id t).2.1 = thsL c (c.C.getD (cirI c id).toNat default) := k5
    have h2 : agrE (atR c id t).1 (atR c id t).2.1 = 0 := by
      have h3 : (if (knw c id [t]).2.2 = 0 then agrE (knw c id [t]).1 (knw c id [t]).2.1 else (knw c id [t]).2.2) = 0 := h1
      rw [if_pos h0] at h3; exact h3
    have h3 : clsL (atR c id t).1 (atR c id t).2.1 = [] := by
      refine Classical.byContradiction fun g => ?_
      unfold agrE at h2; rw [if_neg g] at h2; cases h2
    rw [e1, e2] at h3 ⊢
    exact zer_le hx.d.1 ((cls_fine _ _).1 h3) (thg_ok ok k2) t
theorem open_eq {w : Wdg} (h1 : 0 ≤ w.F ∧ w.F ≤ 3599) (h2 : 0 ≤ w.T ∧ w.T ≤ 3599) : openW w = (w.T - w.F) % 3600 := by
  unfold openW; rw [if_pos ⟨within_spec.2 h1, within_spec.2 h2⟩]
theorem lies_wide {u t T m : Int} {a p : Place} (ht : 0 ≤ t ∧ t ≤ T) (hm : 0 ≤ m) (hT : T + m ≤ 900) (h : liesW (wdg (u + t) m) a p = true) : liesW (wdg u (T + m)) a p = true := by
  unfold liesW at h ⊢
  simp only [Bool.and_eq_true, Bool.not_eq_true', decide_eq_false_iff_not, decide_eq_true_eq] at h ⊢
  obtain ⟨⟨⟨h1, h2⟩, h3⟩, h4⟩ := h
  have bk := bear_ok h2.1 h2.2 h3
  have o1 : openW (wdg (u + t) m) = m := by
    rw [open_eq (by unfold wdg; dsimp only; omega) (by unfold wdg; dsimp only; omega)]
    unfold wdg; dsimp only; omega
  have o2 : openW (wdg u (T + m)) = T + m := by
    rw [open_eq (by unfold wdg; dsimp only; omega) (by unfold wdg; dsimp only; omega)]
    unfold wdg; dsimp only; omega
  refine ⟨⟨⟨?_, h2⟩, h3⟩, ?_⟩
  · unfold validW; rw [o2]; exact within_spec.2 (by omega)
  rw [o1] at h4
  rw [o2]
  generalize (bear a p).1 = n at *
  generalize (bear a p).2 = d at *
  have e1 : (n - (wdg (u + t) m).F * d) % (3600 * d) = (n - (u + t) * d) % (3600 * d) := by
    have : (wdg (u + t) m).F = (u + t) - 3600 * ((u + t) / 3600) := by unfold wdg; dsimp only; omega
    rw [this]
    have e : n - ((u + t) - 3600 * ((u + t) / 3600)) * d = (n - (u + t) * d) + (u + t) / 3600 * (3600 * d) := by grind
    rw [e, Int.add_mul_emod_self_right]
  have e2 : (n - (wdg u (T + m)).F * d) % (3600 * d) = (n - u * d) % (3600 * d) := by
    have : (wdg u (T + m)).F = u - 3600 * (u / 3600) := by unfold wdg; dsimp only; omega
    rw [this]
    have e : n - (u - 3600 * (u / 3600)) * d = (n - u * d) + u / 3600 * (3600 * d) := by grind
    rw [e, Int.add_mul_emod_self_right]
  rw [e1] at h4
  rw [e2]
  have hd : 0 < d := bk.1.1
  have x0 := Int.emod_nonneg (n - (u + t) * d) (show 3600 * d ≠ 0 by omega)
  generalize hX : (n - (u + t) * d) % (3600 * d) = X at *
  have m1 : 0 ≤ t * d := Int.mul_nonneg ht.1 (by omega)
  have m2 : t * d ≤ T * d := Int.mul_le_mul_of_nonneg_right ht.2 (by omega)
  have m3 : (T + m) * d ≤ 900 * d := Int.mul_le_mul_of_nonneg_right hT (by omega)
  have m4 : (T + m) * d = T * d + m * d := Int.add_mul _ _ _
  have q := Int.emod_add_mul_ediv (n - (u + t) * d) (3600 * d)
  rw [hX] at q
  have e3 : n - u * d = (X + t * d) + (n - (u + t) * d) / (3600 * d) * (3600 * d) := by
    have : (u + t) * d = u * d + t * d := Int.add_mul _ _ _
    rw [Int.mul_comm ((n - (u + t) * d) / (3600 * d))]
    omega
  rw [e3, Int.add_mul_emod_self_right, Int.emod_eq_of_lt (by omega) (by omega)]
  omega
structure LkOk (s : Svc) (x : Lk) : Prop where
  r : rptE s (blkO x) = 0
  w : (x.To - x.From) % 3600 + 2 * x.Slack + (zLk s x).Hi - (zLk s x).Lo ≤ 900
theorem lk_ok {s : Svc} {x : Lk} (h : lkE s x = 0) : LkOk s x := by
  unfold lkE at h
  split at h
  · rename_i h1; exact absurd h h1
  · rename_i h1
    split at h
    · cases h
    · rename_i h2; exact ⟨Classical.byContradiction h1, by omega⟩
def blkI (x : Lk) (id : Int) : Rpt := ⟨id, 2, x.Tower, x.C, x.Tick, x.From, x.To, x.Slack⟩
def sgtI (x : Lk) (id t : Int) : Rpt := ⟨id, 1, x.Tower, x.C, x.Tick, (x.From + t) % 3600, 0, x.Slack⟩
theorem rpt_facts {s : Svc} {r : Rpt} (h : rptE s r = 0) : frmB r = true ∧ ¬ ((towG s.c.T r.Tower).2 = false ∨ cirI s.k r.C < 0) ∧ (s.k.C.getD (cirI s.k r.C).toNat default).At = (towG s.c.T r.Tower).1.At ∧ (zerR s.k r.C r.Tick).2 = 0 := by
  unfold rptE at h
  split at h
  · cases h
  rename_i h1
  split at h
  · cases h
  rename_i h2
  split at h
  · cases h
  rename_i h3
  split at h
  · rename_i h4; exact absurd h h4
  rename_i h4
  exact ⟨by simpa using h1, h2, Classical.byContradiction h3, Classical.byContradiction h4⟩
theorem rpt_w {s : Svc} {r : Rpt} (h : rptE s r = 0) (hk : r.Kind = 1) : (wdgR s.k (rdgO r)).2 = 0 := by
  obtain ⟨f1, f2, f3, f4⟩ := rpt_facts h
  unfold rptE at h
  rw [if_neg (by rw [f1]; decide), if_neg f2, if_neg (fun hh => hh f3), if_neg (fun hh => hh f4), if_pos hk] at h
  exact h
theorem frm2 {r : Rpt} (h : frmB r = true) (hk : r.Kind = 2) : (within r.Tick 0 1048576 = true ∧ within r.From 0 3599 = true ∧ within r.Slack 1 100 = true) ∧ within r.To 0 3599 = true := by
  unfold frmB at h
  rw [if_neg (by omega), if_pos hk] at h
  simp only [Bool.and_eq_true, Bool.not_eq_true'] at h
  obtain ⟨h1, h2⟩ := h
  unfold frmC at h1
  simp only [Bool.or_eq_false_iff, Bool.not_eq_false'] at h1
  exact ⟨⟨h1.1.1.2, h1.1.2, h1.2⟩, h2.1⟩
section
variable {s : Svc} {x : Lk} (h0 : svcE s = 0) (hx : LkOk s x) {id : Int} (hid : 1 ≤ id ∧ id ≤ 1099511627776)
include h0 hx hid
omit h0 in
theorem blk_ok : rptE s (blkI x id) = 0 := by
  have e : frmB (blkI x id) = frmB (blkO x) := by
    have e1 : frmC (blkI x id) = frmC (blkO x) := by
      show ((!within id 1 1099511627776) || (!within x.Tick 0 1048576) || (!within x.From 0 3599) || (!within x.Slack 1 100)) = ((!within 1 1 1099511627776) || (!within x.Tick 0 1048576) || (!within x.From 0 3599) || (!within x.Slack 1 100))
      rw [within_spec.2 hid, (within_spec (n := 1) (lo := 1) (hi := 1099511627776)).2 (by omega)]
    unfold frmB; rw [e1]; rfl
  have e2 : rptE s (blkI x id) = rptE s (blkO x) := by
    unfold rptE; rw [e]; rfl
  rw [e2]; exact hx.r
theorem sgt_ok {t : Int} : rptE s (sgtI x id t) = 0 := by
  obtain ⟨f1, f2, f3, f4⟩ := rpt_facts hx.r
  obtain ⟨⟨g1, g2, g3⟩, g4⟩ := frm2 f1 rfl
  have g1 : within x.Tick 0 1048576 = true := g1
  have g3 : within x.Slack 1 100 = true := g3
  have hF : within ((x.From + t) % 3600) 0 3599 = true := within_spec.2 (by omega)
  have fc : frmC (sgtI x id t) = false := by
    show ((!within id 1 1099511627776) || (!within x.Tick 0 1048576) || (!within ((x.From + t) % 3600) 0 3599) || (!within x.Slack 1 100)) = false
    rw [within_spec.2 hid, g1, hF, g3]; rfl
  have fb : frmB (sgtI x id t) = true := by unfold frmB; rw [fc]; rfl
  have hk : cirsE s.k = 0 := by
    unfold svcE at h0
    split at h0
    · rename_i q; exact absurd h0 q
    · split at h0
      · rename_i q; exact absurd h0 q
      · rename_i q; exact Classical.byContradiction q
  have rd : rdgE s.k (rdgO (sgtI x id t)) = 0 := by
    unfold rdgE
    rw [if_neg (fun hh => hh hk)]
    show (if (!within ((x.From + t) % 3600) 0 3599 || !within x.Slack 1 100) = true then (1 : Int) else 0) = 0
    rw [hF, g3]; rfl
  have w0 := hx.w
  have f4 : (zerR s.k x.C x.Tick).2 = 0 := f4
  have wd : (wdgR s.k (rdgO (sgtI x id t))).2 = 0 := by
    unfold wdgR
    rw [if_neg (fun hh => hh rd)]
    show (if (zerR s.k x.C x.Tick).2 ≠ 0 then ((⟨0, 0⟩, (zerR s.k x.C x.Tick).2) : Wdg × Int) else if 900 < 2 * x.Slack + (zerR s.k x.C x.Tick).1.Hi - (zerR s.k x.C x.Tick).1.Lo then (⟨0, 0⟩, 50) else _).2 = 0
    have w1 : (x.To - x.From) % 3600 + 2 * x.Slack + (zerR s.k x.C x.Tick).1.Hi - (zerR s.k x.C x.Tick).1.Lo ≤ 900 := w0
    rw [if_neg (fun hh => hh f4), if_neg (by omega)]
  unfold rptE
  rw [if_neg (by rw [fb]; decide)]
  rw [if_neg (show ¬ ((towG s.c.T (sgtI x id t).Tower).2 = false ∨ cirI s.k (sgtI x id t).C < 0) from f2)]
  rw [if_neg (show ¬ (s.k.C.getD (cirI s.k (sgtI x id t).C).toNat default).At ≠ (towG s.c.T (sgtI x id t).Tower).1.At from fun hh => hh f3)]
  rw [if_neg (show ¬ (zerR s.k (sgtI x id t).C (sgtI x id t).Tick).2 ≠ 0 from fun hh => hh f4)]
  rw [if_pos (show (sgtI x id t).Kind = 1 from rfl)]
  exact wd
omit h0 hx hid in
theorem blk_alw (b : Brn) : alwP s b (blkI x id) = alwP s b (blkO x) := rfl
theorem sgt_lies {t : Int} (ht : 0 ≤ t ∧ t ≤ (x.To - x.From) % 3600) {a p : Place} (h : liesW (wdgR s.k (rdgO (sgtI x id t))).1 a p = true) : liesW (wideL s x) a p = true := by
  obtain ⟨f1, f2, f3, f4⟩ := rpt_facts hx.r
  obtain ⟨⟨g1, g2, g3⟩, g4⟩ := frm2 f1 rfl
  have f4 : (zerR s.k x.C x.Tick).2 = 0 := f4
  have s1 := within_spec.1 (show within x.Slack 1 100 = true from g3)
  have F1 := within_spec.1 (show within x.From 0 3599 = true from g2)
  have T1 := within_spec.1 (show within x.To 0 3599 = true from g4)
  have zl := zerR_le f4
  have w0 : (x.To - x.From) % 3600 + 2 * x.Slack + (zerR s.k x.C x.Tick).1.Hi - (zerR s.k x.C x.Tick).1.Lo ≤ 900 := hx.w
  have rp := sgt_ok h0 hx hid (t := t)
  have wd : (wdgR s.k (rdgO (sgtI x id t))).2 = 0 := (rpt_w rp) rfl
  have e1 : (wdgR s.k (rdgO (sgtI x id t))).1 = wdg ((x.From + t) % 3600 - x.Slack - (zerR s.k x.C x.Tick).1.Hi) (2 * x.Slack + (zerR s.k x.C x.Tick).1.Hi - (zerR s.k x.C x.Tick).1.Lo) := by
    unfold wdgR at wd ⊢
    split at wd
    · rename_i q; exact absurd wd q
    · rename_i q1
      rw [if_neg q1]
      split at wd
      · rename_i q; exact absurd wd q
      · rename_i q2
        rw [if_neg q2]
        split at wd
        · cases wd
        · rename_i q3; rw [if_neg q3]; rfl
  rw [e1] at h
  have e3 : wideL s x = wdg (x.From - x.Slack - (zerR s.k x.C x.Tick).1.Hi) ((x.To - x.From) % 3600 + (2 * x.Slack + (zerR s.k x.C x.Tick).1.Hi - (zerR s.k x.C x.Tick).1.Lo)) := by
    unfold wideL wdg zLk; congr 1; omega
  generalize (zerR s.k x.C x.Tick).1.Hi = Hi at *
  generalize (zerR s.k x.C x.Tick).1.Lo = Lo at *
  have e2 : wdg ((x.From + t) % 3600 - x.Slack - Hi) (2 * x.Slack + Hi - Lo) = wdg ((x.From - x.Slack - Hi) + t) (2 * x.Slack + Hi - Lo) := by
    unfold wdg; congr 1 <;> omega
  rw [e2] at h
  have h2 := lies_wide (T := (x.To - x.From) % 3600) ht (by omega) (by omega) h
  rw [e3]; exact h2
end
theorem giv_snoc {s : Svc} {b : Brn} {l : List Rpt} {r : Rpt} (h : givE s b l = 0) (hr : rptE s r = 0) (hi : ∀ x ∈ l, x.ID < r.ID) (hl : l.length < 24) : givE s b (l ++ [r]) = 0 := by
  obtain ⟨h1, h2, h3, h4, h5⟩ := giv_iff.1 h
  refine giv_iff.2 ⟨h1, h2, by simp; omega, fun x hx => ?_, ?_⟩
  · rcases List.mem_append.1 hx with hx | hx
    · exact h4 x hx
    · rw [List.mem_singleton.1 hx]; exact hr
  · rw [List.map_append]
    unfold List.Nodup
    rw [List.pairwise_append]
    refine ⟨h5, List.pairwise_singleton _ _, fun a ha c hc e => ?_⟩
    obtain ⟨x, hx, rfl⟩ := List.mem_map.1 ha
    have := hi x hx
    rw [List.map_singleton, List.mem_singleton] at hc
    omega
theorem filt_le {k : Nat} {P Q : Nat → Bool} (h : ∀ n, n < k → P n = true → Q n = true) : ((List.range k).filter P).length ≤ ((List.range k).filter Q).length := by
  have e : (List.range k).filter P = ((List.range k).filter Q).filter P := by
    rw [List.filter_filter]
    refine List.filter_congr fun n hn => ?_
    have hn := List.mem_range.1 hn
    cases hP : P n with
    | false => rfl
    | true => rw [h n hn hP]; rfl
  rw [e]
  exact List.length_filter_le _ _
theorem pls_length (m : Mp) (P : Nat → Bool) : (plsL m P).length = ((List.range (m.w * m.h)).filter P).length := by unfold plsL plsK; rw [List.length_map]
theorem met_snoc {s : Svc} {b : Brn} {l : List Rpt} {r : Rpt} {n : Nat} : metP ((l ++ [r]).map (alwP s b)) n = (metP (l.map (alwP s b)) n && alwP s b r n) := by
  rw [List.map_append]; unfold metP; rw [List.all_append]; simp
theorem blk_cnt (s : Svc) (b : Brn) (l : List Rpt) (x : Lk) (id : Int) : (plsL s.c.M (metP ((l ++ [blkI x id]).map (alwP s b)))).length = (plsL s.c.M (metP [metP (l.map (alwP s b)), alwP s b (blkO x)])).length := by
  have e : metP ((l ++ [blkI x id]).map (alwP s b)) = metP [metP (l.map (alwP s b)), alwP s b (blkO x)] := funext fun n => by
    rw [met_snoc, blk_alw]
    unfold metP; simp
  rw [e]
theorem sgt_cnt {s : Svc} (h0 : svcE s = 0) (b : Brn) (l : List Rpt) {x : Lk} (hx : LkOk s x) {id t : Int} (hid : 1 ≤ id ∧ id ≤ 1099511627776) (ht : 0 ≤ t ∧ t ≤ (x.To - x.From) % 3600) :
    (plsL s.c.M (metP ((l ++ [sgtI x id t]).map (alwP s b)))).length ≤ seeK s b (metP (l.map (alwP s b))) x s.n := by
  rw [pls_length]
  unfold seeK
  refine filt_le fun n hn h => ?_
  rw [met_snoc, Bool.and_eq_true] at h
  obtain ⟨h1, h2⟩ := h
  obtain ⟨-, h3⟩ := alw_iff.1 h2
  have e : allB s b (sgtI x id t) (plc s.c.M n) = seenB s b (sgtI x id t) (plc s.c.M n) := by unfold allB; rw [if_pos (show (sgtI x id t).Kind = 1 from rfl)]
  rw [e] at h3
  have h3 : ((secR s (sgtI x id t)).2 && liesW (secR s (sgtI x id t)).1 (towG s.c.T x.Tower).1.At (plc s.c.M n) && lookB s b (sgtI x id t) (plc s.c.M n)) = true := h3
  have e2 : (secR s (sgtI x id t)).1 = (wdgR s.k (rdgO (sgtI x id t))).1 := by unfold secR; rw [if_pos (show (sgtI x id t).Kind = 1 from rfl)]
  simp only [Bool.and_eq_true] at h3
  obtain ⟨⟨-, h4⟩, h5⟩ := h3
  rw [e2] at h4
  have h6 := sgt_lies h0 hx hid ht h4
  have h5 : (decide ((seesE s.c x.Tower (plc s.c.M n) b.Rise x.Tick).2 = 0) && (seesE s.c x.Tower (plc s.c.M n) b.Rise x.Tick).1 && within x.Tick b.From b.To) = true := h5
  rw [Bool.and_eq_true] at h5
  unfold seeP
  rw [h1, h5.2, h6, h5.1]; rfl
def inB (s : Svc) (ps : List Place) (a n : Nat) : Bool := decide (a < ps.length) && decide (ps.getD a default = plc s.c.M n)
def outB (s : Svc) (rs : List Rsn) (w n : Nat) : Bool := decide (w < rs.length) && decide ((rs.getD w default).At = plc s.c.M n)
def rptI (l : List Rpt) (id : Int) : Int := idxL (fun r => r.ID == id) l
def cks (s : Svc) (l : List Rpt) (L : List (Nat → Bool)) (ps : List Place) (rs : List Rsn) (n : Nat) (q : Nat × Nat) : Option (Nat × Nat) :=
  if inB s ps q.1 n = outB s rs q.2 n then none
  else if inB s ps q.1 n = true then (if 0 ≤ fstI L n then none else some (q.1 + 1, q.2))
  else if rptI l (rs.getD q.2 default).R < 0 ∨ L.getD (rptI l (rs.getD q.2 default).R).toNat default n = true then none else some (q.1, q.2 + 1)
def ckR (s : Svc) (l : List Rpt) (L : List (Nat → Bool)) (ps : List Place) (rs : List Rsn) : Nat → Option (Nat × Nat)
  | 0 => some (0, 0)
  | n + 1 => (ckR s l L ps rs n).bind (cks s l L ps rs n)
def ckE (s : Svc) (l : List Rpt) (L : List (Nat → Bool)) (ps : List Place) (rs : List Rsn) : Bool :=
  match ckR s l L ps rs s.n with
  | none => false
  | some q => decide (ps.length ≤ q.1) && decide (rs.length ≤ q.2)
theorem ckR_le {s : Svc} {l : List Rpt} {L : List (Nat → Bool)} {ps : List Place} {rs : List Rsn} : ∀ {n : Nat} {q : Nat × Nat}, ckR s l L ps rs n = some q → q.1 ≤ n ∧ q.2 ≤ n ∧ q.1 ≤ ps.length ∧ q.2 ≤ rs.length
  | 0, q, h => by
    have : q = (0, 0) := (Option.some.inj h).symm
    subst this; exact ⟨Nat.le_refl _, Nat.le_refl _, Nat.zero_le _, Nat.zero_le _⟩
  | n + 1, q, h => by
    have h : (ckR s l L ps rs n).bind (cks s l L ps rs n) = some q := h
    cases hc : ckR s l L ps rs n with
    | none => rw [hc] at h; cases h
    | some p =>
      rw [hc] at h
      have h : cks s l L ps rs n p = some q := h
      obtain ⟨h1, h2, h3, h4⟩ := ckR_le hc
      unfold cks at h
      split at h
      · cases h
      rename_i g1
      split at h
      · rename_i g2
        split at h
        · cases h
        have e := (Option.some.inj h).symm
        subst e
        have : p.1 < ps.length := by
          unfold inB at g2
          rw [Bool.and_eq_true, decide_eq_true_iff] at g2
          exact g2.1
        exact ⟨by dsimp only; omega, by dsimp only; omega, this, h4⟩
      · rename_i g2
        split at h
        · cases h
        have e := (Option.some.inj h).symm
        subst e
        have g2 : inB s ps p.1 n = false := by simpa using g2
        have : outB s rs p.2 n = true := by
          cases ho : outB s rs p.2 n with
          | true => rfl
          | false => rw [g2, ho] at g1; exact absurd rfl g1
        unfold outB at this
        rw [Bool.and_eq_true, decide_eq_true_iff] at this
        exact ⟨by dsimp only; omega, by dsimp only; omega, h3, this.1⟩
theorem ckR_sound {s : Svc} {b : Brn} {l : List Rpt} {ps : List Place} {rs : List Rsn} : ∀ {n : Nat} {q : Nat × Nat}, n ≤ s.n → ckR s l (l.map (alwP s b)) ps rs n = some q → ps.take q.1 = plsK s.c.M (metP (l.map (alwP s b))) n
  | 0, q, _, h => by
    have : q = (0, 0) := (Option.some.inj h).symm
    subst this; rfl
  | n + 1, q, hn, h => by
    have h : (ckR s l (l.map (alwP s b)) ps rs n).bind (cks s l (l.map (alwP s b)) ps rs n) = some q := h
    cases hc : ckR s l (l.map (alwP s b)) ps rs n with
    | none => rw [hc] at h; cases h
    | some p =>
      rw [hc] at h
      have h : cks s l (l.map (alwP s b)) ps rs n p = some q := h
      have ih := ckR_sound (by omega) hc
      unfold cks at h
      split at h
      · cases h
      rename_i g1
      split at h
      · rename_i g2
        split at h
        · cases h
        rename_i g3
        have e := (Option.some.inj h).symm
        subst e
        unfold inB at g2
        rw [Bool.and_eq_true, decide_eq_true_iff, decide_eq_true_iff] at g2
        have hm : metP (l.map (alwP s b)) n = true := by
          rw [metP_iff]
          intro P hP
          cases hh : P n with
          | true => rfl
          | false =>
            have : (l.map (alwP s b)).any (fun P => !P n) = true := List.any_eq_true.2 ⟨P, hP, by rw [hh]; rfl⟩
            exact absurd ((idx_any (fun P : Nat → Bool => !P n) (l.map (alwP s b)) default).2 this) g3
        rw [plsK_yes hm, take1 g2.1 default, ih, g2.2]
      · rename_i g2
        split at h
        · cases h
        rename_i g3
        have e := (Option.some.inj h).symm
        subst e
        have g3 : ¬ rptI l (rs.getD p.2 default).R < 0 ∧ ¬ (l.map (alwP s b)).getD (rptI l (rs.getD p.2 default).R).toNat default n = true := ⟨fun hh => g3 (.inl hh), fun hh => g3 (.inr hh)⟩
        have hm : metP (l.map (alwP s b)) n = false := by
          cases hh : metP (l.map (alwP s b)) n with
          | false => rfl
          | true =>
            rcases idxL_cases (fun r : Rpt => r.ID == (rs.getD p.2 default).R) l default with ⟨e, -⟩ | ⟨i, hi, e, -, -⟩
            · exact absurd (show rptI l (rs.getD p.2 default).R < 0 by unfold rptI; rw [e]; decide) g3.1
            · have e : rptI l (rs.getD p.2 default).R = (i : Int) := e
              have := metP_iff.1 hh _ (gd1 (l := l.map (alwP s b)) (i := i) (by rw [List.length_map]; exact hi) default)
              exact absurd (by rw [e]; exact this) g3.2
        rw [plsK_no hm]; exact ih
theorem ck_sound {s : Svc} {b : Brn} {l : List Rpt} {ps : List Place} {rs : List Rsn} (h : ckE s l (l.map (alwP s b)) ps rs = true) : ps = plsL s.c.M (metP (l.map (alwP s b))) := by
  unfold ckE at h
  split at h
  · cases h
  · rename_i q hq
    rw [Bool.and_eq_true, decide_eq_true_iff] at h
    have := ckR_sound (Nat.le_refl _) hq
    rw [List.take_of_length_le h.1] at this
    exact this
theorem plc_inj {m : Mp} {i j : Nat} (hw : 0 < m.w) (h : plc m i = plc m j) : i = j := by
  unfold plc at h
  have h1 : ((i % m.w : Nat) : Int) = ((j % m.w : Nat) : Int) := congrArg Place.X h
  have h2 : ((i / m.w : Nat) : Int) = ((j / m.w : Nat) : Int) := congrArg Place.Y h
  have a := Nat.div_add_mod i m.w
  have c := Nat.div_add_mod j m.w
  rw [show i / m.w = j / m.w by omega, show i % m.w = j % m.w by omega] at a
  omega
theorem filt_at {P : Nat → Bool} {k n : Nat} (h : k < n) : ((List.range n).filter P)[((List.range k).filter P).length]? = if P k = true then some k else (((List.range' (k + 1) (n - (k + 1))).filter P)[0]?) := by
  have e : List.range n = List.range k ++ (k :: List.range' (k + 1) (n - (k + 1))) := by
    rw [List.range_eq_range', List.range_eq_range', show n = k + ((n - (k + 1)) + 1) by omega, ← List.range'_append_1, Nat.zero_add, show k + (n - (k + 1) + 1) - (k + 1) = n - (k + 1) by omega]; rfl
  rw [e, List.filter_append, List.getElem?_append_right (Nat.le_refl _), Nat.sub_self]
  split
  · rename_i hP; rw [List.filter_cons_of_pos hP]; rfl
  · rename_i hP; rw [List.filter_cons_of_neg hP]
theorem filt_next {P : Nat → Bool} {k n : Nat} (h : k < n) (hP : P k = false) {j : Nat} (hj : ((List.range n).filter P)[((List.range k).filter P).length]? = some j) : k < j := by
  rw [filt_at h, if_neg (by rw [hP]; decide)] at hj
  have := List.mem_of_getElem? hj
  have := (List.mem_filter.1 this).1
  rw [List.mem_range'_1] at this
  omega
theorem ck_full {s : Svc} {b : Brn} {l : List Rpt} (h : givE s b l = 0) : ∀ n, n ≤ s.n → ckR s l (l.map (alwP s b)) (plsL s.c.M (metP (l.map (alwP s b)))) (rsnK s l (l.map (alwP s b)) s.n) n = some ((plsK s.c.M (metP (l.map (alwP s b))) n).length, (rsnK s l (l.map (alwP s b)) n).length)
  | 0, _ => rfl
  | n + 1, hn => by
    have ih := ck_full h n (by omega)
    obtain ⟨bw, bh, -, -⟩ := validM_spec (giv_ok h).s.c.m
    have hw : 0 < s.c.M.w := by show 0 < s.c.M.W.toNat; omega
    have ok := ids_ok (giv_ok h)
    obtain ⟨L, hL⟩ : ∃ L, L = l.map (alwP s b) := ⟨_, rfl⟩
    rw [← hL] at ih ⊢
    have hLl : L.length = l.length := by rw [hL]; exact List.length_map _
    have hn' : n < s.c.M.w * s.c.M.h := hn
    have hq : fstI L n < 0 ↔ metP L n = true := by
      have h1 := idx_any (fun P : Nat → Bool => !P n) L default
      rw [metP_iff]
      constructor
      · intro g P hP
        cases hh : P n with
        | true => rfl
        | false =>
          have := h1.2 (List.any_eq_true.2 ⟨P, hP, by rw [hh]; rfl⟩)
          have : 0 ≤ fstI L n := this
          omega
      · intro g
        refine Classical.byContradiction fun q => ?_
        obtain ⟨P, hP, e⟩ := List.any_eq_true.1 (h1.1 (show 0 ≤ fstI L n by omega))
        rw [g P hP] at e; cases e
    show (ckR s l L (plsL s.c.M (metP L)) (rsnK s l L s.n) n).bind _ = _
    rw [ih]
    show cks s l L (plsL s.c.M (metP L)) (rsnK s l L s.n) n ((plsK s.c.M (metP L) n).length, (rsnK s l L n).length) = _
    have gp : (plsL s.c.M (metP L))[(plsK s.c.M (metP L) n).length]? = (((List.range s.n).filter (metP L))[((List.range n).filter (metP L)).length]?).map (plc s.c.M) := by
      unfold plsL plsK
      rw [List.getElem?_map, List.length_map]
    have gr : (rsnK s l L s.n)[(rsnK s l L n).length]? = (((List.range s.n).filter fun n => decide (0 ≤ fstI L n))[((List.range n).filter fun n => decide (0 ≤ fstI L n)).length]?).map (rsnA s l L) := by
      unfold rsnK
      rw [List.getElem?_map, List.length_map]
    cases hm : metP L n with
    | true =>
      have hf := hq.2 hm
      have hi : inB s (plsL s.c.M (metP L)) (plsK s.c.M (metP L) n).length n = true := by
        rw [filt_at hn', if_pos hm] at gp
        have hlt : (plsK s.c.M (metP L) n).length < (plsL s.c.M (metP L)).length := by
          rcases Nat.lt_or_ge (plsK s.c.M (metP L) n).length (plsL s.c.M (metP L)).length with g | g
          · exact g
          · rw [List.getElem?_eq_none g] at gp; cases gp
        unfold inB
        rw [decide_eq_true hlt, List.getD_eq_getElem?_getD, gp]
        exact decide_eq_true rfl
      have ho : outB s (rsnK s l L s.n) (rsnK s l L n).length n = false := by
        cases hh : outB s (rsnK s l L s.n) (rsnK s l L n).length n with
        | false => rfl
        | true =>
          unfold outB at hh
          rw [Bool.and_eq_true, decide_eq_true_iff, decide_eq_true_iff] at hh
          rw [List.getElem?_eq_getElem hh.1] at gr
          cases hg : ((List.range s.n).filter fun n => decide (0 ≤ fstI L n))[((List.range n).filter fun n => decide (0 ≤ fstI L n)).length]? with
          | none => rw [hg] at gr; cases gr
          | some j =>
            rw [hg] at gr
            have hj := filt_next (P := fun n => decide (0 ≤ fstI L n)) hn' (decide_eq_false (by omega)) hg
            have e1 : (rsnK s l L s.n).getD (rsnK s l L n).length default = rsnA s l L j := by
              rw [List.getD_eq_getElem?_getD, List.getElem?_eq_getElem hh.1]; exact Option.some.inj gr
            rw [e1] at hh
            have := plc_inj hw (show plc s.c.M j = plc s.c.M n from hh.2)
            omega
      unfold cks
      dsimp only
      rw [hi, ho, if_neg (by decide), if_pos rfl, if_neg (by omega), plsK_yes hm, rsnK_no (by omega)]
      simp
    | false =>
      have hf : 0 ≤ fstI L n := by
        refine Classical.byContradiction fun g => ?_
        rw [hq.1 (by omega)] at hm; cases hm
      have hi : inB s (plsL s.c.M (metP L)) (plsK s.c.M (metP L) n).length n = false := by
        cases hh : inB s (plsL s.c.M (metP L)) (plsK s.c.M (metP L) n).length n with
        | false => rfl
        | true =>
          unfold inB at hh
          rw [Bool.and_eq_true, decide_eq_true_iff, decide_eq_true_iff] at hh
          rw [List.getElem?_eq_getElem hh.1] at gp
          cases hg : ((List.range s.n).filter (metP L))[((List.range n).filter (metP L)).length]? with
          | none => rw [hg] at gp; cases gp
          | some j =>
            rw [hg] at gp
            have hj := filt_next hn' hm hg
            have e1 : (plsL s.c.M (metP L)).getD (plsK s.c.M (metP L) n).length default = plc s.c.M j := by
              rw [List.getD_eq_getElem?_getD, List.getElem?_eq_getElem hh.1]; exact Option.some.inj gp
            rw [e1] at hh
            have := plc_inj hw hh.2
            omega
      rw [filt_at (P := fun n => decide (0 ≤ fstI L n)) hn', if_pos (decide_eq_true hf)] at gr
      have hlt : (rsnK s l L n).length < (rsnK s l L s.n).length := by
        rcases Nat.lt_or_ge (rsnK s l L n).length (rsnK s l L s.n).length with g | g
        · exact g
        · rw [List.getElem?_eq_none g] at gr; cases gr
      have e1 : (rsnK s l L s.n).getD (rsnK s l L n).length default = rsnA s l L n := by
        rw [List.getD_eq_getElem?_getD, gr]; rfl
      have ho : outB s (rsnK s l L s.n) (rsnK s l L n).length n = true := by
        unfold outB
        rw [decide_eq_true hlt, e1]
        exact decide_eq_true rfl
      have hfl := fstI_lt hf
      have hri : rptI l (l.getD (fstI L n).toNat default).ID = fstI L n := by
        have := idxL_stop (p := fun r : Rpt => r.ID == (l.getD (fstI L n).toNat default).ID) (l := l) (i := (fstI L n).toNat) default (by omega) (by simp) fun j hj => by
          have : (l.getD j default).ID ≠ (l.getD (fstI L n).toNat default).ID := fun q => by
            have := ok.d j (fstI L n).toNat (by omega) (by omega) q
            omega
          simpa using this
        unfold rptI
        rw [this]; omega
      have hno : L.getD (fstI L n).toNat default n = false := by
        rcases idxL_cases (fun P : Nat → Bool => !P n) L default with ⟨e, -⟩ | ⟨i, hi, e, hp, -⟩
        · have : fstI L n = -1 := e
          omega
        · have e : fstI L n = (i : Int) := e
          rw [e]
          simpa using hp
      unfold cks
      dsimp only
      rw [hi, ho, if_neg (by decide), if_neg (by decide), e1]
      show (if rptI l (l.getD (fstI L n).toNat default).ID < 0 ∨ L.getD (rptI l (l.getD (fstI L n).toNat default).ID).toNat default n = true then none else _) = _
      rw [hri, if_neg (by rw [hno]; simp; omega), plsK_no hm, rsnK_yes hf]
      simp
theorem ck_complete {s : Svc} {b : Brn} {l : List Rpt} (h : givE s b l = 0) : ckE s l (l.map (alwP s b)) (plsL s.c.M (metP (l.map (alwP s b)))) (rsnK s l (l.map (alwP s b)) s.n) = true := by
  unfold ckE
  rw [ck_full h s.n (Nat.le_refl _)]
  show (decide ((plsL s.c.M (metP (l.map (alwP s b)))).length ≤ (plsL s.c.M (metP (l.map (alwP s b)))).length) && decide ((rsnK s l (l.map (alwP s b)) s.n).length ≤ (rsnK s l (l.map (alwP s b)) s.n).length)) = true
  rw [decide_eq_true (Nat.le_refl _), decide_eq_true (Nat.le_refl _)]; rfl
theorem pls_rsn_len {s : Svc} {l : List Rpt} {L : List (Nat → Bool)} : (plsL s.c.M (metP L)).length + (rsnK s l L s.n).length = s.n := by
  have hq : ∀ n, decide (0 ≤ fstI L n) = !metP L n := fun n => by
    have h1 := idx_any (fun P : Nat → Bool => !P n) L default
    have e : metP L n = !(L.any fun P => !P n) := by
      unfold metP
      rw [List.not_any_eq_all_not]; simp
    rw [e, Bool.not_not, Bool.eq_iff_iff, decide_eq_true_iff]
    exact h1
  unfold plsL plsK rsnK
  rw [List.length_map, List.length_map]
  have e : (List.range s.n).filter (fun n => decide (0 ≤ fstI L n)) = (List.range s.n).filter (fun n => !metP L n) := List.filter_congr fun n _ => hq n
  rw [e]
  have key : ∀ (l : List Nat) (P : Nat → Bool), (l.filter P).length + (l.filter fun n => !P n).length = l.length := fun l P => by
    induction l with
    | nil => rfl
    | cons a r ih =>
      cases hp : P a with
      | true => rw [List.filter_cons_of_pos hp, List.filter_cons_of_neg (by rw [hp]; decide), List.length_cons, List.length_cons]; omega
      | false => rw [List.filter_cons_of_neg (by rw [hp]; decide), List.filter_cons_of_pos (by rw [hp]; rfl), List.length_cons, List.length_cons]; omega
  have := key (List.range s.n) (metP L)
  rw [List.length_range] at this
  exact this
theorem fnd_e (s : Svc) (b : Brn) (P : Nat → Bool) (x : Lk) : (fndR s b P x).2.2 = lkE s x := by
  unfold fndR
  split
  · rfl
  · rename_i h; exact (Classical.byContradiction h : lkE s x = 0).symm
end Go.Pg
