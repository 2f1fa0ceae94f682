/- Texts joined and shortened by program. -/
import Derived.Test.YtcgifildhmkdfaaGreatJA
import Derived.Test.YtcgifildhmkdfaaGreatJC
set_option linter.all false
set_option maxRecDepth 100000
namespace Go.Pg
open Go.Proofs Go.RowKit
theorem giv_iff {s : Svc} {b : Brn} {l : List Rpt} : givE s b l = 0 ↔ svcE s = 0 ∧ brnB b = true ∧ l.length ≤ 24 ∧ (∀ r ∈ l, rptE s r = 0) ∧ (l.map Rpt.ID).Nodup := by
 have hnd : (l.map Rpt.ID).Nodup ↔ ∀ i j, i < j → j < l.length → (l.getD i default).ID ≠ (l.getD j default).ID := by
  unfold List.Nodup
  rw [List.pairwise_map]
  exact pair_gd (r := fun a b : Rpt => a.ID ≠ b.ID)
 have hc : ∀ i, i < l.length → (((l.take i).map Rpt.ID).contains (l.getD i default).ID = false ↔ ∀ j, j < i → (l.getD j default).ID ≠ (l.getD i default).ID) := fun i hi => by
  constructor
  ·intro h j hj e
   rw [(ids_has (Nat.le_of_lt hi) _).2 ⟨j, hj, e⟩] at h; cases h
  ·intro h
   cases hh : ((l.take i).map Rpt.ID).contains (l.getD i default).ID with
   | false => rfl
   | true => obtain ⟨j, hj, e⟩ := (ids_has (Nat.le_of_lt hi) _).1 hh; exact absurd e (h j hj)
 constructor
 ·intro h
  have h0 : svcE s = 0 := by
   refine Classical.byContradiction fun g => ?_
   unfold givE at h; rw [if_pos g] at h; exact g h
  unfold givE at h
  rw [if_neg (fun hh => hh h0)] at h
  cases hb : brnB b with
  | false => rw [hb, if_pos rfl] at h; cases h
  | true =>
   rw [hb, if_neg (by decide)] at h
   by_cases hl : 24 < l.length
   ·rw [if_pos hl] at h; cases h
   rw [if_neg hl] at h
   have hz := err1_zero h
   have hr : ∀ j, j < l.length → rptE s (l.getD j default) = 0 ∧ ((l.take j).map Rpt.ID).contains (l.getD j default).ID = false := fun j hj => by
    have h1 := hz j hj
    unfold rp1E at h1
    by_cases h2 : rptE s (l.getD j default) = 0
    ·rw [if_neg (fun hh => hh h2)] at h1
     refine ⟨h2, ?_⟩
     cases h3 : ((l.take j).map Rpt.ID).contains (l.getD j default).ID with
     | false => rfl
     | true => rw [h3, if_pos rfl] at h1; cases h1
    ·rw [if_pos h2] at h1; exact absurd h1 h2
   refine ⟨h0, rfl, by omega, fun r hrr => ?_, hnd.2 fun i j hij hj => (hc j hj).1 (hr j hj).2 i hij⟩
   obtain ⟨j, hj, rfl⟩ := mem_gd default hrr
   exact (hr j hj).1
 ·rintro ⟨h0, hb, hl, hr, hn⟩
  have hn := hnd.1 hn
  unfold givE
  rw [if_neg (fun hh => hh h0), if_neg (by rw [hb]; decide), if_neg (by omega)]
  refine err1_ok fun j hj => ?_
  unfold rp1E
  rw [if_neg (fun hh => hh (hr _ (gd1 hj default))), if_neg (by rw [(hc j hj).2 fun i hi => hn i j hi hj]; decide)]
theorem giv_id {s : Svc} {b : Brn} {l : List Rpt} (h : givE s b l = 0) {x y : Rpt} (hx : x ∈ l) (hy : y ∈ l) (e : x.ID = y.ID) : x = y := by
 obtain ⟨-, -, -, -, h5⟩ := giv_iff.1 h
 have h6 := List.pairwise_map.1 h5
 obtain ⟨i, hi, rfl⟩ := mem_gd default hx
 obtain ⟨j, hj, rfl⟩ := mem_gd default hy
 have h7 := (pair_gd (r := fun a b : Rpt => a.ID ≠ b.ID)).1 h6
 rcases Nat.lt_trichotomy i j with h | h | h
 ·exact absurd e (h7 i j h hj)
 ·rw [h]
 ·exact absurd e.symm (h7 j i h hi)
theorem metP_iff {L : List (Nat → Bool)} {n : Nat} : metP L n = true ↔ ∀ P ∈ L, P n = true := by unfold metP; exact List.all_eq_true
theorem met_alw {s : Svc} {b : Brn} {l : List Rpt} {n : Nat} : metP (l.map (alwP s b)) n = true ↔ ∀ r ∈ l, alwP s b r n = true := by
 rw [metP_iff]
 constructor
 ·intro h r hr; exact h _ (List.mem_map_of_mem hr)
 ·intro h P hP
  obtain ⟨r, hr, rfl⟩ := List.mem_map.1 hP
  exact h r hr
theorem rm_sublist (l : List Int) (i : Nat) : (rmL l i).Sublist l := by
 unfold rmL
 have h1 : l.take i ++ l.drop (i + 1) = l.take i ++ (l.drop i).drop 1 := by rw [List.drop_drop]
 rw [h1]
 conv => rhs; rw [← List.take_append_drop i l]
 exact List.Sublist.append (List.Sublist.refl _) (List.drop_sublist 1 _)
theorem rm_get {l : List Int} {i j : Nat} : (rmL l i)[j]? = if j < i then l[j]? else l[j + 1]? := by
 unfold rmL
 by_cases hi : i ≤ l.length
 ·by_cases h : j < i
  ·rw [if_pos h, List.getElem?_append_left (by rw [List.length_take]; omega), List.getElem?_take, if_pos h]
  ·rw [if_neg h, List.getElem?_append_right (by rw [List.length_take]; omega), List.getElem?_drop, List.length_take]
   congr 1; omega
 ·rw [List.take_of_length_le (by omega), List.drop_eq_nil_of_le (by omega), List.append_nil]
  split
  ·rfl
  ·rw [List.getElem?_eq_none (by omega), List.getElem?_eq_none (by omega)]
@[irreducible] def rmB (L : List (Nat → Bool)) (i : Nat) : List (Nat → Bool) := L.take i ++ L.drop (i + 1)
theorem rmB_get {L : List (Nat → Bool)} {i j : Nat} (hi : i < L.length) : (rmB L i)[j]? = if j < i then L[j]? else L[j + 1]? := by
 unfold rmB
 by_cases h : j < i
 ·rw [if_pos h, List.getElem?_append_left (by rw [List.length_take]; omega), List.getElem?_take, if_pos h]
 ·rw [if_neg h, List.getElem?_append_right (by rw [List.length_take]; omega), List.getElem?_drop, List.length_take]
  congr 1; omega
theorem rmB_len {L : List (Nat → Bool)} {i : Nat} (hi : i < L.length) : (rmB L i).length = L.length - 1 := by unfold rmB; simp; omega
theorem met_rm {L : List (Nat → Bool)} {i n : Nat} (hi : i < L.length) : metP (rmB L i) n = true ↔ ∀ k, k < L.length → k ≠ i → L.getD k default n = true := by
 rw [metP_iff]
 constructor
 ·intro h k hk hki
  refine h _ (List.mem_iff_getElem?.2 ?_)
  by_cases h1 : k < i
  ·exact ⟨k, by rw [rmB_get hi, if_pos h1]; exact gdS hk default⟩
  ·exact ⟨k - 1, by rw [rmB_get hi, if_neg (by omega), show k - 1 + 1 = k by omega]; exact gdS hk default⟩
 ·intro h P hP
  obtain ⟨j, hj⟩ := List.mem_iff_getElem?.1 hP
  rw [rmB_get hi] at hj
  split at hj
  ·rename_i h1
   have e : L.getD j default = P := by rw [List.getD_eq_getElem?_getD, hj]; rfl
   rw [← e]; exact h j (by omega) (by omega)
  ·rename_i h1
   have hl : j + 1 < L.length := by
    rcases Nat.lt_or_ge (j + 1) L.length with g | g
    ·exact g
    ·rw [List.getElem?_eq_none g] at hj; cases hj
   have e : L.getD (j + 1) default = P := by rw [List.getD_eq_getElem?_getD, hj]; rfl
   rw [← e]; exact h (j + 1) hl (by omega)
def cntP (s : Svc) (P : Nat → Bool) : Nat := (plsL s.c.M P).length
def ovrI (s : Svc) (L : List (Nat → Bool)) (c : Nat) (k : Nat) : List Int := ((List.range k).filter fun i => decide (c < cntP s (metP (rmB L i)))).map fun i : Nat => (i : Int)
theorem ovrI_yes {s : Svc} {L : List (Nat → Bool)} {c k : Nat} (h : c < cntP s (metP (rmB L k))) : ovrI s L c (k + 1) = ovrI s L c k ++ [(k : Int)] := by
 unfold ovrI
 rw [List.range_succ, List.filter_append, List.map_append, List.filter_cons_of_pos (p := fun i => decide (c < cntP s (metP (rmB L i)))) (decide_eq_true h)]; rfl
theorem ovrI_no {s : Svc} {L : List (Nat → Bool)} {c k : Nat} (h : ¬ c < cntP s (metP (rmB L k))) : ovrI s L c (k + 1) = ovrI s L c k := by
 unfold ovrI
 rw [List.range_succ, List.filter_append, List.map_append, List.filter_cons_of_neg (p := fun i => decide (c < cntP s (metP (rmB L i)))) (by rw [decide_eq_false h]; decide)]; simp
theorem ovrI_len (s : Svc) (L : List (Nat → Bool)) (c k : Nat) : (ovrI s L c k).length ≤ k := by
 unfold ovrI
 have := List.length_filter_le (fun i => decide (c < cntP s (metP (rmB L i)))) (List.range k)
 simpa using this
theorem ovrI_mem {s : Svc} {L : List (Nat → Bool)} {c k : Nat} {j : Int} : j ∈ ovrI s L c k ↔ ∃ i : Nat, i < k ∧ c < cntP s (metP (rmB L i)) ∧ j = i := by
 unfold ovrI
 rw [List.mem_map]
 constructor
 ·rintro ⟨i, hi, rfl⟩
  rw [List.mem_filter, List.mem_range, decide_eq_true_iff] at hi
  exact ⟨i, hi.1, hi.2, rfl⟩
 ·rintro ⟨i, h1, h2, rfl⟩
  exact ⟨i, by rw [List.mem_filter, List.mem_range, decide_eq_true_iff]; exact ⟨h1, h2⟩, rfl⟩
def susR (s : Svc) (b : Brn) (l : List Rpt) : List Int × Int :=
 if givE s b l ≠ 0 then ([], givE s b l) else if 0 < cntP s (metP (l.map (alwP s b))) then ([], 0) else (idsL l (ovrI s (l.map (alwP s b)) 0 l.length), 0)
def neeR (s : Svc) (b : Brn) (l : List Rpt) : List Int × Int :=
 if givE s b l ≠ 0 then ([], givE s b l) else (idsL l (ovrI s (l.map (alwP s b)) (cntP s (metP (l.map (alwP s b)))) l.length), 0)
theorem ids_len (l : List Rpt) (js : List Int) : (idsL l js).length = js.length := by unfold idsL idK; rw [List.length_mergeSort, List.length_map]
theorem ordL_nd (l : List Rpt) : (ordL l).Nodup := by
 unfold ordL ordF
 unfold List.Nodup
 rw [List.pairwise_map]
 have h1 : ((List.finRange l.length).mergeSort fun x y => decide ((l.getD x.val default).ID ≤ (l.getD y.val default).ID)).Nodup := (List.mergeSort_perm _ _).nodup_iff.2 (by
  unfold List.Nodup
  rw [List.pairwise_iff_getElem]
  intro i j hi hj hij e
  rw [List.getElem_finRange, List.getElem_finRange] at e
  have := congrArg Fin.val e
  simp at this
  omega)
 exact List.Pairwise.imp (fun {a c} hac e => hac (Fin.ext (by omega))) h1
theorem ordL_all {l : List Rpt} {i : Nat} (hi : i < l.length) : (i : Int) ∈ ordL l := by
 unfold ordL ordF
 refine List.mem_map.2 ⟨⟨i, hi⟩, ?_, rfl⟩
 rw [(List.mergeSort_perm _ _).mem_iff]
 exact List.mem_iff_getElem?.2 ⟨i, by rw [List.getElem?_eq_getElem (by rw [List.length_finRange]; exact hi), List.getElem_finRange]; rfl⟩
section
variable {s : Svc} {b : Brn} {l : List Rpt} (h : givE s b l = 0)
include h
omit h in
theorem mapD {js : Int} (h1 : 0 ≤ js ∧ js < l.length) : (l.map (alwP s b)).getD js.toNat default = alwP s b (l.getD js.toNat default) := by
 have : js.toNat < l.length := by omega
 rw [List.getD_eq_getElem?_getD, List.getD_eq_getElem?_getD, List.getElem?_map, List.getElem?_eq_getElem this]; rfl
structure CrOk (s : Svc) (b : Brn) (l : List Rpt) (J : List Int) : Prop where
  i : ∀ j ∈ J, 0 ≤ j ∧ j < l.length
  n : J.Nodup
  c : agrB s (l.map (alwP s b)) J = false
  m : ∀ k, k < J.length → agrB s (l.map (alwP s b)) (rmL J k) = true
end
structure LkOk (s : Svc) (x : Lk) : Prop where
  r : rptE s (blkO x) = 0
  w : (x.To - x.From) % 3600 + 2 * x.Slack + (zLk s x).Hi - (zLk s x).Lo ≤ 900
section
variable {s : Svc} {x : Lk} (h0 : svcE s = 0) (hx : LkOk s x) {id : Int} (hid : 1 ≤ id ∧ id ≤ 1099511627776)
include h0 hx hid
end
def inB (s : Svc) (ps : List Place) (a n : Nat) : Bool := decide (a < ps.length) && decide (ps.getD a default = plc s.c.M n)
def outB (s : Svc) (rs : List Rsn) (w n : Nat) : Bool := decide (w < rs.length) && decide ((rs.getD w default).At = plc s.c.M n)
def rptI (l : List Rpt) (id : Int) : Int := idxL (fun r => r.ID == id) l
abbrev leB (x y : Int) : Bool := decide (x ≤ y)
theorem srt_uniq {l m : List Int} (h1 : l.Pairwise fun x y => leB x y = true) (h2 : m.Pairwise fun x y => leB x y = true) (hp : l.Perm m) : l = m :=
 List.Perm.eq_of_pairwise (le := fun x y => leB x y = true) (fun a b _ _ h3 h4 => by
  have h3 := of_decide_eq_true h3
  have h4 := of_decide_eq_true h4
  omega) h1 h2 hp
theorem srt_merge (l : List Int) : (l.mergeSort fun x y => decide (x ≤ y)).Pairwise fun x y => leB x y = true :=
 List.pairwise_mergeSort (le := fun x y => decide (x ≤ y)) (fun a b c h1 h2 => by
  have h1 := of_decide_eq_true h1
  have h2 := of_decide_eq_true h2
  exact decide_eq_true (by omega)) (fun a b => by
  rw [Bool.or_eq_true, decide_eq_true_iff, decide_eq_true_iff]
  omega) l
def posI (n : Int) (l : List Int) : Nat := (l.takeWhile fun x => decide (x < n)).length
def insI (l : List Int) (n : Int) : List Int := l.take (posI n l) ++ n :: l.drop (posI n l)
theorem posI_le (n : Int) (l : List Int) : posI n l ≤ l.length := by
 unfold posI
 have := (List.takeWhile_sublist (fun x => decide (x < n)) (l := l)).length_le
 exact this
theorem posI_lt {n : Int} : ∀ {l : List Int} {j : Nat}, j < posI n l → l.getD j 0 < n
 | [], j, h => by unfold posI at h; simp at h
 | a :: r, j, h => by
  unfold posI at h
  rw [List.takeWhile_cons] at h
  split at h
  ·rename_i ha
   cases j with
   | zero => exact of_decide_eq_true ha
   | succ j =>
    have : j < posI n r := by unfold posI; simp at h; omega
    exact posI_lt (l := r) this
  ·simp at h
theorem posI_stop {n : Int} : ∀ {l : List Int} {k : Nat}, k ≤ l.length → (∀ j, j < k → l.getD j 0 < n) → (k < l.length → ¬ l.getD k 0 < n) → posI n l = k
 | [], k, h, _, _ => by
  have : k = 0 := by simpa using h
  subst this; rfl
 | a :: r, 0, _, _, h => by
  unfold posI
  rw [List.takeWhile_cons, if_neg (by have := h (by simp); simpa using this)]; rfl
 | a :: r, k + 1, hk, h1, h2 => by
  have ha : a < n := h1 0 (by omega)
  have ih := posI_stop (n := n) (l := r) (k := k) (by simpa using hk) (fun j hj => h1 (j + 1) (by omega)) (fun hh => h2 (by simpa using hh))
  unfold posI at ih ⊢
  rw [List.takeWhile_cons, if_pos (decide_eq_true ha), List.length_cons, ih]
theorem insI_perm (l : List Int) (n : Int) : (insI l n).Perm (n :: l) := by
 unfold insI
 have h1 : (l.take (posI n l) ++ n :: l.drop (posI n l)).Perm (n :: (l.take (posI n l) ++ l.drop (posI n l))) := List.perm_middle
 rw [List.take_append_drop] at h1
 exact h1
theorem insI_srt {l : List Int} {n : Int} (h : l.Pairwise fun x y => leB x y = true) : (insI l n).Pairwise fun x y => leB x y = true := by
 have hd := h
 rw [← List.take_append_drop (posI n l) l, List.pairwise_append] at hd
 obtain ⟨d1, d2, d3⟩ := hd
 have lo : ∀ x ∈ l.take (posI n l), x ≤ n := fun x hx => by
  obtain ⟨j, hj, rfl⟩ := mem_gd 0 hx
  rw [List.length_take] at hj
  have := posI_lt (l := l) (n := n) (j := j) (by omega)
  rw [List.getD_eq_getElem?_getD, List.getElem?_take, if_pos (by omega), ← List.getD_eq_getElem?_getD]
  omega
 have hi : ∀ x ∈ l.drop (posI n l), n ≤ x := fun x hx => by
  cases hdr : l.drop (posI n l) with
  | nil => rw [hdr] at hx; cases hx
  | cons a r =>
   have hlt : posI n l < l.length := by
    rcases Nat.lt_or_ge (posI n l) l.length with g | g
    ·exact g
    ·rw [List.drop_eq_nil_of_le g] at hdr; cases hdr
   have ha : l.getD (posI n l) 0 = a := by
    rw [List.getD_eq_getElem?_getD, List.getElem?_eq_getElem hlt]
    have := List.drop_eq_getElem_cons hlt
    rw [hdr] at this
    simp only [List.cons.injEq] at this
    rw [← this.1]; rfl
   have hna : n ≤ a := by
    refine Classical.byContradiction fun g => ?_
    have h5 : posI n l < posI n l := by
     have key : ∀ (l : List Int) (k : Nat), k < l.length → (∀ j, j ≤ k → l.getD j 0 < n) → k < posI n l := fun l => by
      induction l with
      | nil => intro k hk _; simp at hk
      | cons c r ih =>
       intro k hk hj
       have hc : c < n := hj 0 (by omega)
       unfold posI at ih ⊢
       rw [List.takeWhile_cons, if_pos (decide_eq_true hc), List.length_cons]
       cases k with
       | zero => omega
       | succ k =>
        have := ih k (by simpa using hk) fun j hjk => hj (j + 1) (by omega)
        omega
     refine key l (posI n l) hlt fun j hj => ?_
     rcases Nat.lt_or_ge j (posI n l) with q | q
     ·exact posI_lt q
     ·have : j = posI n l := by omega
      rw [this, ha]; omega
    omega
   rw [hdr] at hx d2
   rcases List.mem_cons.1 hx with rfl | hx
   ·exact hna
   ·have := of_decide_eq_true ((List.pairwise_cons.1 d2).1 x hx)
    omega
 unfold insI
 rw [List.pairwise_append]
 refine ⟨d1, List.pairwise_cons.2 ⟨fun x hx => decide_eq_true (hi x hx), d2⟩, fun a ha c hc => ?_⟩
 rcases List.mem_cons.1 hc with rfl | hc
 ·exact decide_eq_true (lo a ha)
 ·have := lo a ha
  have := hi c hc
  exact decide_eq_true (by omega)
def idsU (l : List Rpt) (k : Nat) : List Int := ((l.take k).map Rpt.ID).foldl insI []
theorem idsU_succ {l : List Rpt} {k : Nat} (h : k < l.length) : idsU l (k + 1) = insI (idsU l k) (l.getD k default).ID := by
 unfold idsU
 rw [take1 h default, List.map_append, List.foldl_append]; rfl
theorem idsU_len (l : List Rpt) : ∀ {k : Nat}, k ≤ l.length → (idsU l k).length = k
 | 0, _ => rfl
 | k + 1, h => by
  rw [idsU_succ (by omega), (insI_perm _ _).length_eq, List.length_cons, idsU_len l (by omega)]
theorem idsU_spec (l : List Rpt) : ∀ {k : Nat}, k ≤ l.length → (idsU l k).Pairwise (fun x y => leB x y = true) ∧ (idsU l k).Perm ((l.take k).map Rpt.ID)
 | 0, _ => ⟨List.Pairwise.nil, List.Perm.refl _⟩
 | k + 1, h => by
  obtain ⟨h1, h2⟩ := idsU_spec l (k := k) (by omega)
  rw [idsU_succ (by omega)]
  refine ⟨insI_srt h1, (insI_perm _ _).trans ?_⟩
  rw [take1 (by omega) default, List.map_append]
  exact (List.Perm.cons _ h2).trans (List.perm_append_comm (l₁ := [(l.getD k default).ID]))
theorem ord_srt (l : List Rpt) : (idK l (ordL l)).Pairwise fun x y => leB x y = true := by
 unfold idK ordL
 rw [List.map_map, List.pairwise_map]
 have := List.pairwise_mergeSort (le := fun x y : Fin l.length => decide ((l.getD x.val default).ID ≤ (l.getD y.val default).ID)) (fun a b c h1 h2 => by
  have h1 := of_decide_eq_true h1
  have h2 := of_decide_eq_true h2
  exact decide_eq_true (by omega)) (fun a b => by
  rw [Bool.or_eq_true, decide_eq_true_iff, decide_eq_true_iff]
  omega) (List.finRange l.length)
 exact this
theorem ord_perm (l : List Rpt) : (idK l (ordL l)).Perm (l.map Rpt.ID) := by
 unfold idK ordL ordF
 rw [List.map_map]
 refine ((List.mergeSort_perm _ _).map _).trans ?_
 have e : (List.finRange l.length).map ((fun j : Int => (l.getD j.toNat default).ID) ∘ fun x : Fin l.length => (x.val : Int)) = l.map Rpt.ID := by
  apply List.ext_getElem
  ·simp
  ·intro i h1 h2
   rw [List.getElem_map, List.getElem_finRange, List.getElem_map]
   show (l.getD ((i : Int)).toNat default).ID = _
   rw [show ((i : Int)).toNat = i by omega, List.getD_eq_getElem?_getD, List.getElem?_eq_getElem (by simpa using h2)]; rfl
 rw [e]
theorem ids_all (l : List Rpt) : idsU l l.length = idK l (ordL l) := by
 obtain ⟨h1, h2⟩ := idsU_spec l (Nat.le_refl _)
 rw [List.take_length] at h2
 exact srt_uniq h1 (ord_srt l) (h2.trans (ord_perm l).symm)
theorem ids_sub {l : List Rpt} {js : List Int} (h : js.Sublist (ordL l)) : idsL l js = idK l js := by
 unfold idsL
 exact List.mergeSort_of_pairwise ((ord_srt l).sublist (h.map _))
theorem rm_map (f : Int → Int) (js : List Int) (i : Nat) : rmL (js.map f) i = (rmL js i).map f := by
 unfold rmL; rw [List.map_append, List.map_take, List.map_drop]
theorem idK_rm (l : List Rpt) (js : List Int) (i : Nat) : rmL (idK l js) i = idK l (rmL js i) := rm_map _ js i
theorem crS_sub {agr : List Int → Bool} : ∀ (n : Nat) (js : List Int) (i : Nat), (crS agr n js i).Sublist js
 | 0, _, _ => List.Sublist.refl _
 | n + 1, js, i => by
  show (if agr (rmL js i) = true then crS agr n js (i + 1) else crS agr n (rmL js i) i).Sublist js
  split
  ·exact crS_sub n js (i + 1)
  ·exact (crS_sub n (rmL js i) i).trans (rm_sublist js i)
def okI (s : Svc) (b : Brn) (l : List Rpt) (ids : List Int) (n : Nat) : Bool := l.all fun r => alwP s b r n || !ids.contains r.ID
def cntI (s : Svc) (b : Brn) (l : List Rpt) (ids : List Int) : Nat := ((List.range s.n).filter (okI s b l ids)).length
section
variable {s : Svc} {b : Brn} {l : List Rpt} (h : givE s b l = 0)
include h
theorem okI_iff {js : List Int} (hj : ∀ j ∈ js, 0 ≤ j ∧ j < l.length) {n : Nat} : okI s b l (idK l js) n = true ↔ ∀ j ∈ js, (l.map (alwP s b)).getD j.toNat default n = true := by
 unfold okI
 rw [List.all_eq_true]
 constructor
 ·intro g j hjj
  have h1 := hj j hjj
  rw [mapD h1]
  have hm : l.getD j.toNat default ∈ l := gd1 (by omega) default
  have := g _ hm
  rw [Bool.or_eq_true] at this
  rcases this with h2 | h2
  ·exact h2
  ·have : (idK l js).contains (l.getD j.toNat default).ID = true := by
    rw [List.contains_iff_mem]
    exact List.mem_map.2 ⟨j, hjj, rfl⟩
   rw [this] at h2; cases h2
 ·intro g r hr
  cases hc : (idK l js).contains r.ID with
  | false => simp
  | true =>
   rw [List.contains_iff_mem] at hc
   obtain ⟨j, hjj, e⟩ := List.mem_map.1 hc
   have h1 := hj j hjj
   have e2 := giv_id h (gd1 (by omega : j.toNat < l.length) default) hr e
   have := g j hjj
   rw [mapD h1, e2] at this
   rw [this]; rfl
theorem cntI_sel {js : List Int} (hj : ∀ j ∈ js, 0 ≤ j ∧ j < l.length) : cntI s b l (idK l js) = cntP s (metP (selL (l.map (alwP s b)) js)) := by
 unfold cntI cntP
 rw [show (plsL s.c.M (metP (selL (l.map (alwP s b)) js))).length = ((List.range s.n).filter (metP (selL (l.map (alwP s b)) js))).length by unfold plsL plsK; rw [List.length_map]]
 congr 1
 refine List.filter_congr fun n _ => ?_
 rw [Bool.eq_iff_iff, okI_iff h hj, metP_iff]
 unfold selL
 constructor
 ·intro g P hP
  obtain ⟨j, hjj, rfl⟩ := List.mem_map.1 hP
  exact g j hjj
 ·intro g j hjj
  exact g _ (List.mem_map_of_mem hjj)
theorem agr_cnt {js : List Int} (hj : ∀ j ∈ js, 0 ≤ j ∧ j < l.length) : agrB s (l.map (alwP s b)) js = decide (0 < cntI s b l (idK l js)) := by
 rw [cntI_sel h hj]; rfl
theorem sel_rm {i : Nat} (hi : i < l.length) : metP (selL (l.map (alwP s b)) (rmL (ordL l) i)) = metP (rmB (l.map (alwP s b)) ((ordL l).getD i 0).toNat) := by
 have hol := ordL_len l
 have hoi := ordL_mem _ (gd1 (by omega : i < (ordL l).length) 0)
 have hl : (l.map (alwP s b)).length = l.length := List.length_map _
 funext n
 rw [Bool.eq_iff_iff, met_rm (by omega), metP_iff]
 have hnd := List.pairwise_iff_getElem.1 (ordL_nd l)
 constructor
 ·intro g k hk hki
  have hm : (k : Int) ∈ ordL l := ordL_all (by omega)
  obtain ⟨m, hm⟩ := List.mem_iff_getElem?.1 hm
  have hmi : m ≠ i := fun q => by
   subst q
   apply hki
   rw [List.getD_eq_getElem?_getD, hm]
   show k = ((k : Int)).toNat
   omega
  have hin : (k : Int) ∈ rmL (ordL l) i := by
   rw [List.mem_iff_getElem?]
   by_cases hlt : m < i
   ·exact ⟨m, by rw [rm_get, if_pos hlt]; exact hm⟩
   ·exact ⟨m - 1, by rw [rm_get, if_neg (by omega), show m - 1 + 1 = m by omega]; exact hm⟩
  have := g _ (List.mem_map_of_mem (f := fun j : Int => (l.map (alwP s b)).getD j.toNat default) hin)
  rw [show ((k : Int)).toNat = k by omega] at this
  exact this
 ·intro g P hP
  unfold selL at hP
  obtain ⟨j, hj, rfl⟩ := List.mem_map.1 hP
  have hj' := ordL_mem j (rmL_mem hj)
  refine g j.toNat (by omega) fun q => ?_
  obtain ⟨m, hm⟩ := List.mem_iff_getElem?.1 hj
  have hjj : j = (ordL l).getD i 0 := by omega
  rw [rm_get] at hm
  have hgi : (ordL l)[i]? = some j := by rw [hjj]; exact gdS (by omega) 0
  split at hm
  ·rename_i hlt
   have hml : m < (ordL l).length := (List.getElem?_eq_some_iff.1 hm).1
   have := hnd m i hml (by omega) hlt
   rw [List.getElem?_eq_getElem hml] at hm
   rw [List.getElem?_eq_getElem (by omega)] at hgi
   rw [Option.some.inj hm, Option.some.inj hgi] at this
   exact this rfl
  ·rename_i hlt
   have hml : m + 1 < (ordL l).length := (List.getElem?_eq_some_iff.1 hm).1
   have := hnd i (m + 1) (by omega) hml (by omega)
   rw [List.getElem?_eq_getElem hml] at hm
   rw [List.getElem?_eq_getElem (by omega)] at hgi
   rw [Option.some.inj hm, Option.some.inj hgi] at this
   exact this rfl
theorem cnt_rm {i : Nat} (hi : i < l.length) : cntI s b l (rmL (idK l (ordL l)) i) = cntP s (metP (rmB (l.map (alwP s b)) ((ordL l).getD i 0).toNat)) := by
 rw [idK_rm, cntI_sel h (fun j hj => ordL_mem j (rmL_mem hj)), sel_rm h hi]
theorem cnt_all : cntI s b l (idK l (ordL l)) = cntP s (metP (l.map (alwP s b))) := by
 rw [cntI_sel h ordL_mem]
 have e : metP (selL (l.map (alwP s b)) (ordL l)) = metP (l.map (alwP s b)) := funext fun n => by
  rw [Bool.eq_iff_iff, metP_iff, met_alw]
  constructor
  ·intro g r hr
   obtain ⟨i, hi, rfl⟩ := mem_gd default hr
   have := g _ (List.mem_map_of_mem (f := fun j : Int => (l.map (alwP s b)).getD j.toNat default) (ordL_all hi))
   have h2 : (l.map (alwP s b)).getD ((i : Int)).toNat default n = true := this
   rw [mapD (by omega), show ((i : Int)).toNat = i by omega] at h2
   exact h2
  ·intro g P hP
   obtain ⟨j, hj, rfl⟩ := List.mem_map.1 hP
   have hj' := ordL_mem j hj
   show (l.map (alwP s b)).getD j.toNat default n = true
   rw [mapD hj']
   exact g _ (gd1 (by omega) default)
 rw [e]
def ovrO (s : Svc) (L : List (Nat → Bool)) (c : Nat) (js : List Int) : List Int := js.filter fun j => decide (c < cntP s (metP (rmB L j.toNat)))
omit h in
theorem ovrO_ids (c : Nat) : idsL l (ovrI s (l.map (alwP s b)) c l.length) = idK l (ovrO s (l.map (alwP s b)) c (ordL l)) := by
 have h1 : (idK l (ovrO s (l.map (alwP s b)) c (ordL l))).Pairwise fun x y => leB x y = true := (ord_srt l).sublist (List.filter_sublist.map _)
 refine srt_uniq (srt_merge _) h1 ((List.mergeSort_perm _ _).trans ?_)
 unfold idK
 refine List.Perm.map _ ?_
 have e : ovrI s (l.map (alwP s b)) c l.length = (upN l.length).filter fun j => decide (c < cntP s (metP (rmB (l.map (alwP s b)) j.toNat))) := by
  unfold ovrI upN
  rw [List.filter_map]
  congr 1
 rw [e]
 unfold ovrO
 refine List.Perm.filter _ ?_
 refine (List.perm_ext_iff_of_nodup ?_ (ordL_nd l)).2 fun j => ?_
 ·unfold upN List.Nodup
  rw [List.pairwise_map]
  exact (List.nodup_range (n := l.length)).imp fun hab q => hab (by omega)
 ·constructor
  ·intro hj
   obtain ⟨i, hi, rfl⟩ := List.mem_map.1 hj
   exact ordL_all (List.mem_range.1 hi)
  ·intro hj
   have := ordL_mem j hj
   exact List.mem_map.2 ⟨j.toNat, List.mem_range.2 (by omega), by omega⟩
end
end Go.Pg
