/- Texts joined and shortened by program. -/
import Derived.Test.YtkifimaihfildaaGreatDC
import Derived.Test.YtkifimaihfildaaGreatDA
import Derived.Test.YtkifimaihfildaaGreatD6
import Derived.Test.YtkifimaihfildaaGreatD8
import Derived.Test.YtkifimaihfildaaGreatD9
import Derived.WideKeyRuns
set_option maxHeartbeats 4000000
set_option linter.all false
set_option maxRecDepth 100000
namespace Go.Pg
open Go.Proofs Go.RowKit Go.Sort Go.Shelf
theorem zjQ {l : List Rpt} {x : Int} (h : x ∈ sigK l) : ∃ r ∈ l, r.ID = x := by
 unfold sigK at h
 obtain ⟨r, hr, e⟩ := List.mem_map.1 h
 exact ⟨r, (List.mem_filter.1 hr).1, e⟩
theorem zjP {l : List Rpt} {x : Int} : x ∈ sigL l ↔ x ∈ sigK l := (List.mergeSort_perm _ _).mem_iff
theorem zmK {d : Day} {ids : List Int} (h : askE d ids = 0) : (d.R.any fun r => ids.contains r.ID) = true := by
 unfold askE at h
 split at h
 ·rename_i h1; exact absurd h h1
 ·split at h
  ·cases h
  ·rename_i h2
   split at h
   ·cases h
   ·rename_i h3
    have hs : setB ids = true := by simpa using h2
    have hp : partB ids (sigL d.R) = true := by simpa using h3
    have hl : 0 < ids.length := by unfold setB at hs; simp at hs; exact hs.2
    have h4 := zie.1 hp 0 hl
    obtain ⟨r, hr, e⟩ := zjQ (zjP.1 (List.contains_iff_mem.1 h4))
    refine List.any_eq_true.2 ⟨r, hr, List.contains_iff_mem.2 ?_⟩
    rw [e, gdq, gqe hl]
    exact List.getElem_mem hl
def sml7 (d : Day) : Prop := d.s.c.M.G.length <= 81 /\ d.s.c.T.length <= 4 /\ d.s.c.Z.length <= 8 /\ d.s.k.C.length <= 4 /\ d.s.k.K.length <= 12 /\ d.R.length <= 40
instance (d : Day) : Decidable (sml7 d) := by unfold sml7; infer_instance
def few7 (d : Day) : Prop := sml7 d /\ (((sigK d.R).length <= 5 /\ d.R.length <= 4 + (sigK d.R).length) \/ 7 < (sigK d.R).length \/ 10 + (sigK d.R).length < d.R.length)
instance (d : Day) : Decidable (few7 d) := by unfold few7; infer_instance
theorem zmT (d : Day) : Spec PP 9 [d.v] [B (decide (few7 d))] := by
 refine sA Tryz.func9 ?_
 have no : ¬ sml7 d -> false = decide (few7 d) := fun h => (decide_eq_false fun hh => h hh.1).symm
 apply bY <;> intro g0
 ·have g : (81 : Int) < d.s.c.M.G.length := dT g0
  repeat first | apply sT | apply sF
  exact r1B rfl (no fun hh => by unfold sml7 at hh; omega)
 have g0 : ¬ 81 < d.s.c.M.G.length := by have : ¬ (81 : Int) < d.s.c.M.G.length := dF g0; omega
 repeat first | apply sT | apply sF
 apply bY <;> intro g1
 ·have g : (4 : Int) < d.s.c.T.length := dT g1
  repeat first | apply sT | apply sF
  exact r1B rfl (no fun hh => by unfold sml7 at hh; omega)
 have g1 : ¬ 4 < d.s.c.T.length := by have : ¬ (4 : Int) < d.s.c.T.length := dF g1; omega
 repeat first | apply sT | apply sF
 apply bY <;> intro g2
 ·have g : (8 : Int) < d.s.c.Z.length := dT g2
  repeat first | apply sT | apply sF
  exact r1B rfl (no fun hh => by unfold sml7 at hh; omega)
 have g2 : ¬ 8 < d.s.c.Z.length := by have : ¬ (8 : Int) < d.s.c.Z.length := dF g2; omega
 repeat first | apply sT | apply sF
 apply bY <;> intro g3
 ·have g : (4 : Int) < d.s.k.C.length := dT g3
  repeat first | apply sT | apply sF
  exact r1B rfl (no fun hh => by unfold sml7 at hh; omega)
 have g3 : ¬ 4 < d.s.k.C.length := by have : ¬ (4 : Int) < d.s.k.C.length := dF g3; omega
 repeat first | apply sT | apply sF
 apply bY <;> intro g4
 ·have g : (12 : Int) < d.s.k.K.length := dT g4
  repeat first | apply sT | apply sF
  exact r1B rfl (no fun hh => by unfold sml7 at hh; omega)
 have g4 : ¬ 12 < d.s.k.K.length := by have : ¬ (12 : Int) < d.s.k.K.length := dF g4; omega
 repeat first | apply sT | apply sF
 apply bY <;> intro g5
 ·have g : (40 : Int) < d.R.length := dT g5
  repeat first | apply sT | apply sF
  exact r1B rfl (no fun hh => by unfold sml7 at hh; omega)
 have g5 : ¬ 40 < d.R.length := by have : ¬ (40 : Int) < d.R.length := dF g5; omega
 have hs : sml7 d := ⟨by omega, by omega, by omega, by omega, by omega, by omega⟩
 have e1 : (sigL d.R).length = (sigK d.R).length := zbz d.R
 refine CallSt.ro (zne d (by omega)) rfl rfl ?_
 have hk := zbU d.R
 have yes : (((sigK d.R).length <= 5 /\ d.R.length <= 4 + (sigK d.R).length) \/ 7 < (sigK d.R).length \/ 10 + (sigK d.R).length < d.R.length) -> true = decide (few7 d) := fun h => (decide_eq_true (⟨hs, h⟩ : few7 d)).symm
 apply bY <;> intro h1
 ·have h1 : (sigK d.R).length <= 5 := by have : ((sigL d.R).length : Int) <= 5 := dT h1; omega
  refine ⟨i6, ?_⟩
  repeat first | apply sT | apply sF
  apply bY <;> intro h2
  ·have h2 : d.R.length <= 4 + (sigK d.R).length := by have : (d.R.length : Int) - (sigL d.R).length <= 4 := dT h2; omega
   repeat first | apply sT | apply sF
   exact r1B rfl (yes (.inl ⟨h1, h2⟩))
  ·have h2 : ¬ d.R.length <= 4 + (sigK d.R).length := by have : ¬ (d.R.length : Int) - (sigL d.R).length <= 4 := dF h2; omega
   repeat first | apply sT | apply sF
   refine Split.no (decide_eq_false (by omega)) ?_
   refine ⟨i6, ?_⟩
   repeat first | apply sT | apply sF
   refine r1B rfl ?_
   refine decide_eq_decide.2 ⟨fun h => ⟨hs, .inr (.inr (by omega))⟩, fun h => ?_⟩
   rcases h.2 with h3 | h3 | h3
   ·exact absurd h3.2 h2
   ·omega
   ·omega
 ·have h1 : ¬ (sigK d.R).length <= 5 := by have : ¬ ((sigL d.R).length : Int) <= 5 := dF h1; omega
  repeat first | apply sT | apply sF
  apply bY <;> intro h2
  ·have h2 : 7 < (sigK d.R).length := by have : (7 : Int) < (sigL d.R).length := dT h2; omega
   repeat first | apply sT | apply sF
   exact r1B rfl (yes (.inr (.inl h2)))
  ·have h2 : ¬ 7 < (sigK d.R).length := by have : ¬ (7 : Int) < (sigL d.R).length := dF h2; omega
   repeat first | apply sT | apply sF
   refine ⟨i6, ?_⟩
   repeat first | apply sT | apply sF
   refine r1B rfl ?_
   refine decide_eq_decide.2 ⟨fun h => ⟨hs, .inr (.inr (by omega))⟩, fun h => ?_⟩
   rcases h.2 with h3 | h3 | h3
   ·exact absurd h3.1 h1
   ·exact absurd h3 h2
   ·omega
theorem DayOk.nodL {d : Day} (h : DayOk d) (ids : List Int) : ((lstD d ids).map Rpt.ID).Nodup := List.Nodup.sublist (List.Sublist.map _ (List.filter_sublist ..)) h.nodR
theorem DayOk.rpt {d : Day} (h : DayOk d) {r : Rpt} (hr : r ∈ d.R) : rptE d.s r = 0 /\ frmB r = true /\ 0 <= r.Tick /\ r.Tick <= 1048576 := by
 obtain ⟨i, hi, rfl⟩ := List.getElem_of_mem hr
 have e : d.R.getD i default = d.R[i] := by rw [gdq, gqe hi]; rfl
 have h1 := znZ (h.rp i hi)
 have h2 := h.tick hi
 rw [e] at h1 h2
 exact ⟨h1.2.1, h1.2.2, h2⟩
theorem zjn (ids : List Int) (l : List Rpt) : ∀ i, i <= l.length -> ((brnS ids (l.take i)).1 = true ↔ ∃ r ∈ l.take i, ids.contains r.ID = true) /\ ((brnS ids (l.take i)).1 = true ->
  (∀ r ∈ l.take i, ids.contains r.ID = true -> (brnS ids (l.take i)).2.1 <= r.Tick /\ r.Tick <= (brnS ids (l.take i)).2.2) /\ (∃ r ∈ l.take i, ids.contains r.ID = true /\ r.Tick = (brnS ids (l.take i)).2.1) /\ ∃ r ∈ l.take i, ids.contains r.ID = true /\ r.Tick = (brnS ids (l.take i)).2.2)
 | 0, _ => by simp [brnS]
 | i + 1, hi => by
  obtain ⟨a1, a2⟩ := zjn ids l i (by omega)
  rw [zdi ids l (by omega), za7 (show i < l.length by omega) default]
  generalize brnS ids (l.take i) = x at a1 a2
  generalize l.getD i default = r
  generalize l.take i = t at a1 a2
  unfold brn1
  by_cases hc : ids.contains r.ID = true
  ·rw [if_pos hc]
   refine ⟨⟨fun _ => ⟨r, by simp, hc⟩, fun _ => rfl⟩, fun _ => ?_⟩
   by_cases hx : x.1 = true
   ·obtain ⟨b1, ⟨p, hp, hp1, hp2⟩, ⟨q, hq, hq1, hq2⟩⟩ := a2 hx
    simp only [hx, if_true]
    refine ⟨fun r' hr' hc' => ?_, ?_, ?_⟩
    ·rcases List.mem_append.1 hr' with h | h
     ·have := b1 r' h hc'; omega
     ·rw [List.mem_singleton.1 h]; omega
    ·by_cases hm : x.2.1 <= r.Tick
     ·exact ⟨p, List.mem_append_left _ hp, hp1, by rw [hp2]; omega⟩
     ·exact ⟨r, by simp, hc, by omega⟩
    ·by_cases hm : r.Tick <= x.2.2
     ·exact ⟨q, List.mem_append_left _ hq, hq1, by rw [hq2]; omega⟩
     ·exact ⟨r, by simp, hc, by omega⟩
   ·simp only [hx, if_false]
    refine ⟨fun r' hr' hc' => ?_, ⟨r, by simp, hc, by simp⟩, ⟨r, by simp, hc, by simp⟩⟩
    rcases List.mem_append.1 hr' with h | h
    ·exact absurd (a1.2 ⟨r', h, hc'⟩) hx
    ·rw [List.mem_singleton.1 h]; simp
  ·rw [if_neg hc]
   refine ⟨a1.trans ⟨fun ⟨p, hp, hc'⟩ => ⟨p, List.mem_append_left _ hp, hc'⟩, fun ⟨p, hp, hc'⟩ => ?_⟩, fun hx => ?_⟩
   ·rcases List.mem_append.1 hp with h | h
    ·exact ⟨p, h, hc'⟩
    ·rw [List.mem_singleton.1 h] at hc'; exact absurd hc' hc
   ·obtain ⟨b1, ⟨p, hp, hp1, hp2⟩, ⟨q, hq, hq1, hq2⟩⟩ := a2 hx
    refine ⟨fun r' hr' hc' => ?_, ⟨p, List.mem_append_left _ hp, hp1, hp2⟩, ⟨q, List.mem_append_left _ hq, hq1, hq2⟩⟩
    rcases List.mem_append.1 hr' with h | h
    ·exact b1 r' h hc'
    ·rw [List.mem_singleton.1 h] at hc'; exact absurd hc' hc
theorem zcO {d : Day} {ids : List Int} (hB : (d.R.any fun r => ids.contains r.ID) = true) :
  (∀ r ∈ d.R, ids.contains r.ID = true -> (brnD d ids).From <= r.Tick /\ r.Tick <= (brnD d ids).To) /\ (∃ r ∈ d.R, ids.contains r.ID = true /\ r.Tick = (brnD d ids).From) /\ ∃ r ∈ d.R, ids.contains r.ID = true /\ r.Tick = (brnD d ids).To := by
 have := zjn ids d.R d.R.length (Nat.le_refl _)
 rw [List.take_length] at this
 obtain ⟨r, hr, hc⟩ := List.any_eq_true.1 hB
 exact this.2 (this.1.2 ⟨r, hr, hc⟩)
theorem zmI {d : Day} (h : DayOk d) {ids : List Int} (hB : (d.R.any fun r => ids.contains r.ID) = true) : brnB (brnD d ids) = true := by
 obtain ⟨h1, ⟨r, hr, hc, e⟩, ⟨q, hq, hq1, hq2⟩⟩ := zcO hB
 have g1 := (h.rpt hr).2.2
 have g2 := (h.rpt hq).2.2
 have g3 := (h1 r hr hc).2
 unfold brnB
 rw [show (brnD d ids).Rise = d.Rise from rfl, h.rise, decide_eq_true (by omega), decide_eq_true (by omega), decide_eq_true (by omega)]
 rfl
theorem zg1 {d : Day} {A B : List Int} (hs : ∀ x, B.contains x = true -> A.contains x = true) (hB : (d.R.any fun r => B.contains r.ID) = true) : (brnD d A).From <= (brnD d B).From /\ (brnD d B).To <= (brnD d A).To := by
 have hA : (d.R.any fun r => A.contains r.ID) = true := by
  obtain ⟨r, hr, hc⟩ := List.any_eq_true.1 hB
  exact List.any_eq_true.2 ⟨r, hr, hs _ hc⟩
 obtain ⟨h1, _, _⟩ := zcO hA
 obtain ⟨_, ⟨r, hr, hc, e⟩, ⟨q, hq, hq1, hq2⟩⟩ := zcO hB
 have g1 := (h1 r hr (hs _ hc)).1
 have g2 := (h1 q hq (hs _ hq1)).2
 omega
theorem zmm {d : Day} (h : DayOk d) {b : Brn} (hb : brnB b = true) (ids : List Int) : givE d.s b (lstD d ids) = 0 := by
 have hn := h.n
 have hl := zki d ids
 unfold givE
 rw [if_neg (fun hh => hh h.s), if_neg (by rw [hb]; decide), if_neg (by omega)]
 refine za5 fun i hi => ?_
 have hm : (lstD d ids).getD i default = (lstD d ids)[i] := by rw [gdq, gqe hi]; rfl
 have hr : (lstD d ids)[i] ∈ d.R := (List.mem_filter.1 (List.getElem_mem hi)).1
 unfold rp1E
 rw [if_neg (fun hh => hh (by rw [hm]; exact (h.rpt hr).1)), if_neg fun hc => ?_]
 have hc := List.contains_iff_mem.1 hc
 rw [hm] at hc
 obtain ⟨x, hx, e⟩ := List.mem_map.1 hc
 obtain ⟨j, hj, rfl⟩ := List.getElem_of_mem hx
 rw [List.length_take] at hj
 rw [List.getElem_take] at e
 have := List.pairwise_iff_getElem.1 (h.nodL ids) j i (by rw [List.length_map]; omega) (by rw [List.length_map]; exact hi) (by omega)
 simp only [List.getElem_map] at this
 exact this e
theorem zk8 {d : Day} (h : DayOk d) {ids : List Int} (hB : (d.R.any fun r => ids.contains r.ID) = true) :
  plsD d ids = if (brnD d ids).To - (brnD d ids).From <= d.Long then plsL d.s.c.M (metP ((lstD d ids).map (alwP d.s (brnD d ids)))) else [] := by
 have e : plcR d.s (brnD d ids) (lstD d ids) = (plsL d.s.c.M (metP ((lstD d ids).map (alwP d.s (brnD d ids)))), 0) := by
  unfold plcR
  rw [if_neg (fun hh => hh (zmm h (zmI h hB) ids))]
 unfold plsD
 rw [e]
theorem zgk {s : Svc} {b b' : Brn} {r : Rpt} {p : Place} (hr : b.Rise = b'.Rise) (hw : within r.Tick b.From b.To = true -> within r.Tick b'.From b'.To = true) (h : seenB s b r p = true) : seenB s b' r p = true := by
 unfold seenB lookB at *
 simp only [Bool.and_eq_true] at *
 rw [<- hr]
 exact ⟨h.1, h.2.1, hw h.2.2⟩
theorem zkU {d : Day} (h : DayOk d) {A B : List Int} (hs : ∀ x, B.contains x = true -> A.contains x = true) (hB : (d.R.any fun r => B.contains r.ID) = true) {r : Rpt} (hr : r ∈ lstD d B) {n : Nat} (ha : alwP d.s (brnD d A) r n = true) : alwP d.s (brnD d B) r n = true := by
 obtain ⟨m1, m2⟩ := zg1 hs hB
 obtain ⟨hr1, hr2⟩ := List.mem_filter.1 hr
 unfold alwP alwK at *
 simp only [Bool.and_eq_true] at *
 refine ⟨ha.1, ?_⟩
 have ha := ha.2
 unfold allB at *
 by_cases hk : r.Kind = 1
 ·rw [if_pos hk] at *
  refine zgk (b := brnD d A) (b' := brnD d B) rfl (fun _ => ?_) ha
  have hc : B.contains r.ID = true := by
   unfold offB at hr2
   simpa [hk] using hr2
  have := (zcO hB).1 r hr1 hc
  unfold within
  simpa using this
 ·rw [if_neg hk] at *
  rw [Bool.not_eq_true'] at *
  rw [Bool.eq_false_iff] at *
  intro hh
  refine ha (zgk (b := brnD d B) (b' := brnD d A) rfl (fun hw => ?_) hh)
  unfold within at *
  simp only [Bool.and_eq_true, decide_eq_true_eq] at *
  omega
theorem zgs {m : Mp} {P : Nat -> Bool} {p : Place} : p ∈ plsL m P ↔ ∃ n, n < m.w * m.h /\ P n = true /\ plc m n = p := by
 unfold plsL plsK
 rw [List.mem_map]
 constructor
 ·rintro ⟨n, hn, e⟩
  rw [List.mem_filter, List.mem_range] at hn
  exact ⟨n, hn.1, hn.2, e⟩
 ·rintro ⟨n, h1, h2, e⟩
  exact ⟨n, List.mem_filter.2 ⟨List.mem_range.2 h1, h2⟩, e⟩
theorem zia {d : Day} (h : DayOk d) {A B : List Int} (hs : ∀ x, B.contains x = true -> A.contains x = true) (hB : (d.R.any fun r => B.contains r.ID) = true) {p : Place} (hp : p ∈ plsD d A) : p ∈ plsD d B := by
 have hA : (d.R.any fun r => A.contains r.ID) = true := by
  obtain ⟨r, hr, hc⟩ := List.any_eq_true.1 hB
  exact List.any_eq_true.2 ⟨r, hr, hs _ hc⟩
 obtain ⟨m1, m2⟩ := zg1 hs hB
 rw [zk8 h hA] at hp
 rw [zk8 h hB]
 split at hp
 ·rename_i g
  rw [if_pos (by omega)]
  obtain ⟨n, h1, h2, e⟩ := zgs.1 hp
  refine zgs.2 ⟨n, h1, ?_, e⟩
  unfold metP at *
  rw [List.all_eq_true] at *
  intro P hP
  obtain ⟨r, hr, rfl⟩ := List.mem_map.1 hP
  have hr' : r ∈ lstD d A := by
   obtain ⟨g1, g2⟩ := List.mem_filter.1 hr
   refine List.mem_filter.2 ⟨g1, ?_⟩
   unfold offB at *
   cases e1 : A.contains r.ID with
   | true => simp
   | false =>
    have : B.contains r.ID = false := by rw [Bool.eq_false_iff]; intro hh; rw [hs _ hh] at e1; cases e1
    rw [this] at g2
    exact g2
  exact zkU h hs hB hr (h2 _ (List.mem_map.2 ⟨r, hr', rfl⟩))
 ·cases hp
theorem zgW (d : Day) (ids : List Int) : (celR d ids).1.length <= 1000000 := by
 unfold celR
 split
 ·exact Nat.zero_le _
 ·show (plsD d ids).length <= 1000000
  unfold plsD
  split
  ·exact zlX
  ·exact Nat.zero_le _
theorem znV {d : Day} (h : few7 d) : d.R.length <= 40 := h.1.2.2.2.2.2
def exR : List Rpt := [⟨1, 1, 1, 1, 100, 450, 0, 10⟩, ⟨2, 1, 2, 2, 110, 1350, 0, 10⟩, ⟨3, 1, 1, 1, 300, 450, 0, 10⟩]
def exS : Svc := ⟨⟨⟨9, 9, List.replicate 81 0⟩, [⟨1, ⟨0, 0⟩, 0⟩, ⟨2, ⟨8, 0⟩, 0⟩], []⟩, ⟨[⟨1, ⟨0, 0⟩, 0, 1000, 0, 0, 0⟩, ⟨2, ⟨8, 0⟩, 0, 1000, 0, 0, 0⟩], []⟩⟩
def exD : Day := ⟨exS, 0, 60, exR⟩
theorem grdE (p : Place) : grd exS.c.M p = 0 := by
 show (List.replicate 81 (0 : Int)).getD _ 0 = 0
 rw [gdq, List.getElem?_replicate]
 split <;> rfl
theorem valE : validM exS.c.M = true := by unfold validM; decide +kernel
theorem zm6 (id : Int) (h : id = 1 \/ id = 2) (p : Place) (hp : onM exS.c.M p = true) (t : Int) (ht : within t 0 1048576 = true) : seesE exS.c id p 0 t = (true, 0) := by
 have e0 : ctryE exS.c = 0 := by unfold ctryE; rw [if_neg (by rw [valE]; decide +kernel)]; unfold towE hzE onM; decide +kernel
 have e1 : (towG exS.c.T id) = (if id = 1 then ⟨1, ⟨0, 0⟩, 0⟩ else ⟨2, ⟨8, 0⟩, 0⟩, true) := by rcases h with rfl | rfl <;> decide +kernel
 have e2 : farZ t exS.c.Z = 100 := rfl
 have op := zai.1 hp
 have ox : 0 <= p.X /\ p.X < 9 := op.1
 have oy : 0 <= p.Y /\ p.Y < 9 := op.2
 unfold seesE
 have e1' : (towG exS.c.T id).2 = true := by rcases h with rfl | rfl <;> decide +kernel
 rw [if_neg (fun hh => hh e0), if_neg (by rw [e1']; decide +kernel), if_neg (by rw [hp, ht]; decide +kernel), e2]
 have e3 : seesB exS.c (towG exS.c.T id).1 p 0 100 = true := by
  unfold seesB
  have on1 : onM exS.c.M ⟨0, 0⟩ = true := by unfold onM; decide +kernel
  have on2 : onM exS.c.M ⟨8, 0⟩ = true := by unfold onM; decide +kernel
  have m1 := mulB (a := p.X) (b := p.X) (x := 20) (y := 20) (by omega) (by omega)
  have m2 := mulB (a := p.Y) (b := p.Y) (x := 20) (y := 20) (by omega) (by omega)
  have m3 := mulB (a := 8 - p.X) (b := 8 - p.X) (x := 20) (y := 20) (by omega) (by omega)
  rw [e1]
  rcases h with rfl | rfl
  ·show (nearB ⟨0, 0⟩ p 100 && freeB exS.c.M ⟨0, 0⟩ 0 p 0) = true
   rw [zfb grdE valE on1 hp (by decide +kernel) (by decide +kernel), Bool.and_true]
   unfold nearB
   refine decide_eq_true ?_
   show (0 - p.X) * (0 - p.X) + (0 - p.Y) * (0 - p.Y) <= 100 * 100
   have a1 : (0 - p.X) * (0 - p.X) = p.X * p.X := by rw [Int.zero_sub, Int.neg_mul_neg]
   have a2 : (0 - p.Y) * (0 - p.Y) = p.Y * p.Y := by rw [Int.zero_sub, Int.neg_mul_neg]
   omega
  ·show (nearB ⟨8, 0⟩ p 100 && freeB exS.c.M ⟨8, 0⟩ 0 p 0) = true
   rw [zfb grdE valE on2 hp (by decide +kernel) (by decide +kernel), Bool.and_true]
   unfold nearB
   refine decide_eq_true ?_
   show (8 - p.X) * (8 - p.X) + (0 - p.Y) * (0 - p.Y) <= 100 * 100
   have a2 : (0 - p.Y) * (0 - p.Y) = p.Y * p.Y := by rw [Int.zero_sub, Int.neg_mul_neg]
   omega
 rw [e3]
theorem thsE (x : Cir) : thsL exS.k x = [thg0 x] := by
 show [thg0 x].mergeSort _ = [thg0 x]
 exact List.mergeSort_singleton _
theorem zerE (id t : Int) (h : id = 1 \/ id = 2) (ht : within t 0 1000 = true) : zerR exS.k id t = (⟨0, 0⟩, 0) := by
 have bt := zaa.1 ht
 have e0 : cirsE exS.k = 0 := by decide +kernel
 have e1 : cirI exS.k id = if id = 1 then 0 else 1 := by rcases h with rfl | rfl <;> decide +kernel
 have go : ∀ x : Cir, x.Drift = 0 -> x.Lo = 0 -> x.Hi = 0 -> knw exS.k id [t] = (x, [thg0 x], 0) -> zerR exS.k id t = (⟨0, 0⟩, 0) := fun x d1 d2 d3 hk => by
  have ec : clsL x [thg0 x] = [] := by
   unfold clsL clsU clsI
   have en : noneB (thg0 x) = false := by unfold noneB; exact decide_eq_false (by show ¬ x.Hi < x.Lo; omega)
   simp [List.range_succ, en, clsJ]
  have ea : atR exS.k id t = (x, [thg0 x], 0) := by
   unfold atR; rw [hk]; dsimp only; rw [if_pos rfl]; unfold agrE; rw [if_pos ec]
  have ed : drf x x.From t = 0 := by unfold drf; rw [d1]; simp
  unfold zerR
  rw [ea, if_neg (fun hh => hh rfl)]
  dsimp only
  unfold zer
  simp only [List.foldl_cons, List.foldl_nil, zStep, thg0, ed, d2, d3]
  simp
 rcases h with rfl | rfl
 ·refine go ⟨1, ⟨0, 0⟩, 0, 1000, 0, 0, 0⟩ rfl rfl rfl ?_
  unfold knw
  rw [if_neg (fun hh => hh e0), e1, if_neg (by decide +kernel), if_pos (by show (within t 0 1000 && true) = true; rw [ht]; rfl), thsE]; rfl
 ·refine go ⟨2, ⟨8, 0⟩, 0, 1000, 0, 0, 0⟩ rfl rfl rfl ?_
  unfold knw
  rw [if_neg (fun hh => hh e0), e1, if_neg (by decide +kernel), if_pos (by show (within t 0 1000 && true) = true; rw [ht]; rfl), thsE]; rfl
theorem wdgE (r : Rpt) (hc : r.C = 1 \/ r.C = 2) (ht : within r.Tick 0 1000 = true) (hs : within r.From 0 3599 = true) (hl : r.Slack = 10) : wdgR exS.k (rdgO r) = (wdg (r.From - 10) 20, 0) := by
 have e1 : cirsE exS.k = 0 := by decide +kernel
 have e2 : rdgE exS.k (rdgO r) = 0 := by
  unfold rdgE rdgO
  rw [if_neg (fun hh => hh e1)]
  rw [if_neg]
  dsimp only
  rw [hs, hl]; decide +kernel
 have e3 : zerR exS.k (rdgO r).C (rdgO r).Tick = (⟨0, 0⟩, 0) := zerE r.C r.Tick hc ht
 unfold wdgR
 rw [if_neg (fun hh => hh e2), e3, if_neg (fun hh => hh rfl)]
 show (if (900 : Int) < 2 * r.Slack + 0 - 0 then _ else (wdg (r.From - r.Slack - 0) (2 * r.Slack + 0 - 0), (0 : Int))) = _
 rw [hl, if_neg (by decide +kernel)]
 congr 2
 omega
theorem blkE (r : Rpt) (hc : r.C = 1 \/ r.C = 2) (ht : within r.Tick 0 1000 = true) (h : ¬ (r.To - r.From) % 3600 < 2 * r.Slack + 0 - 0) : blkR exS r = (⟨(r.From + r.Slack) % 3600, (r.To - r.Slack) % 3600⟩, true) := by
 have e3 := zerE r.C r.Tick hc ht
 unfold blkR
 rw [e3]
 dsimp only
 rw [if_neg h]
 simp
def lieE (w : Wdg) (a : Place) (n : Nat) : Bool := decide (n < 81) && liesW w a ⟨((n % 9 : Nat) : Int), ((n / 9 : Nat) : Int)⟩
def notE (w : Wdg) (a : Place) (n : Nat) : Bool := decide (n < 81) && !liesW w a ⟨((n % 9 : Nat) : Int), ((n / 9 : Nat) : Int)⟩
theorem plcE {n : Nat} (h : n < 81) : onM exS.c.M (plc exS.c.M n) = true := zno valE h
theorem zix (b : Brn) (hr : b.Rise = 0) (r : Rpt) (hw : r.Tower = 1 \/ r.Tower = 2) (ht : within r.Tick 0 1048576 = true) {n : Nat} (h : n < 81) : lookB exS b r (plc exS.c.M n) = within r.Tick b.From b.To := by
 unfold lookB
 rw [hr, zm6 r.Tower hw _ (plcE h) r.Tick ht]
 show (true && true && within r.Tick b.From b.To) = _
 cases within r.Tick b.From b.To <;> rfl
theorem zjx (b : Brn) (hr : b.Rise = 0) (r : Rpt) (w : Wdg) (a : Place) (hk : r.Kind = 1) (hw : r.Tower = 1 \/ r.Tower = 2) (ht : within r.Tick 0 1048576 = true) (hb : within r.Tick b.From b.To = true) (hs : secR exS r = (w, true)) (ha : (towG exS.c.T r.Tower).1.At = a) : alwP exS b r = lieE w a := by
 funext n
 unfold alwP alwK lieE
 show (decide (n < 81) && _) = _
 by_cases h : n < 81
 ·refine congrArg (decide (n < 81) && ·) ?_
  unfold allB seenB
  rw [if_pos hk, hs, ha, zix b hr r hw ht h, hb, Bool.and_true]; rfl
 ·rw [decide_eq_false h]; rfl
theorem zoc (b : Brn) (hr : b.Rise = 0) (r : Rpt) (w : Wdg) (a : Place) (hk : r.Kind ≠ 1) (hw : r.Tower = 1 \/ r.Tower = 2) (ht : within r.Tick 0 1048576 = true) (hb : within r.Tick b.From b.To = true) (hs : secR exS r = (w, true)) (ha : (towG exS.c.T r.Tower).1.At = a) : alwP exS b r = notE w a := by
 funext n
 unfold alwP alwK notE
 show (decide (n < 81) && _) = _
 by_cases h : n < 81
 ·refine congrArg (decide (n < 81) && ·) ?_
  unfold allB seenB
  rw [if_neg hk, hs, ha, zix b hr r hw ht h, hb, Bool.and_true]; rfl
 ·rw [decide_eq_false h]; rfl
def xq1 : Rpt := ⟨1, 1, 1, 1, 100, 450, 0, 10⟩
def xq2 : Rpt := ⟨2, 1, 2, 2, 110, 1350, 0, 10⟩
def xq3 : Rpt := ⟨3, 1, 1, 1, 300, 450, 0, 10⟩
def xq4 : Rpt := ⟨4, 2, 1, 1, 105, 400, 500, 10⟩
def exD4 : Day := ⟨exS, 0, 60, [xq1, xq2, xq3, xq4]⟩
theorem svcEx : svcE exS = 0 := by
 have e0 : ctryE exS.c = 0 := by unfold ctryE; rw [if_neg (by rw [valE]; decide +kernel)]; unfold towE hzE onM; decide +kernel
 have e1 : cirsE exS.k = 0 := by decide +kernel
 unfold svcE
 rw [if_neg (fun hh => hh e0), if_neg (fun hh => hh e1)]
 decide +kernel
theorem zjW (r : Rpt) (hf : frmB r = true) (hc : r.C = 1 \/ r.C = 2) (ht : within r.Tick 0 1000 = true) (hw : r.Tower = r.C) (hk : r.Kind = 1 -> within r.From 0 3599 = true /\ r.Slack = 10) : rptE exS r = 0 := by
 have e3 := zerE r.C r.Tick hc ht
 unfold rptE
 rw [if_neg (by rw [hf]; decide +kernel), hw, e3]
 have e4 : ¬ ((towG exS.c.T r.C).2 = false \/ cirI exS.k r.C < 0) := by rcases hc with e | e <;> rw [e] <;> decide +kernel
 have e5 : (exS.k.C.getD (cirI exS.k r.C).toNat default).At = (towG exS.c.T r.C).1.At := by rcases hc with e | e <;> rw [e] <;> decide +kernel
 rw [if_neg e4, if_neg (fun hh => hh e5), if_neg (fun hh => hh rfl)]
 split
 ·rename_i h1
  rw [wdgE r hc ht (hk h1).1 (hk h1).2]
 ·rfl
theorem sx1 : secR exS xq1 = (⟨440, 460⟩, true) := by
 unfold secR
 rw [if_pos (by rfl), wdgE xq1 (.inl rfl) (by decide +kernel) (by decide +kernel) rfl]; decide +kernel
theorem sx2 : secR exS xq2 = (⟨1340, 1360⟩, true) := by
 unfold secR
 rw [if_pos (by rfl), wdgE xq2 (.inr rfl) (by decide +kernel) (by decide +kernel) rfl]; decide +kernel
theorem sx3 : secR exS xq3 = (⟨440, 460⟩, true) := by
 unfold secR
 rw [if_pos (by rfl), wdgE xq3 (.inl rfl) (by decide +kernel) (by decide +kernel) rfl]; decide +kernel
theorem sx4 : secR exS xq4 = (⟨410, 490⟩, true) := by
 unfold secR
 rw [if_neg (by decide +kernel), blkE xq4 (.inl rfl) (by decide +kernel) (by decide +kernel)]; decide +kernel
theorem rx1 : rptE exS xq1 = 0 := zjW xq1 (by decide +kernel) (.inl rfl) (by decide +kernel) rfl fun _ => ⟨by decide +kernel, rfl⟩
theorem rx2 : rptE exS xq2 = 0 := zjW xq2 (by decide +kernel) (.inr rfl) (by decide +kernel) rfl fun _ => ⟨by decide +kernel, rfl⟩
theorem rx3 : rptE exS xq3 = 0 := zjW xq3 (by decide +kernel) (.inl rfl) (by decide +kernel) rfl fun _ => ⟨by decide +kernel, rfl⟩
theorem rx4 : rptE exS xq4 = 0 := zjW xq4 (by decide +kernel) (.inl rfl) (by decide +kernel) rfl fun h => absurd h (by decide +kernel)
abbrev B1 : Nat -> Bool := lieE ⟨440, 460⟩ ⟨0, 0⟩
abbrev B2 : Nat -> Bool := lieE ⟨1340, 1360⟩ ⟨8, 0⟩
abbrev B4 : Nat -> Bool := notE ⟨410, 490⟩ ⟨0, 0⟩
def fullE (n : Nat) : Bool := decide (n < 81)
theorem zob (b : Brn) (hr : b.Rise = 0) (r : Rpt) (hk : r.Kind ≠ 1) (hw : r.Tower = 1 \/ r.Tower = 2) (ht : within r.Tick 0 1048576 = true) (hb : within r.Tick b.From b.To = false) : alwP exS b r = fullE := by
 funext n
 unfold alwP alwK fullE
 show (decide (n < 81) && _) = _
 by_cases h : n < 81
 ·rw [decide_eq_true h, Bool.true_and]
  unfold allB seenB
  rw [if_neg hk]
  show (!(_ && lookB exS b r (plc exS.c.M n))) = true
  rw [zix b hr r hw ht h, hb, Bool.and_false]; rfl
 ·rw [decide_eq_false h]; rfl
theorem a1 (b : Brn) (hr : b.Rise = 0) (hb : within 100 b.From b.To = true) : alwP exS b xq1 = B1 := zjx b hr xq1 _ _ rfl (.inl rfl) (by decide +kernel) hb sx1 (by decide +kernel)
theorem a2 (b : Brn) (hr : b.Rise = 0) (hb : within 110 b.From b.To = true) : alwP exS b xq2 = B2 := zjx b hr xq2 _ _ rfl (.inr rfl) (by decide +kernel) hb sx2 (by decide +kernel)
theorem a3 (b : Brn) (hr : b.Rise = 0) (hb : within 300 b.From b.To = true) : alwP exS b xq3 = B1 := zjx b hr xq3 _ _ rfl (.inl rfl) (by decide +kernel) hb sx3 (by decide +kernel)
theorem a4y (b : Brn) (hr : b.Rise = 0) (hb : within 105 b.From b.To = true) : alwP exS b xq4 = B4 := zoc b hr xq4 _ _ (by decide +kernel) (.inl rfl) (by decide +kernel) hb sx4 (by decide +kernel)
theorem a4n (b : Brn) (hr : b.Rise = 0) (hb : within 105 b.From b.To = false) : alwP exS b xq4 = fullE := zob b hr xq4 (by decide +kernel) (.inl rfl) (by decide +kernel) hb
theorem znM (b : Brn) (hb : brnB b = true) (l : List Rpt) (h24 : ¬ 24 < l.length) (h : ∀ r ∈ l, rptE exS r = 0) (hd : (l.map Rpt.ID).Nodup) : givE exS b l = 0 := by
 unfold givE
 rw [if_neg (fun hh => hh svcEx), if_neg (by rw [hb]; decide), if_neg h24]
 refine za5 fun i hi => ?_
 have hm : l.getD i default = l[i] := by rw [gdq, gqe hi]; rfl
 unfold rp1E
 rw [if_neg (fun hh => hh (by rw [hm]; exact h _ (List.getElem_mem hi))), if_neg fun hc => ?_]
 have hc := List.contains_iff_mem.1 hc
 rw [hm] at hc
 obtain ⟨x, hx, e⟩ := List.mem_map.1 hc
 obtain ⟨j, hj, rfl⟩ := List.getElem_of_mem hx
 rw [List.length_take] at hj
 rw [List.getElem_take] at e
 have := List.pairwise_iff_getElem.1 hd j i (by rw [List.length_map]; omega) (by rw [List.length_map]; exact hi) (by omega)
 simp only [List.getElem_map] at this
 exact this e
theorem znn {b : Brn} {l : List Rpt} {As : List (Nat -> Bool)} (hb : brnB b = true) (h24 : ¬ 24 < l.length) (h : ∀ r ∈ l, rptE exS r = 0) (hd : (l.map Rpt.ID).Nodup) (ha : l.map (alwP exS b) = As) : (plcR exS b l).1 = plsL exS.c.M (metP As) := by
 unfold plcR
 rw [if_neg (fun hh => hh (znM b hb l h24 h hd)), ha]
theorem sig3 : sigL exR = [1, 2, 3] := by
 unfold sigL
 rw [List.mergeSort_of_pairwise (by decide +kernel)]
 decide +kernel
theorem sig4 : sigL [xq1, xq2, xq3, xq4] = [1, 2, 3] := by
 unfold sigL
 rw [List.mergeSort_of_pairwise (by decide +kernel)]
 decide +kernel
theorem zbl {d : Day} {ids : List Int} {b : Brn} {l : List Rpt} {As : List (Nat -> Bool)} {L : List Place} (hs : d.s = exS) (hl : d.Long = 60) (eb : brnD d ids = b) (el : lstD d ids = l) (sh : b.To - b.From <= 60) (hb : brnB b = true) (h24 : ¬ 24 < l.length) (h : ∀ r ∈ l, rptE exS r = 0) (hd : (l.map Rpt.ID).Nodup) (ha : l.map (alwP exS b) = As) (hL : plsL exS.c.M (metP As) = L) : plsD d ids = L := by
 unfold plsD
 rw [eb, el, hs, hl, if_pos sh, znn hb h24 h hd ha, hL]
theorem zce {d : Day} {ids : List Int} {b : Brn} (hl : d.Long = 60) (eb : brnD d ids = b) (sh : ¬ b.To - b.From <= 60) : plsD d ids = [] := by
 unfold plsD
 rw [eb, hl, if_neg sh]
theorem znC (m : Nat) : memb [1, 2, 3] m = memb [1, 2, 3] (m % 8) := by
 unfold memb membA
 congr 1
 refine List.filter_congr fun i hi => ?_
 have hi : i < 3 := List.mem_range.1 hi
 show m.testBit i = (m % 2 ^ 3).testBit i
 rw [Nat.testBit_mod_two_pow, decide_eq_true hi, Bool.true_and]
abbrev L1 : List Place := [⟨1, 1⟩, ⟨2, 2⟩, ⟨3, 3⟩, ⟨4, 4⟩, ⟨5, 5⟩, ⟨6, 6⟩, ⟨7, 7⟩, ⟨8, 8⟩]
abbrev L2 : List Place := [⟨7, 1⟩, ⟨6, 2⟩, ⟨5, 3⟩, ⟨4, 4⟩, ⟨3, 5⟩, ⟨2, 6⟩, ⟨1, 7⟩, ⟨0, 8⟩]
theorem m1 : plsL exS.c.M (metP [B1]) = L1 := by decide +kernel
theorem m2 : plsL exS.c.M (metP [B2]) = L2 := by decide +kernel
theorem m12 : plsL exS.c.M (metP [B1, B2]) = [⟨4, 4⟩] := by decide +kernel
theorem m1f : plsL exS.c.M (metP [B1, fullE]) = L1 := by decide +kernel
theorem m2f : plsL exS.c.M (metP [B2, fullE]) = L2 := by decide +kernel
theorem m124 : plsL exS.c.M (metP [B1, B2, B4]) = [] := by decide +kernel
theorem c1 : plsD exD [1] = L1 := zbl (b := ⟨100, 100, 0⟩) (l := [xq1]) (As := [B1]) rfl rfl (by decide +kernel) (by decide +kernel) (by decide +kernel) (by decide +kernel) (by decide +kernel) (fun r hr => by rw [List.mem_singleton.1 hr]; exact rx1) (by decide +kernel) (by
  simp only [List.map_cons, List.map_nil]
  rw [a1 _ rfl (by decide +kernel)]) m1
theorem c2 : plsD exD [2] = L2 := zbl (b := ⟨110, 110, 0⟩) (l := [xq2]) (As := [B2]) rfl rfl (by decide +kernel) (by decide +kernel) (by decide +kernel) (by decide +kernel) (by decide +kernel) (fun r hr => by rw [List.mem_singleton.1 hr]; exact rx2) (by decide +kernel) (by
  simp only [List.map_cons, List.map_nil]
  rw [a2 _ rfl (by decide +kernel)]) m2
theorem c3 : plsD exD [1, 2] = [⟨4, 4⟩] := zbl (b := ⟨100, 110, 0⟩) (l := [xq1, xq2]) (As := [B1, B2]) rfl rfl (by decide +kernel) (by decide +kernel) (by decide +kernel) (by decide +kernel) (by decide +kernel) (fun r hr => by
  simp only [List.mem_cons, List.not_mem_nil, or_false] at hr
  rcases hr with rfl | rfl
  ·exact rx1
  ·exact rx2
  ) (by decide +kernel) (by
  simp only [List.map_cons, List.map_nil]
  rw [a1 _ rfl (by decide +kernel), a2 _ rfl (by decide +kernel)]) m12
theorem c4 : plsD exD [3] = L1 := zbl (b := ⟨300, 300, 0⟩) (l := [xq3]) (As := [B1]) rfl rfl (by decide +kernel) (by decide +kernel) (by decide +kernel) (by decide +kernel) (by decide +kernel) (fun r hr => by rw [List.mem_singleton.1 hr]; exact rx3) (by decide +kernel) (by
  simp only [List.map_cons, List.map_nil]
  rw [a3 _ rfl (by decide +kernel)]) m1
theorem e1 : plsD exD4 [1] = L1 := zbl (b := ⟨100, 100, 0⟩) (l := [xq1, xq4]) (As := [B1, fullE]) rfl rfl (by decide +kernel) (by decide +kernel) (by decide +kernel) (by decide +kernel) (by decide +kernel) (fun r hr => by
  simp only [List.mem_cons, List.not_mem_nil, or_false] at hr
  rcases hr with rfl | rfl
  ·exact rx1
  ·exact rx4
  ) (by decide +kernel) (by
  simp only [List.map_cons, List.map_nil]
  rw [a1 _ rfl (by decide +kernel), a4n _ rfl (by decide +kernel)]) m1f
theorem e2 : plsD exD4 [2] = L2 := zbl (b := ⟨110, 110, 0⟩) (l := [xq2, xq4]) (As := [B2, fullE]) rfl rfl (by decide +kernel) (by decide +kernel) (by decide +kernel) (by decide +kernel) (by decide +kernel) (fun r hr => by
  simp only [List.mem_cons, List.not_mem_nil, or_false] at hr
  rcases hr with rfl | rfl
  ·exact rx2
  ·exact rx4
  ) (by decide +kernel) (by
  simp only [List.map_cons, List.map_nil]
  rw [a2 _ rfl (by decide +kernel), a4n _ rfl (by decide +kernel)]) m2f
theorem e3 : plsD exD4 [1, 2] = [] := zbl (b := ⟨100, 110, 0⟩) (l := [xq1, xq2, xq4]) (As := [B1, B2, B4]) rfl rfl (by decide +kernel) (by decide +kernel) (by decide +kernel) (by decide +kernel) (by decide +kernel) (fun r hr => by
  simp only [List.mem_cons, List.not_mem_nil, or_false] at hr
  rcases hr with rfl | rfl | rfl
  ·exact rx1
  ·exact rx2
  ·exact rx4
  ) (by decide +kernel) (by
  simp only [List.map_cons, List.map_nil]
  rw [a1 _ rfl (by decide +kernel), a2 _ rfl (by decide +kernel), a4y _ rfl (by decide +kernel)]) m124
theorem e4 : plsD exD4 [3] = L1 := zbl (b := ⟨300, 300, 0⟩) (l := [xq3, xq4]) (As := [B1, fullE]) rfl rfl (by decide +kernel) (by decide +kernel) (by decide +kernel) (by decide +kernel) (by decide +kernel) (fun r hr => by
  simp only [List.mem_cons, List.not_mem_nil, or_false] at hr
  rcases hr with rfl | rfl
  ·exact rx3
  ·exact rx4
  ) (by decide +kernel) (by
  simp only [List.map_cons, List.map_nil]
  rw [a3 _ rfl (by decide +kernel), a4n _ rfl (by decide +kernel)]) m1f
theorem c5 : plsD exD [1, 3] = [] := zce (b := ⟨100, 300, 0⟩) rfl (by decide +kernel) (by decide +kernel)
theorem c6 : plsD exD [2, 3] = [] := zce (b := ⟨110, 300, 0⟩) rfl (by decide +kernel) (by decide +kernel)
theorem c7 : plsD exD [1, 2, 3] = [] := zce (b := ⟨100, 300, 0⟩) rfl (by decide +kernel) (by decide +kernel)
theorem e5 : plsD exD4 [1, 3] = [] := zce (b := ⟨100, 300, 0⟩) rfl (by decide +kernel) (by decide +kernel)
theorem e6 : plsD exD4 [2, 3] = [] := zce (b := ⟨110, 300, 0⟩) rfl (by decide +kernel) (by decide +kernel)
theorem e7 : plsD exD4 [1, 2, 3] = [] := zce (b := ⟨100, 300, 0⟩) rfl (by decide +kernel) (by decide +kernel)
def T3 (m : Nat) : List Place := match m % 8 with
 | 1 => L1 | 2 => L2 | 3 => [⟨4, 4⟩] | 4 => L1 | 0 => plsD exD [] | _ => []
def T4 (m : Nat) : List Place := match m % 8 with
 | 1 => L1 | 2 => L2 | 4 => L1 | 0 => plsD exD4 [] | _ => []
theorem cel3 (m : Nat) : celD exD m = T3 m := by
 have h : celD exD m = plsD exD (memb [1, 2, 3] (m % 8)) := by
  show plsD exD (memb (sigL exR) m) = _
  rw [sig3, znC]
 rw [h]
 have h8 : m % 8 < 8 := Nat.mod_lt _ (by decide)
 unfold T3
 generalize m % 8 = k at h8
 match k, h8 with
 | 0, _ => rfl
 | 1, _ => exact c1
 | 2, _ => exact c2
 | 3, _ => exact c3
 | 4, _ => exact c4
 | 5, _ => exact c5
 | 6, _ => exact c6
 | 7, _ => exact c7
theorem cel4 (m : Nat) : celD exD4 m = T4 m := by
 have h : celD exD4 m = plsD exD4 (memb [1, 2, 3] (m % 8)) := by
  show plsD exD4 (memb (sigL [xq1, xq2, xq3, xq4]) m) = _
  rw [sig4, znC]
 rw [h]
 have h8 : m % 8 < 8 := Nat.mod_lt _ (by decide)
 unfold T4
 generalize m % 8 = k at h8
 match k, h8 with
 | 0, _ => rfl
 | 1, _ => exact e1
 | 2, _ => exact e2
 | 3, _ => exact e3
 | 4, _ => exact e4
 | 5, _ => exact e5
 | 6, _ => exact e6
 | 7, _ => exact e7
def EYC {τ : Type} (xs : List τ) (enc : τ -> List V1) (cuts : List Nat) (l : Nat) : Env := ⟨ET, false, l, fun n vs => ∃ x, xs[n]? = some x /\ vs = enc x, true, fun i => cuts.any (Nat.beq i)⟩
theorem zhD {τ : Type} {xs : List τ} {enc : τ -> List V1} (k : Nat) (vs : List V1) : (∃ x, xs[k]? = some x /\ vs = enc x) ↔ (xs.map enc)[k]? = some vs := by
 rw [List.getElem?_map]
 cases xs[k]? with
 | none => simp
 | some x => simp; exact eq_comm
theorem zgg (cuts : List Nat) {f : FuncId} {fn : Func} {c : Code} (hf : PP.funcs[f]? = some fn) (hb : fn.body = some c) (hq : ((fn.name == "runtime.NumGoroutine") || !(codeN fn.ntmps c && Nat.ble fn.ntmps 4294967296)) = false)
  {τ : Type} {xs : List τ} {enc : τ -> List V1} {n m : Nat} (args : Nat -> List AV) {obs obs' : Nat -> List (Nat × Ob)} (ts : List Nat) (hts : fn.results.toList = ts.map ResultVar.tmp) (pins : List (Nat × Nat)) {res resF : List V1} (hlr : ts.length = res.length) (hlF : ts.length = resF.length) (hfl : resF.all V1.flat = true)
  (hr : ∀ l, ∀ v ∈ args l, ∀ j ∈ v.refs, (look (obs l) j).isSome = true) (hpn : (G :: (pins.map Prod.fst ++ ts)).Nodup) (hsz : ∀ l, Nat.ble (args l).length fn.ntmps = true)
  (h : ∀ l γ, awp PP TTab (EYC xs enc cuts l) c (St.of ((G, .gho (some n)) :: slotsM γ 0 (args l)) (obs l)) (retYM ts res resF γ pins (n + m) (obs' l))) : SpecY PP f (xs.map enc) n m args obs obs' (pins.map Prod.snd) res resF := by
 simp only [Bool.or_eq_false_iff, Bool.not_eq_false', Bool.and_eq_true] at hq
 exact zgf hT (eq := ET) hE hM hf hb hq.1 hq.2.1 (Nat.le_of_ble_eq_true hq.2.2) args ts hts pins hlr hlF hfl hr hpn (fun l => Nat.le_of_ble_eq_true (hsz l)) (yd := fun n vs => ∃ x, xs[n]? = some x /\ vs = enc x) zhD (fun i => cuts.any (Nat.beq i)) (fun _ _ _ _ hk => hk) h
section
variable {s : St} {o : Oper} {fo : Operand} {K : St -> Prop} {args : List Operand} {τ : Type} {xs : List τ} {enc : τ -> List V1} {cuts : List Nat} {l : Nat}
theorem CallSt.ydC {d n : Nat} {x : τ} (sl : List (Nat × AV)) (ob : List (Nat × Ob)) (hd : o.dst = some d) (hf : ev s fo = .yl l) (hg : s.sl G = .gho (some n)) (hG : look sl G = none) (hw : Weak s sl ob) (hx : xs[n]? = some x) (hv : toV1s s (args.map (ev s)) = some (enc x))
  (hno : (args.map (ev s)).all (fun v => !v.isOwn) = true) (k1 : K ((St.of ((G, .gho (some (n + 1))) :: sl) ob).put d (.d (.bool true)))) (k2 : K ((St.of ((G, .gho none) :: stillS sl) []).put d (.d (.bool false)))) : CallSt (EYC xs enc cuts l) PP s o fo args K := by
 rw [zaf]
 exact .inr (.inr (.inr (.inl ⟨⟨n, d, sl, ob, _, hd, hf, hg, hG, hw, hv, hno, ⟨x, hx, rfl⟩, k1, k2⟩⟩)))
theorem CallSt.cy {n m : Nat} {f : FuncId} {ex : List AV} {ags : Nat -> List AV} {obs obs' : Nat -> List (Nat × Ob)} {pins : List Nat} {res resF : List V1} (sl : List (Nat × AV)) (rest : List (Nat × Ob)) (h : SpecY PP f (xs.map enc) n m ags obs obs' pins res resF)
  (hg : s.sl G = .gho (some n)) (hG : look sl G = none) (hw : Weak s sl (obs l ++ rest)) (hc : calleeM (ev (St.of sl (obs l ++ rest)) fo) = some (f, ex)) (ha : (args.map (ev (St.of sl (obs l ++ rest))) ++ ex).map (fixA (obs l)) = ags l) (hm : closM (obs l) = true) (hgm : goodM sl (obs l) (obs' l) rest pins = true)
  (k1 : K ((St.of ((G, .gho (some (n + m))) :: sl) (obs' l ++ rest)).putO o.dst (resAV res))) (k2 : K ((St.of ((G, .gho none) :: stillS sl) []).putO o.dst (resAV resF))) : CallSt (EYC xs enc cuts l) PP s o fo args K := by
 rw [zaf]
 exact .inr (.inr (.inr (.inr ⟨⟨_, n, m, f, ex, ags, sl, rest, obs, obs', pins, res, resF, zhD, h, hg, hG, hw, hc, ha, hm, hgm, k1, k2⟩⟩)))
end
abbrev rowII (ss : List (List Int)) : Nat -> Nat -> D := fun i _ => lI (ss.getD i [])
theorem zm5 {ss : List (List Int)} {k k' : Nat} {s' : List Int} {y : D} (hk : k < ss.length) (e1 : k' = k) (hy : D.eqv y (lI s')) : D.eqv (.slc 1 ss.length (storeRow (rowII ss) k' 0 [y])) (.slc 1 (ss.set k s').length (rowII (ss.set k s'))) := by
 subst e1
 refine ⟨List.length_set.symm, .inr ⟨rfl, fun i hi j hj => ?_⟩⟩
 show D.eqv (storeRow (rowII ss) k' 0 [y] i j) (lI ((ss.set k' s').getD i []))
 rw [zb0 ss k' i s' [] hk]
 obtain rfl : j = 0 := by omega
 unfold storeRow
 by_cases h : i = k'
 ·rw [if_pos h, if_pos ⟨h, Nat.le_refl _, by simp⟩]
  exact hy
 ·rw [if_neg h, if_neg fun hh => h hh.1]
  exact dE _
theorem zk6 {ss : List (List Int)} {s : List Int} {n : Nat} {g : Nat -> Nat -> D} (hn : n = ss.length) (hg : D.eqv (g 0 0) (lI s)) : D.eqv (.slc 1 (n + 1) (appRow n (rowII ss) g)) (.slc 1 (ss ++ [s]).length (rowII (ss ++ [s]))) := by
 subst hn
 refine ⟨by simp, .inr ⟨rfl, fun i hi j hj => ?_⟩⟩
 show D.eqv (appRow ss.length (rowII ss) g i j) (lI ((ss ++ [s]).getD i []))
 obtain rfl : j = 0 := by omega
 unfold appRow
 by_cases h : i < ss.length
 ·rw [if_pos h, gdq (l := ss ++ [s]), List.getElem?_append_left h, <- gdq]
  exact dE _
 ·have e : i = ss.length := by omega
  subst e
  rw [if_neg h, Nat.sub_self, gdq, List.getElem?_append_right (Nat.le_refl _), Nat.sub_self]
  exact hg
theorem zj8 (l : List Int) (hn : l.length <= 1000000) : SpecO PP 152 [.d (lI l)] 3 1 l.length (rowI l) := by
 refine zcG Tryz.func152 rfl (by kernel_rfl) rfl ?_
 refine fun b hb => ?_
 apply bY <;> intro h1
 ·have h0 := hb h1
  refine ⟨rfl, rfl, h0.symm, fun i hi => ?_⟩
  omega
 ·refine ⟨⟨.inr rfl, by unfold maxLen; omega, by show (0 + l.length) * 8 <= 140737488355328; omega⟩, ?_⟩
  refine ⟨rfl, rfl, Nat.zero_add _, fun i hi j hj => ?_⟩
  exact dE _
theorem zlY (l : List Int) (hn : l.length <= 1000000) : Spec PP 152 [.d (lI l)] [.d (lI l)] := by
 refine sA Tryz.func152 ?_
 refine fun b hb => ?_
 apply bY <;> intro h1
 ·have h0 := hb h1
  exact ⟨⟨_, _, _, _, rfl, h0.symm, .inl rfl⟩, trivial⟩
 ·refine ⟨⟨.inr rfl, by unfold maxLen; omega, by show (0 + l.length) * 8 <= 140737488355328; omega⟩, ?_⟩
  exact ⟨⟨_, _, _, _, rfl, Nat.zero_add _, .inr ⟨rfl, fun i hi j hj => dE _⟩⟩, trivial⟩
def Sub {α : Type} (L : List α) (n : Nat) (L' : List α) : Prop := ∃ u, u.length = n /\ u ++ L' <+: L
theorem Sub.pre {α : Type} {L L' L2 : List α} {n : Nat} (h : Sub L n L') (hp : L2 <+: L') : Sub L n L2 := by
 obtain ⟨u, h1, h2⟩ := h
 exact ⟨u, h1, List.IsPrefix.trans ((List.prefix_append_right_inj _).2 hp) h2⟩
theorem Sub.snd {α : Type} {L L1 L2 : List α} {n : Nat} (h : Sub L n (L1 ++ L2)) : Sub L (n + L1.length) L2 := by
 obtain ⟨u, h1, h2⟩ := h
 exact ⟨u ++ L1, by rw [List.length_append, h1], by rw [List.append_assoc]; exact h2⟩
theorem Sub.get {α : Type} {L L' : List α} {x : α} {n : Nat} (h : Sub L n (x :: L')) : L[n]? = some x := by
 obtain ⟨u, rfl, t, h2⟩ := h
 rw [<- h2]
 simp
def prtK {α : Type} (ok : List α -> Bool) (a : α) (r : List α) (ss : List (List α)) (k : Nat) : List (List (List α)) := (List.range k).flatMap fun k => prt ok r (ss.set k (ss.getD k [] ++ [a]))
theorem zcW {α : Type} (ok : List α -> Bool) (a : α) (r : List α) (ss : List (List α)) (k : Nat) : prtK ok a r ss (k + 1) = prtK ok a r ss k ++ prt ok r (ss.set k (ss.getD k [] ++ [a])) := by
 unfold prtK
 rw [List.range_succ, List.flatMap_append]; simp
theorem zgr {α : Type} (ok : List α -> Bool) (a : α) (r : List α) (ss : List (List α)) : ∀ {k m : Nat}, k <= m -> prtK ok a r ss k <+: prtK ok a r ss m
  | k, 0, h => by obtain rfl : k = 0 := by omega
                  exact List.prefix_rfl
  | k, m + 1, h => by
    by_cases e : k = m + 1
    · subst e; exact List.prefix_rfl
    · rw [zcW]
      exact List.IsPrefix.trans (zgr ok a r ss (by omega)) (List.prefix_append _ _)
theorem zj7 {α : Type} (ok : List α -> Bool) (a : α) (r : List α) (ss : List (List α)) : prt ok (a :: r) ss = prtK ok a r ss ss.length ++ prt ok r (ss ++ [[a]]) := rfl
section
variable (ids : List Int) (g0 : FuncId) (c0 : D) (ok : List Int -> Bool)
abbrev enP (p : List (List Int)) : List V1 := [.d (lII p)]
abbrev allP : List (List (List Int)) := prt ok ids []
abbrev posD : D := capB [cloB g0 [c0]]
def putCaps : List Cap := [.dat (capB [lI ids]), .own 4, .dat (posD g0 c0), .own 3, .own 5]
def putObs (ss : List (List Int)) (l : Nat) : List (Nat × Ob) := [(4, .box [.own 100]), (100, .row 22 1 ss.length (rowII ss)), (3, .box [.yl l]), (5, .box [.clo 151 (putCaps ids g0 c0)])]
def putArgs (i : Nat) (_ : Nat) : List AV := [.d (I i), .d (capB [lI ids]), .box 4 0, .d (posD g0 c0), .box 3 0, .box 5 0]
end
section
variable (ids : List Int) (g0 : FuncId) (c0 : D) (ok : List Int -> Bool)
abbrev putSl (γ : Nat -> Value) (i : Nat) : List (Nat × AV) := [(0, .d (I i)), (1, .d (capB [lI ids])), (2, .pbox 4 (γ 4)), (3, .d (posD g0 c0)), (4, .pbox 3 (γ 3)), (5, .pbox 5 (γ 5))]
theorem zgp (i : Nat) (ss : List (List Int)) : ∀ l, ∀ v ∈ putArgs ids g0 c0 i l, ∀ j ∈ v.refs, (look (putObs ids g0 c0 ss l) j).isSome = true := by
 intro l v hv j hj
 simp only [putArgs, List.mem_cons, List.not_mem_nil, or_false] at hv
 rcases hv with rfl | rfl | rfl | rfl | rfl | rfl
 ·cases hj
 ·cases hj
 ·obtain rfl : j = 4 := by simpa [AV.refs] using hj
  rfl
 ·cases hj
 ·obtain rfl : j = 3 := by simpa [AV.refs] using hj
  rfl
 ·obtain rfl : j = 5 := by simpa [AV.refs] using hj
  rfl
theorem zns (hn : ids.length <= 7) (hok : ∀ s : List Int, s.length <= 7 -> Spec PP g0 [.d (lI s), .d c0] [B (ok s)]) (ss : List (List Int)) (n : Nat) (hs : ss.length <= 7) (hl : ∀ s ∈ ss, s.length <= 7) (hsub : Sub (allP ids ok) n (prt ok [] ss)) :
  SpecY PP 151 ((allP ids ok).map enP) n (prt ok [] ss).length (putArgs ids g0 c0 ids.length) (putObs ids g0 c0 ss) (putObs ids g0 c0 ss) [4, 3, 5] [B true] [B false] := by
 refine zgg [10] Tryz.func151 rfl (by kernel_rfl) (putArgs ids g0 c0 ids.length) [7] rfl [(2, 4), (4, 3), (5, 5)] rfl rfl rfl (zgp ids g0 c0 _ ss) (by decide) (fun _ => rfl) fun l γ => ?_
 refine Split.yes (by simp) ?_
 refine LoopOb.of (σ := Nat) (fun j => ([(G, .gho (some n)), (0, .d (I ids.length)), (1, .d (capB [lI ids])), (2, .pbox 4 (γ 4)), (3, .d (posD g0 c0)), (4, .pbox 3 (γ 3)), (5, .pbox 5 (γ 5)), (8, .own 17), (18, .own 100), (19, .d (I ss.length)), (20, .d (I j))],
   [(4, .box [.own 100]), (100, .row 22 1 ss.length (rowII ss)), (3, .box [.yl l]), (5, .box [.clo 151 (putCaps ids g0 c0)]), (17, .row 22 1 (ss.take j).length (rowII (ss.take j)))])) (fun j => j <= ss.length /\ ∀ q, q < j -> ok (ss.getD q []) = true) (fun j => ss.length - j) 0
  ⟨rfl, ⟨obX rfl, obR rfl (dE _), obX rfl, obX rfl, obR rfl ⟨rfl, .inl rfl⟩, trivial⟩, wq rfl⟩ z0L fun j hj => ?_
 obtain ⟨hj, ha⟩ := hj
 have lt : (ss.take j).length = j := by rw [List.length_take]; omega
 apply bY <;> intro h2
 ·have h2 : j < ss.length := by have := dT h2; omega
  have ej : ((j : Nat) : Int).toNat = j := Int.toNat_natCast j
  have hm : ss.getD j [] ∈ ss := by rw [gdq, gqe h2]; exact List.getElem_mem h2
  refine ⟨⟨by omega, by omega⟩, ⟨by omega, ?_⟩⟩
  refine cP (hok (ss.getD (j : Int).toNat []) (by rw [ej]; exact hl _ hm)) rfl rfl ?_
  apply bY <;> intro h3
  ·have h3 : ok (ss.getD j []) = false := by rw [ej] at h3; simpa using h3
   have em : prt ok [] ss = [] := if_neg fun h => by rw [List.all_eq_true.1 h _ hm] at h3; cases h3
   exact .inl ⟨rfl, ⟨obX rfl, obR rfl (dE _), obX rfl, obX rfl, trivial⟩, avG rfl (by rw [em]; rfl), avQ rfl, avQ rfl, avQ rfl, avQ rfl, trivial⟩
  have h3 : ok (ss.getD j []) = true := by rw [ej] at h3; simpa using h3
  refine CallSt.ro (zlY (ss.getD (j : Int).toNat []) (by rw [ej]; have := hl _ hm; omega)) rfl rfl ?_
  refine ⟨⟨.inr rfl, by unfold maxLen; omega, by show ((ss.take j).length + 1) * 24 <= 140737488355328; omega⟩, ?_⟩
  refine ⟨i6, ?_⟩
  refine ⟨j + 1, ⟨rfl, ⟨obX rfl, obR rfl (dE _), obX rfl, obX rfl, obR rfl ?_, trivial⟩, wq rfl⟩, ⟨h2, fun q hq => ?_⟩, msr h2⟩
  ·rw [za7 h2 []]
   refine zk6 rfl ?_
   show D.eqv (lI (ss.getD (j : Int).toNat [])) _
   rw [ej]; exact dE _
  ·by_cases e : q = j
   ·subst e; exact h3
   ·exact ha q (by omega)
 have h2 : j = ss.length := by have := dF h2; omega
 subst h2
 rw [List.take_length]
 have em : prt ok [] ss = [ss] := if_pos (List.all_eq_true.2 fun s hs => by
  obtain ⟨q, hq, rfl⟩ := List.getElem_of_mem hs
  have := ha q hq
  rw [gdq, gqe hq] at this
  exact this)
 refine CutOb.at [(G, .gho (some n)), (0, .d (I ids.length)), (1, .d (capB [lI ids])), (2, .pbox 4 (γ 4)), (3, .d (posD g0 c0)), (4, .pbox 3 (γ 3)), (5, .pbox 5 (γ 5)), (8, .d (lII ss))] (putObs ids g0 c0 ss l) ⟨rfl, ⟨obX rfl, obR rfl (dE _), obX rfl, obX rfl, trivial⟩, avQ rfl, avQ rfl, avQ rfl, avQ rfl, avQ rfl, avQ rfl, avQ rfl, avOw rfl rfl rfl (dE _), trivial⟩ ?_
 refine CallSt.ydC (d := 36) (putSl ids g0 c0 γ ids.length) (putObs ids g0 c0 ss l) rfl rfl rfl rfl ⟨rfl, ⟨obX rfl, obR rfl (dE _), obX rfl, obX rfl, trivial⟩, wq rfl⟩ (by rw [em] at hsub; exact hsub.get) rfl rfl ?_ ?_
 ·exact .inl ⟨rfl, ⟨obX rfl, obR rfl (dE _), obX rfl, obX rfl, trivial⟩, avG rfl (by rw [em]; rfl), avQ rfl, avQ rfl, avQ rfl, avQ rfl, trivial⟩
 ·exact .inr ⟨rfl, trivial, avQ rfl, avQ rfl, trivial⟩
end
section
variable (ids : List Int) (g0 : FuncId) (c0 : D) (ok : List Int -> Bool)
theorem znr (hn : ids.length <= 7) (i : Nat) (hi : i < ids.length) (ss : List (List Int)) (n : Nat) (hs : ss.length <= i) (hl : ∀ s ∈ ss, s.length <= i) (hsub : Sub (allP ids ok) n (prt ok (ids.drop i) ss))
  (ih : ∀ (ss : List (List Int)) (n : Nat), ss.length <= i + 1 -> (∀ s ∈ ss, s.length <= i + 1) -> Sub (allP ids ok) n (prt ok (ids.drop (i + 1)) ss) -> SpecY PP 151 ((allP ids ok).map enP) n (prt ok (ids.drop (i + 1)) ss).length (putArgs ids g0 c0 (i + 1)) (putObs ids g0 c0 ss) (putObs ids g0 c0 ss) [4, 3, 5] [B true] [B false]) :
  SpecY PP 151 ((allP ids ok).map enP) n (prt ok (ids.drop i) ss).length (putArgs ids g0 c0 i) (putObs ids g0 c0 ss) (putObs ids g0 c0 ss) [4, 3, 5] [B true] [B false] := by
 have ed : ids.drop i = ids.getD i 0 :: ids.drop (i + 1) := by rw [List.drop_eq_getElem_cons hi, gdq, gqe hi]; rfl
 rw [ed] at hsub ⊢
 rw [zj7] at hsub ⊢
 refine zgg [] Tryz.func151 rfl (by kernel_rfl) (putArgs ids g0 c0 i) [7] rfl [(2, 4), (4, 3), (5, 5)] rfl rfl rfl (zgp ids g0 c0 _ ss) (by decide) (fun _ => rfl) fun l γ => ?_
 refine Split.no (by simp; omega) ?_
 refine LoopOb.of (σ := Nat) (fun q => ([(G, .gho (some (n + (prtK ok (ids.getD i 0) (ids.drop (i + 1)) ss q).length))), (0, .d (I i)), (1, .d (capB [lI ids])), (2, .pbox 4 (γ 4)), (3, .d (posD g0 c0)), (4, .pbox 3 (γ 3)), (5, .pbox 5 (γ 5)), (38, .d (I ss.length)), (39, .d (I q))],
   [(4, .box [.own 100]), (100, .row 22 1 ss.length (rowII ss)), (3, .box [.yl l]), (5, .box [.clo 151 (putCaps ids g0 c0)])])) (fun q => q <= ss.length) (fun q => ss.length - q) 0
  ⟨rfl, ⟨obX rfl, obR rfl (dE _), obX rfl, obX rfl, trivial⟩, wq rfl⟩ (Nat.zero_le _) fun q hq => ?_
 have hq : q <= ss.length := hq
 apply bY <;> intro h2
 ·have h2 : q < ss.length := by have := dT h2; omega
  have eq : ((q : Nat) : Int).toNat = q := Int.toNat_natCast q
  have hm : ss.getD q [] ∈ ss := by rw [gdq, gqe h2]; exact List.getElem_mem h2
  have hml := hl _ hm
  refine ⟨⟨by omega, by omega⟩, ⟨by omega, ?_⟩⟩
  refine oL [2, 4, 5, 6, 7, 8, 1000, 1001, 6003, 9, 10, 5011] (FzOb.no ?_)
  refine ⟨⟨rfl, by omega, by omega⟩, ?_⟩
  refine ⟨rfl, rfl, ?_⟩
  refine ⟨rfl, rfl, ?_⟩
  refine ⟨⟨_, _, _, _, _, _, rfl, rfl, rfl, rfl, ?_⟩⟩
  rw [zal]
  refine ⟨_, _, _, _, _, none, rfl, zj8 (ss.getD (q : Int).toNat []) (by rw [eq]; omega), fun m j _ _ => rfl, ?_⟩
  refine ⟨⟨.inr rfl, by unfold maxLen; rw [eq]; omega, by show ((ss.getD (q : Int).toNat []).length + 1) * 8 <= 140737488355328; rw [eq]; omega⟩, ?_⟩
  refine ⟨⟨by omega, by omega⟩, ?_⟩
  refine FzOb.fz [49] ?_
  refine ⟨by omega, ?_⟩
  refine ⟨i6, ?_⟩
  have hset : (ss.set q (ss.getD q [] ++ [ids.getD i 0])).length <= i + 1 := by rw [List.length_set]; omega
  have hsl : ∀ s ∈ ss.set q (ss.getD q [] ++ [ids.getD i 0]), s.length <= i + 1 := fun s hs => by
   rcases List.mem_or_eq_of_mem_set hs with hs | rfl
   ·have := hl s hs; omega
   ·rw [List.length_append, List.length_singleton]; omega
  have hsub' : Sub (allP ids ok) (n + (prtK ok (ids.getD i 0) (ids.drop (i + 1)) ss q).length) (prt ok (ids.drop (i + 1)) (ss.set q (ss.getD q [] ++ [ids.getD i 0]))) := by
   refine (hsub.pre (L2 := prtK ok (ids.getD i 0) (ids.drop (i + 1)) ss q ++ prt ok (ids.drop (i + 1)) (ss.set q (ss.getD q [] ++ [ids.getD i 0]))) ?_).snd
   rw [<- zcW]
   exact List.IsPrefix.trans (zgr ok _ _ ss h2) (List.prefix_append _ _)
  refine CallSt.cy [(0, .d (I i)), (1, .d (capB [lI ids])), (2, .pbox 4 (γ 4)), (3, .d (posD g0 c0)), (4, .pbox 3 (γ 3)), (5, .pbox 5 (γ 5)), (11, .d (I q)), (12, .d (lI (ss.getD q []))), (38, .d (I ss.length)), (39, .d (I q)), (57, .clo 151 (putCaps ids g0 c0)), (59, .d (I ((i + 1 : Nat) : Int)))] []
   (ih (ss.set q (ss.getD q [] ++ [ids.getD i 0])) _ hset hsl hsub') rfl rfl ⟨rfl, ⟨obX rfl, obR rfl ?_, obX rfl, obX rfl, trivial⟩, avQ rfl, avQ rfl, avQ rfl, avQ rfl, avQ rfl, avQ rfl, avQ rfl, ?_, avQ rfl, avQ rfl, avQ rfl, avQ rfl, trivial⟩ rfl rfl rfl rfl ?_ ?_
  ·refine zm5 h2 eq ?_
   refine ⟨by rw [eq, List.length_append]; rfl, .inr ⟨rfl, fun u hu v hv => ?_⟩⟩
   show D.eqv (appRow _ (rowI (ss.getD (q : Int).toNat [])) _ u v) (I ((ss.getD q [] ++ [ids.getD i 0]).getD u 0))
   rw [eq]
   unfold appRow
   by_cases hh : u < (ss.getD q []).length
   ·rw [if_pos hh, gdq (l := ss.getD q [] ++ [ids.getD i 0]), List.getElem?_append_left hh, <- gdq]
    exact dE _
   ·have hu : u < (ss.getD (q : Int).toNat []).length + 1 := hu
    rw [eq] at hu
    have e : u = (ss.getD q []).length := by omega
    obtain rfl : v = 0 := Nat.lt_one_iff.1 hv
    rw [if_neg hh, gdq (l := ss.getD q [] ++ [ids.getD i 0]), List.getElem?_append_right (by omega), e, Nat.sub_self]
    show D.eqv (I (ids.getD i 0)) (I (ids.getD i 0))
    exact dE _
  ·show D.eqv (lI (ss.getD (q : Int).toNat [])) (lI (ss.getD q []))
   rw [eq]; exact dE _
  ·refine sF ?_
   have ls : (ss.set q (ss.getD q [] ++ [ids.getD i 0])).length = ss.length := List.length_set
   refine ⟨⟨by omega, by rw [ls]; omega⟩, ⟨by rw [ls, eq]; exact h2, ?_⟩⟩
   refine ⟨i6, ?_⟩
   refine ⟨q + 1, ⟨rfl, ⟨obX rfl, obR rfl ?_, obX rfl, obX rfl, trivial⟩, avG rfl ?_, avQ rfl, avQ rfl, avQ rfl, avQ rfl, avQ rfl, avQ rfl, avQ rfl, avQ rfl, trivial⟩, h2, msr h2⟩
   ·have h3 : q < (ss.set q (ss.getD q [] ++ [ids.getD i 0])).length := by rw [ls]; exact h2
    have h4 := zm5 (ss := ss.set q (ss.getD q [] ++ [ids.getD i 0])) (s' := ss.getD q []) h3 eq (dE _)
    have h5 : (ss.set q (ss.getD q [] ++ [ids.getD i 0])).set q (ss.getD q []) = ss := by
     rw [List.set_set, gdq, gqe h2]
     exact List.set_getElem_self h2
    rw [h5] at h4
    exact h4
   ·rw [zcW, List.length_append, Nat.add_assoc]
  ·refine sT ?_
   exact .inr ⟨rfl, trivial, avQ rfl, avQ rfl, trivial⟩
 have h2 : q = ss.length := by have := dF h2; omega
 subst h2
 refine oL (List.range 9) (FzOb.no ?_)
 refine ⟨⟨rfl, by omega, by omega⟩, ?_⟩
 refine ⟨⟨.inr rfl, by unfold maxLen; omega, by show (ss.length + 1) * 24 <= 140737488355328; omega⟩, ?_⟩
 refine ⟨i6, ?_⟩
 refine CallSt.cy [(0, .d (I i)), (1, .d (capB [lI ids])), (2, .pbox 4 (γ 4)), (3, .d (posD g0 c0)), (4, .pbox 3 (γ 3)), (5, .pbox 5 (γ 5)), (75, .clo 151 (putCaps ids g0 c0)), (77, .d (I ((i + 1 : Nat) : Int)))] []
  (ih (ss ++ [[ids.getD i 0]]) _ (by rw [List.length_append, List.length_singleton]; omega) (fun s hs => by
   rcases List.mem_append.1 hs with hs | hs
   ·have := hl s hs; omega
   ·obtain rfl := List.mem_singleton.1 hs; rw [List.length_singleton]; omega) hsub.snd) rfl rfl ⟨rfl, ⟨obX rfl, obR rfl ?_, obX rfl, obX rfl, trivial⟩, avQ rfl, avQ rfl, avQ rfl, avQ rfl, avQ rfl, avQ rfl, avQ rfl, avQ rfl, trivial⟩ rfl rfl rfl rfl ?_ ?_
 ·refine zk6 rfl ⟨rfl, .inr ⟨rfl, fun u hu v hv => ?_⟩⟩
  obtain rfl : v = 0 := Nat.lt_one_iff.1 hv
  obtain rfl : u = 0 := Nat.lt_one_iff.1 hu
  show D.eqv (I (ids.getD i 0)) (I (ids.getD i 0))
  exact dE _
 ·refine sF ?_
  have ll : (ss ++ [[ids.getD i 0]]).length = ss.length + 1 := by rw [List.length_append, List.length_singleton]
  refine ⟨i6, ?_⟩
  refine ⟨⟨by rw [ll]; omega, by rw [ll]; omega⟩, ?_⟩
  refine .inl ⟨rfl, ⟨obX rfl, obR rfl ?_, obX rfl, obX rfl, trivial⟩, avG rfl ?_, avQ rfl, avQ rfl, avQ rfl, avQ rfl, trivial⟩
  ·refine ⟨by rw [ll]; omega, .inr ⟨rfl, fun u hu v hv => ?_⟩⟩
   rw [ll] at hu
   have hu : u < ss.length := by omega
   show D.eqv (lI ((ss ++ [[ids.getD i 0]]).getD u [])) (lI (ss.getD u []))
   rw [gdq (l := ss ++ [[ids.getD i 0]]), List.getElem?_append_left hu, <- gdq]
   exact dE _
  ·rw [List.length_append, Nat.add_assoc]
 ·refine sT ?_
  exact .inr ⟨rfl, trivial, avQ rfl, avQ rfl, trivial⟩
end
section
variable (ids : List Int) (g0 : FuncId) (c0 : D) (ok : List Int -> Bool)
theorem znt (hn : ids.length <= 7) (hok : ∀ s : List Int, s.length <= 7 -> Spec PP g0 [.d (lI s), .d c0] [B (ok s)]) : ∀ (k i : Nat) (ss : List (List Int)) (n : Nat), i + k = ids.length -> ss.length <= i -> (∀ s ∈ ss, s.length <= i) -> Sub (allP ids ok) n (prt ok (ids.drop i) ss) ->
  SpecY PP 151 ((allP ids ok).map enP) n (prt ok (ids.drop i) ss).length (putArgs ids g0 c0 i) (putObs ids g0 c0 ss) (putObs ids g0 c0 ss) [4, 3, 5] [B true] [B false]
 | 0, i, ss, n, hi, hs, hl, hsub => by
  obtain rfl : i = ids.length := by omega
  rw [List.drop_length] at hsub ⊢
  exact zns ids g0 c0 ok hn hok ss n (by omega) (fun s h => by have := hl s h; omega) hsub
 | k + 1, i, ss, n, hi, hs, hl, hsub => znr ids g0 c0 ok hn i (by omega) ss n hs hl hsub fun ss n hs hl hsub => znt hn hok k (i + 1) ss n (by omega) hs hl hsub
def prtCap (j : Nat) : D := getD' [capB [lI ids], posD g0 c0] j
theorem zeg (hn : ids.length <= 7) (hok : ∀ s : List Int, s.length <= 7 -> Spec PP g0 [.d (lI s), .d c0] [B (ok s)]) : SeqC PP 150 2 (prtCap ids g0 c0) enP (allP ids ok) := by
 refine zd9 Tryz.func150 rfl (by kernel_rfl) rfl rfl enP _ fun l => ?_
 refine CallSt.cy (cuts := []) [(7, .clo 151 (putCaps ids g0 c0))] [] (znt ids g0 c0 ok hn hok ids.length 0 [] 0 (Nat.zero_add _) (Nat.le_refl _) (fun s h => by cases h) ⟨[], rfl, List.prefix_rfl⟩) rfl rfl
  ⟨rfl, ⟨⟨⟨rfl, _, _, _, rfl⟩, trivial⟩, rfl, obX rfl, obX rfl, trivial⟩, wq rfl⟩ rfl rfl rfl rfl ?_ ?_
 ·exact .inl (congrArg (fun n => AV.gho (some n)) (Nat.zero_add _))
 ·exact .inr rfl
theorem zeU : Spec PP 103 [.d (lI ids), .d (cloB g0 [c0])] [.d (cloB 150 [capB [lI ids], posD g0 c0])] := by
 refine sA Tryz.func103 ?_
 refine ⟨⟨rfl, rfl, fun j hj => ?_⟩, trivial⟩
 match j, hj with
 | 0, _ => exact ⟨_, rfl, rfl, _, _, rfl, rfl, rfl, fun j hj => dE _⟩
 | 1, _ => exact ⟨_, rfl, rfl, _, _, rfl, rfl, rfl, fun j hj => dE _⟩
end
def bitA (ids s : List Int) (i : Nat) : Nat := (List.range i).foldl (fun b k => if s.contains (ids.getD k 0) = true then onS b k else b) 0
theorem zdj (ids s : List Int) (i : Nat) : bitA ids s (i + 1) = if s.contains (ids.getD i 0) = true then onS (bitA ids s i) i else bitA ids s i := by
 unfold bitA
 rw [List.range_succ, List.foldl_append]; rfl
theorem zjq (ids s : List Int) : ∀ i, i <= 7 -> bitA ids s i < 128
 | 0, _ => by show 0 < 128; decide
 | i + 1, h => by
  have := zjq ids s i (by omega)
  rw [zdj]
  split
  ·exact znz this (by omega)
  ·exact this
def bitS (ids s : List Int) : Nat := bitA ids s ids.length
abbrev lkC (d : Day) (ks : List Nat) : List D := d.ds ++ [lI (sigL d.R), cmap d ks]
theorem znJ (d : Day) (ks : List Nat) (hn : (sigL d.R).length <= 7) (s : List Int) (hs : s.length <= 1000000) : Spec PP 104 [.d (lI s), .d (capB (lkC d ks))] [B (fitK d ks (bitS (sigL d.R) s))] := by
 refine sA Tryz.func104 ?_
 refine LoopOb.of (σ := Nat) (fun i => ([(0, .d (lI s)), (1, avOf (.d (capB (lkC d ks)))), (4, .d (I (bitA (sigL d.R) s i))), (8, .d (lI (sigL d.R))), (9, .d (I (sigL d.R).length)), (10, .d (I i))], [])) (fun i => i <= (sigL d.R).length) (fun i => (sigL d.R).length - i) 0
  ⟨rfl, trivial, wq rfl⟩ (Nat.zero_le _) fun i hi => ?_
 have hi : i <= (sigL d.R).length := hi
 apply bY <;> intro h1
 ·have h1 : i < (sigL d.R).length := by have := dT h1; omega
  have hb := zjq (sigL d.R) s i (by omega)
  refine ⟨⟨rfl, by omega, by omega⟩, ?_⟩
  refine cP (zdB s ((sigL d.R).getD i 0) hs) rfl rfl ?_
  apply bY <;> intro h2
  ·have h2 : s.contains ((sigL d.R).getD i 0) = true := h2
   refine ⟨by omega, ?_⟩
   refine ⟨i6, ?_⟩
   refine ⟨i + 1, ⟨rfl, trivial, avQ rfl, avQ rfl, ?_, avQ rfl, avQ rfl, avQ rfl, trivial⟩, h1, msr h1⟩
   rw [zdj, if_pos h2]
   exact avQ (congrArg (fun n => AV.d (.int .i64 n)) (bOn hb (by omega)))
  ·have h2 : s.contains ((sigL d.R).getD i 0) = false := h2
   refine ⟨i6, ?_⟩
   refine ⟨i + 1, ⟨rfl, trivial, ?_⟩, h1, msr h1⟩
   rw [zdj, if_neg (by rw [h2]; decide)]
   exact wq rfl
 have h1 : i = (sigL d.R).length := by have := dF h1; omega
 subst h1
 refine cP (zdL d ks (bitS (sigL d.R) s)) rfl rfl ?_
 exact r1B rfl rfl
abbrev allCs (d : Day) (ks : List Nat) : List D := [capB [lI (sigL d.R)], posD 104 (capB (lkC d ks))]
theorem j_all (d : Day) (ks : List Nat) : Spec PP 66 [lkV d ks] [.d (cloB 150 (allCs d ks))] := by
 refine sA Tryz.func66 ?_
 refine CallSt.fzE [1] (zeU (sigL d.R) 104 (capB (lkC d ks))) rfl ⟨dE _, ⟨rfl, rfl, fun j hj => by obtain rfl : j = 0 := Nat.lt_one_iff.1 hj; exact dE _⟩, trivial⟩ rfl ?_
 exact ⟨dE _, trivial⟩
abbrev parts (d : Day) : List (List (List Int)) := prt (fun s => fitK d (ksD d) (bitS (sigL d.R) s)) (sigL d.R) []
theorem zkt {d : Day} (h : DayOk d) : SeqC PP 150 2 (prtCap (sigL d.R) 104 (capB (lkC d (ksD d)))) enP (parts d) :=
 zeg (sigL d.R) _ _ _ (sig7 h) fun s hs => znJ d (ksD d) (sig7 h) s (by omega)
theorem zfK {α : Type} {ok : List α -> Bool} : ∀ {r : List α} {ss : List (List α)} {B : Nat} {x : List (List α)}, x ∈ prt ok r ss -> (∀ s ∈ ss, s.length <= B) -> x.length <= ss.length + r.length /\ ∀ s ∈ x, s.length <= B + r.length + 1
 | [], ss, B, x, h, hb => by
  unfold prt at h
  split at h
  ·obtain rfl := List.mem_singleton.1 h
   exact ⟨Nat.le_refl _, fun s hs => by have := hb s hs; simp; omega⟩
  ·cases h
 | a :: r, ss, B, x, h, hb => by
  unfold prt at h
  rcases List.mem_append.1 h with h | h
  ·obtain ⟨k, hk, h⟩ := List.mem_flatMap.1 h
   have hk := List.mem_range.1 hk
   obtain ⟨h1, h2⟩ := zfK (B := B + 1) h fun s hs => by
    rcases List.mem_or_eq_of_mem_set hs with hs | rfl
    ·have := hb s hs; omega
    ·have hm : ss.getD k [] ∈ ss := by rw [gdq, gqe hk]; exact List.getElem_mem hk
     have := hb _ hm
     rw [List.length_append, List.length_singleton]; omega
   rw [List.length_set] at h1
   exact ⟨by simp; omega, fun s hs => by have := h2 s hs; simp; omega⟩
  ·obtain ⟨h1, h2⟩ := zfK (B := B + 1) h fun s hs => by
    rcases List.mem_append.1 hs with hs | hs
    ·have := hb s hs; omega
    ·obtain rfl := List.mem_singleton.1 hs; simp
   rw [List.length_append] at h1
   exact ⟨by simp at h1 ⊢; omega, fun s hs => by have := h2 s hs; simp; omega⟩
theorem zlW {α : Type} (ok : List α -> Bool) (r : List α) (h : r.length <= 7) : (prt ok r []).length <= 877 := by
 rw [zfJ]
 refine Nat.le_trans (List.length_filter_le _ _) ?_
 rw [List.length_map]
 have : ∀ n, n < 8 -> (rgs n 0).length <= 877 := by decide +kernel
 exact this _ (by omega)
theorem zeS {d : Day} (h : DayOk d) : (parts d).length <= 877 := zlW _ _ (sig7 h)
theorem zic {d : Day} (h : DayOk d) {x : List (List Int)} (hx : x ∈ parts d) : x.length <= 7 /\ ∀ s ∈ x, s.length <= 8 := by
 have := sig7 h
 obtain ⟨h1, h2⟩ := zfK (B := 0) hx (fun s hs => by cases hs)
 exact ⟨by simp at h1; omega, fun s hs => by have := h2 s hs; omega⟩
def bst0 (out : List (List (List Int))) (p : List (List Int)) : List (List (List Int)) := if decide (0 < out.length) && decide (p.length < (out.getD 0 []).length) then [] else out
def bst1 (out : List (List (List Int))) (p : List (List Int)) : List (List (List Int)) := if decide ((bst0 out p).length = 0) || decide (p.length = ((bst0 out p).getD 0 []).length) then bst0 out p ++ [p] else bst0 out p
def bstL (l : List (List (List Int))) : List (List (List Int)) := l.foldl bst1 []
theorem zb6 (l : List (List (List Int))) (p : List (List Int)) : bstL (l ++ [p]) = bst1 (bstL l) p := by unfold bstL; rw [List.foldl_append]; rfl
theorem zkP (o : List (List (List Int))) (p : List (List Int)) : (bst0 o p).length <= o.length := by
 unfold bst0
 split
 ·exact Nat.zero_le _
 ·exact Nat.le_refl _
theorem zkO (o : List (List (List Int))) (p : List (List Int)) : (bst1 o p).length <= o.length + 1 := by
 have := zkP o p
 unfold bst1
 split
 ·rw [List.length_append]; simp; omega
 ·omega
theorem zgZ : ∀ (l o : List (List (List Int))), (l.foldl bst1 o).length <= o.length + l.length
 | [], o => Nat.le_refl _
 | p :: l, o => by
  have h1 := zgZ l (bst1 o p)
  have h2 := zkO o p
  rw [List.foldl_cons, List.length_cons]
  omega
theorem zgY (l : List (List (List Int))) : (bstL l).length <= l.length := by
 have := zgZ l []
 unfold bstL
 simpa using this
abbrev rowPP (l : List (List (List Int))) : Nat -> Nat -> D := fun i _ => lII (l.getD i [])
theorem zk5 {l : List (List (List Int))} {p : List (List Int)} {g : Nat -> Nat -> D} (hg : D.eqv (g 0 0) (lII p)) : D.eqv (.slc 1 (l.length + 1) (appRow l.length (rowPP l) g)) (.slc 1 (l ++ [p]).length (rowPP (l ++ [p]))) := by
 refine ⟨by simp, .inr ⟨rfl, fun i hi j hj => ?_⟩⟩
 show D.eqv (appRow l.length (rowPP l) g i j) (lII ((l ++ [p]).getD i []))
 obtain rfl : j = 0 := by omega
 unfold appRow
 by_cases h : i < l.length
 ·rw [if_pos h, gdq (l := l ++ [p]), List.getElem?_append_left h, <- gdq]
  exact dE _
 ·have e : i = l.length := by omega
  subst e
  rw [if_neg h, Nat.sub_self, gdq, List.getElem?_append_right (Nat.le_refl _), Nat.sub_self]
  exact hg
theorem nz_no {n : Nat} (h : 0 < n) : ((n : Int) == 0) = false := by simp; omega
theorem znB {n : Nat} (h : n = 0) : ((n : Int) == 0) = true := by subst h; rfl
def obBst (pre : List (List (List Int))) : List (Nat × Ob) := [(3, .box [.own 34]), (34, .row 60 1 (bstL pre).length (rowPP (bstL pre)))]
theorem znu (g : FuncId) (c1 c2 : D) (xs : List (List (List Int))) (hx : xs.length <= 1000) (hseq : SeqC PP g 2 (getD' [c1, c2]) enP xs) : Spec PP 96 [.d (cloB g [c1, c2])] [.d (lPP (bstL xs))] := by
 refine sA Tryz.func96 ?_
 refine CodeOb.rangeAt hseq rfl (fun _ => rfl) (by decide) [(3, .box 3 0)] [(3, 0)] obBst rfl (fun _ => rfl) ?_ (Iv := fun _ => True) trivial (fun v pre x hx' _ => ?_) (fun _ => ?_)
 ·exact ⟨rfl, ⟨obN rfl rfl rfl, obZ rfl rfl, trivial⟩, wq rfl⟩
 ·have hpl : pre.length < 1000 := by
   have := hx'.length_le
   rw [List.length_append] at this; simp at this; omega
  have hlen := zgY pre
  have push : ∀ o : List (List (List Int)), o.length <= 1000 -> bst1 (bstL pre) x = o ++ [x] -> bst1 (bstL pre) x = o ++ [x] := fun _ _ h => h
  apply bY <;> intro h1
  ·have h1 : 0 < (bstL pre).length := by have := dT h1; omega
   refine ⟨⟨by omega, by omega⟩, ⟨by omega, ?_⟩⟩
   repeat first | apply sT | apply sF
   apply bY <;> intro h2
   ·have h2 : x.length < ((bstL pre).getD 0 []).length := by have : (x.length : Int) < ((bstL pre).getD 0 []).length := dT h2; omega
    have e0 : bst0 (bstL pre) x = [] := by unfold bst0; rw [if_pos (by rw [decide_eq_true h1, decide_eq_true h2]; rfl)]
    have e1 : bst1 (bstL pre) x = [] ++ [x] := by unfold bst1; rw [e0]; rfl
    repeat first | apply sT | apply sF
    refine ⟨⟨.inr rfl, by unfold maxLen; omega, by show (0 + 1) * 24 <= 140737488355328; omega⟩, ?_⟩
    refine ⟨trivial, rfl, ⟨obO rfl, obR rfl ?_, trivial⟩, wq rfl⟩
    rw [zb6, e1]
    refine ⟨rfl, .inr ⟨rfl, fun u hu w hw => ?_⟩⟩
    obtain rfl : w = 0 := Nat.lt_one_iff.1 hw
    obtain rfl : u = 0 := Nat.lt_one_iff.1 hu
    exact dE _
   ·have h2 : ¬ x.length < ((bstL pre).getD 0 []).length := by have : ¬ (x.length : Int) < ((bstL pre).getD 0 []).length := dF h2; omega
    have e0 : bst0 (bstL pre) x = bstL pre := by unfold bst0; rw [if_neg (by rw [decide_eq_false h2, Bool.and_false]; decide)]
    refine Split.no (nz_no h1) ?_
    refine ⟨⟨by omega, by omega⟩, ⟨by omega, ?_⟩⟩
    repeat first | apply sT | apply sF
    apply bY <;> intro h3
    ·have h3 : x.length = ((bstL pre).getD 0 []).length := by
      have : (x.length : Int) = ((bstL pre).getD 0 []).length := by simpa using h3
      omega
     have e1 : bst1 (bstL pre) x = bstL pre ++ [x] := by unfold bst1; rw [e0, if_pos (by rw [decide_eq_true h3, Bool.or_true])]
     refine ⟨⟨.inr rfl, by unfold maxLen; omega, by show ((bstL pre).length + 1) * 24 <= 140737488355328; omega⟩, ?_⟩
     refine ⟨trivial, rfl, ⟨obO rfl, obR rfl ?_, trivial⟩, wq rfl⟩
     rw [zb6, e1]
     exact zk5 (dE _)
    ·have h3 : ¬ x.length = ((bstL pre).getD 0 []).length := fun e => by
      have : ¬ (x.length : Int) = ((bstL pre).getD 0 []).length := by simpa using h3
      exact this (by rw [e])
     have e1 : bst1 (bstL pre) x = bstL pre := by unfold bst1; rw [e0, if_neg (by rw [decide_eq_false h3, decide_eq_false (by omega)]; decide)]
     refine ⟨trivial, rfl, ⟨obO rfl, obR rfl ?_, trivial⟩, wq rfl⟩
     rw [zb6, e1]
     exact dE _
  ·have h1 : (bstL pre).length = 0 := by have := dF h1; omega
   have e0 : bst0 (bstL pre) x = bstL pre := by unfold bst0; rw [if_neg (by rw [decide_eq_false (by omega), Bool.false_and]; decide)]
   have e1 : bst1 (bstL pre) x = bstL pre ++ [x] := by unfold bst1; rw [e0, if_pos (by rw [decide_eq_true h1, Bool.true_or])]
   repeat first | apply sT | apply sF
   refine Split.yes (znB h1) ?_
   repeat first | apply sT | apply sF
   refine ⟨⟨.inr rfl, by unfold maxLen; omega, by show ((bstL pre).length + 1) * 24 <= 140737488355328; omega⟩, ?_⟩
   refine ⟨trivial, rfl, ⟨obO rfl, obR rfl ?_, trivial⟩, wq rfl⟩
   rw [zb6, e1]
   exact zk5 (dE _)
 ·refine ⟨⟨_, _, _, _, rfl, ?_⟩, trivial⟩
  exact dE _
theorem zg0 {o : List (List (List Int))} {p q : List (List Int)} (h : q ∈ bst0 o p) : q ∈ o := by
 unfold bst0 at h
 split at h
 ·cases h
 ·exact h
theorem bst1_mem {o : List (List (List Int))} {p q : List (List Int)} (h : q ∈ bst1 o p) : q ∈ o \/ q = p := by
 unfold bst1 at h
 split at h
 ·rcases List.mem_append.1 h with h | h
  ·exact .inl (zg0 h)
  ·exact .inr (List.mem_singleton.1 h)
 ·exact .inl (zg0 h)
theorem bstF_mem {q : List (List Int)} : ∀ {l o : List (List (List Int))}, q ∈ l.foldl bst1 o -> q ∈ o \/ q ∈ l
 | [], o, h => .inl h
 | p :: l, o, h => by
  rcases bstF_mem (l := l) h with h | h
  ·rcases bst1_mem h with h | rfl
   ·exact .inl h
   ·exact .inr (List.mem_cons_self ..)
  ·exact .inr (List.mem_cons_of_mem _ h)
theorem zkN {q : List (List Int)} {l : List (List (List Int))} (h : q ∈ bstL l) : q ∈ l := (bstF_mem h).resolve_left fun h => by cases h
abbrev bsts (d : Day) : List (List (List Int)) := bstL (parts d)
def bsR (d : Day) : List (List (List Int)) × Int := if (bsts d).length = 0 then ([], 9) else (bsts d, 0)
theorem ziQ {d : Day} (h : DayOk d) : Spec PP 56 [d.v] [.d (lPP (bsR d).1), .d (.int .i64 (bsR d).2)] := by
 refine sA Tryz.func56 ?_
 refine CallSt.ro (zlf h) rfl rfl ?_
 refine CallSt.ro (j_all d (ksD d)) rfl rfl ?_
 refine CallSt.ro (znu 150 _ _ (parts d) (by have := zeS h; omega) (zkt h)) rfl rfl ?_
 unfold bsR
 apply bY <;> intro h1
 ·have h1 : (bsts d).length = 0 := by
   have : ((bsts d).length : Int) = 0 := by simpa using h1
   omega
  rw [if_pos h1]
  exact ⟨⟨_, _, _, _, rfl, rfl, .inl rfl⟩, rtI rfl rfl, trivial⟩
 ·have h1 : ¬ (bsts d).length = 0 := fun e => by
   have : ¬ ((bsts d).length : Int) = 0 := by simpa using h1
   exact this (by rw [e]; rfl)
  rw [if_neg h1]
  exact ⟨dE _, rtI rfl rfl, trivial⟩
def fewR (d : Day) : Int × Int := if dayE d ≠ 0 then (0, dayE d) else if (bsts d).length = 0 then (0, 9) else (((bsts d).getD 0 []).length, 0)
theorem zgI (d : Day) (hn : d.R.length <= 1000000) : Spec PP 29 [d.v] [N (fewR d).1, .d (.int .i64 (fewR d).2)] := by
 refine sA Tryz.func29 ?_
 refine cP (zc3 d hn) rfl rfl ?_
 unfold fewR
 apply bY <;> intro h0
 ·rw [if_pos (by simpa using h0)]
  exact ⟨rtI rfl rfl, rtI rfl rfl, trivial⟩
 have h0 : dayE d = 0 := by simpa using h0
 rw [if_neg (fun hh => hh h0)]
 refine CallSt.ro (ziQ (zdQ h0)) rfl rfl ?_
 by_cases h1 : (bsts d).length = 0
 ·have e : bsR d = ([], 9) := by unfold bsR; rw [if_pos h1]
  rw [e, if_pos h1]
  refine sT ?_
  exact ⟨rtI rfl rfl, rtI rfl rfl, trivial⟩
 ·have e : bsR d = (bsts d, 0) := by unfold bsR; rw [if_neg h1]
  rw [e, if_neg h1]
  refine sF ?_
  refine ⟨⟨rfl, by omega, by show (0 : Int) < ((bsts d).length : Int); omega⟩, ?_⟩
  exact ⟨rtI rfl rfl, rtI rfl rfl, trivial⟩
def samR (d : Day) (a b : Int) : Vdt × Int := if parE d a b ≠ 0 then (⟨0, [], []⟩, parE d a b) else if (bsts d).length = 0 then (⟨0, [], []⟩, 9) else (vdtR (bsts d) a b, 0)
theorem znq {d : Day} {a b : Int} (h : parE d a b = 0) : DayOk d := by
 unfold parE at h
 split at h
 ·rename_i h1; exact absurd h h1
 ·rename_i h1; exact zdQ (Classical.byContradiction h1)
theorem ziS (d : Day) (a b : Int) (hn : d.R.length <= 1000000) : Spec PP 14 [d.v, N a, N b] [(samR d a b).1.v, .d (.int .i64 (samR d a b).2)] := by
 refine sA Tryz.func14 ?_
 refine cP (znI d a b hn) rfl rfl ?_
 unfold samR
 apply bY <;> intro h0
 ·rw [if_pos (by simpa using h0)]
  exact ⟨rtC (a := 6) rfl rfl rfl rfl rfl rfl ⟨⟨rfl, rfl⟩, rfl, rfl, trivial⟩, rtI rfl rfl, trivial⟩
 have h0 : parE d a b = 0 := by simpa using h0
 have h := znq h0
 rw [if_neg (fun hh => hh h0)]
 refine CallSt.ro (ziQ h) rfl rfl ?_
 by_cases h1 : (bsts d).length = 0
 ·have e : bsR d = ([], 9) := by unfold bsR; rw [if_pos h1]
  rw [e, if_pos h1]
  refine sT ?_
  exact ⟨rtC (a := 6) rfl rfl rfl rfl rfl rfl ⟨⟨rfl, rfl⟩, rfl, rfl, trivial⟩, rtI rfl rfl, trivial⟩
 ·have e : bsR d = (bsts d, 0) := by unfold bsR; rw [if_neg h1]
  rw [e, if_neg h1]
  refine sF ?_
  refine CallSt.ro (ziL (bsts d) a b (by have : (bsts d).length <= (parts d).length := zgY (parts d); have := zeS h; omega) fun p hp => by
   have := zic h (zkN hp)
   exact ⟨by omega, fun s hs => by have := this.2 s hs; omega⟩) rfl rfl ?_
  exact ⟨rtC (a := 6) rfl rfl rfl rfl rfl rfl (zab _), rtI rfl rfl, trivial⟩
def fitT (T : Nat -> List Place) (ks : List Nat) (m : Nat) : Bool := ks.contains m && decide (0 < (T m).length)
def partT (T : Nat -> List Place) (n : Nat) (ks : List Nat) (set : Nat) : Bool := (List.range n).all fun i => (offS set i == set) || (offS set i == 0) || fitT T ks (offS set i)
def growT (T : Nat -> List Place) (n : Nat) (ks : List Nat) (set : Nat) : Bool := (List.range n).any fun i => (onS set i != set) && fitT T ks (onS set i)
def keysT (T : Nat -> List Place) (n : Nat) : Nat -> List Nat
 | 0 => []
 | m + 1 => if m ≠ 0 /\ partT T n (keysT T n m) m = true then keysT T n m ++ [m] else keysT T n m
section
variable {d : Day} {T : Nat -> List Place} (h : ∀ m, celD d m = T m) {ids : List Int} (hi : sigL d.R = ids)
include h
theorem zi1 : fitK d = fitT T := by
 funext ks m
 unfold fitK fitT
 rw [h]
include hi
theorem zk9 (ks : List Nat) (m : Nat) : partK d ks m = partT T ids.length ks m := by
 unfold partK partT parK
 rw [zi1 h, hi]
theorem znL (ks : List Nat) (m : Nat) : growK d ks m = growT T ids.length ks m := by
 unfold growK growT groK
 rw [zi1 h, hi]
theorem zgF : ∀ m, keysD d m = keysT T ids.length m
 | 0 => rfl
 | m + 1 => by
  unfold keysD keysT
  rw [zgF m, zk9 h hi]
theorem zid : parts d = prt (fun s => fitT T (keysT T ids.length (2 ^ ids.length)) (bitS ids s)) ids [] := by
 unfold parts ksD
 rw [zi1 h, zgF h hi, hi]
end
theorem p3 : parts exD = [[[1, 2], [3]], [[1], [2], [3]]] := by
 rw [zid cel3 sig3]
 decide +kernel
theorem p4 : parts exD4 = [[[1], [2], [3]]] := by
 rw [zid cel4 sig4]
 decide +kernel
theorem dE3 : dayE exD = 0 := by decide +kernel
theorem dE4 : dayE exD4 = 0 := by decide +kernel
theorem zmV : fewR exD = (2, 0) := by
 unfold fewR bsts
 rw [if_neg (fun hh => hh dE3), p3]
 decide +kernel
theorem zmU : fewR exD4 = (3, 0) := by
 unfold fewR bsts
 rw [if_neg (fun hh => hh dE4), p4]
 decide +kernel
theorem par3 (a b : Int) (h : partB [a, b] [1, 2, 3] = true) (hn : a ≠ b) : parE exD a b = 0 := by
 unfold parE
 rw [if_neg (fun hh => hh dE3), show sigL exD.R = [1, 2, 3] from sig3, if_neg (by rw [h]; decide), if_neg hn]
theorem par4 (a b : Int) (h : partB [a, b] [1, 2, 3] = true) (hn : a ≠ b) : parE exD4 a b = 0 := by
 unfold parE
 rw [if_neg (fun hh => hh dE4), show sigL exD4.R = [1, 2, 3] from sig4, if_neg (by rw [h]; decide), if_neg hn]
theorem zeK : (samR exD 1 2).1.Ans = 2 /\ (samR exD 1 2).2 = 0 := by
 unfold samR bsts
 rw [if_neg (fun hh => hh (par3 1 2 (by decide +kernel) (by decide))), p3]
 decide +kernel
theorem zeJ : (samR exD 1 3).1.Ans = 1 /\ (samR exD 1 3).2 = 0 := by
 unfold samR bsts
 rw [if_neg (fun hh => hh (par3 1 3 (by decide +kernel) (by decide))), p3]
 decide +kernel
theorem zeI : (samR exD4 1 2).1.Ans = 1 /\ (samR exD4 1 2).2 = 0 := by
 unfold samR bsts
 rw [if_neg (fun hh => hh (par4 1 2 (by decide +kernel) (by decide))), p4]
 decide +kernel
theorem ask3 (ids : List Int) (h1 : setB ids = true) (h2 : partB ids [1, 2, 3] = true) : askE exD ids = 0 := by
 unfold askE
 rw [if_neg (fun hh => hh dE3), if_neg (by rw [h1]; decide), show sigL exD.R = [1, 2, 3] from sig3, if_neg (by rw [h2]; decide)]
theorem zjD : celR exD [1, 3] = ([], 0) := by
 unfold celR
 rw [if_neg (fun hh => hh (ask3 [1, 3] (by decide +kernel) (by decide +kernel))), c5]
theorem zhL : (tabR exD).1.length = 2 /\ (tabR exD).2.1.length = 2 /\ (tabR exD).2.2 = 0 := by
 have e : tabR exD = (srtF (tabA (greB exD (ksD exD)) (fitF exD) (2 ^ (sigL exD.R).length)), srtM (tabA (leaB exD (ksD exD)) (misF exD) (2 ^ (sigL exD.R).length)), 0) := by unfold tabR; rw [if_neg (fun hh => hh dE3)]
 have g : ∀ m, greB exD (ksD exD) m = (fitT T3 (keysT T3 3 8) m && !growT T3 3 (keysT T3 3 8) m) := fun m => by
  unfold greB ksD
  rw [zi1 cel3, znL cel3 sig3, zgF cel3 sig3, show sigL exD.R = [1, 2, 3] from sig3]; rfl
 have l : ∀ m, leaB exD (ksD exD) m = (!fitT T3 (keysT T3 3 8) m && partT T3 3 (keysT T3 3 8) m) := fun m => by
  unfold leaB ksD
  rw [zi1 cel3, zk9 cel3 sig3, zgF cel3 sig3, show sigL exD.R = [1, 2, 3] from sig3]; rfl
 have hl : ∀ {α : Type} (p : Nat -> Bool) (f : Nat -> α) (n : Nat), (tabA p f n).length = (tabA p id n).length := fun p f n => by rw [zbR p f, List.length_map]
 rw [e]
 refine ⟨?_, ?_, rfl⟩
 ·show (srtF _).length = 2
  unfold srtF
  rw [List.length_mergeSort, hl, show sigL exD.R = [1, 2, 3] from sig3, show greB exD (ksD exD) = _ from funext g]
  decide +kernel
 ·show (srtM _).length = 2
  unfold srtM
  rw [List.length_mergeSort, hl, show sigL exD.R = [1, 2, 3] from sig3, show leaB exD (ksD exD) = _ from funext l]
  decide +kernel
def SpecN (P : Program) (f : FuncId) (args : List V1) (obs' : List (Nat × Ob)) (i : Nat) (res : List V1) : Prop :=
 Ent P f /\ ∀ (w : World) (ok : Nat -> Prop) (vs : List Value), (∀ b, ok b -> b < w.heap.size) -> All2 (Rep1 w ok) args vs ->
  Calls P f vs.toArray w fun en w' => ∃ b γ' us, en = .returned (.tuple (.pointer (some ⟨b, 0, none⟩) :: us).toArray) /\ γ' i = .pointer (some ⟨b, 0, none⟩) /\ FrM w w' γ' [] /\ OwnS w' (okM w w' ok γ' γ' [] obs') γ' obs' /\
   (∀ i o b, look obs' i = some o -> blk (γ' i) = some b -> w.heap.size <= b) /\ All2 (Rep1 w' (okM w w' ok γ' γ' [] obs')) res us
theorem SpecN.eqv {P : Program} {f : FuncId} {xs ys : List V1} {obs' : List (Nat × Ob)} {i : Nat} {res : List V1} (h : SpecN P f ys obs' i res) (he : eqV1s xs ys) : SpecN P f xs obs' i res :=
 ⟨h.1, fun w ok vs hok hv => h.2 w ok vs hok (zaY he hv)⟩
def SpecA (P : Program) (f : FuncId) (args : List V1) (obs' : List (Nat × Ob)) (cs : List Cap) : Prop :=
 Ent P f /\ ∀ (w : World) (ok : Nat -> Prop) (vs : List Value), (∀ b, ok b -> b < w.heap.size) -> All2 (Rep1 w ok) args vs ->
  Calls P f vs.toArray w fun en w' => ∃ v γ', en = .returned v /\ FrM w w' γ' [] /\ OwnS w' (okM w w' ok γ' γ' [] obs') γ' obs' /\
   (∀ i o b, look obs' i = some o -> blk (γ' i) = some b -> w.heap.size <= b) /\ M w' (okM w w' ok γ' γ' [] obs') γ' (.aggc cs) v
def retA (a i : Nat) (obs' : List (Nat × Ob)) : KK := fun e s => match e with
 | .normal => Weak s [(a, .box i 0)] obs'
 | .ret => Weak s [(a, .box i 0)] obs'
 | _ => False
theorem zjN {P : Program} {T : TT} {E : Env} (hdr : E.dr = false) (hT : ∀ t i, T t = some i -> TI.of P t = some i) (hE : ∀ t, E.eq t = true -> EqFact P t) (hm : P.follows .mixedOrders = true)
  {f : FuncId} {fn : Func} {c : Code} (hf : P.funcs[f]? = some fn) (hb : fn.body = some c) (hn : (fn.name == "runtime.NumGoroutine") = false) (hN : codeN fn.ntmps c = true)
  {args : List V1} {obs' : List (Nat × Ob)} {cs : List Cap} (u i t : Nat) {ti : TI} (hts : fn.results.toList = [ResultVar.cell u t]) (ht : T t = some ti) (hld : loadE (St.of [(u, .box i 0)] obs') ti (.box i 0) fun z => z = .aggc cs) (hsz : args.length <= fn.ntmps) (hng : fn.ntmps <= G)
  (h : awp P T E c (St.of (argSlots 0 args) []) (retA u i obs')) : SpecA P f args obs' cs :=
 ⟨⟨fn, hf, hn, by rw [hb]; rfl⟩, fun w ok vs hok hm2 => zhn hT hE hm hf hb hN (cx := cx0 E.dr w ok fn.ntmps) id rfl rfl rfl (fun _ _ => id) (zed hok hm2 hsz hng) h
  (fun x h1 h2 s h => by cases x <;> first | exact h1 rfl | exact h2 rfl | exact h) fun x s a w' hx hk hR _ => by
  have k2 : Weak s [(u, .box i 0)] obs' := by rcases hx with rfl | rfl <;> exact hk
  obtain ⟨γ', hg⟩ := hR.weak k2
  have hs0 := hg.slots u
  have hsl : (St.of [(u, .box i 0)] obs').sl u = .box i 0 := by
   show (look [(u, AV.box i 0)] u).getD .any = _
   simp only [look, zao]; rfl
  rw [hsl] at hs0
  have hl0 : ∀ b, ¬ LentB γ' [] b := fun b ⟨j, o, h1, _⟩ => by cases h1
  have hok2 : ∀ b, okOf (cx0 E.dr w ok fn.ntmps) (St.of [(u, .box i 0)] obs') γ' w' b -> okM w w' ok γ' γ' [] obs' b := fun b hb => by
   rcases hb with hb | ⟨h1, h2, h3⟩
   ·exact .inl hb
   ·exact .inr ⟨.inl (h1.elim id False.elim), h2, fun ⟨j, p, g1, g2⟩ => h3 j p g1 g2⟩
  obtain ⟨z, v, g1, g2, _, rfl⟩ := zbO hg (hT t ti ht) hs0 hld
  obtain ⟨b, hb1, hx1⟩ := id hs0
  have hv : (do loadVar t (← asAddr (a.tmps.getD u undef))).run P w' = .ok v w' := by
   rw [hx1] at g1 ⊢
   have g3 : (loadVar t ⟨b, 0, none⟩).run P w' = .ok v w' := by simpa [Instr.loadAt, Instr.sureAddr] using g1
   simpa [asAddr] using g3
  have hrun := zaP (P := P) (fn := fn) (a := a) (w := w') (vs := [v]) (by
   rw [hts, List.mapM_cons]
   simp only [Sem.run_bind] at hv ⊢
   rw [hv]
   simp)
  refine ⟨_, hrun, v, γ', rfl, ⟨hg.below.os, hg.below.tape, hg.below.output, hg.below.size, fun k hk _ => hg.below.block k hk id⟩, ⟨fun i o hi => ?_, hg.refs, hg.sep, fun i o b hi hb hok' => ?_⟩, fun i o b hi hb => (zat hg hi hb).1.elim id False.elim, ?_⟩
  ·exact (hg.objs i o hi).reO rfl (fun _ _ _ _ _ _ => rfl) (fun _ _ => trivial) hok2
  ·rcases hok' with h1 | ⟨_, _, h3⟩
   ·exact zfr hg (zat hg hi hb).1 h1
   ·exact h3 ⟨i, o, hi, hb⟩
  ·exact M.keep (fun b hb => ⟨hok2 b hb, rfl⟩) (fun _ _ => rfl) g2⟩
section
variable {s : St} {o : Oper} {fo : Operand} {f : FuncId} {K : St -> Prop} {E : Env}
theorem CallSt.obA (sl : List (Nat × AV)) (rest : List (Nat × Ob)) {obs' : List (Nat × Ob)} {cs : List Cap} (hdr : E.dr = false) {args : Array Operand} {at' : Array TypeId} (hop : o.op = .call { callee := .value fo, args, argTypes := at' }) {xs : List V1} (h : SpecA PP f xs obs' cs)
    (hw : Weak s sl rest) (hx : toV1c (St.of sl rest) fo args.toList = some (f, xs)) (hno : noOwn (St.of sl rest) args.toList = true) (hi : ∀ j ∈ (AV.aggc cs).refs, (look obs' j).isSome = true) (hc : goodM sl [] obs' rest [] = true)
    (hk : K ((St.of sl (obs' ++ rest)).putO o.dst (.aggc cs))) : CallSt E PP s o fo args.toList K := by
  obtain ⟨ex, h1, h2⟩ := zav hx
  rw [zaf]
  refine .inr (.inr (.inl ⟨_, ⟨fun cx a w hD hd hR => ?_⟩, hk⟩))
  obtain ⟨γ, hg⟩ := hR.weak hw
  obtain ⟨caps, hf, hcm⟩ := zaL h1 (ev_m hg fo).1
  have hm := (zbe hg h2 ((zbr hg args.toList).append hcm)).2 (zbX hno (za8 h1))
  refine .enter (zaq hop hf h.1) ?_
  refine (h.2 w _ _ (fun b hb => zaj hg hb) hm).mono fun en w' ⟨v, γ2, e0, hfr, ho, hn, hres⟩ => ?_
  have hl0 : ∀ (γ : Nat -> Value) b, ¬ LentB γ [] b := fun γ b ⟨j, o, h1, _⟩ => by cases h1
  have hM0 : ∀ b, okM w w' (okOf cx (St.of sl ([] ++ rest)) γ w) γ2 γ2 [] obs' b ↔ okM w w' (okOf cx (St.of sl ([] ++ rest)) γ w) γ γ2 [] obs' b := fun b =>
    ⟨fun hb => hb.imp id fun hb => ⟨hb.1.imp id fun h => absurd h (hl0 _ _), hb.2⟩, fun hb => hb.imp id fun hb => ⟨hb.1.imp id fun h => absurd h (hl0 _ _), hb.2⟩⟩
  obtain ⟨γ', hg', hγ, hM⟩ := RG.lendM (obs := []) (pins := []) (γ2 := γ2) hg (fun e => by have := hD e; rw [hdr] at this; cases this) ⟨hfr.os, hfr.tape, hfr.output, hfr.size, fun k hk _ => hfr.block k hk (hl0 _ _)⟩ (fun i hi => by cases hi)
    ⟨fun i o hi => (ho.objs i o hi).reO rfl (fun _ _ _ _ _ _ => rfl) (fun _ _ => trivial) fun b hb => (hM0 b).1 hb, ho.refs, ho.sep, fun i o b hi hb hk => ho.out i o b hi hb ((hM0 b).2 hk)⟩ (fun i o b hi hb => .inl (hn i o b hi hb)) hc
  refine ⟨_, e0, γ', hg'.putO hd (M.keep (fun b hb => ⟨hM b ((hM0 b).1 hb), rfl⟩) (fun j hj => hγ j (hi j hj)) hres) fun j hj => ?_⟩
  show (look (obs' ++ rest) j).isSome = true
  rw [zam]
  have := hi j hj
  cases e : look obs' j with
  | some x => rfl
  | none => rw [e] at this; cases this
theorem CallSt.lendW (ids : List Nat) {args : Array Operand} {at' : Array TypeId} (hop : o.op = .call { callee := .value fo, args, argTypes := at' }) {xs ys res res' : List V1} (h : SpecG E.dr PP f ys res) (hx : toV1c (s.freezes ids) fo args.toList = some (f, xs)) (he : eqV1s xs ys)
    (hw : ∀ w ok v, ResRep w ok res v -> ResRep w (fun _ => False) res' v) (hk : K (s.putO o.dst (resAV res'))) : CallSt E PP s o fo args.toList K := by
  obtain ⟨ex, h1, h2⟩ := zav hx
  rw [zaf]
  refine .inr (.inr (.inl ⟨_, ⟨fun cx a w hD hd hR => ?_⟩, hk⟩))
  obtain ⟨γ, hg⟩ := hR
  obtain ⟨γ', h'⟩ := R.freezes ids ⟨γ, hg⟩
  obtain ⟨cvs, hcx, hcm⟩ := zaL h1 (ev_m h' fo).1
  have hm := (zbe h' h2 ((zbr h' args.toList).append hcm)).1
  refine .enter (zaq hop hcx h.1) ?_
  refine ((h.eqv he).2 w _ _ (fun b hb => hb) hm).mono fun en w' ⟨v, e, hb, hres⟩ => ⟨v, e, γ, ?_⟩
  exact (hg.grow hb.1 fun e => hb.2 (hD e)).putO hd (zaS (.inl fun b hb => hb.elim) (hw _ _ _ hres)) (fun j hj => by rw [zaw] at hj; cases hj)
end
theorem zec {w : World} {ok : Nat -> Prop} {k n : Nat} {f g : Nat -> Nat -> D} {v : Value} (h : Rep w ok (.slc k n f) v) : Rep w (fun _ => False) (.slc 0 n g) v := by
 rcases h with ⟨h, e⟩ | ⟨a, cap, e, h1, h2, _⟩
 ·exact .inl ⟨h, e⟩
 ·exact .inr ⟨a, cap, e, h1, h2, fun i _ j hj => absurd hj (Nat.not_lt_zero _)⟩
abbrev lenD (n : Nat) : D := .slc 0 n fun _ _ => .nil
theorem zgc {w : World} {ok : Nat -> Prop} {x x' : V1} {y : D} {v : Value} (hy : y.flat = true) (hx : ∀ u, Rep1 w ok x u -> Rep1 w (fun _ => False) x' u) (h : ResRep w ok [x, .d y] v) : ResRep w (fun _ => False) [x', .d y] v := by
 obtain ⟨vs, e, h⟩ := h
 cases h with
 | cons a b =>
  cases b with
  | cons c d =>
   cases d
   exact ⟨_, e, .cons (hx _ a) (.cons (Rep1.flat (x := .d y) hy c) .nil)⟩
theorem zjO (ids : List Nat) {f : FuncId} {fn : Func} {c : Code} (hf : PP.funcs[f]? = some fn) (hb : fn.body = some c) (hq : ((fn.name == "runtime.NumGoroutine") || !(codeN fn.ntmps c && Nat.ble fn.ntmps 4294967296)) = false)
  {args : List V1} {obs' : List (Nat × Ob)} {cs : List Cap} (u i t : Nat) {ti : TI} (hts : fn.results.toList = [ResultVar.cell u t]) (ht : TTab t = some ti) (hld : loadE (St.of [(u, .box i 0)] obs') ti (.box i 0) fun z => z = .aggc cs) (hsz : Nat.ble args.length fn.ntmps = true)
  (h : awp PP TTab (EC ids) c (St.of (argSlots 0 args) []) (retA u i obs')) : SpecA PP f args obs' cs := by
 simp only [Bool.or_eq_false_iff, Bool.not_eq_false', Bool.and_eq_true] at hq
 exact zjN (E := EC ids) rfl hT hE hM hf hb hq.1 hq.2.1 u i t hts ht hld (Nat.le_of_ble_eq_true hsz) (Nat.le_of_ble_eq_true hq.2.2) h
abbrev exP : List D := [I 9, I 9, lI exS.c.M.G, lT exS.c.T, lZ exS.c.Z, lC exS.k.C, lK exS.k.K, I 0, I 60]
abbrev exOb : List (Nat × Ob) := [(0, .box (exP.map AV.d ++ [.own 25])), (25, .row 102 8 3 (rowRp exR))]
abbrev exCs : List Cap := exP.map Cap.dat ++ [.own 25]
theorem zhG : SpecA PP 33 [] exOb exCs := by
 refine zjO [6] Tryz.func33 rfl (by kernel_rfl) 0 0 37 rfl rfl rfl rfl ?_
 refine ⟨⟨by decide, rfl, by decide, by decide⟩, ?_⟩
 refine CutOb.at [(0, .box 0 0), (1, .box 1 0)] [(0, .box (List.replicate 10 .any)), (1, .box (exP.map AV.d ++ [.own 25])), (25, .row 102 8 3 (rowRp exR))] ⟨rfl, ⟨zbn rfl rfl, ?_, obR rfl ⟨rfl, .inr ⟨rfl, fun i hi j hj => ?_⟩⟩, trivial⟩, wq rfl⟩ ?_
 ·refine ⟨⟨rfl, rfl⟩, ⟨rfl, rfl⟩, ⟨rfl, .inr ⟨rfl, fun i hi j hj => ?_⟩⟩, ⟨rfl, _, _, _, _, rfl, rfl, .inr ⟨rfl, fun i hi j hj => ?_⟩⟩, rfl, ⟨rfl, _, _, _, _, rfl, rfl, .inr ⟨rfl, fun i hi j hj => ?_⟩⟩, rfl, ⟨rfl, rfl⟩, ⟨rfl, rfl⟩, rfl, trivial⟩
  ·have hj : j < 1 := hj
   obtain rfl : j = 0 := by omega
   show D.eqv (I 0) (I ((List.replicate 81 (0 : Int)).getD i 0))
   have : (List.replicate 81 (0 : Int)).getD i 0 = 0 := by
    rw [gdq, List.getElem?_replicate]
    split <;> rfl
   rw [this]
   exact ⟨rfl, rfl⟩
  ·have hi : i < 2 := hi
   have hj : j < 4 := hj
   obtain rfl | rfl : i = 0 \/ i = 1 := by omega
   all_goals match j, hj with
   | 0, _ => exact ⟨rfl, rfl⟩
   | 1, _ => exact ⟨rfl, rfl⟩
   | 2, _ => exact ⟨rfl, rfl⟩
   | 3, _ => exact ⟨rfl, rfl⟩
  ·have hi : i < 2 := hi
   have hj : j < 8 := hj
   obtain rfl | rfl : i = 0 \/ i = 1 := by omega
   all_goals match j, hj with
   | 0, _ => exact ⟨rfl, rfl⟩
   | 1, _ => exact ⟨rfl, rfl⟩
   | 2, _ => exact ⟨rfl, rfl⟩
   | 3, _ => exact ⟨rfl, rfl⟩
   | 4, _ => exact ⟨rfl, rfl⟩
   | 5, _ => exact ⟨rfl, rfl⟩
   | 6, _ => exact ⟨rfl, rfl⟩
   | 7, _ => exact ⟨rfl, rfl⟩
 ·have hi : i < 3 := hi
  have hj : j < 8 := hj
  obtain rfl | rfl | rfl : i = 0 \/ i = 1 \/ i = 2 := by omega
  all_goals match j, hj with
  | 0, _ => exact ⟨rfl, rfl⟩
  | 1, _ => exact ⟨rfl, rfl⟩
  | 2, _ => exact ⟨rfl, rfl⟩
  | 3, _ => exact ⟨rfl, rfl⟩
  | 4, _ => exact ⟨rfl, rfl⟩
  | 5, _ => exact ⟨rfl, rfl⟩
  | 6, _ => exact ⟨rfl, rfl⟩
  | 7, _ => exact ⟨rfl, rfl⟩
 exact ⟨rfl, ⟨obX rfl, obR rfl (dE _), trivial⟩, wq rfl⟩
theorem zkb (s : Svc) (P : Nat -> Bool) (hv : validM s.c.M = true) : SpecO PP 147 [s.v, .agg (bD P)] 52 2 (plsL s.c.M P).length (rowP (plsL s.c.M P)) := by
 have hl := zcF hv
 refine zcG Tryz.func147 rfl (by kernel_rfl) rfl ?_
 refine CallSt.ro (zek s.c.M) rfl rfl ?_
 refine CodeOb.rangeAt (zcM s.c.M hv) rfl (fun _ => rfl) (by decide) [(2, .box 2 0), (3, .box 3 0), (5, .box 5 0)] [(5, 0)] (fun pre => obPls s P pre.length) rfl (fun _ => rfl) ?_ (Iv := fun _ => True) trivial (fun v pre x hx _ => ?_) (fun _ => ?_)
 ·exact ⟨rfl, ⟨obX rfl, obX rfl, obN rfl rfl rfl, obZ rfl rfl, trivial⟩, wq rfl⟩
 ·obtain ⟨rfl, hk⟩ := zgi hx
  have hn := zbT hv (k := pre.length)
  have hp := zl7 P pre.length (by omega)
  rw [<- hn] at hp
  have hlen := zee s.c.M P pre.length
  refine cP hp rfl rfl ?_
  apply bY <;> intro h1
  ·refine ⟨⟨.inr rfl, by unfold maxLen; omega, by show ((plsK s.c.M P pre.length).length + 1) * 16 <= 140737488355328; omega⟩, ?_⟩
   refine ⟨trivial, rfl, ⟨obX rfl, obX rfl, obO rfl, obR rfl ?_, trivial⟩, wq rfl⟩
   rw [List.length_append]
   show D.eqv _ (.slc 2 (plsK s.c.M P (pre.length + 1)).length (rowP (plsK s.c.M P (pre.length + 1))))
   rw [zgt h1]
   exact zng (at2 rfl rfl)
  ·refine ⟨trivial, rfl, ⟨obX rfl, obX rfl, obO rfl, obR rfl ?_, trivial⟩, wq rfl⟩
   rw [List.length_append]
   show D.eqv _ (.slc 2 (plsK s.c.M P (pre.length + 1)).length (rowP (plsK s.c.M P (pre.length + 1))))
   rw [zh9 h1]; exact dE _
 ·rw [zca]
  exact ⟨rfl, rfl, rfl, fun i hi j hj => dE _⟩
theorem zgO (l : List Place) (m j : Nat) : (rowP l m j).flat = true := by
 show ((l.getD m default).at j).flat = true
 unfold Place.at
 split <;> rfl
theorem SpecTO.eqv {dr : Bool} {P : Program} {f : FuncId} {xs ys : List V1} {e k n : Nat} {g : Nat -> Nat -> D} {res : List V1} (h : SpecTO dr P f ys e k n g res) (he : eqV1s xs ys) : SpecTO dr P f xs e k n g res :=
 ⟨h.1, fun w ok vs hok hv => h.2 w ok vs hok (zaY he hv)⟩
def retTO (t0 i : Nat) (ts : List Nat) (res : List V1) (e k n : Nat) (g : Nat -> Nat -> D) : KK := fun x s => match x with
 | .normal => Weak s ((t0, .own i) :: retSl ts res) [(i, .row e k n g)]
 | .ret => Weak s ((t0, .own i) :: retSl ts res) [(i, .row e k n g)]
 | _ => False
theorem zhW {P : Program} {T : TT} {E : Env} (hT : ∀ t i, T t = some i -> TI.of P t = some i) (hE : ∀ t, E.eq t = true -> EqFact P t) (hm : P.follows .mixedOrders = true)
  {f : FuncId} {fn : Func} {c : Code} (hf : P.funcs[f]? = some fn) (hb : fn.body = some c) (hn : (fn.name == "runtime.NumGoroutine") = false) (hN : codeN fn.ntmps c = true)
  {args : List V1} (t0 i t1 : Nat) (ts : List Nat) (hts : fn.results.toList = (t0 :: t1 :: ts).map ResultVar.tmp) {res : List V1} (hlr : (t1 :: ts).length = res.length) (hpn : (t0 :: t1 :: ts).Nodup) (hfl : res.all V1.flat = true)
  {e k n : Nat} {g : Nat -> Nat -> D} (hsz : args.length <= fn.ntmps) (hng : fn.ntmps <= G) (h : awp P T E c (St.of (argSlots 0 args) []) (retTO t0 i (t1 :: ts) res e k n g)) : SpecTO E.dr P f args e k n g res :=
 ⟨⟨fn, hf, hn, by rw [hb]; rfl⟩, fun w ok vs hok hm2 => zhn hT hE hm hf hb hN (cx := cx0 E.dr w ok fn.ntmps) id rfl rfl rfl (fun _ _ => id) (zed hok hm2 hsz hng) h
  (fun x h1 h2 s h => by cases x <;> first | exact h1 rfl | exact h2 rfl | exact h) fun x s a w' hx hk hR _ => by
  have k2 : Weak s ((t0, .own i) :: retSl (t1 :: ts) res) [(i, .row e k n g)] := by rcases hx with rfl | rfl <;> exact hk
  obtain ⟨γ', hg⟩ := hR.weak k2
  have hsl : ∀ t v, look ((t0, AV.own i) :: retSl (t1 :: ts) res) t = some v -> (St.of ((t0, .own i) :: retSl (t1 :: ts) res) [(i, .row e k n g)]).sl t = v := fun t v e => by
   show (look ((t0, AV.own i) :: retSl (t1 :: ts) res) t).getD .any = _
   rw [e]; rfl
  have hs0 := hg.slots t0
  rw [hsl t0 (.own i) (by simp only [look, zao]; rfl)] at hs0
  have hval : a.tmps.getD t0 undef = γ' i := hs0
  have ho : (St.of ((t0, .own i) :: retSl (t1 :: ts) res) [(i, .row e k n g)]).ob i = some (.row e k n g) := by
   show look [(i, Ob.row e k n g)] i = _
   simp only [look, zao]; rfl
  obtain ⟨xs, h1, h0, h2, h3⟩ := hg.objs i _ ho
  have hnd : (([(t0, AV.own i)] ++ retSl (t1 :: ts) res).map Prod.fst).Nodup := by rw [List.map_append, zb2 hlr]; exact hpn
  have hres := zeb hg hlr fun t x hx => hsl t _ (zbo (l := [(t0, AV.own i)]) hx hnd)
  have hrun := zaP (P := P) (fn := fn) (a := a) (w := w') (vs := (t0 :: t1 :: ts).map fun t => a.tmps.getD t undef) (by rw [hts]; exact zea _)
  have h1' : w'.ownsRow w.heap.size e k (γ' i) n xs := ⟨h1.1, by
   rcases h1.2 with h4 | ⟨g', cap, cur, h4, h5, h6⟩
   ·exact .inl h4
   ·exact .inr ⟨g', cap, cur, h4, (h0 g' (by rw [h4]; rfl)).elim id False.elim, h6⟩⟩
  refine ⟨_, hrun, γ' i, (t1 :: ts).map (fun t => a.tmps.getD t undef), ?_, ⟨bel0 hg.below, hg.below.drawn⟩, ⟨xs, h1', h2, fun m hm j hj => ?_⟩, fun ok' => ?_⟩
  ·rw [<- hval]; rfl
  ·obtain ⟨u, hu, hr⟩ := h3 m hm j hj
   exact ⟨u, hu, Rep.keep (fun b hb => ⟨hb.imp id fun hb => ⟨hb.1.elim id False.elim, hb.2.1, hb.2.2 i _ ho⟩, rfl⟩) hr⟩
  ·exact hres.imp fun x u hx hr => Rep1.flat (List.all_eq_true.1 hfl x hx) hr⟩
theorem zeM {f : FuncId} {fn : Func} {c : Code} (hf : PP.funcs[f]? = some fn) (hb : fn.body = some c) (hq : ((fn.name == "runtime.NumGoroutine") || !(codeN fn.ntmps c && Nat.ble fn.ntmps 4294967296)) = false)
  {args : List V1} (t0 i t1 : Nat) (ts : List Nat) {res : List V1} (hts : fn.results.toList = (t0 :: t1 :: ts).map ResultVar.tmp) (hlr : (t1 :: ts).length = res.length) (hpn : (t0 :: t1 :: ts).Nodup) (hfl : res.all V1.flat = true) {e k n : Nat} {g : Nat -> Nat -> D} (hsz : Nat.ble args.length fn.ntmps = true)
  (h : awp PP TTab (EC []) c (St.of (argSlots 0 args) []) (retTO t0 i (t1 :: ts) res e k n g)) : SpecTO false PP f args e k n g res := by
 simp only [Bool.or_eq_false_iff, Bool.not_eq_false', Bool.and_eq_true] at hq
 exact zhW (E := EC []) hT hE hM hf hb hq.1 hq.2.1 t0 i t1 ts hts hlr hpn hfl (Nat.le_of_ble_eq_true hsz) (Nat.le_of_ble_eq_true hq.2.2) h
section
variable {s : St} {o : Oper} {fo : Operand} {args : List Operand} {f : FuncId} {K : St -> Prop} {E : Env}
theorem CallSt.ownT {xs ys res : List V1} {d e k n : Nat} {g : Nat -> Nat -> D} (h : SpecTO E.dr PP f ys e k n g res) (hx : toV1c s fo args = some (f, xs)) (he : eqV1s xs ys) (hd : o.dst = some d) (hg : ∀ m j, m < n -> j < k -> (g m j).flat = true)
  (hk : K (Go.Pg.mk s d (.row e k n g) (.tupr d res))) : CallSt E PP s o fo args K := by
 obtain ⟨ex, h1, h2⟩ := zav hx
 rw [zaf]; exact .inr (.inl ⟨[], f, ex, d, h1, hd, by rw [zal]; exact ⟨xs, e, k, n, g, some res, h2, h.eqv he, hg, hk⟩⟩)
end
theorem ziG (s : Svc) (b : Brn) (l : List Rpt) (h0 : givE s b l = 0) : SpecTO false PP 101 [s.v, b.v, .d (lR l)] 52 2 (plcR s b l).1.length (rowP (plcR s b l).1) [.d (.int .i64 0)] := by
 have e : allR s b l = (l.map (alwP s b), 0) := by unfold allR; rw [if_neg (fun hh => hh h0)]
 have e1 : plcR s b l = (plsL s.c.M (metP (l.map (alwP s b))), 0) := by unfold plcR; rw [if_neg (fun hh => hh h0)]
 have ok := ze7 h0
 have hn := ok.n
 rw [e1]
 refine zeM Tryz.func101 rfl (by kernel_rfl) 6 23 7 [] rfl rfl (by decide) rfl rfl ?_
 have ha := zmb s b l
 rw [e] at ha
 refine CallSt.ro ha rfl rfl ?_
 refine sF ?_
 refine oL [0, 1, 2, 6003, 4, 5] (FzOb.no ?_)
 refine oP (zlc (l.map (alwP s b)) (by rw [List.length_map]; omega)) rfl rfl ?_
 refine ⟨⟨_, _, _, _, _, _, rfl, rfl, rfl, rfl, ?_⟩⟩
 rw [zal]
 refine ⟨_, _, _, _, _, none, rfl, zkb s (metP (l.map (alwP s b))) ok.s.c.m, fun m j _ _ => zgO _ m j, ?_⟩
 exact ⟨rfl, ⟨obR rfl (dE _), trivial⟩, wq rfl⟩
theorem ziM {d : Day} (h : DayOk d) (ids : List Int) (hi : ids.length <= 1000000) (h1 : (brnD d ids).To - (brnD d ids).From <= d.Long) (h0 : givE d.s (brnD d ids) (lstD d ids) = 0) :
  SpecO PP 64 [d.v, .d (lI ids)] 52 2 (plsD d ids).length (rowP (plsD d ids)) := by
 have hn := h.n
 have e : plsD d ids = (plcR d.s (brnD d ids) (lstD d ids)).1 := by unfold plsD; rw [if_pos h1]
 rw [e]
 refine zcG Tryz.func64 rfl (by kernel_rfl) rfl ?_
 refine cP (ziP d ids (by omega) hi) rfl rfl ?_
 refine cP (zfQ d (brnD d ids) (zf3 h ids)) rfl rfl ?_
 apply bY <;> intro h2
 ·have h2 : ¬ (brnD d ids).To - (brnD d ids).From <= d.Long := by simpa using h2
  exact absurd h1 h2
 refine oL [0, 1, 2, 3, 4, 5, 6006, 7, 8, 9, 10, 11] (FzOb.no ?_)
 refine CallOb.ro (ziO d ids (by omega) hi) rfl rfl ?_
 refine ⟨⟨_, _, _, _, _, _, rfl, rfl, rfl, rfl, ?_⟩⟩
 rw [zal]
 refine ⟨_, _, _, _, _, some _, rfl, ziG d.s (brnD d ids) (lstD d ids) h0, fun m j _ _ => zgO _ m j, ?_⟩
 exact ⟨rfl, rfl, rfl, fun i hi j hj => dE _⟩
theorem zmk (d : Day) (ids : List Int) (hn : d.R.length <= 1000000) (hi : ids.length <= 1000000) (h0 : askE d ids = 0) (h1 : (brnD d ids).To - (brnD d ids).From <= d.Long) (hg : givE d.s (brnD d ids) (lstD d ids) = 0) :
  SpecTO false PP 19 [d.v, .d (lI ids)] 52 2 (plsD d ids).length (rowP (plsD d ids)) [.d (.int .i64 0)] := by
 refine zeM Tryz.func19 rfl (by kernel_rfl) 4 15 5 [] rfl rfl (by decide) rfl rfl ?_
 have ha := ziR d ids hn hi
 rw [h0] at ha
 refine cP ha rfl rfl ?_
 refine sF ?_
 refine CallSt.own (ziM (zlq h0) ids hi h1 hg) rfl rfl (fun m j _ _ => zgO _ m j) ?_
 exact ⟨rfl, ⟨obR rfl (dE _), trivial⟩, wq rfl⟩
theorem giv12 : givE exS (brnD exD [1, 2]) (lstD exD [1, 2]) = 0 := by
 have e1 : brnD exD [1, 2] = ⟨100, 110, 0⟩ := by decide +kernel
 have e2 : lstD exD [1, 2] = [xq1, xq2] := by decide +kernel
 rw [e1, e2]
 refine znM _ (by decide +kernel) _ (by decide) (fun r hr => ?_) (by decide +kernel)
 rcases List.mem_cons.1 hr with rfl | hr
 ·exact rx1
 ·rcases List.mem_cons.1 hr with rfl | hr
  ·exact rx2
  ·cases hr
theorem zn3 : SpecTO false PP 19 [exD.v, .d (lI [1, 2])] 52 2 1 (rowP [⟨4, 4⟩]) [.d (.int .i64 0)] := by
 have h := zmk exD [1, 2] (by decide) (by decide) (ask3 [1, 2] (by decide +kernel) (by decide +kernel)) (by decide +kernel) giv12
 rw [c3] at h
 exact h
theorem znm : Spec PP 21 [exD.v, .d (lI [1, 3])] [B false, .d (.int .i64 0)] := by
 have h := zch exD [1, 3] (by decide) (by decide)
 rw [zjD] at h
 exact h
theorem few3 : Spec PP 29 [exD.v] [N 2, .d (.int .i64 0)] := by
 have h := zgI exD (by decide)
 rw [zmV] at h
 exact h
theorem few4 : Spec PP 29 [exD4.v] [N 3, .d (.int .i64 0)] := by
 have h := zgI exD4 (by decide)
 rw [zmU] at h
 exact h
abbrev vdL (a : Int) (m n : Nat) : V1 := .agg [I a, lenD m, lenD n]
theorem zhH {w : World} {ok : Nat -> Prop} (x : Vdt) {a : Int} (ha : x.Ans = a) : ∀ u, Rep1 w ok x.v u -> Rep1 w (fun _ => False) (vdL a x.T.length x.A.length) u := fun u ⟨us, e, h⟩ => by
 subst ha
 refine ⟨us, e, ?_⟩
 cases h with
 | cons h1 h =>
  cases h with
  | cons h2 h =>
   cases h with
   | cons h3 h =>
    cases h
    exact .cons (Rep.flat rfl h1) (.cons (zec h2) (.cons (zec h3) .nil))
theorem zm0 {w : World} {ok : Nat -> Prop} {l : List Fit} {m : List Mis} : ∀ u, Rep1 w ok (.agg [lFt l, lMs m]) u -> Rep1 w (fun _ => False) (.agg [lenD l.length, lenD m.length]) u := fun u ⟨us, e, h⟩ => by
 refine ⟨us, e, ?_⟩
 cases h with
 | cons h1 h =>
  cases h with
  | cons h2 h =>
   cases h
   exact .cons (zec h1) (.cons (zec h2) .nil)
theorem ziH {f : Nat -> Nat -> D} {a b : Int} (h0 : D.eqv (f 0 0) (I a)) (h1 : D.eqv (f 1 0) (I b)) : D.eqv (.slc 1 2 f) (lI [a, b]) := ⟨rfl, .inr ⟨rfl, fun i hi j hj => by
 match i, hi, j, hj with
 | 0, _, 0, _ => exact h0
 | 1, _, 0, _ => exact h1⟩⟩
theorem zm8 : Spec PP 14 [exD.v, N 1, N 2] [(samR exD 1 2).1.v, .d (.int .i64 0)] := by
 have h := ziS exD 1 2 (by decide)
 rw [zeK.2] at h
 exact h
theorem zm7 : Spec PP 14 [exD.v, N 1, N 3] [(samR exD 1 3).1.v, .d (.int .i64 0)] := by
 have h := ziS exD 1 3 (by decide)
 rw [zeJ.2] at h
 exact h
theorem zlJ : Spec PP 14 [exD4.v, N 1, N 2] [(samR exD4 1 2).1.v, .d (.int .i64 0)] := by
 have h := ziS exD4 1 2 (by decide)
 rw [zeI.2] at h
 exact h
theorem tab3 : Spec PP 10 [exD.v] [.agg [lFt (tabR exD).1, lMs (tabR exD).2.1], .d (.int .i64 0)] := by
 have h := zmj exD (by decide)
 rw [zhL.2.2] at h
 exact h
theorem zlD {w : World} {ok : Nat -> Prop} : ∀ u, Rep1 w ok (.agg [lFt (tabR exD).1, lMs (tabR exD).2.1]) u -> Rep1 w (fun _ => False) (.agg [lenD 2, lenD 2]) u := fun u h => by
 have := zm0 u h
 rw [zhL.1, zhL.2.1] at this
 exact this
theorem zni {n : Nat} {g : Nat -> Nat -> D} (hn : n = 4) (hg : ∀ j, j < 8 -> D.eqv (g 0 j) (xq4.at j)) : D.eqv (.slc 8 n (appRow 3 (rowRp exR) g)) (lR exD4.R) := by
 subst hn
 refine ⟨rfl, .inr ⟨rfl, fun i hi j hj => ?_⟩⟩
 match i, hi with
 | 0, _ => exact dE (xq1.at j)
 | 1, _ => exact dE (xq2.at j)
 | 2, _ => exact dE (xq3.at j)
 | 3, _ => exact hg j hj
theorem x4 : ∀ j, j < 8 -> D.eqv (rowOf 8 xq4.ds 0 j) (xq4.at j) := fun j hj => by
 match j, hj with
 | 0, _ => exact ⟨rfl, rfl⟩
 | 1, _ => exact ⟨rfl, rfl⟩
 | 2, _ => exact ⟨rfl, rfl⟩
 | 3, _ => exact ⟨rfl, rfl⟩
 | 4, _ => exact ⟨rfl, rfl⟩
 | 5, _ => exact ⟨rfl, rfl⟩
 | 6, _ => exact ⟨rfl, rfl⟩
 | 7, _ => exact ⟨rfl, rfl⟩
theorem zlw : Spec PP 8 [] [B true] := by
 refine sA Tryz.func8 ?_
 refine CallSt.obA [(0, .d (.bool false))] [] rfl rfl zhG ⟨rfl, trivial, wq rfl⟩ rfl rfl (fun j hj => by
  have hj : j ∈ [25] := hj
  obtain rfl := List.mem_singleton.1 hj
  rfl) rfl ?_
 refine CallSt.ownT zn3 rfl ⟨zab _, ziH ⟨rfl, rfl⟩ ⟨rfl, rfl⟩, trivial⟩ rfl (fun m j _ _ => zgO _ m j) ?_
 refine CallSt.pureE znm rfl ⟨zab _, ziH ⟨rfl, rfl⟩ ⟨rfl, rfl⟩, trivial⟩ rfl ?_
 refine CallSt.pureE few3 rfl ⟨zab _, trivial⟩ rfl ?_
 refine CallSt.lendW [] rfl zm8 rfl ⟨zab _, ⟨rfl, rfl⟩, ⟨rfl, rfl⟩, trivial⟩ (fun w ok v h => zgc (y := .int .i64 0) rfl (zhH _ zeK.1) h) ?_
 refine CallSt.lendW [] rfl zm7 rfl ⟨zab _, ⟨rfl, rfl⟩, ⟨rfl, rfl⟩, trivial⟩ (fun w ok v h => zgc (y := .int .i64 0) rfl (zhH _ zeJ.1) h) ?_
 refine CallSt.lendW [] rfl tab3 rfl ⟨zab _, trivial⟩ (fun w ok v h => zgc (y := .int .i64 0) rfl zlD h) ?_
 repeat first | apply sT | apply sF
 refine ⟨⟨.inr rfl, by unfold maxLen; omega, by show (3 + 1) * 64 <= 140737488355328; omega⟩, ?_⟩
 refine CallSt.lendW [] rfl zlJ rfl ⟨⟨dE _, dE _, dE _, dE _, dE _, dE _, dE _, dE _, dE _, ?_, trivial⟩, ⟨rfl, rfl⟩, ⟨rfl, rfl⟩, trivial⟩ (fun w ok v h => zgc (y := .int .i64 0) rfl (zhH _ zeI.1) h) ?_
 ·exact zni rfl x4
 refine CallSt.pureE few4 rfl ⟨⟨dE _, dE _, dE _, dE _, dE _, dE _, dE _, dE _, dE _, ?_, trivial⟩, trivial⟩ rfl ?_
 ·exact zni rfl x4
 refine ⟨⟨by decide, by decide⟩, ?_⟩
 refine ⟨by decide, ?_⟩
 repeat first | apply sT | apply sF
 exact r1B rfl rfl
end Go.Pg
namespace Go.Pg
open Go.Proofs Go.RowKit Go.MapKept
abbrev ivs (l : List Int) : List Value := l.map (Value.int .i64)
theorem ziI : ∀ {l : List Int}, 2 <= l.length -> kv l = .agg (ivs l).toArray
 | [], h => by simp at h
 | [_], h => by simp at h
 | _ :: _ :: _, _ => rfl
theorem zfG {w : World} {ok : Nat -> Prop} : ∀ l : List Int, All2 (Rep w ok) (l.map fun n => D.int .i64 n) (ivs l)
 | [] => .nil
 | _ :: l => .cons rfl (zfG l)
theorem zfg : ∀ {xs ys : List Int}, xs.length = ys.length -> eqDs (xs.map fun n => D.int .i64 n) (ys.map fun n => D.int .i64 n) = some (decide (xs = ys))
 | [], [], _ => rfl
 | x :: xs, y :: ys, h => by
  have e : eqDs ((x :: xs).map fun n => D.int .i64 n) ((y :: ys).map fun n => D.int .i64 n) = match some (x == y), eqDs (xs.map fun n => D.int .i64 n) (ys.map fun n => D.int .i64 n) with
   | some a, some b => some (a && b)
   | _, _ => none := rfl
  rw [e, zfg (by simpa using h)]
  show some ((x == y) && decide (xs = ys)) = _
  congr 1
  rw [Bool.eq_iff_iff]
  simp
 | [], _ :: _, h => by simp at h
 | _ :: _, [], h => by simp at h
theorem zdM {P : Program} {t : TypeId} (h : intS P t = true) : ∃ fs : Array Field, P.underlying t = some (.struct fs) /\ intF P 0 fs.toList = true /\ P.stoodInHeld t = false := by
 unfold intS at h
 split at h
 ·rename_i fs hu
  simp only [Bool.and_eq_true, Bool.not_eq_true'] at h
  exact ⟨fs, hu, h.1.1.1, h.1.2⟩
 ·simp at h
theorem zdo {P : Program} {t : TypeId} (h : intS P t = true) {fs : Array Field} (hu : P.underlying t = some (.struct fs)) {xs ys : List Int} (hx : xs.length = fs.size) (hy : xs.length = ys.length) (w : World) :
  (Op.equal t (.agg (ivs xs).toArray) (.agg (ivs ys).toArray)).run P w = .ok (decide (xs = ys)) w := by
 obtain ⟨fs', hu', h1, h3⟩ := zdM h
 rw [hu] at hu'
 cases hu'
 have hfo : P.fieldsOf t = fs := by simp [Program.fieldsOf, hu]
 have ht : P.underlying t = some (.struct (P.fieldsOf t)) := by rw [hfo]; exact hu
 show (Op.equalIn 10000 t _ _).run P w = _
 rw [run_equalIn_struct w 9999 t _ _ ht h3, hfo]
 exact zi5 fs.toList 0 _ _ _ _ (fun _ => True) _ h1 (by simp [hx]) (by simpa using zfg hy) (zfG xs) (zfG ys)
theorem zdC {P : Program} {w : World} {em : Bool} {n : Nat} {l : List Int} : ∀ (L : List Field) (i : Nat), intF P i L = true -> l.length = i + L.length ->
  (forIn L PUnit.unit fun (f : Field) (_ : PUnit) => (if f.name ≠ "_" then (do
   let x <- part f.type (ivs l).toArray f.offset
   Instr.checkKey em (n + 1) f.type x
   pure (ForInStep.yield PUnit.unit)) else pure (ForInStep.yield PUnit.unit) : Sem (ForInStep PUnit)) : Sem PUnit).run P w = .ok PUnit.unit w
 | [], i, _, _ => by simp
 | f :: L, i, h, hl => by
  simp only [intF, Bool.and_eq_true, Bool.not_eq_true'] at h
  obtain ⟨⟨⟨hn, ho⟩, ht⟩, hr⟩ := h
  have ho := Nat.eq_of_beq_eq_true ho
  have hn' : f.name ≠ "_" := by simpa using hn
  have hi : i < l.length := by rw [hl]; simp
  have hv : (ivs l).toArray[i]? = some (.int .i64 l[i]) := by
   show (ivs l).toArray[i]? = _
   rw [List.getElem?_toArray, List.getElem?_map, gqe hi]; rfl
  cases hund : P.underlying f.type with
  | none => rw [hund] at ht; simp at ht
  | some td =>
   cases td with
   | int k0 =>
    have hag : (isAgg f.type).run P w = .ok false w := by simp [isAgg, run_underlying hund]
    have hp1 : (part f.type (ivs l).toArray f.offset).run P w = .ok (.int .i64 l[i]) w := by simp only [part, ho, hv]; simp [hag]
    have hc : (Instr.checkKey em (n + 1) f.type (.int .i64 l[i])).run P w = .ok () w := by simp [Instr.checkKey, run_underlying hund]
    have ih := zdC (w := w) (em := em) (n := n) L (i + 1) hr (by rw [hl]; simp; omega)
    simp only [List.forIn_cons, Sem.run_bind, hn', ne_eq, not_false_eq_true, if_true, Result.andThen_ok, hp1, hc, Sem.run_pure]
    exact ih
   | _ => rw [hund] at ht; simp at ht
theorem zcz {P : Program} {t : TypeId} (h : intS P t = true) {fs : Array Field} (hu : P.underlying t = some (.struct fs)) (h2 : 2 <= fs.size) {key : List Int} (hk : key.length = fs.size) (w : World) : ∀ (es : List MapEntry) (ks : List (List Int)) (i : Nat), (es.map fun e => e.key) = ks.map kv -> (∀ k ∈ ks, k.length = fs.size) ->
  (Instr.findAsking t (kv key) es i).run P w = .ok ((es[ks.idxOf key]?).map fun e => (i + ks.idxOf key, e.val)) w
 | [], [], i, _, _ => by simp [Instr.findAsking]
 | e :: es, m :: ks, i, he, hl => by
  simp only [List.map_cons, List.cons.injEq] at he
  have hm := hl m (List.mem_cons_self ..)
  have hq := zdo h hu (xs := key) (ys := m) hk (by omega) w
  rw [<- ziI (by omega), <- ziI (by omega)] at hq
  by_cases e1 : key = m
  ·subst e1
   have : List.idxOf key (key :: ks) = 0 := by simp [List.idxOf_cons]
   rw [this]
   rw [decide_eq_true rfl] at hq
   simp [Instr.findAsking, he.1, hq]
  ·have e2 : List.idxOf key (m :: ks) = List.idxOf key ks + 1 := by
    rw [List.idxOf_cons]
    have : (m == key) = false := by simp; exact fun e => e1 e.symm
    rw [this]; rfl
   rw [e2]
   rw [decide_eq_false e1] at hq
   have ih := zcz h hu h2 hk w es ks (i + 1) he.2 fun k hk => hl k (List.mem_cons_of_mem _ hk)
   simp only [Instr.findAsking, he.1, Sem.run_bind, hq, Result.andThen_ok, Bool.false_eq_true, if_false]
   rw [ih]
   simp only [List.getElem?_cons_succ]
   congr 2
   funext e'
   rw [show i + 1 + List.idxOf key ks = i + (List.idxOf key ks + 1) by omega]
 | [], _ :: _, i, h, _ => by simp at h
 | _ :: _, [], i, h, _ => by simp at h
theorem ziJ {P : Program} {t : TypeId} {fs : Array Field} (h : intS P t = true) (hu : P.underlying t = some (.struct fs)) (h2 : 2 <= fs.size) : KeyF P t fs.size := fun key hk => by
 obtain ⟨fs', hu', h1, h3⟩ := zdM h
 rw [hu] at hu'
 cases hu'
 have ek : kv key = .agg (ivs key).toArray := ziI (by omega)
 refine ⟨fun b w => ?_, fun w => ?_, fun w es ks he hl => ?_⟩
 ·rw [ek, show (10000 : Nat) = 9999 + 1 from rfl, Instr.checkKey]
  simp only [Sem.run_bind, run_underlying hu, Result.andThen_ok]
  rw [<- Array.forIn_toList]
  refine Eq.trans (congrArg (Result.andThen · fun a w' => Sem.run P (pure ()) w') (zdC (l := key) (em := b) (n := 9998) (w := w) fs.toList 0 h1 (by simp [hk]))) ?_
  simp
 ·have hs : Instr.sameBits 10000 (kv key) (kv key) = true := by
   rw [ek]
   show ((ivs key).toArray.size == (ivs key).toArray.size && ((ivs key).toArray.toList.zip (ivs key).toArray.toList).all fun (x, y) => Instr.sameBits 9999 x y) = true
   simp only [beq_self_eq_true, Bool.true_and]
   rw [List.all_eq_true]
   intro p hp
   obtain ⟨a, b⟩ := p
   have hz : ∀ {l : List Int} {a b : Value}, (a, b) ∈ (ivs l).zip (ivs l) -> ∃ n, a = .int .i64 n /\ b = .int .i64 n := fun {l} => by
    induction l with
    | nil => intro a b h; simp at h
    | cons x l ih =>
     intro a b h
     simp only [ivs, List.map_cons, List.zip_cons_cons, List.mem_cons] at h
     rcases h with h | h
     ·cases h; exact ⟨x, rfl, rfl⟩
     ·exact ih h
   obtain ⟨n, rfl, rfl⟩ := hz (by simpa using hp)
   simp [Instr.sameBits]
  simp [Instr.keyThatStays, hs]
 ·rw [run_findKey_eq w (by rw [hu]) (kv key) es]
  have := zcz h hu h2 hk w es ks 0 he hl
  simp only [Nat.zero_add] at this
  exact this
theorem zcN {α : Type} (e : α -> List Int) (hi : ∀ x y, e x = e y -> x = y) (l : List α) (k : α) : (l.map e).idxOf (e k) < (l.map e).length ↔ k ∈ l := by
 rw [List.idxOf_lt_length_iff, List.mem_map]
 constructor
 ·rintro ⟨x, hx, h⟩; rw [<- hi _ _ h]; exact hx
 ·intro h; exact ⟨k, h, rfl⟩
end Go.Pg
