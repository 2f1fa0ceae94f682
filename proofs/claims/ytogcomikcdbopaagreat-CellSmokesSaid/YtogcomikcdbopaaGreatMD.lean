/- Texts joined and shortened by program. -/
import Derived.Test.YtogcomikcdbopaaGreatMA
import Derived.Test.YtogcomikcdbopaaGreatMC
set_option maxHeartbeats 4000000
set_option linter.all false
set_option maxRecDepth 100000
namespace Go.Pg
open Go.Proofs Go.RowKit
theorem zbg {s : Svc} {b : Brn} {l : List Rpt} : givE s b l = 0 ↔ svcE s = 0 /\ brnB b = true /\ l.length <= 24 /\ (∀ r ∈ l, rptE s r = 0) /\ (l.map Rpt.ID).Nodup := by
 have hnd : (l.map Rpt.ID).Nodup ↔ ∀ i j, i < j -> j < l.length -> (l.getD i default).ID ≠ (l.getD j default).ID := by
  unfold List.Nodup
  rw [List.pairwise_map]
  exact zc7 (r := fun a b : Rpt => a.ID ≠ b.ID)
 have hc : ∀ i, i < l.length -> (((l.take i).map Rpt.ID).contains (l.getD i default).ID = false ↔ ∀ j, j < i -> (l.getD j default).ID ≠ (l.getD i default).ID) := fun i hi => by
  constructor
  ·intro h j hj e
   rw [(zeM (Nat.le_of_lt hi) _).2 ⟨j, hj, e⟩] at h; cases h
  ·intro h
   cases hh : ((l.take i).map Rpt.ID).contains (l.getD i default).ID with
   | false => rfl
   | true => obtain ⟨j, hj, e⟩ := (zeM (Nat.le_of_lt hi) _).1 hh; exact absurd e (h j hj)
 constructor
 ·intro h
  have h0 : svcE s = 0 := by
   refine Classical.byContradiction fun g => ?_
   unfold givE at h; rw [if_pos g] at h; exact g h
  unfold givE at h
  rw [if_neg (fun hh => hh h0)] at h
  cases hb : brnB b with
  | false => rw [hb, if_pos rfl] at h; cases h
  | true =>
   rw [hb, if_neg (by decide)] at h
   by_cases hl : 24 < l.length
   ·rw [if_pos hl] at h; cases h
   rw [if_neg hl] at h
   have hz := zbb h
   have hr : ∀ j, j < l.length -> rptE s (l.getD j default) = 0 /\ ((l.take j).map Rpt.ID).contains (l.getD j default).ID = false := fun j hj => by
    have h1 := hz j hj
    unfold rp1E at h1
    by_cases h2 : rptE s (l.getD j default) = 0
    ·rw [if_neg (fun hh => hh h2)] at h1
     refine ⟨h2, ?_⟩
     cases h3 : ((l.take j).map Rpt.ID).contains (l.getD j default).ID with
     | false => rfl
     | true => rw [h3, if_pos rfl] at h1; cases h1
    ·rw [if_pos h2] at h1; exact absurd h1 h2
   refine ⟨h0, rfl, by omega, fun r hrr => ?_, hnd.2 fun i j hij hj => (hc j hj).1 (hr j hj).2 i hij⟩
   obtain ⟨j, hj, rfl⟩ := za8 default hrr
   exact (hr j hj).1
 ·rintro ⟨h0, hb, hl, hr, hn⟩
  have hn := hnd.1 hn
  unfold givE
  rw [if_neg (fun hh => hh h0), if_neg (by rw [hb]; decide), if_neg (by omega)]
  refine zaD fun j hj => ?_
  unfold rp1E
  rw [if_neg (fun hh => hh (hr _ (gd1 hj default))), if_neg (by rw [(hc j hj).2 fun i hi => hn i j hi hj]; decide)]
theorem znw {s : Svc} {b : Brn} {l m : List Rpt} (h : givE s b l = 0) (hl : m.length <= 24) (hs : ∀ r ∈ m, r ∈ l) (hn : (m.map Rpt.ID).Nodup) : givE s b m = 0 := by
 obtain ⟨h1, h2, h3, h4, h5⟩ := zbg.1 h
 exact zbg.2 ⟨h1, h2, hl, fun r hr => h4 r (hs r hr), hn⟩
@[irreducible] def rmB (L : List (Nat -> Bool)) (i : Nat) : List (Nat -> Bool) := L.take i ++ L.drop (i + 1)
theorem zmN {L : List (Nat -> Bool)} {i j : Nat} (hi : i < L.length) : (rmB L i)[j]? = if j < i then L[j]? else L[j + 1]? := by
 unfold rmB
 by_cases h : j < i
 ·rw [if_pos h, List.getElem?_append_left (by rw [List.length_take]; omega), List.getElem?_take, if_pos h]
 ·rw [if_neg h, List.getElem?_append_right (by rw [List.length_take]; omega), List.getElem?_drop, List.length_take]
  congr 1; omega
theorem zmM {L : List (Nat -> Bool)} {i : Nat} (hi : i < L.length) : (rmB L i).length = L.length - 1 := by unfold rmB; simp; omega
section
variable {s : Svc} {b : Brn} {l : List Rpt} (h : givE s b l = 0)
include h
structure CrOk (s : Svc) (b : Brn) (l : List Rpt) (J : List Int) : Prop where
  i : ∀ j ∈ J, 0 <= j /\ j < l.length
  n : J.Nodup
  c : agrB s (l.map (alwP s b)) J = false
  m : ∀ k, k < J.length -> agrB s (l.map (alwP s b)) (rmL J k) = true
end
structure LkOk (s : Svc) (x : Lk) : Prop where
  r : rptE s (blkO x) = 0
  w : (x.To - x.From) % 3600 + 2 * x.Slack + (zLk s x).Hi - (zLk s x).Lo <= 900
section
variable {s : Svc} {x : Lk} (h0 : svcE s = 0) (hx : LkOk s x) {id : Int} (hid : 1 <= id /\ id <= 1099511627776)
include h0 hx hid
end
def rptI (l : List Rpt) (id : Int) : Int := idxL (fun r => r.ID == id) l
theorem znc {m : Mp} {i j : Nat} (hw : 0 < m.w) (h : plc m i = plc m j) : i = j := by
 unfold plc at h
 have h1 : ((i % m.w : Nat) : Int) = ((j % m.w : Nat) : Int) := congrArg Place.X h
 have h2 : ((i / m.w : Nat) : Int) = ((j / m.w : Nat) : Int) := congrArg Place.Y h
 have a := Nat.div_add_mod i m.w
 have c := Nat.div_add_mod j m.w
 rw [show i / m.w = j / m.w by omega, show i % m.w = j % m.w by omega] at a
 omega
section
variable {s : Svc} {b : Brn} {l : List Rpt} (h : givE s b l = 0)
include h
end
end Go.Pg
