/- Texts joined and shortened by program. -/
import Derived.Test.YtcgifildhmkdfaaGreatJA
import Derived.Test.YtcgifildhmkdfaaGreatJC
set_option linter.all false
set_option maxRecDepth 100000
namespace Go.Pg
open Go.Proofs Go.RowKit
theorem giv_iff {s : Svc} {b : Brn} {l : List Rpt} : givE s b l = 0 ↔ svcE s = 0 ∧ brnB b = true ∧ l.length ≤ 24 ∧ (∀ r ∈ l, rptE s r = 0) ∧ (l.map Rpt.ID).Nodup := by
 have hnd : (l.map Rpt.ID).Nodup ↔ ∀ i j, i < j → j < l.length → (l.getD i default).ID ≠ (l.getD j default).ID := by
  unfold List.Nodup
  rw [List.pairwise_map]
  exact pair_gd (r := fun a b : Rpt => a.ID ≠ b.ID)
 have hc : ∀ i, i < l.length → (((l.take i).map Rpt.ID).contains (l.getD i default).ID = false ↔ ∀ j, j < i → (l.getD j default).ID ≠ (l.getD i default).ID) := fun i hi => by
  constructor
  ·intro h j hj e
   rw [(ids_has (Nat.le_of_lt hi) _).2 ⟨j, hj, e⟩] at h; cases h
  ·intro h
   cases hh : ((l.take i).map Rpt.ID).contains (l.getD i default).ID with
   | false => rfl
   | true => obtain ⟨j, hj, e⟩ := (ids_has (Nat.le_of_lt hi) _).1 hh; exact absurd e (h j hj)
 constructor
 ·intro h
  have h0 : svcE s = 0 := by
   refine Classical.byContradiction fun g => ?_
   unfold givE at h; rw [if_pos g] at h; exact g h
  unfold givE at h
  rw [if_neg (fun hh => hh h0)] at h
  cases hb : brnB b with
  | false => rw [hb, if_pos rfl] at h; cases h
  | true =>
   rw [hb, if_neg (by decide)] at h
   by_cases hl : 24 < l.length
   ·rw [if_pos hl] at h; cases h
   rw [if_neg hl] at h
   have hz := err1_zero h
   have hr : ∀ j, j < l.length → rptE s (l.getD j default) = 0 ∧ ((l.take j).map Rpt.ID).contains (l.getD j default).ID = false := fun j hj => by
    have h1 := hz j hj
    unfold rp1E at h1
    by_cases h2 : rptE s (l.getD j default) = 0
    ·rw [if_neg (fun hh => hh h2)] at h1
     refine ⟨h2, ?_⟩
     cases h3 : ((l.take j).map Rpt.ID).contains (l.getD j default).ID with
     | false => rfl
     | true => rw [h3, if_pos rfl] at h1; cases h1
    ·rw [if_pos h2] at h1; exact absurd h1 h2
   refine ⟨h0, rfl, by omega, fun r hrr => ?_, hnd.2 fun i j hij hj => (hc j hj).1 (hr j hj).2 i hij⟩
   obtain ⟨j, hj, rfl⟩ := mem_gd default hrr
   exact (hr j hj).1
 ·rintro ⟨h0, hb, hl, hr, hn⟩
  have hn := hnd.1 hn
  unfold givE
  rw [if_neg (fun hh => hh h0), if_neg (by rw [hb]; decide), if_neg (by omega)]
  refine err1_ok fun j hj => ?_
  unfold rp1E
  rw [if_neg (fun hh => hh (hr _ (gd1 hj default))), if_neg (by rw [(hc j hj).2 fun i hi => hn i j hi hj]; decide)]
section
variable {s : Svc} {b : Brn} {l : List Rpt} (h : givE s b l = 0)
include h
structure CrOk (s : Svc) (b : Brn) (l : List Rpt) (J : List Int) : Prop where
  i : ∀ j ∈ J, 0 ≤ j ∧ j < l.length
  n : J.Nodup
  c : agrB s (l.map (alwP s b)) J = false
  m : ∀ k, k < J.length → agrB s (l.map (alwP s b)) (rmL J k) = true
end
structure LkOk (s : Svc) (x : Lk) : Prop where
  r : rptE s (blkO x) = 0
  w : (x.To - x.From) % 3600 + 2 * x.Slack + (zLk s x).Hi - (zLk s x).Lo ≤ 900
theorem lk_ok {s : Svc} {x : Lk} (h : lkE s x = 0) : LkOk s x := by
 unfold lkE at h
 split at h
 ·rename_i h1; exact absurd h h1
 ·rename_i h1
  split at h
  ·cases h
  ·rename_i h2; exact ⟨Classical.byContradiction h1, by omega⟩
section
variable {s : Svc} {x : Lk} (h0 : svcE s = 0) (hx : LkOk s x) {id : Int} (hid : 1 ≤ id ∧ id ≤ 1099511627776)
include h0 hx hid
end
theorem pls_length (m : Mp) (P : Nat → Bool) : (plsL m P).length = ((List.range (m.w * m.h)).filter P).length := by unfold plsL plsK; rw [List.length_map]
def inB (s : Svc) (ps : List Place) (a n : Nat) : Bool := decide (a < ps.length) && decide (ps.getD a default = plc s.c.M n)
def outB (s : Svc) (rs : List Rsn) (w n : Nat) : Bool := decide (w < rs.length) && decide ((rs.getD w default).At = plc s.c.M n)
def rptI (l : List Rpt) (id : Int) : Int := idxL (fun r => r.ID == id) l
theorem fnd_e (s : Svc) (b : Brn) (P : Nat → Bool) (x : Lk) : (fndR s b P x).2.2 = lkE s x := by
 unfold fndR
 split
 ·rfl
 ·rename_i h; exact (Classical.byContradiction h : lkE s x = 0).symm
def lkN (s : Svc) (b : Brn) (P : Nat → Bool) (x : Lk) : Int := max (fndR s b P x).1 (fndR s b P x).2.1
def bstU (f : Nat → Int) : Nat → Nat × Int
 | 0 => (0, 0)
 | k + 1 => if k = 0 ∨ f k < (bstU f k).2 then (k, f k) else bstU f k
theorem bstU_yes {f : Nat → Int} {k : Nat} (h : k = 0 ∨ f k < (bstU f k).2) : bstU f (k + 1) = (k, f k) := by show (if _ then _ else _) = _; rw [if_pos h]
theorem bstU_no {f : Nat → Int} {k : Nat} (h : ¬ (k = 0 ∨ f k < (bstU f k).2)) : bstU f (k + 1) = bstU f k := by show (if _ then _ else _) = _; rw [if_neg h]
def lksE (s : Svc) (xs : List Lk) : Int := err1 (fun i => lkE s (xs.getD i default)) xs.length
def bstR (s : Svc) (b : Brn) (l : List Rpt) (xs : List Lk) : Int × Int :=
 if givE s b l ≠ 0 then (0, givE s b l) else if 40 < xs.length then (0, 2) else if xs.length = 0 then (0, 5)
 else if lksE s xs ≠ 0 then (0, lksE s xs) else (((bstU (fun i => lkN s b (metP (l.map (alwP s b))) (xs.getD i default)) xs.length).1 : Int), 0)
def sawP (s : Svc) (b : Brn) (x : Lk) (p : Place) : Bool := liesW (wideL s x) (towG s.c.T x.Tower).1.At p && lookB s b (blkO x) p
theorem cnt_pls (m : Mp) (P : Nat → Bool) (q : Place → Bool) : (plsL m P).countP q = ((List.range (m.w * m.h)).filter fun n => P n && q (plc m n)).length := by
 unfold plsL plsK
 rw [List.countP_map, List.countP_filter, List.countP_eq_length_filter]
 congr 1
 refine List.filter_congr fun n _ => ?_
 show (q (plc m n) && P n) = _
 exact Bool.and_comm _ _
theorem saw_cnt (s : Svc) (b : Brn) (P : Nat → Bool) (x : Lk) : (plsL s.c.M P).countP (sawP s b x) = seeK s b P x s.n := by
 rw [cnt_pls]
 unfold seeK
 congr 1
 refine List.filter_congr fun n _ => ?_
 show (P n && (liesW (wideL s x) (towG s.c.T x.Tower).1.At (plc s.c.M n) && (decide ((seesE s.c x.Tower (plc s.c.M n) b.Rise x.Tick).2 = 0) && (seesE s.c x.Tower (plc s.c.M n) b.Rise x.Tick).1 && within x.Tick b.From b.To))) = (P n && within x.Tick b.From b.To && liesW (wideL s x) (towG s.c.T x.Tower).1.At (plc s.c.M n) && (decide ((seesE s.c x.Tower (plc s.c.M n) b.Rise x.Tick).2 = 0) && (seesE s.c x.Tower (plc s.c.M n) b.Rise x.Tick).1))
 generalize within x.Tick b.From b.To = a
 generalize liesW (wideL s x) (towG s.c.T x.Tower).1.At (plc s.c.M n) = c
 generalize decide ((seesE s.c x.Tower (plc s.c.M n) b.Rise x.Tick).2 = 0) = d
 generalize (seesE s.c x.Tower (plc s.c.M n) b.Rise x.Tick).1 = e
 cases P n <;> cases a <;> cases c <;> cases d <;> cases e <;> rfl
theorem all_cnt (s : Svc) (b : Brn) (P : Nat → Bool) (x : Lk) : (plsL s.c.M P).countP (allB s b (blkO x)) = (plsL s.c.M (metP [P, alwP s b (blkO x)])).length := by
 rw [cnt_pls, pls_length]
 congr 1
 refine List.filter_congr fun n hn => ?_
 have hn := List.mem_range.1 hn
 have e : alwP s b (blkO x) n = allB s b (blkO x) (plc s.c.M n) := by
  show (decide (n < s.n) && allB s b (blkO x) (plc s.c.M n)) = _
  rw [decide_eq_true hn, Bool.true_and]
 unfold metP
 rw [← e]; simp
section
variable {s : Svc} {b : Brn} {l : List Rpt} (h : givE s b l = 0)
include h
end
end Go.Pg
