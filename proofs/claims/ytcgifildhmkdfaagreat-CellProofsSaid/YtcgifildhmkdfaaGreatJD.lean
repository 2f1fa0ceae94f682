/- Texts joined and shortened by program. -/
import Derived.Test.YtcgifildhmkdfaaGreatJA
import Derived.Test.YtcgifildhmkdfaaGreatJC
set_option linter.all false
set_option maxRecDepth 100000
namespace Go.Pg
open Go.Proofs Go.RowKit
section
variable {s : Svc} {b : Brn} {l : List Rpt} (h : givE s b l = 0)
include h
omit h in
theorem mapD {js : Int} (h1 : 0 ≤ js ∧ js < l.length) : (l.map (alwP s b)).getD js.toNat default = alwP s b (l.getD js.toNat default) := by
 have : js.toNat < l.length := by omega
 rw [List.getD_eq_getElem?_getD, List.getD_eq_getElem?_getD, List.getElem?_map, List.getElem?_eq_getElem this]; rfl
structure CrOk (s : Svc) (b : Brn) (l : List Rpt) (J : List Int) : Prop where
  i : ∀ j ∈ J, 0 ≤ j ∧ j < l.length
  n : J.Nodup
  c : agrB s (l.map (alwP s b)) J = false
  m : ∀ k, k < J.length → agrB s (l.map (alwP s b)) (rmL J k) = true
end
structure LkOk (s : Svc) (x : Lk) : Prop where
  r : rptE s (blkO x) = 0
  w : (x.To - x.From) % 3600 + 2 * x.Slack + (zLk s x).Hi - (zLk s x).Lo ≤ 900
section
variable {s : Svc} {x : Lk} (h0 : svcE s = 0) (hx : LkOk s x) {id : Int} (hid : 1 ≤ id ∧ id ≤ 1099511627776)
include h0 hx hid
end
def inB (s : Svc) (ps : List Place) (a n : Nat) : Bool := decide (a < ps.length) && decide (ps.getD a default = plc s.c.M n)
def outB (s : Svc) (rs : List Rsn) (w n : Nat) : Bool := decide (w < rs.length) && decide ((rs.getD w default).At = plc s.c.M n)
def rptI (l : List Rpt) (id : Int) : Int := idxL (fun r => r.ID == id) l
def cks (s : Svc) (l : List Rpt) (L : List (Nat → Bool)) (ps : List Place) (rs : List Rsn) (n : Nat) (q : Nat × Nat) : Option (Nat × Nat) :=
 if inB s ps q.1 n = outB s rs q.2 n then none
 else if inB s ps q.1 n = true then (if 0 ≤ fstI L n then none else some (q.1 + 1, q.2))
 else if rptI l (rs.getD q.2 default).R < 0 ∨ L.getD (rptI l (rs.getD q.2 default).R).toNat default n = true then none else some (q.1, q.2 + 1)
def ckR (s : Svc) (l : List Rpt) (L : List (Nat → Bool)) (ps : List Place) (rs : List Rsn) : Nat → Option (Nat × Nat)
 | 0 => some (0, 0)
 | n + 1 => (ckR s l L ps rs n).bind (cks s l L ps rs n)
def ckE (s : Svc) (l : List Rpt) (L : List (Nat → Bool)) (ps : List Place) (rs : List Rsn) : Bool :=
 match ckR s l L ps rs s.n with
 | none => false
 | some q => decide (ps.length ≤ q.1) && decide (rs.length ≤ q.2)
theorem ckR_le {s : Svc} {l : List Rpt} {L : List (Nat → Bool)} {ps : List Place} {rs : List Rsn} : ∀ {n : Nat} {q : Nat × Nat}, ckR s l L ps rs n = some q → q.1 ≤ n ∧ q.2 ≤ n ∧ q.1 ≤ ps.length ∧ q.2 ≤ rs.length
 | 0, q, h => by
  have : q = (0, 0) := (Option.some.inj h).symm
  subst this; exact ⟨Nat.le_refl _, Nat.le_refl _, Nat.zero_le _, Nat.zero_le _⟩
 | n + 1, q, h => by
  have h : (ckR s l L ps rs n).bind (cks s l L ps rs n) = some q := h
  cases hc : ckR s l L ps rs n with
  | none => rw [hc] at h; cases h
  | some p =>
   rw [hc] at h
   have h : cks s l L ps rs n p = some q := h
   obtain ⟨h1, h2, h3, h4⟩ := ckR_le hc
   unfold cks at h
   split at h
   ·cases h
   rename_i g1
   split at h
   ·rename_i g2
    split at h
    ·cases h
    have e := (Option.some.inj h).symm
    subst e
    have : p.1 < ps.length := by
     unfold inB at g2
     rw [Bool.and_eq_true, decide_eq_true_iff] at g2
     exact g2.1
    exact ⟨by dsimp only; omega, by dsimp only; omega, this, h4⟩
   ·rename_i g2
    split at h
    ·cases h
    have e := (Option.some.inj h).symm
    subst e
    have g2 : inB s ps p.1 n = false := by simpa using g2
    have : outB s rs p.2 n = true := by
     cases ho : outB s rs p.2 n with
     | true => rfl
     | false => rw [g2, ho] at g1; exact absurd rfl g1
    unfold outB at this
    rw [Bool.and_eq_true, decide_eq_true_iff] at this
    exact ⟨by dsimp only; omega, by dsimp only; omega, h3, this.1⟩
theorem plc_inj {m : Mp} {i j : Nat} (hw : 0 < m.w) (h : plc m i = plc m j) : i = j := by
 unfold plc at h
 have h1 : ((i % m.w : Nat) : Int) = ((j % m.w : Nat) : Int) := congrArg Place.X h
 have h2 : ((i / m.w : Nat) : Int) = ((j / m.w : Nat) : Int) := congrArg Place.Y h
 have a := Nat.div_add_mod i m.w
 have c := Nat.div_add_mod j m.w
 rw [show i / m.w = j / m.w by omega, show i % m.w = j % m.w by omega] at a
 omega
section
variable {s : Svc} {b : Brn} {l : List Rpt} (h : givE s b l = 0)
include h
end
end Go.Pg
