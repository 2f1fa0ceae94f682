/- Texts joined and shortened by program. -/
import Derived.Test.YtcgifildhmkdfaaGreatJD
import Derived.Test.YtcgifildhmkdfaaGreatJE
import Derived.Test.YtcgifildhmkdfaaGreatJC
import Derived.Test.YtcgifildhmkdfaaGreatJA
set_option linter.all false
set_option maxRecDepth 100000
namespace Go.Pg
open Go.Proofs Go.RowKit Go.Sort Go.Shelf
theorem r6_reportAt (l : List Rpt) (id : Int) (hn : l.length ≤ 1000000) : Spec PP 79 [.d (lR l), N id] [N (rptI l id)] := by
 refine spec_at Tryz.func79 rfl (by kernel_rfl) rfl ?_
 refine LoopOb.of (σ := Nat) (fun i => ([(0, .d (lR l)), (1, .d (I id)), (5, .d (I i))], [])) (fun i => i ≤ l.length ∧ ∀ j, j < i → ((l.getD j default).ID == id) = false) (fun i => l.length - i) 0
  ⟨rfl, trivial, avR _ rfl, avR _ rfl, avR _ rfl, trivial⟩ ⟨Nat.zero_le _, fun j hj => absurd hj (Nat.not_lt_zero _)⟩ fun i hi => ?_
 obtain ⟨hi, ha⟩ := hi
 refine Split.by (fun h1 => ?_) (fun h1 => ?_)
 ·have h1 : i < l.length := by have := dT h1; omega
  refine ⟨⟨rfl, by omega, by omega⟩, ?_⟩
  refine Split.by (fun h2 => ?_) (fun h2 => ?_)
  ·refine r1I rfl ?_
   exact (idxL_stop (p := fun r : Rpt => r.ID == id) default h1 h2 ha).symm
  ·refine ⟨i6 (by omega), ?_⟩
   refine ⟨i + 1, ⟨rfl, trivial, avR _ rfl, avR _ rfl, avI rfl rfl, trivial⟩, ⟨h1, fun j hj => ?_⟩, (show l.length - (i + 1) < l.length - i by omega)⟩
   by_cases e : j = i
   ·subst e; exact h2
   ·exact ha j (by omega)
 have h1 : i = l.length := by have := dF h1; omega
 subst h1
 refine r1I rfl ?_
 exact (idxL_none (p := fun r : Rpt => r.ID == id) default ha).symm
def cs2 (s : Svc) (l : List Rpt) (L : List (Nat → Bool)) (ps : List Place) (rs : List Rsn) (n : Nat) (q : Nat × Nat) : Option (Nat × Nat) :=
 if inB s ps q.1 n = true then (if 0 ≤ fstI L n then none else some (q.1 + 1, q.2))
 else if outB s rs q.2 n = false then none
 else if rptI l (rs.getD q.2 default).R < 0 ∨ L.getD (rptI l (rs.getD q.2 default).R).toNat default n = true then none else some (q.1, q.2 + 1)
def ck2 (s : Svc) (l : List Rpt) (L : List (Nat → Bool)) (ps : List Place) (rs : List Rsn) : Nat → Option (Nat × Nat)
 | 0 => some (0, 0)
 | n + 1 => (ck2 s l L ps rs n).bind (cs2 s l L ps rs n)
def ck2E (s : Svc) (l : List Rpt) (L : List (Nat → Bool)) (ps : List Place) (rs : List Rsn) : Bool :=
 match ck2 s l L ps rs s.n with
 | none => false
 | some q => decide (ps.length ≤ q.1) && decide (rs.length ≤ q.2)
section
variable {s : Svc} {l : List Rpt} {L : List (Nat → Bool)} {ps : List Place} {rs : List Rsn}
theorem cs2_same {n : Nat} {q : Nat × Nat} (h : inB s ps q.1 n ≠ outB s rs q.2 n) : cs2 s l L ps rs n q = cks s l L ps rs n q := by
 unfold cs2 cks
 rw [if_neg h]
 cases hi : inB s ps q.1 n with
 | true => rfl
 | false =>
  cases ho : outB s rs q.2 n with
  | true => rfl
  | false => rw [hi, ho] at h; exact absurd rfl h
theorem ck2_some : ∀ {n : Nat} {q : Nat × Nat}, ckR s l L ps rs n = some q → ck2 s l L ps rs n = some q
 | 0, q, h => h
 | n + 1, q, h => by
  have h : (ckR s l L ps rs n).bind (cks s l L ps rs n) = some q := h
  cases hc : ckR s l L ps rs n with
  | none => rw [hc] at h; cases h
  | some p =>
   rw [hc] at h
   have h : cks s l L ps rs n p = some q := h
   show (ck2 s l L ps rs n).bind _ = _
   rw [ck2_some hc]
   show cs2 s l L ps rs n p = some q
   rw [cs2_same (fun e => by rw [cks_eq e] at h; cases h), h]
theorem outB_at {n : Nat} {w : Nat} (h : outB s rs w n = true) : w < rs.length ∧ (rs.getD w default).At = plc s.c.M n := by
 unfold outB at h
 rw [Bool.and_eq_true, decide_eq_true_iff, decide_eq_true_iff] at h
 exact h
theorem ck2_stuck (hw : 0 < s.c.M.w) : ∀ {n : Nat} {q : Nat × Nat}, ckR s l L ps rs n = none → ck2 s l L ps rs n = some q → ∃ k, k < n ∧ q.2 < rs.length ∧ (rs.getD q.2 default).At = plc s.c.M k
 | 0, q, h, _ => by cases h
 | n + 1, q, h, h2 => by
  have h2 : (ck2 s l L ps rs n).bind (cs2 s l L ps rs n) = some q := h2
  cases hc : ckR s l L ps rs n with
  | some p =>
   rw [ck2_some hc] at h2
   have h2 : cs2 s l L ps rs n p = some q := h2
   have h : cks s l L ps rs n p = none := by
    have h : (ckR s l L ps rs n).bind (cks s l L ps rs n) = none := h
    rw [hc] at h; exact h
   by_cases e : inB s ps p.1 n = outB s rs p.2 n
   ·cases hi : inB s ps p.1 n with
    | true =>
     rw [hi] at e
     obtain ⟨g1, g2⟩ := outB_at e.symm
     unfold cs2 at h2
     rw [if_pos hi] at h2
     split at h2
     ·cases h2
     ·cases h2
      exact ⟨n, by omega, g1, g2⟩
    | false =>
     rw [hi] at e
     unfold cs2 at h2
     rw [if_neg (by rw [hi]; decide), if_pos e.symm] at h2
     cases h2
   ·rw [cs2_same e, h] at h2; cases h2
  | none =>
   cases hc2 : ck2 s l L ps rs n with
   | none => rw [hc2] at h2; cases h2
   | some p =>
    rw [hc2] at h2
    have h2 : cs2 s l L ps rs n p = some q := h2
    obtain ⟨k, g1, g2, g3⟩ := ck2_stuck hw hc hc2
    unfold cs2 at h2
    split at h2
    ·split at h2
     ·cases h2
     ·cases h2
      exact ⟨k, by omega, g2, g3⟩
    ·split at h2
     ·cases h2
     ·rename_i ho
      have ho : outB s rs p.2 n = true := by simpa using ho
      have := plc_inj hw (g3.symm.trans (outB_at ho).2)
      omega
theorem ck2_eq (hw : 0 < s.c.M.w) : ck2E s l L ps rs = ckE s l L ps rs := by
 unfold ck2E ckE
 cases hc : ckR s l L ps rs s.n with
 | some q => rw [ck2_some hc]
 | none =>
  cases hc2 : ck2 s l L ps rs s.n with
  | none => rfl
  | some q =>
   obtain ⟨k, -, g2, -⟩ := ck2_stuck hw hc hc2
   show (decide (ps.length ≤ q.1) && decide (rs.length ≤ q.2)) = false
   rw [decide_eq_false (show ¬ rs.length ≤ q.2 by omega), Bool.and_false]
theorem ck2_none {n : Nat} (h : ck2 s l L ps rs n = none) : ∀ m, n ≤ m → ck2 s l L ps rs m = none
 | 0, hm => by
  have : n = 0 := by omega
  rw [this] at h; exact h
 | m + 1, hm => by
  by_cases e : n = m + 1
  ·rw [← e]; exact h
  ·have := ck2_none h m (by omega)
   show (ck2 s l L ps rs m).bind _ = none
   rw [this]; rfl
theorem ck2_no {n : Nat} {q : Nat × Nat} (hq : ck2 s l L ps rs n = some q) (hn : n < s.n) (h : cs2 s l L ps rs n q = none) : ck2E s l L ps rs = false := by
 have h1 : ck2 s l L ps rs (n + 1) = none := by
  show (ck2 s l L ps rs n).bind _ = none
  rw [hq]; exact h
 unfold ck2E
 rw [ck2_none h1 s.n (by omega)]
theorem ck2_yes {n : Nat} {q q' : Nat × Nat} (hq : ck2 s l L ps rs n = some q) (h : cs2 s l L ps rs n q = some q') : ck2 s l L ps rs (n + 1) = some q' := by
 show (ck2 s l L ps rs n).bind _ = _
 rw [hq]; exact h
theorem ck2_le : ∀ {n : Nat} {q : Nat × Nat}, ck2 s l L ps rs n = some q → q.1 ≤ n ∧ q.2 ≤ n
 | 0, q, h => by cases h; exact ⟨Nat.le_refl _, Nat.le_refl _⟩
 | n + 1, q, h => by
  have h : (ck2 s l L ps rs n).bind (cs2 s l L ps rs n) = some q := h
  cases hc : ck2 s l L ps rs n with
  | none => rw [hc] at h; cases h
  | some p =>
   rw [hc] at h
   have h : cs2 s l L ps rs n p = some q := h
   obtain ⟨h1, h2⟩ := ck2_le hc
   unfold cs2 at h
   split at h
   ·split at h
    ·cases h
    ·cases h; exact ⟨by dsimp only; omega, by dsimp only; omega⟩
   ·split at h
    ·cases h
    ·split at h
     ·cases h
     ·cases h; exact ⟨by dsimp only; omega, by dsimp only; omega⟩
end
theorem inB_eq {s : Svc} {ps : List Place} {a n : Nat} (h : a < ps.length) : inB s ps a n = decide (ps.getD a default = plc s.c.M n) := by unfold inB; rw [decide_eq_true h, Bool.true_and]
theorem inB_no {s : Svc} {ps : List Place} {a n : Nat} (h : ¬ a < ps.length) : inB s ps a n = false := by unfold inB; rw [decide_eq_false h, Bool.false_and]
theorem outB_eq {s : Svc} {rs : List Rsn} {a n : Nat} (h : a < rs.length) : outB s rs a n = decide ((rs.getD a default).At = plc s.c.M n) := by unfold outB; rw [decide_eq_true h, Bool.true_and]
theorem outB_no {s : Svc} {rs : List Rsn} {a n : Nat} (h : ¬ a < rs.length) : outB s rs a n = false := by unfold outB; rw [decide_eq_false h, Bool.false_and]
set_option maxHeartbeats 4000000 in
theorem r6_CheckCell (s : Svc) (b : Brn) (l : List Rpt) (ps : List Place) (rs : List Rsn) (hp : ps.length ≤ 1000000) (hr : rs.length ≤ 1000000) : Spec PP 33 [s.v, b.v, .d (lR l), .d (lP ps), .d (lRs rs)] [.d (.int .i64 (chkR s b l ps rs))] := by
 refine specC_at [15] Tryz.func33 rfl (by kernel_rfl) rfl ?_
 refine CallSt.pure (r6_Checked s b l) rfl rfl ?_
 refine Split.by (fun h0 => ?_) (fun h0 => ?_)
 ·have h0 : givE s b l ≠ 0 := by simpa using h0
  refine r1I rfl ?_
  unfold chkR; rw [if_pos h0]
 have h0 : givE s b l = 0 := by simpa using h0
 have ok := giv_ok h0
 have hv := ok.s.c.m
 have hT := ok.s.c.t
 have hl := ok.n
 have hw0 : 0 < s.c.M.w := by
  obtain ⟨bw, bh, -, -⟩ := validM_spec hv
  show 0 < s.c.M.W.toNat
  omega
 have e1 : chkR s b l ps rs = if ck2E s l (l.map (alwP s b)) ps rs = true then 0 else 8 := by unfold chkR; rw [if_neg (fun hh => hh h0), ck2_eq hw0]
 have hn : s.n ≤ 2401 := spots_lt hv
 have hml := mapK_len s.c.M s.n
 refine CallSt.ro (r6_all s l (by omega) hl (fun i hi => rpt_ok (ok.r i hi).2)) rfl rfl ?_
 refine CallSt.ro (r6_Map s hv) rfl rfl ?_
 rw [e1]
 refine LoopOb.of (σ := Nat × Nat × Nat) (fun p => ([(2, .d (lR l)), (3, .d (lP ps)), (4, .d (lRs rs)), (5, .box 5 0), (6, .box 6 0), (12, .d (lM s l)), (13, .d (lP (mapK s.c.M s.n))), (14, .d (I p.2.1)), (15, .d (I p.2.2)), (16, .d (I p.1))], [(5, .box (s.ds.map AV.d)), (6, .box (b.ds.map AV.d))])) (fun p => p.1 ≤ s.n ∧ ck2 s l (l.map (alwP s b)) ps rs p.1 = some p.2) (fun p => s.n - p.1) (0, 0, 0)
  ⟨rfl, ⟨obD s.ds rfl, obD b.ds rfl, trivial⟩, avR _ rfl, avR _ rfl, avR _ rfl, avQ rfl, avQ rfl, avR _ rfl, avR _ rfl, avR _ rfl, avR _ rfl, avR _ rfl, trivial⟩ ⟨Nat.zero_le _, rfl⟩ fun ⟨n, q⟩ ⟨hn1, hI⟩ => ?_
 dsimp only at hn1 hI ⊢
 have hle := ck2_le hI
 refine Split.by (fun h1 => ?_) (fun h1 => ?_)
 ·have h1 : n < s.n := by have := dT h1; rw [hml] at this; omega
  have hg := mapK_get (m := s.c.M) h1
  have stop : cs2 s l (l.map (alwP s b)) ps rs n q = none → (8 : Int) = if ck2E s l (l.map (alwP s b)) ps rs = true then 0 else 8 := fun h => by rw [if_neg (by rw [ck2_no hI h1 h]; decide)]
  have mu : s.n - (n + 1) < s.n - n := by omega
  refine Exists.intro (List.range 15) (And.intro (by kernel_rfl) (FzOb.no ?_))
  apply two_
  ·intro key
   have back : inB s ps q.1 n = false → Key _ := fun h => key
   refine Split.by (fun h2 => ?_) (fun h2 => ?_)
   ·have h2 : q.1 < ps.length := by have := dT h2; omega
    refine ⟨⟨rfl, by omega, by omega⟩, ⟨⟨rfl, by omega, by rw [hml]; omega⟩, ?_⟩⟩
    repeat first | refine Split.tt ?_ | refine Split.ff ?_
    refine Split.by (fun h3 => ?_) (fun h3 => ?_)
    ·have h3 : inB s ps q.1 n = true := by
      rw [inB_eq h2, ← hg]
      exact (eqPW (ps.getD q.1 default) ((mapK s.c.M s.n).getD n default)).symm.trans h3
     refine ⟨i6 (by omega), ?_⟩
     refine Exists.intro (List.range 9) (And.intro (by kernel_rfl) (FzOb.no ?_))
     refine ⟨⟨rfl, by omega, by rw [hml]; omega⟩, ?_⟩
     refine CallOb.pureE (r6_first s b l (plc s.c.M n) hl) rfl ⟨eqvs_refl _, eqvs_refl _, D.eqv_refl _, eqvs2 (congrArg Place.X hg) (congrArg Place.Y hg), trivial⟩ rfl ?_
     rw [fst_eq h1]
     have ec : cs2 s l (l.map (alwP s b)) ps rs n q = if 0 ≤ fstI (l.map (alwP s b)) n then none else some (q.1 + 1, q.2) := by unfold cs2; rw [if_pos h3]
     refine Split.by (fun h4 => ?_) (fun h4 => ?_)
     ·have h4 : 0 ≤ fstI (l.map (alwP s b)) n := dT h4
      refine r1I rfl ?_
      exact stop (by rw [ec, if_pos h4])
     ·have h4 : ¬ 0 ≤ fstI (l.map (alwP s b)) n := dF h4
      refine ⟨i6 (by omega), ?_⟩
      exact ⟨(n + 1, q.1 + 1, q.2), ⟨rfl, ⟨obD s.ds rfl, obD b.ds rfl, trivial⟩, avR _ rfl, avR _ rfl, avR _ rfl, avQ rfl, avQ rfl, avR _ rfl, avR _ rfl, avI rfl rfl, avR _ rfl, avI rfl rfl, trivial⟩, ⟨h1, ck2_yes hI (by rw [ec, if_neg h4])⟩, mu⟩
    ·have h3 : inB s ps q.1 n = false := by
      rw [inB_eq h2, ← hg]
      exact (eqPW (ps.getD q.1 default) ((mapK s.c.M s.n).getD n default)).symm.trans h3
     refine CutOb.at [(2, .d (lR l)), (3, .d (lP ps)), (4, .d (lRs rs)), (5, .box 5 0), (6, .box 6 0), (12, .d (lM s l)), (13, .d (lP (mapK s.c.M s.n))), (14, .d (I q.1)), (15, .d (I q.2)), (16, .d (I n))] [(5, .box (s.ds.map AV.d)), (6, .box (b.ds.map AV.d))] ?_ ?_
     ·exact ⟨rfl, ⟨obD s.ds rfl, obD b.ds rfl, trivial⟩, avR _ rfl, avR _ rfl, avR _ rfl, avQ rfl, avQ rfl, avR _ rfl, avR _ rfl, avR _ rfl, avR _ rfl, avR _ rfl, trivial⟩
     ·revert h3
      exact key.out
   ·have h2 : ¬ q.1 < ps.length := by have := dF h2; omega
    have h3 : inB s ps q.1 n = false := inB_no h2
    repeat first | refine Split.tt ?_ | refine Split.ff ?_
    refine CutOb.at [(2, .d (lR l)), (3, .d (lP ps)), (4, .d (lRs rs)), (5, .box 5 0), (6, .box 6 0), (12, .d (lM s l)), (13, .d (lP (mapK s.c.M s.n))), (14, .d (I q.1)), (15, .d (I q.2)), (16, .d (I n))] [(5, .box (s.ds.map AV.d)), (6, .box (b.ds.map AV.d))] ?_ ?_
    ·exact ⟨rfl, ⟨obD s.ds rfl, obD b.ds rfl, trivial⟩, avR _ rfl, avR _ rfl, avR _ rfl, avQ rfl, avQ rfl, avR _ rfl, avR _ rfl, avR _ rfl, avR _ rfl, avR _ rfl, trivial⟩
    ·revert h3
     exact key.out
  ·intro h3
   have ec : cs2 s l (l.map (alwP s b)) ps rs n q = if outB s rs q.2 n = false then none else if rptI l (rs.getD q.2 default).R < 0 ∨ (l.map (alwP s b)).getD (rptI l (rs.getD q.2 default).R).toNat default n = true then none else some (q.1, q.2 + 1) := by
    unfold cs2; rw [if_neg (by rw [h3]; decide)]
   refine Exists.intro (List.range 16) (And.intro (by kernel_rfl) (FzOb.no ?_))
   refine Split.by (fun h2 => ?_) (fun h2 => ?_)
   ·have h2 : ¬ q.2 < rs.length := by
     have : (rs.length : Int) ≤ q.2 := dT h2
     omega
    repeat first | refine Split.tt ?_ | refine Split.ff ?_
    refine r1I rfl ?_
    exact stop (by rw [ec, if_pos (outB_no h2)])
   have h2 : q.2 < rs.length := by
    have : ¬ (rs.length : Int) ≤ q.2 := dF h2
    omega
   refine ⟨⟨rfl, by omega, by omega⟩, ⟨⟨rfl, by omega, by rw [hml]; omega⟩, ?_⟩⟩
   repeat first | refine Split.tt ?_ | refine Split.ff ?_
   refine Split.by (fun h4 => ?_) (fun h4 => ?_)
   ·have h4 : outB s rs q.2 n = false := by
     rw [outB_eq h2, ← hg, ← eqPW]
     exact Bool.not_eq_true' _ ▸ h4
    refine r1I rfl ?_
    exact stop (by rw [ec, if_pos h4])
   have h4 : outB s rs q.2 n = true := by
    rw [outB_eq h2, ← hg, ← eqPW]
    exact Bool.not_eq_false' _ ▸ h4
   rw [if_neg (by rw [h4]; decide)] at ec
   refine ⟨⟨rfl, by omega, by omega⟩, ?_⟩
   refine CallSt.pure (r6_reportAt l (rs.getD q.2 default).R (by omega)) rfl rfl ?_
   refine ⟨i6 (by omega), ?_⟩
   refine Exists.intro (List.range 16) (And.intro (by kernel_rfl) (FzOb.no ?_))
   refine Split.by (fun h5 => ?_) (fun h5 => ?_)
   ·have h5 : rptI l (rs.getD q.2 default).R < 0 := dT h5
    repeat first | refine Split.tt ?_ | refine Split.ff ?_
    refine r1I rfl ?_
    exact stop (by rw [ec, if_pos (.inl h5)])
   have h5 : ¬ rptI l (rs.getD q.2 default).R < 0 := dF h5
   obtain ⟨h6, h7⟩ := rptI_lt h5
   have hmx : max (rptI l (rs.getD q.2 default).R) 0 = rptI l (rs.getD q.2 default).R := by omega
   have eal : (l.map (alwP s b)).getD (rptI l (rs.getD q.2 default).R).toNat default n = allB s b (l.getD (rptI l (rs.getD q.2 default).R).toNat default) (plc s.c.M n) := by
    have e0 := mapD (s := s) (b := b) (l := l) (js := rptI l (rs.getD q.2 default).R) ⟨h7, by omega⟩
    rw [e0]
    show (decide (n < s.n) && allB s b _ (plc s.c.M n)) = _
    rw [decide_eq_true h1, Bool.true_and]
   rw [eal] at ec
   refine ⟨⟨rfl, by show 0 ≤ max (rptI l (rs.getD q.2 default).R) 0; omega, by show max (rptI l (rs.getD q.2 default).R) 0 < (l.length : Int); omega⟩, ⟨⟨rfl, by omega, by rw [hml]; omega⟩, ?_⟩⟩
   have ha := r6_allows s b (l.getD (rptI l (rs.getD q.2 default).R).toNat default) (plc s.c.M n)
   rw [← hmx] at ha
   refine CallOb.pureE ha rfl ⟨eqvs_refl _, eqvs_refl _, eqvs_refl _, eqvs2 (congrArg Place.X hg) (congrArg Place.Y hg), trivial⟩ rfl ?_
   rw [hmx]
   repeat first | refine Split.tt ?_ | refine Split.ff ?_
   refine Split.by (fun h8 => ?_) (fun h8 => ?_)
   ·have h8 : allB s b (l.getD (rptI l (rs.getD q.2 default).R).toNat default) (plc s.c.M n) = true := h8
    refine r1I rfl ?_
    exact stop (by rw [ec, if_pos (.inr h8)])
   ·have h8 : allB s b (l.getD (rptI l (rs.getD q.2 default).R).toNat default) (plc s.c.M n) = false := h8
    refine ⟨i6 (by omega), ?_⟩
    exact ⟨(n + 1, q.1, q.2 + 1), ⟨rfl, ⟨obD s.ds rfl, obD b.ds rfl, trivial⟩, avR _ rfl, avR _ rfl, avR _ rfl, avQ rfl, avQ rfl, avR _ rfl, avR _ rfl, avR _ rfl, avI rfl rfl, avI rfl rfl, trivial⟩, ⟨h1, ck2_yes hI (by rw [ec, if_neg (fun h => h.elim h5 (fun g => by rw [h8] at g; cases g))])⟩, mu⟩
 ·have h1 : n = s.n := by have := dF h1; rw [hml] at this; omega
  subst h1
  have ee : ck2E s l (l.map (alwP s b)) ps rs = (decide (ps.length ≤ q.1) && decide (rs.length ≤ q.2)) := by unfold ck2E; rw [hI]
  refine Split.by (fun h1 => ?_) (fun h1 => ?_)
  ·have h1 : q.1 < ps.length := by have := dT h1; omega
   repeat first | refine Split.tt ?_ | refine Split.ff ?_
   refine r1I rfl ?_
   rw [ee, decide_eq_false (show ¬ ps.length ≤ q.1 by omega), Bool.false_and, if_neg (by decide)]
  ·have h1 : ¬ q.1 < ps.length := by have := dF h1; omega
   repeat first | refine Split.tt ?_ | refine Split.ff ?_
   refine Split.by (fun h2 => ?_) (fun h2 => ?_)
   ·have h2 : q.2 < rs.length := by have := dT h2; omega
    refine r1I rfl ?_
    rw [ee, decide_eq_false (show ¬ rs.length ≤ q.2 by omega), Bool.and_false, if_neg (by decide)]
   ·have h2 : ¬ q.2 < rs.length := by have := dF h2; omega
    refine r1I rfl ?_
    rw [ee, decide_eq_true (show ps.length ≤ q.1 by omega), decide_eq_true (show rs.length ≤ q.2 by omega)]; rfl
def intR (n k : Nat) (f : Nat → Nat → D) : Prop := ∀ i, i < n → ∀ j, j < k → ∃ m : Int, D.eqv (f i j) (I m)
theorem intR_app {n m k : Nat} {f g : Nat → Nat → D} (hf : intR n k f) (hg : intR m k g) : intR (n + m) k (appRow n f g) := fun i hi j hj => by
 unfold appRow
 by_cases h : i < n
 ·rw [if_pos h]; exact hf i h j hj
 ·rw [if_neg h]; exact hg (i - n) (by omega) j hj
theorem intR_cut {N m lo n' k : Nat} {f : Nat → Nat → D} (hf : intR N k f) (h1 : m ≤ lo) (h2 : lo + n' = N) : intR (m + n') k (cutRow f m lo) :=
 intR_app (fun i hi j hj => hf i (by omega) j hj) (fun i hi j hj => hf (lo + i) (by omega) j hj)
theorem intR_store {n k a c : Nat} {f : Nat → Nat → D} {ys : List D} (hf : intR n k f) (hy : ∀ q, q < ys.length → ∃ m : Int, D.eqv (getD' ys q) (I m)) : intR n k (storeRow f a c ys) := fun i hi j hj => by
 unfold storeRow
 by_cases h : i = a ∧ c ≤ j ∧ j < c + ys.length
 ·rw [if_pos h]; exact hy (j - c) (by omega)
 ·rw [if_neg h]; exact hf i hi j hj
theorem intR_le {n m k : Nat} {f : Nat → Nat → D} (hf : intR n k f) (h : m ≤ n) : intR m k f := fun i hi => hf i (by omega)
theorem intR_P (l : List Place) : intR l.length 2 (rowP l) := fun i _ j hj => by
 match j, hj with
 | 0, _ => exact ⟨_, D.eqv_refl _⟩
 | 1, _ => exact ⟨_, D.eqv_refl _⟩
theorem intR_S (l : List Rsn) : intR l.length 3 (rowS l) := fun i _ j hj => by
 match j, hj with
 | 0, _ => exact ⟨_, D.eqv_refl _⟩
 | 1, _ => exact ⟨_, D.eqv_refl _⟩
 | 2, _ => exact ⟨_, D.eqv_refl _⟩
theorem intD1 (a : Int) : ∀ q, q < [I a].length → ∃ m : Int, D.eqv (getD' [I a] q) (I m) := fun q hq => by
 match q, hq with
 | 0, _ => exact ⟨_, D.eqv_refl _⟩
theorem intD2 (a b : Int) : ∀ q, q < [I a, I b].length → ∃ m : Int, D.eqv (getD' [I a, I b] q) (I m) := fun q hq => by
 match q, hq with
 | 0, _ => exact ⟨_, D.eqv_refl _⟩
 | 1, _ => exact ⟨_, D.eqv_refl _⟩
theorem intO2 (a b : Int) : intR 1 2 (rowOf 2 [I a, I b]) := fun i hi j hj => by
 obtain rfl : i = 0 := by omega
 match j, hj with
 | 0, _ => exact ⟨_, D.eqv_refl _⟩
 | 1, _ => exact ⟨_, D.eqv_refl _⟩
theorem intO3 (a b c : Int) : intR 1 3 (rowOf 3 [I a, I b, I c]) := fun i hi j hj => by
 obtain rfl : i = 0 := by omega
 match j, hj with
 | 0, _ => exact ⟨_, D.eqv_refl _⟩
 | 1, _ => exact ⟨_, D.eqv_refl _⟩
 | 2, _ => exact ⟨_, D.eqv_refl _⟩
theorem toP {n : Nat} {f : Nat → Nat → D} (h : intR n 2 f) : ∃ ps : List Place, ps.length = n ∧ D.eqv (.slc 2 n f) (lP ps) := by
 have h0 : ∀ i : Nat, ∃ p : Place, i < n → D.eqv (f i 0) (I p.X) ∧ D.eqv (f i 1) (I p.Y) := fun i => by
  by_cases hi : i < n
  ·obtain ⟨a, ha⟩ := h i hi 0 (by decide)
   obtain ⟨b, hb⟩ := h i hi 1 (by decide)
   exact ⟨⟨a, b⟩, fun _ => ⟨ha, hb⟩⟩
  ·exact ⟨default, fun q => absurd q hi⟩
 have hl : ((List.range n).map fun i => Classical.choose (h0 i)).length = n := by simp
 refine ⟨(List.range n).map fun i => Classical.choose (h0 i), hl, hl.symm, .inr ⟨rfl, fun i hi j hj => ?_⟩⟩
 have e : ((List.range n).map fun i => Classical.choose (h0 i)).getD i default = Classical.choose (h0 i) := by
  rw [List.getD_eq_getElem?_getD, List.getElem?_map, List.getElem?_range hi]; rfl
 have := Classical.choose_spec (h0 i) hi
 show D.eqv (f i j) ((((List.range n).map fun i => Classical.choose (h0 i)).getD i default).at j)
 rw [e]
 match j, hj with
 | 0, _ => exact this.1
 | 1, _ => exact this.2
theorem toS {n : Nat} {f : Nat → Nat → D} (h : intR n 3 f) : ∃ rs : List Rsn, rs.length = n ∧ D.eqv (.slc 3 n f) (lRs rs) := by
 have h0 : ∀ i : Nat, ∃ p : Rsn, i < n → D.eqv (f i 0) (I p.At.X) ∧ D.eqv (f i 1) (I p.At.Y) ∧ D.eqv (f i 2) (I p.R) := fun i => by
  by_cases hi : i < n
  ·obtain ⟨a, ha⟩ := h i hi 0 (by decide)
   obtain ⟨b, hb⟩ := h i hi 1 (by decide)
   obtain ⟨c, hc⟩ := h i hi 2 (by decide)
   exact ⟨⟨⟨a, b⟩, c⟩, fun _ => ⟨ha, hb, hc⟩⟩
  ·exact ⟨default, fun q => absurd q hi⟩
 have hl : ((List.range n).map fun i => Classical.choose (h0 i)).length = n := by simp
 refine ⟨(List.range n).map fun i => Classical.choose (h0 i), hl, hl.symm, .inr ⟨rfl, fun i hi j hj => ?_⟩⟩
 have e : ((List.range n).map fun i => Classical.choose (h0 i)).getD i default = Classical.choose (h0 i) := by
  rw [List.getD_eq_getElem?_getD, List.getElem?_map, List.getElem?_range hi]; rfl
 have := Classical.choose_spec (h0 i) hi
 show D.eqv (f i j) ((((List.range n).map fun i => Classical.choose (h0 i)).getD i default).at j)
 rw [e]
 match j, hj with
 | 0, _ => exact this.1
 | 1, _ => exact this.2.1
 | 2, _ => exact this.2.2
theorem CutOb.pr {s : St} {K : St → Prop} {i j e1 e2 n m : Nat} {f g : Nat → Nat → D} (sl : List (Nat × AV)) (ob : List (Nat × Ob)) (h1 : s.sl 13 = .own i) (h2 : s.ob i = some (.row e1 2 n f)) (h3 : s.sl 15 = .own j) (h4 : s.ob j = some (.row e2 3 m g))
  (hi : look ob i = none) (hj : look ob j = none) (hw : Weak s sl ob) (f1 : intR n 2 f ∧ n ≤ 5000) (g1 : intR m 3 g ∧ m ≤ 5000)
  (hk : ∀ (ps : List Place) (rs : List Rsn), ps.length ≤ 5000 → rs.length ≤ 5000 → K (St.of ((13, .d (lP ps)) :: (15, .d (lRs rs)) :: sl) ob)) : CutOb s K := by
 obtain ⟨ps, p1, p2⟩ := toP f1.1
 obtain ⟨rs, r1, r2⟩ := toS g1.1
 refine CutOb.at ((13, .d (lP ps)) :: (15, .d (lRs rs)) :: sl) ob ?_ (hk ps rs (by rw [p1]; exact f1.2) (by rw [r1]; exact g1.2))
 obtain ⟨w1, w2, w3⟩ := hw
 refine ⟨?_, w2, avOw h1 h2 hi p2, avOw h3 h4 hj r2, w3⟩
 show ((hasAll ob [] && (hasAll ob [] && closedS ob sl)) && closedO ob ob) = true
 simpa [hasAll] using w1
theorem app0G {k n : Nat} (f0 g : Nat → Nat → D) : D.eqv (.slc k (0 + n) (appRow 0 f0 g)) (.slc k n g) := by
 refine ⟨by omega, .inr ⟨rfl, fun i hi j hj => ?_⟩⟩
 unfold appRow
 rw [if_neg (Nat.not_lt_zero _)]
 exact D.eqv_refl _
theorem pls_le {s : Svc} {P : Nat → Bool} (hv : validM s.c.M = true) : (plsL s.c.M P).length ≤ 2401 := by
 have := spots_lt hv
 have := plsK_len s.c.M P (s.c.M.w * s.c.M.h)
 show (plsK s.c.M P (s.c.M.w * s.c.M.h)).length ≤ 2401
 omega
structure Bnd where
  What : Int
  At : Int
  P : Place
  R : Int
abbrev Bnd.ds (x : Bnd) : List D := [I x.What, I x.At, I x.P.X, I x.P.Y, I x.R]
abbrev Bnd.v (x : Bnd) : V1 := .agg x.ds
theorem rep_Bnd {w : World} {ok : Nat → Prop} {xs : List D} {v : Value} (hr : Rep1 w ok (.agg xs) v) (h : All2 Fits [.int .i64, .int .i64, .int .i64, .int .i64, .int .i64] xs) : ∃ x : Bnd, Rep1 w ok x.v v := by
 cases h with
 | cons h0 h =>
 cases h with
 | cons h1 h =>
 cases h with
 | cons h2 h =>
 cases h with
 | cons h3 h =>
 cases h with
 | cons h4 h =>
 cases h
 obtain ⟨a, -, rfl⟩ := h0
 obtain ⟨b, -, rfl⟩ := h1
 obtain ⟨c, -, rfl⟩ := h2
 obtain ⟨d, -, rfl⟩ := h3
 obtain ⟨e, -, rfl⟩ := h4
 exact ⟨⟨a, b, ⟨c, d⟩, e⟩, hr⟩
theorem u64_nn (n : Int) : 0 ≤ IntKind.u64.wrap n := by
 simp only [IntKind.wrap, IntKind.bits, IntKind.signed]
 simp
 omega
theorem u64_le {n : Nat} (h : n ≤ 10000) : IntKind.u64.wrap (n : Int) = n := by
 simp only [IntKind.wrap, IntKind.bits, IntKind.signed]
 simp
 omega
theorem bnd_at (a : Int) {n : Nat} (h0 : 0 < n) (hn : n ≤ 10000) : ∃ k : Nat, k < n ∧ IntKind.i64.wrap ((IntKind.u64.wrap a).tmod (IntKind.u64.wrap (n : Int))) = k := by
 rw [u64_le hn]
 have h1 := Int.tmod_nonneg (n : Int) (u64_nn a)
 have h2 := Int.tmod_lt_of_pos (IntKind.u64.wrap a) (show 0 < (n : Int) by omega)
 refine ⟨((IntKind.u64.wrap a).tmod n).toNat, by omega, ?_⟩
 rw [wrap_inR (i6 (by omega))]
 omega
theorem u64_ne {n : Nat} (h0 : 0 < n) (hn : n ≤ 10000) : IntKind.u64.wrap (n : Int) ≠ 0 := by rw [u64_le hn]; omega
abbrev prOb (s : Svc) (b : Brn) : List (Nat × Ob) := [(6, .box (s.ds.map AV.d)), (7, .box (b.ds.map AV.d))]
abbrev prSl (l : List Rpt) (ps : List Place) (rs : List Rsn) : List (Nat × AV) := [(2, .d (lR l)), (4, .d (lP ps)), (5, .d (lRs rs)), (6, .box 6 0), (7, .box 7 0)]
set_option maxHeartbeats 8000000 in
theorem s_CellProofs (s : Svc) (b : Brn) (l : List Rpt) (x : Bnd) (ps : List Place) (rs : List Rsn) : Spec PP 8 [s.v, b.v, .d (lR l), x.v, .d (lP ps), .d (lRs rs)] [B true] := by
 refine specC_at [6, 8, 11, 21] Tryz.func8 rfl (by kernel_rfl) rfl ?_
 refine CallSt.pure (w_small s) rfl rfl ?_
 refine Split.by (fun h1 => ?_) (fun h1 => ?_)
 ·repeat first | refine Split.tt ?_ | refine Split.ff ?_
  refine CallSt.pure w_sanity rfl rfl ?_
  exact r1B rfl rfl
 refine CallSt.pure (w_few l 7) rfl rfl ?_
 repeat first | refine Split.tt ?_ | refine Split.ff ?_
 refine Split.by (fun h2 => ?_) (fun h2 => ?_)
 ·repeat first | refine Split.tt ?_ | refine Split.ff ?_
  refine CallSt.pure w_sanity rfl rfl ?_
  exact r1B rfl rfl
 repeat first | refine Split.tt ?_ | refine Split.ff ?_
 refine Split.by (fun h3 => ?_) (fun h3 => ?_)
 ·repeat first | refine Split.tt ?_ | refine Split.ff ?_
  refine CallSt.pure w_sanity rfl rfl ?_
  exact r1B rfl rfl
 have h3 : ps.length ≤ 300 := by have : ¬ (300 : Int) < ps.length := dF h3; omega
 repeat first | refine Split.tt ?_ | refine Split.ff ?_
 refine Split.by (fun h4 => ?_) (fun h4 => ?_)
 ·refine CallSt.pure w_sanity rfl rfl ?_
  exact r1B rfl rfl
 have h4 : rs.length ≤ 300 := by have : ¬ (300 : Int) < rs.length := dF h4; omega
 refine CallSt.ro (l_Places s b l) rfl rfl ?_
 refine CallSt.ro (l_Reasons s b l) rfl rfl ?_
 have hQ : (plcR s b l).1.length ≤ 2401 := by
  unfold plcR
  split
  ·simp
  ·rename_i q; exact pls_le (giv_ok (Classical.byContradiction q)).s.c.m
 have hW : (rsnR s b l).1.length ≤ 2401 := by
  unfold rsnR
  split
  ·simp
  ·rename_i q
   have := rsnK_len s l (l.map (alwP s b)) s.n
   have := spots_lt (giv_ok (Classical.byContradiction q)).s.c.m
   show (rsnK s l (l.map (alwP s b)) s.n).length ≤ 2401
   have : s.n ≤ 2401 := this
   omega
 generalize (plcR s b l).1 = Q at hQ
 generalize (rsnR s b l).1 = W at hW
 refine ⟨⟨.inr rfl, by simp only [maxLen]; omega, by dsimp only; omega⟩, ?_⟩
 refine ⟨⟨.inr rfl, by simp only [maxLen]; omega, by dsimp only; omega⟩, ?_⟩
 refine CutOb.at [(2, .d (lR l)), (4, .d (lP ps)), (5, .d (lRs rs)), (6, .box 6 0), (7, .box 7 0), (9, .box 9 0), (13, .own 52), (15, .own 55)] [(6, .box (s.ds.map AV.d)), (7, .box (b.ds.map AV.d)), (9, .box (x.ds.map AV.d)), (52, .row 56 2 Q.length (rowP Q)), (55, .row 80 3 W.length (rowS W))] ?_ ?_
 ·exact ⟨rfl, ⟨obX rfl, obX rfl, obX rfl, obR rfl (app0G _ _), obR rfl (app0G _ _), trivial⟩, avR _ rfl, avR _ rfl, avR _ rfl, avQ rfl, avQ rfl, avQ rfl, avQ rfl, avQ rfl, trivial⟩
 apply two_
 ·intro key
  by_cases n1 : x.What = 1
  ·have e : x.What = 1 := n1
   refine Split.yes (by rw [e]; rfl) ?_
   repeat first | refine Split.tt ?_ | refine Split.ff ?_
   refine Split.by (fun h6 => ?_) (fun h6 => ?_)
   ·have h6 : 0 < Q.length := by have : (0 : Int) < Q.length := dT h6; omega
    repeat first | refine Split.tt ?_ | refine Split.ff ?_
    obtain ⟨k, k1, k2⟩ := bnd_at x.At (n := Q.length) (by omega) (by omega)
    refine ⟨u64_ne (by omega) (by omega), ?_⟩
    refine CutOb.at [(2, .d (lR l)), (4, .d (lP ps)), (5, .d (lRs rs)), (6, .box 6 0), (7, .box 7 0), (9, .box 9 0), (13, .own 52), (15, .own 55), (17, .d (I (k : Int)))] [(6, .box (s.ds.map AV.d)), (7, .box (b.ds.map AV.d)), (9, .box (x.ds.map AV.d)), (52, .row 56 2 Q.length (rowP Q)), (55, .row 80 3 W.length (rowS W))] ?_ ?_
    ·exact ⟨rfl, ⟨obX rfl, obX rfl, obX rfl, obR rfl (D.eqv_refl _), obR rfl (D.eqv_refl _), trivial⟩, avR _ rfl, avR _ rfl, avR _ rfl, avQ rfl, avQ rfl, avQ rfl, avQ rfl, avQ rfl, avI rfl k2, trivial⟩
    refine Exists.intro (List.range 9) (And.intro (by kernel_rfl) (FzOb.no ?_))
    refine ⟨⟨rfl, by omega, by omega, by omega⟩, ?_⟩
    refine ⟨i6 (by omega), ?_⟩
    refine ⟨⟨rfl, by omega, by omega⟩, ?_⟩
    refine ⟨⟨⟨by omega, by omega⟩, by simp only [maxLen]; omega, by dsimp only; omega⟩, ?_⟩
    refine CutOb.pr (prSl l ps rs) (prOb s b) rfl rfl rfl rfl rfl rfl ⟨rfl, ⟨obX rfl, obX rfl, trivial⟩, avR _ rfl, avR _ rfl, avR _ rfl, avQ rfl, avQ rfl, trivial⟩ ⟨intR_cut (intR_P Q) (by omega) (by omega), by omega⟩ ⟨intR_S W, by omega⟩ ?_
    exact key.out
   ·repeat first | refine Split.tt ?_ | refine Split.ff ?_
    refine Split.no (by rw [e]; rfl) ?_
    repeat first | refine Split.tt ?_ | refine Split.ff ?_
    refine Split.no (by rw [e]; rfl) ?_
    repeat first | refine Split.tt ?_ | refine Split.ff ?_
    refine Split.no (by rw [e]; rfl) ?_
    repeat first | refine Split.tt ?_ | refine Split.ff ?_
    refine Split.no (by rw [e]; rfl) ?_
    repeat first | refine Split.tt ?_ | refine Split.ff ?_
    refine Split.no (by rw [e]; rfl) ?_
    repeat first | refine Split.tt ?_ | refine Split.ff ?_
    refine CutOb.pr (prSl l ps rs) (prOb s b) rfl rfl rfl rfl rfl rfl ⟨rfl, ⟨obX rfl, obX rfl, trivial⟩, avR _ rfl, avR _ rfl, avR _ rfl, avQ rfl, avQ rfl, trivial⟩ ⟨intR_P Q, by omega⟩ ⟨intR_S W, by omega⟩ ?_
    exact key.out
  by_cases n2 : x.What = 2
  ·have e : x.What = 2 := n2
   refine Split.no (by rw [e]; rfl) ?_
   repeat first | refine Split.tt ?_ | refine Split.ff ?_
   refine Split.yes (by rw [e]; rfl) ?_
   repeat first | refine Split.tt ?_ | refine Split.ff ?_
   refine Split.by (fun h6 => ?_) (fun h6 => ?_)
   ·have h6 : 0 < W.length := by have : (0 : Int) < W.length := dT h6; omega
    repeat first | refine Split.tt ?_ | refine Split.ff ?_
    obtain ⟨k, k1, k2⟩ := bnd_at x.At (n := W.length) (by omega) (by omega)
    refine ⟨u64_ne (by omega) (by omega), ?_⟩
    refine CutOb.at [(2, .d (lR l)), (4, .d (lP ps)), (5, .d (lRs rs)), (6, .box 6 0), (7, .box 7 0), (9, .box 9 0), (13, .own 52), (15, .own 55), (18, .d (I (k : Int)))] [(6, .box (s.ds.map AV.d)), (7, .box (b.ds.map AV.d)), (9, .box (x.ds.map AV.d)), (52, .row 56 2 Q.length (rowP Q)), (55, .row 80 3 W.length (rowS W))] ?_ ?_
    ·exact ⟨rfl, ⟨obX rfl, obX rfl, obX rfl, obR rfl (D.eqv_refl _), obR rfl (D.eqv_refl _), trivial⟩, avR _ rfl, avR _ rfl, avR _ rfl, avQ rfl, avQ rfl, avQ rfl, avQ rfl, avQ rfl, avI rfl k2, trivial⟩
    refine Exists.intro (List.range 9) (And.intro (by kernel_rfl) (FzOb.no ?_))
    refine ⟨⟨rfl, by omega, by omega, by omega⟩, ?_⟩
    refine ⟨i6 (by omega), ?_⟩
    refine ⟨⟨rfl, by omega, by omega⟩, ?_⟩
    refine ⟨⟨⟨by omega, by omega⟩, by simp only [maxLen]; omega, by dsimp only; omega⟩, ?_⟩
    refine CutOb.pr (prSl l ps rs) (prOb s b) rfl rfl rfl rfl rfl rfl ⟨rfl, ⟨obX rfl, obX rfl, trivial⟩, avR _ rfl, avR _ rfl, avR _ rfl, avQ rfl, avQ rfl, trivial⟩ ⟨intR_P Q, by omega⟩ ⟨intR_cut (intR_S W) (by omega) (by omega), by omega⟩ ?_
    exact key.out
   ·repeat first | refine Split.tt ?_ | refine Split.ff ?_
    refine Split.no (by rw [e]; rfl) ?_
    repeat first | refine Split.tt ?_ | refine Split.ff ?_
    refine Split.no (by rw [e]; rfl) ?_
    repeat first | refine Split.tt ?_ | refine Split.ff ?_
    refine Split.no (by rw [e]; rfl) ?_
    repeat first | refine Split.tt ?_ | refine Split.ff ?_
    refine Split.no (by rw [e]; rfl) ?_
    repeat first | refine Split.tt ?_ | refine Split.ff ?_
    refine CutOb.pr (prSl l ps rs) (prOb s b) rfl rfl rfl rfl rfl rfl ⟨rfl, ⟨obX rfl, obX rfl, trivial⟩, avR _ rfl, avR _ rfl, avR _ rfl, avQ rfl, avQ rfl, trivial⟩ ⟨intR_P Q, by omega⟩ ⟨intR_S W, by omega⟩ ?_
    exact key.out
  by_cases n3 : x.What = 3
  ·have e : x.What = 3 := n3
   refine Split.no (by rw [e]; rfl) ?_
   repeat first | refine Split.tt ?_ | refine Split.ff ?_
   refine Split.no (by rw [e]; rfl) ?_
   repeat first | refine Split.tt ?_ | refine Split.ff ?_
   refine Split.yes (by rw [e]; rfl) ?_
   repeat first | refine Split.tt ?_ | refine Split.ff ?_
   refine Split.by (fun h6 => ?_) (fun h6 => ?_)
   ·have h6 : 0 < W.length := by have : (0 : Int) < W.length := dT h6; omega
    repeat first | refine Split.tt ?_ | refine Split.ff ?_
    obtain ⟨k, k1, k2⟩ := bnd_at x.At (n := W.length) (by omega) (by omega)
    refine Exists.intro (List.range 14) (And.intro (by kernel_rfl) (FzOb.no ?_))
    refine ⟨u64_ne (by omega) (by omega), ?_⟩
    refine ⟨⟨by rw [k2]; omega, by rw [k2]; omega⟩, ?_⟩
    refine ⟨by rw [k2]; omega, ?_⟩
    refine CutOb.pr (prSl l ps rs) (prOb s b) rfl rfl rfl rfl rfl rfl ⟨rfl, ⟨obX rfl, obX rfl, trivial⟩, avR _ rfl, avR _ rfl, avR _ rfl, avQ rfl, avQ rfl, trivial⟩ ⟨intR_P Q, by omega⟩ ⟨intR_store (intR_S W) (intD1 _), by omega⟩ ?_
    exact key.out
   ·repeat first | refine Split.tt ?_ | refine Split.ff ?_
    refine Split.no (by rw [e]; rfl) ?_
    repeat first | refine Split.tt ?_ | refine Split.ff ?_
    refine Split.no (by rw [e]; rfl) ?_
    repeat first | refine Split.tt ?_ | refine Split.ff ?_
    refine Split.no (by rw [e]; rfl) ?_
    repeat first | refine Split.tt ?_ | refine Split.ff ?_
    refine CutOb.pr (prSl l ps rs) (prOb s b) rfl rfl rfl rfl rfl rfl ⟨rfl, ⟨obX rfl, obX rfl, trivial⟩, avR _ rfl, avR _ rfl, avR _ rfl, avQ rfl, avQ rfl, trivial⟩ ⟨intR_P Q, by omega⟩ ⟨intR_S W, by omega⟩ ?_
    exact key.out
  by_cases n4 : x.What = 4
  ·have e : x.What = 4 := n4
   refine Split.no (by rw [e]; rfl) ?_
   repeat first | refine Split.tt ?_ | refine Split.ff ?_
   refine Split.no (by rw [e]; rfl) ?_
   repeat first | refine Split.tt ?_ | refine Split.ff ?_
   refine Split.no (by rw [e]; rfl) ?_
   repeat first | refine Split.tt ?_ | refine Split.ff ?_
   refine Split.yes (by rw [e]; rfl) ?_
   repeat first | refine Split.tt ?_ | refine Split.ff ?_
   refine ⟨⟨.inr rfl, by simp only [maxLen]; omega, by dsimp only; omega⟩, ?_⟩
   refine CutOb.pr (prSl l ps rs) (prOb s b) rfl rfl rfl rfl rfl rfl ⟨rfl, ⟨obX rfl, obX rfl, trivial⟩, avR _ rfl, avR _ rfl, avR _ rfl, avQ rfl, avQ rfl, trivial⟩ ⟨intR_app (intR_P Q) (intO2 _ _), by omega⟩ ⟨intR_S W, by omega⟩ ?_
   exact key.out
  by_cases n5 : x.What = 5
  ·have e : x.What = 5 := n5
   refine Split.no (by rw [e]; rfl) ?_
   repeat first | refine Split.tt ?_ | refine Split.ff ?_
   refine Split.no (by rw [e]; rfl) ?_
   repeat first | refine Split.tt ?_ | refine Split.ff ?_
   refine Split.no (by rw [e]; rfl) ?_
   repeat first | refine Split.tt ?_ | refine Split.ff ?_
   refine Split.no (by rw [e]; rfl) ?_
   repeat first | refine Split.tt ?_ | refine Split.ff ?_
   refine Split.yes (by rw [e]; rfl) ?_
   repeat first | refine Split.tt ?_ | refine Split.ff ?_
   refine Split.by (fun h6 => ?_) (fun h6 => ?_)
   ·have h6 : 0 < W.length := by have : (0 : Int) < W.length := dT h6; omega
    repeat first | refine Split.tt ?_ | refine Split.ff ?_
    obtain ⟨k, k1, k2⟩ := bnd_at x.At (n := W.length) (by omega) (by omega)
    refine Exists.intro (List.range 14) (And.intro (by kernel_rfl) (FzOb.no ?_))
    refine ⟨u64_ne (by omega) (by omega), ?_⟩
    refine ⟨⟨by rw [k2]; omega, by rw [k2]; omega⟩, ?_⟩
    refine ⟨by rw [k2]; omega, ?_⟩
    refine CutOb.pr (prSl l ps rs) (prOb s b) rfl rfl rfl rfl rfl rfl ⟨rfl, ⟨obX rfl, obX rfl, trivial⟩, avR _ rfl, avR _ rfl, avR _ rfl, avQ rfl, avQ rfl, trivial⟩ ⟨intR_P Q, by omega⟩ ⟨intR_store (intR_S W) (intD2 _ _), by omega⟩ ?_
    exact key.out
   ·repeat first | refine Split.tt ?_ | refine Split.ff ?_
    refine Split.no (by rw [e]; rfl) ?_
    repeat first | refine Split.tt ?_ | refine Split.ff ?_
    refine CutOb.pr (prSl l ps rs) (prOb s b) rfl rfl rfl rfl rfl rfl ⟨rfl, ⟨obX rfl, obX rfl, trivial⟩, avR _ rfl, avR _ rfl, avR _ rfl, avQ rfl, avQ rfl, trivial⟩ ⟨intR_P Q, by omega⟩ ⟨intR_S W, by omega⟩ ?_
    exact key.out
  by_cases n6 : x.What = 6
  ·have e : x.What = 6 := n6
   refine Split.no (by rw [e]; rfl) ?_
   repeat first | refine Split.tt ?_ | refine Split.ff ?_
   refine Split.no (by rw [e]; rfl) ?_
   repeat first | refine Split.tt ?_ | refine Split.ff ?_
   refine Split.no (by rw [e]; rfl) ?_
   repeat first | refine Split.tt ?_ | refine Split.ff ?_
   refine Split.no (by rw [e]; rfl) ?_
   repeat first | refine Split.tt ?_ | refine Split.ff ?_
   refine Split.no (by rw [e]; rfl) ?_
   repeat first | refine Split.tt ?_ | refine Split.ff ?_
   refine Split.yes (by rw [e]; rfl) ?_
   repeat first | refine Split.tt ?_ | refine Split.ff ?_
   refine Split.by (fun h6 => ?_) (fun h6 => ?_)
   ·have h6 : 0 < Q.length := by have : (0 : Int) < Q.length := dT h6; omega
    repeat first | refine Split.tt ?_ | refine Split.ff ?_
    refine Exists.intro (List.range 13) (And.intro (by kernel_rfl) (FzOb.no ?_))
    refine ⟨i6 (by omega), ?_⟩
    refine ⟨⟨by omega, by omega⟩, ?_⟩
    refine ⟨by omega, ?_⟩
    refine ⟨⟨.inr rfl, by simp only [maxLen]; omega, by dsimp only; omega⟩, ?_⟩
    refine ⟨i6 (by omega), ?_⟩
    refine ⟨⟨by omega, by omega⟩, ?_⟩
    refine CutOb.pr (prSl l ps rs) (prOb s b) rfl rfl rfl rfl rfl rfl ⟨rfl, ⟨obX rfl, obX rfl, trivial⟩, avR _ rfl, avR _ rfl, avR _ rfl, avQ rfl, avQ rfl, trivial⟩ ⟨intR_le (intR_P Q) (by omega), by omega⟩ ⟨intR_app (intR_S W) (intO3 _ _ _), by omega⟩ ?_
    exact key.out
   ·repeat first | refine Split.tt ?_ | refine Split.ff ?_
    refine CutOb.pr (prSl l ps rs) (prOb s b) rfl rfl rfl rfl rfl rfl ⟨rfl, ⟨obX rfl, obX rfl, trivial⟩, avR _ rfl, avR _ rfl, avR _ rfl, avQ rfl, avQ rfl, trivial⟩ ⟨intR_P Q, by omega⟩ ⟨intR_S W, by omega⟩ ?_
    exact key.out
  refine Split.no (by simpa using n1) ?_
  repeat first | refine Split.tt ?_ | refine Split.ff ?_
  refine Split.no (by simpa using n2) ?_
  repeat first | refine Split.tt ?_ | refine Split.ff ?_
  refine Split.no (by simpa using n3) ?_
  repeat first | refine Split.tt ?_ | refine Split.ff ?_
  refine Split.no (by simpa using n4) ?_
  repeat first | refine Split.tt ?_ | refine Split.ff ?_
  refine Split.no (by simpa using n5) ?_
  repeat first | refine Split.tt ?_ | refine Split.ff ?_
  refine Split.no (by simpa using n6) ?_
  repeat first | refine Split.tt ?_ | refine Split.ff ?_
  refine CutOb.pr (prSl l ps rs) (prOb s b) rfl rfl rfl rfl rfl rfl ⟨rfl, ⟨obX rfl, obX rfl, trivial⟩, avR _ rfl, avR _ rfl, avR _ rfl, avQ rfl, avQ rfl, trivial⟩ ⟨intR_P Q, by omega⟩ ⟨intR_S W, by omega⟩ ?_
  exact key.out
 ·intro ps' rs' hp' hr'
  have g1 := l_CheckCell s b l ps' rs' (by omega) (by omega)
  have g2 := r6_CheckCell s b l ps' rs' (by omega) (by omega)
  have g3 := l_CheckCell s b l ps rs (by omega) (by omega)
  have g4 := r6_CheckCell s b l ps rs (by omega) (by omega)
  refine Exists.intro (List.range 32) (And.intro (by kernel_rfl) (FzOb.no ?_))
  refine CallOb.pure w_sanity rfl rfl ?_
  repeat first | refine Split.tt ?_ | refine Split.ff ?_
  refine CallOb.pure g1 rfl rfl ?_
  refine CallOb.pure g2 rfl rfl ?_
  repeat first | refine Split.tt ?_ | refine Split.ff ?_ | refine Split.yes (by simp) ?_
  refine CallOb.pure g3 rfl rfl ?_
  refine CallOb.pure g4 rfl rfl ?_
  repeat first | refine Split.tt ?_ | refine Split.ff ?_ | refine Split.yes (by simp) ?_
  exact r1B rfl (by simp)
end Go.Pg
