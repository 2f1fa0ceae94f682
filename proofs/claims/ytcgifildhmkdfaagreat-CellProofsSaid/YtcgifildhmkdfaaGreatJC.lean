/- Texts joined and shortened by program. -/
import Derived.Test.YtcgifildhmkdfaaGreatJB
import Derived.Test.YtcgifildhmkdfaaGreatJA
set_option linter.all false
set_option maxRecDepth 100000
namespace Go.Pg
open Go.Proofs Go.RowKit
theorem r6_listed (s : Svc) (l : List Rpt) (hT : s.c.T.length ≤ 1000000) (hC : s.k.C.length ≤ 1000000) : Spec PP 116 [s.v, .d (lR l)] [.d (.int .i64 (if 24 < l.length then 2 else err1 (rp1E s l) l.length))] := by
 refine spec_at Tryz.func116 rfl (by kernel_rfl) rfl ?_
 refine Split.by (fun h2 => ?_) (fun h2 => ?_)
 ·have h2 : 24 < l.length := by have : (24 : Int) < l.length := dT h2; omega
  refine r1I rfl ?_
  rw [if_pos h2]
 have h2 : ¬ 24 < l.length := by have : ¬ (24 : Int) < l.length := dF h2; omega
 rw [if_neg h2]
 refine LoopOb.of (σ := Nat) (fun i => ([(1, .d (lR l)), (2, .box 2 0), (5, .d (I i))], [(2, .box (s.ds.map AV.d))])) (fun i => i ≤ l.length ∧ ∀ j, j < i → rp1E s l j = 0) (fun i => l.length - i) 0
  ⟨rfl, ⟨obD s.ds rfl, trivial⟩, avR _ rfl, avQ rfl, avR _ rfl, trivial⟩ ⟨Nat.zero_le _, fun j hj => absurd hj (Nat.not_lt_zero _)⟩ fun i hi => ?_
 obtain ⟨hi, ha⟩ := hi
 refine Split.by (fun h3 => ?_) (fun h3 => ?_)
 ·have h3 : i < l.length := by have := dT h3; omega
  refine Exists.intro (List.range 7) (And.intro (by kernel_rfl) (FzOb.no ?_))
  refine ⟨⟨rfl, by omega, by omega⟩, ?_⟩
  refine CallOb.pure (r6_report s (l.getD i default) hT hC) rfl rfl ?_
  refine Split.by (fun h4 => ?_) (fun h4 => ?_)
  ·have h4 : rptE s (l.getD i default) ≠ 0 := by simpa using h4
   have e1 : rp1E s l i = rptE s (l.getD i default) := by unfold rp1E; rw [if_pos h4]
   refine r1I rfl ?_
   rw [err1_stop ha (by rw [e1]; exact h4) h3, e1]
  have h4 : rptE s (l.getD i default) = 0 := by simpa using h4
  refine LoopOb.of (σ := Nat) (fun j => ([(1, .d (lR l)), (2, .box 2 0), (5, .d (I i)), (7, .d (I j))], [(2, .box (s.ds.map AV.d))])) (fun j => j ≤ i ∧ ∀ z, z < j → (l.getD z default).ID ≠ (l.getD i default).ID) (fun j => i - j) 0
   ⟨rfl, ⟨obD s.ds rfl, trivial⟩, avR _ rfl, avQ rfl, avR _ rfl, avR _ rfl, trivial⟩ ⟨Nat.zero_le _, fun j hj => absurd hj (Nat.not_lt_zero _)⟩ fun j hj => ?_
  obtain ⟨hj, hb⟩ := hj
  refine Split.by (fun h5 => ?_) (fun h5 => ?_)
  ·have h5 : j < i := by have := dT h5; omega
   refine Exists.intro (List.range 11) (And.intro (by kernel_rfl) (FzOb.no ?_))
   refine ⟨⟨rfl, by omega, by omega⟩, ⟨⟨rfl, by omega, by omega⟩, ?_⟩⟩
   refine Split.by (fun h6 => ?_) (fun h6 => ?_)
   ·have h6 : (l.getD j default).ID = (l.getD i default).ID := by simpa using h6
    have e1 : rp1E s l i = 6 := by unfold rp1E; rw [if_neg (fun hh => hh h4), if_pos ((ids_has hi _).2 ⟨j, h5, h6⟩)]
    refine r1I rfl ?_
    rw [err1_stop ha (by rw [e1]; decide) h3, e1]
   ·have h6 : (l.getD j default).ID ≠ (l.getD i default).ID := by simpa using h6
    refine ⟨i6 (by omega), ?_⟩
    refine ⟨j + 1, ⟨rfl, ⟨obD s.ds rfl, trivial⟩, avR _ rfl, avQ rfl, avR _ rfl, avI rfl rfl, trivial⟩, ⟨h5, fun z hz => ?_⟩, (show i - (j + 1) < i - j by omega)⟩
    by_cases q : z = j
    ·subst q; exact h6
    ·exact hb z (by omega)
  ·have h5 : j = i := by have := dF h5; omega
   subst h5
   have hc : ((l.take j).map Rpt.ID).contains (l.getD j default).ID = false := by
    cases hh : ((l.take j).map Rpt.ID).contains (l.getD j default).ID with
    | false => rfl
    | true => obtain ⟨z, hz, e⟩ := (ids_has hi _).1 hh; exact absurd e (hb z hz)
   have e1 : rp1E s l j = 0 := by unfold rp1E; rw [if_neg (fun hh => hh h4), if_neg (by rw [hc]; decide)]
   refine ⟨i6 (by omega), ?_⟩
   refine ⟨j + 1, ⟨rfl, ⟨obD s.ds rfl, trivial⟩, avR _ rfl, avQ rfl, avI rfl rfl, trivial⟩, ⟨h3, fun z hz => ?_⟩, (show l.length - (j + 1) < l.length - j by omega)⟩
   by_cases q : z = j
   ·subst q; exact e1
   ·exact ha z (by omega)
 ·have h3 : i = l.length := by have := dF h3; omega
  subst h3
  refine r1I rfl ?_
  rw [err1_ok ha]
theorem r6_Checked (s : Svc) (b : Brn) (l : List Rpt) : Spec PP 63 [s.v, b.v, .d (lR l)] [.d (.int .i64 (givE s b l))] := by
 refine spec_at Tryz.func63 rfl (by kernel_rfl) rfl ?_
 refine CallSt.pure (r6_Check s) rfl rfl ?_
 refine Split.by (fun h0 => ?_) (fun h0 => ?_)
 ·refine r1I rfl ?_
  unfold givE; rw [if_pos (by simpa using h0)]
 have h0 : svcE s = 0 := by simpa using h0
 have ok := svc_ok h0
 refine CallSt.pure (r6_burning b) rfl rfl ?_
 refine Split.by (fun h1 => ?_) (fun h1 => ?_)
 ·refine r1I rfl ?_
  unfold givE; rw [if_neg (fun hh => hh h0), if_pos (by simpa using h1)]
 have h1 : brnB b = true := by simpa using h1
 refine CallSt.pure (r6_listed s l (by have := ok.c.t; omega) (by have := ok.k.n; omega)) rfl rfl ?_
 refine r1I rfl ?_
 have e1 : givE s b l = if brnB b = false then 1 else if 24 < l.length then 2 else err1 (rp1E s l) l.length := by unfold givE; rw [if_neg (fun hh => hh h0)]
 have e2 : ¬ brnB b = false := by rw [h1]; decide
 rw [e1, if_neg e2]
theorem pushG {α : Type} [Inhabited α] {k : Nat} {at_ : α → Nat → D} {vs : List α} {p : α} {g : Nat → Nat → D} (hg : ∀ j, j < k → D.eqv (g 0 j) (at_ p j)) :
  D.eqv (.slc k (vs.length + 1) (appRow vs.length (fun i => at_ (vs.getD i default)) g)) (.slc k (vs ++ [p]).length (fun i => at_ ((vs ++ [p]).getD i default))) := by
 refine ⟨by simp, .inr ⟨rfl, fun i hi j hj => ?_⟩⟩
 show D.eqv (appRow vs.length (fun i => at_ (vs.getD i default)) g i j) (at_ ((vs ++ [p]).getD i default) j)
 unfold appRow
 by_cases h : i < vs.length
 ·rw [if_pos h, List.getD_eq_getElem?_getD, List.getElem?_append_left h, ← List.getD_eq_getElem?_getD]
  exact D.eqv_refl _
 ·have e : i = vs.length := by omega
  subst e
  rw [if_neg h, Nat.sub_self, List.getD_eq_getElem?_getD, List.getElem?_append_right (Nat.le_refl _), Nat.sub_self]
  exact hg j hj
def madAt (s : Svc) (r : Rpt) : Nat → D
 | 0 => I r.ID
 | 1 => I r.Kind
 | 2 => I r.Tower
 | 3 => I r.C
 | 4 => I r.Tick
 | 5 => I r.From
 | 6 => I r.To
 | 7 => I r.Slack
 | 8 => I (secR s r).1.F
 | 9 => I (secR s r).1.T
 | 10 => .bool (secR s r).2
 | 11 => I (towG s.c.T r.Tower).1.At.X
 | _ => I (towG s.c.T r.Tower).1.At.Y
abbrev rowM (s : Svc) (l : List Rpt) : Nat → Nat → D := fun i => madAt s (l.getD i default)
abbrev lM (s : Svc) (l : List Rpt) : D := .slc 13 l.length (rowM s l)
theorem mad_get (s : Svc) (r : Rpt) : ∀ j, j < 13 → D.eqv (getD' (madD s r) (0 * 13 + j)) (madAt s r j)
 | 0, _ => ⟨rfl, rfl⟩
 | 1, _ => ⟨rfl, rfl⟩
 | 2, _ => ⟨rfl, rfl⟩
 | 3, _ => ⟨rfl, rfl⟩
 | 4, _ => ⟨rfl, rfl⟩
 | 5, _ => ⟨rfl, rfl⟩
 | 6, _ => ⟨rfl, rfl⟩
 | 7, _ => ⟨rfl, rfl⟩
 | 8, _ => ⟨rfl, rfl⟩
 | 9, _ => ⟨rfl, rfl⟩
 | 10, _ => D.eqv_refl _
 | 11, _ => ⟨rfl, rfl⟩
 | 12, _ => ⟨rfl, rfl⟩
theorem r6_all (s : Svc) (l : List Rpt) (hT : s.c.T.length ≤ 1000000) (hl : l.length ≤ 24) (hr : ∀ i, i < l.length → RptOk s (l.getD i default)) : Spec PP 76 [s.v, .d (lR l)] [.d (lM s l)] := by
 refine spec_at Tryz.func76 rfl (by kernel_rfl) rfl ?_
 refine LoopOb.of (σ := Nat) (fun i => ([(1, .d (lR l)), (2, .box 2 0), (5, .own 5), (6, .d (I i))], [(2, .box (s.ds.map AV.d)), (5, .row 155 13 (l.take i).length (rowM s (l.take i)))])) (fun i => i ≤ l.length) (fun i => l.length - i) 0
  ⟨rfl, ⟨obD s.ds rfl, obR rfl ⟨rfl, .inl rfl⟩, trivial⟩, avR _ rfl, avQ rfl, avQ rfl, avR _ rfl, trivial⟩ (Nat.zero_le _) fun i hi => ?_
 have hi : i ≤ l.length := hi
 refine Split.by (fun h3 => ?_) (fun h3 => ?_)
 ·have h3 : i < l.length := by have := dT h3; omega
  have hlen : (l.take i).length = i := by rw [List.length_take]; omega
  refine Exists.intro (List.range 10) (And.intro (by kernel_rfl) (FzOb.no ?_))
  refine ⟨⟨rfl, by omega, by omega⟩, ?_⟩
  refine CallOb.pure (r6_made s (l.getD i default) hT (hr i h3)) rfl rfl ?_
  refine ⟨⟨.inr rfl, by unfold maxLen; omega, by show ((l.take i).length + 1) * 104 ≤ 140737488355328; omega⟩, ?_⟩
  refine ⟨i6 (by omega), ?_⟩
  refine ⟨i + 1, ⟨rfl, ⟨obD s.ds rfl, obR rfl ?_, trivial⟩, avR _ rfl, avQ rfl, avQ rfl, avI rfl rfl, trivial⟩, h3, (show l.length - (i + 1) < l.length - i by omega)⟩
  rw [take1 h3 default]
  exact pushG (fun j hj => mad_get s (l.getD i default) j hj)
 ·have h3 : i = l.length := by have := dF h3; omega
  subst h3
  refine ⟨⟨_, _, _, _, rfl, ?_⟩, trivial⟩
  rw [List.take_length]
  exact D.eqv_refl _
def mapK (m : Mp) (k : Nat) : List Place := (List.range k).map (plc m)
theorem mapK_len (m : Mp) (k : Nat) : (mapK m k).length = k := by unfold mapK; simp
theorem mapK_s (m : Mp) (k : Nat) : mapK m (k + 1) = mapK m k ++ [plc m k] := by unfold mapK; rw [List.range_succ, List.map_append]; rfl
theorem mapK_get {m : Mp} {n k : Nat} (h : k < n) : (mapK m n).getD k default = plc m k := by
 unfold mapK
 rw [List.getD_eq_getElem?_getD, List.getElem?_map, List.getElem?_range h]; rfl
theorem plc_at {m : Mp} {y x : Nat} (hx : x < m.w) : plc m (y * m.w + x) = ⟨(x : Int), (y : Int)⟩ := by
 unfold plc
 have e1 : (y * m.w + x) % m.w = x := by rw [Nat.add_comm, Nat.add_mul_mod_self_right, Nat.mod_eq_of_lt hx]
 have e2 : (y * m.w + x) / m.w = y := by rw [Nat.add_comm, Nat.add_mul_div_right _ _ (by omega), Nat.div_eq_of_lt hx, Nat.zero_add]
 rw [e1, e2]
theorem r6_Map (s : Svc) (hv : validM s.c.M = true) : Spec PP 77 [s.v] [.d (lP (mapK s.c.M (s.c.M.w * s.c.M.h)))] := by
 obtain ⟨bw, bh, -, -⟩ := validM_spec hv
 have ew : ((s.c.M.w : Nat) : Int) = s.c.M.W := by show ((s.c.M.W.toNat : Nat) : Int) = s.c.M.W; omega
 have eh : ((s.c.M.h : Nat) : Int) = s.c.M.H := by show ((s.c.M.H.toNat : Nat) : Int) = s.c.M.H; omega
 refine spec_at Tryz.func77 rfl (by kernel_rfl) rfl ?_
 refine LoopOb.of (σ := Nat) (fun y => ([(1, .box 1 0), (3, .own 3), (4, .d (I y))], [(1, .box (s.ds.map AV.d)), (3, .row 56 2 (mapK s.c.M (y * s.c.M.w)).length (rowP (mapK s.c.M (y * s.c.M.w))))])) (fun y => y ≤ s.c.M.h) (fun y => s.c.M.h - y) 0
  ⟨rfl, ⟨obD s.ds rfl, obR rfl ⟨by rw [mapK_len]; omega, .inl rfl⟩, trivial⟩, avQ rfl, avQ rfl, avR _ rfl, trivial⟩ (Nat.zero_le _) fun y hy => ?_
 have hy : y ≤ s.c.M.h := hy
 refine Split.by (fun h1 => ?_) (fun h1 => ?_)
 ·have h1 : y < s.c.M.h := by have := dT h1; omega
  have hm : y * s.c.M.w ≤ 48 * 49 := Nat.mul_le_mul (by omega) (by omega)
  refine LoopOb.of (σ := Nat) (fun x => ([(1, .box 1 0), (3, .own 3), (4, .d (I y)), (5, .d (I x))], [(1, .box (s.ds.map AV.d)), (3, .row 56 2 (mapK s.c.M (y * s.c.M.w + x)).length (rowP (mapK s.c.M (y * s.c.M.w + x))))])) (fun x => x ≤ s.c.M.w) (fun x => s.c.M.w - x) 0
   ⟨rfl, ⟨obD s.ds rfl, obR rfl (D.eqv_refl _), trivial⟩, avQ rfl, avQ rfl, avR _ rfl, avR _ rfl, trivial⟩ (Nat.zero_le _) fun x hx => ?_
  have hx : x ≤ s.c.M.w := hx
  refine Split.by (fun h2 => ?_) (fun h2 => ?_)
  ·have h2 : x < s.c.M.w := by have := dT h2; omega
   have hl := mapK_len s.c.M (y * s.c.M.w + x)
   refine ⟨⟨.inr rfl, by unfold maxLen; omega, by show ((mapK s.c.M (y * s.c.M.w + x)).length + 1) * 16 ≤ 140737488355328; omega⟩, ?_⟩
   refine ⟨i6 (by omega), ?_⟩
   refine ⟨x + 1, ⟨rfl, ⟨obD s.ds rfl, obR rfl ?_, trivial⟩, avQ rfl, avQ rfl, avR _ rfl, avI rfl rfl, trivial⟩, h2, (show s.c.M.w - (x + 1) < s.c.M.w - x by omega)⟩
   rw [show y * s.c.M.w + (x + 1) = y * s.c.M.w + x + 1 by omega, mapK_s, plc_at h2]
   exact pushP (at2 rfl rfl)
  ·have h2 : x = s.c.M.w := by have := dF h2; omega
   subst h2
   refine ⟨i6 (by omega), ?_⟩
   refine ⟨y + 1, ⟨rfl, ⟨obD s.ds rfl, obR rfl ?_, trivial⟩, avQ rfl, avQ rfl, avI rfl rfl, trivial⟩, h1, (show s.c.M.h - (y + 1) < s.c.M.h - y by omega)⟩
   rw [Nat.succ_mul]; exact D.eqv_refl _
 ·have h1 : y = s.c.M.h := by have := dF h1; omega
  refine ⟨⟨_, _, _, _, rfl, ?_⟩, trivial⟩
  rw [h1, Nat.mul_comm]
  exact D.eqv_refl _
def fstT (s : Svc) (b : Brn) (l : List Rpt) (p : Place) : Int := idxL (fun r => !allB s b r p) l
theorem r6_first (s : Svc) (b : Brn) (l : List Rpt) (p : Place) (hl : l.length ≤ 24) : Spec PP 78 [s.v, b.v, .d (lM s l), p.v] [N (fstT s b l p)] := by
 refine spec_at Tryz.func78 rfl (by kernel_rfl) rfl ?_
 refine LoopOb.of (σ := Nat) (fun i => ([(2, .d (lM s l)), (4, .box 4 0), (5, .box 5 0), (7, .box 7 0), (9, .d (I i))], [(4, .box (s.ds.map AV.d)), (5, .box (b.ds.map AV.d)), (7, .box ([I p.X, I p.Y].map AV.d))])) (fun i => i ≤ l.length ∧ ∀ j, j < i → (!allB s b (l.getD j default) p) = false) (fun i => l.length - i) 0
  ⟨rfl, ⟨obD s.ds rfl, obD b.ds rfl, obD [I p.X, I p.Y] rfl, trivial⟩, avR _ rfl, avQ rfl, avQ rfl, avQ rfl, avR _ rfl, trivial⟩ ⟨Nat.zero_le _, fun j hj => absurd hj (Nat.not_lt_zero _)⟩ fun i hi => ?_
 obtain ⟨hi, ha⟩ := hi
 refine Split.by (fun h1 => ?_) (fun h1 => ?_)
 ·have h1 : i < l.length := by have := dT h1; omega
  refine Exists.intro (List.range 9) (And.intro (by kernel_rfl) (FzOb.no ?_))
  refine ⟨⟨rfl, by omega, by omega⟩, ?_⟩
  refine CallOb.pure (r6_allows s b (l.getD i default) p) rfl rfl ?_
  refine Split.by (fun h2 => ?_) (fun h2 => ?_)
  ·refine r1I rfl ?_
   exact (idxL_stop (p := fun r : Rpt => !allB s b r p) default h1 h2 ha).symm
  ·refine ⟨i6 (by omega), ?_⟩
   refine ⟨i + 1, ⟨rfl, ⟨obD s.ds rfl, obD b.ds rfl, obD [I p.X, I p.Y] rfl, trivial⟩, avR _ rfl, avQ rfl, avQ rfl, avQ rfl, avI rfl rfl, trivial⟩, ⟨h1, fun j hj => ?_⟩, (show l.length - (i + 1) < l.length - i by omega)⟩
   by_cases e : j = i
   ·subst e; exact h2
   ·exact ha j (by omega)
 have h1 : i = l.length := by have := dF h1; omega
 subst h1
 refine r1I rfl ?_
 exact (idxL_none (p := fun r : Rpt => !allB s b r p) default ha).symm
theorem fst_eq {s : Svc} {b : Brn} {l : List Rpt} {n : Nat} (h : n < s.n) : fstT s b l (plc s.c.M n) = fstI (l.map (alwP s b)) n := by
 have key : ∀ (l : List Rpt) (k : Nat), idxA (fun r => !allB s b r (plc s.c.M n)) l k = idxA (fun P : Nat → Bool => !P n) (l.map (alwP s b)) k := fun l => by
  induction l with
  | nil => intro k; rfl
  | cons r t ih =>
   intro k
   have e : alwP s b r n = allB s b r (plc s.c.M n) := by
    show (decide (n < s.n) && allB s b r (plc s.c.M n)) = _
    rw [decide_eq_true h, Bool.true_and]
   show (if (!allB s b r (plc s.c.M n)) = true then (k : Int) else idxA _ t (k + 1)) = (if (!alwP s b r n) = true then (k : Int) else idxA _ (t.map (alwP s b)) (k + 1))
   rw [e, ih]
 exact key l 0
end Go.Pg
