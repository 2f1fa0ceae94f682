/- Texts joined and shortened by program. -/
import Derived.Test.YtooepbnecjepnaaGreatNB
import Derived.Test.YtooepbnecjepnaaGreatNA
set_option maxHeartbeats 4000000
set_option linter.all false
set_option maxRecDepth 100000
namespace Go.Pg
open Go.Proofs Go.RowKit
theorem zjl (s : Svc) (l : List Rpt) (hT : s.c.T.length <= 1000000) (hC : s.k.C.length <= 1000000) : Spec PP 115 [s.v, .d (lR l)] [.d (.int .i64 (if 24 < l.length then 2 else err1 (rp1E s l) l.length))] := by
 refine sA Tryz.func115 ?_
 apply sB <;> intro h2
 ·have h2 : 24 < l.length := by have : (24 : Int) < l.length := dT h2; omega
  refine r1I rfl ?_
  rw [if_pos h2]
 have h2 : ¬ 24 < l.length := by have : ¬ (24 : Int) < l.length := dF h2; omega
 rw [if_neg h2]
 refine LoopOb.of (σ := Nat) (fun i => ([(1, .d (lR l)), (2, .box 2 0), (5, .d (I i))], [(2, .box (s.ds.map AV.d))])) (fun i => i <= l.length /\ ∀ j, j < i -> rp1E s l j = 0) (fun i => l.length - i) 0
  ⟨rfl, ⟨obD s.ds rfl, trivial⟩, wq rfl⟩ z0L fun i hi => ?_
 obtain ⟨hi, ha⟩ := hi
 apply sB <;> intro h3
 ·have h3 : i < l.length := by have := dT h3; omega
  refine oL (List.range 7) (FzOb.no ?_)
  refine ⟨⟨rfl, by omega, by omega⟩, ?_⟩
  refine oP (zjk s (l.getD i default) hT hC) rfl rfl ?_
  apply sB <;> intro h4
  ·have h4 : rptE s (l.getD i default) ≠ 0 := by simpa using h4
   have e1 : rp1E s l i = rptE s (l.getD i default) := by unfold rp1E; rw [if_pos h4]
   refine r1I rfl ?_
   rw [zak ha (by rw [e1]; exact h4) h3, e1]
  have h4 : rptE s (l.getD i default) = 0 := by simpa using h4
  refine LoopOb.of (σ := Nat) (fun j => ([(1, .d (lR l)), (2, .box 2 0), (5, .d (I i)), (7, .d (I j))], [(2, .box (s.ds.map AV.d))])) (fun j => j <= i /\ ∀ z, z < j -> (l.getD z default).ID ≠ (l.getD i default).ID) (fun j => i - j) 0
   ⟨rfl, ⟨obD s.ds rfl, trivial⟩, wq rfl⟩ z0L fun j hj => ?_
  obtain ⟨hj, hb⟩ := hj
  apply sB <;> intro h5
  ·have h5 : j < i := by have := dT h5; omega
   refine oL (List.range 11) (FzOb.no ?_)
   refine ⟨⟨rfl, by omega, by omega⟩, ⟨⟨rfl, by omega, by omega⟩, ?_⟩⟩
   apply sB <;> intro h6
   ·have h6 : (l.getD j default).ID = (l.getD i default).ID := by simpa using h6
    have e1 : rp1E s l i = 6 := by unfold rp1E; rw [if_neg (fun hh => hh h4), if_pos ((zj6 hi _).2 ⟨j, h5, h6⟩)]
    refine r1I rfl ?_
    rw [zak ha (by rw [e1]; decide) h3, e1]
   ·have h6 : (l.getD j default).ID ≠ (l.getD i default).ID := by simpa using h6
    refine ⟨i6, ?_⟩
    refine ⟨j + 1, ⟨rfl, ⟨obD s.ds rfl, trivial⟩, wq rfl⟩, ⟨h5, fun z hz => ?_⟩, (msr (by omega))⟩
    by_cases q : z = j
    ·subst q; exact h6
    ·exact hb z (by omega)
  ·have h5 : j = i := by have := dF h5; omega
   subst h5
   have hc : ((l.take j).map Rpt.ID).contains (l.getD j default).ID = false := by
    cases hh : ((l.take j).map Rpt.ID).contains (l.getD j default).ID with
    | false => rfl
    | true => obtain ⟨z, hz, e⟩ := (zj6 hi _).1 hh; exact absurd e (hb z hz)
   have e1 : rp1E s l j = 0 := by unfold rp1E; rw [if_neg (fun hh => hh h4), if_neg (by rw [hc]; decide)]
   refine ⟨i6, ?_⟩
   refine ⟨j + 1, ⟨rfl, ⟨obD s.ds rfl, trivial⟩, wq rfl⟩, ⟨h3, fun z hz => ?_⟩, (msr (by omega))⟩
   by_cases q : z = j
   ·subst q; exact e1
   ·exact ha z (by omega)
 ·have h3 : i = l.length := by have := dF h3; omega
  subst h3
  refine r1I rfl ?_
  rw [zaG ha]
theorem zic (s : Svc) (b : Brn) (l : List Rpt) : Spec PP 50 [s.v, b.v, .d (lR l)] [.d (.int .i64 (givE s b l))] := by
 refine sA Tryz.func50 ?_
 refine cP (zlv s) rfl rfl ?_
 apply sB <;> intro h0
 ·refine r1I rfl ?_
  unfold givE; rw [if_pos (by simpa using h0)]
 have h0 : svcE s = 0 := by simpa using h0
 have ok := zhd h0
 refine cP (zib b) rfl rfl ?_
 apply sB <;> intro h1
 ·refine r1I rfl ?_
  unfold givE; rw [if_neg (fun hh => hh h0), if_pos (by simpa using h1)]
 have h1 : brnB b = true := by simpa using h1
 refine cP (zjl s l (by have := ok.c.t; omega) (by have := ok.k.n; omega)) rfl rfl ?_
 refine r1I rfl ?_
 have e1 : givE s b l = if brnB b = false then 1 else if 24 < l.length then 2 else err1 (rp1E s l) l.length := by unfold givE; rw [if_neg (fun hh => hh h0)]
 have e2 : ¬ brnB b = false := by rw [h1]; decide
 rw [e1, if_neg e2]
theorem pushG {α : Type} [Inhabited α] {k : Nat} {at_ : α -> Nat -> D} {vs : List α} {p : α} {g : Nat -> Nat -> D} (hg : ∀ j, j < k -> D.eqv (g 0 j) (at_ p j)) :
  D.eqv (.slc k (vs.length + 1) (appRow vs.length (fun i => at_ (vs.getD i default)) g)) (.slc k (vs ++ [p]).length (fun i => at_ ((vs ++ [p]).getD i default))) := by
 refine ⟨by simp, .inr ⟨rfl, fun i hi j hj => ?_⟩⟩
 show D.eqv (appRow vs.length (fun i => at_ (vs.getD i default)) g i j) (at_ ((vs ++ [p]).getD i default) j)
 unfold appRow
 by_cases h : i < vs.length
 ·rw [if_pos h, gdq, List.getElem?_append_left h, <- gdq]
  exact dE _
 ·have e : i = vs.length := by omega
  subst e
  rw [if_neg h, Nat.sub_self, gdq, List.getElem?_append_right (Nat.le_refl _), Nat.sub_self]
  exact hg j hj
def madAt (s : Svc) (r : Rpt) : Nat -> D
 | 0 => I r.ID
 | 1 => I r.Kind
 | 2 => I r.Tower
 | 3 => I r.C
 | 4 => I r.Tick
 | 5 => I r.From
 | 6 => I r.To
 | 7 => I r.Slack
 | 8 => I (secR s r).1.F
 | 9 => I (secR s r).1.T
 | 10 => .bool (secR s r).2
 | 11 => I (towG s.c.T r.Tower).1.At.X
 | _ => I (towG s.c.T r.Tower).1.At.Y
abbrev rowM (s : Svc) (l : List Rpt) : Nat -> Nat -> D := fun i => madAt s (l.getD i default)
abbrev lM (s : Svc) (l : List Rpt) : D := .slc 13 l.length (rowM s l)
theorem zot (s : Svc) (r : Rpt) : ∀ j, j < 13 -> D.eqv (getD' (madD s r) (0 * 13 + j)) (madAt s r j)
 | 0, _ => ⟨rfl, rfl⟩
 | 1, _ => ⟨rfl, rfl⟩
 | 2, _ => ⟨rfl, rfl⟩
 | 3, _ => ⟨rfl, rfl⟩
 | 4, _ => ⟨rfl, rfl⟩
 | 5, _ => ⟨rfl, rfl⟩
 | 6, _ => ⟨rfl, rfl⟩
 | 7, _ => ⟨rfl, rfl⟩
 | 8, _ => ⟨rfl, rfl⟩
 | 9, _ => ⟨rfl, rfl⟩
 | 10, _ => dE _
 | 11, _ => ⟨rfl, rfl⟩
 | 12, _ => ⟨rfl, rfl⟩
theorem zpE (s : Svc) (l : List Rpt) (hT : s.c.T.length <= 1000000) (hl : l.length <= 24) (hr : ∀ i, i < l.length -> RptOk s (l.getD i default)) : Spec PP 177 [s.v, .d (lR l)] [.d (lM s l)] := by
 refine sA Tryz.func177 ?_
 refine LoopOb.of (σ := Nat) (fun i => ([(1, .d (lR l)), (2, .box 2 0), (5, .own 5), (6, .d (I i))], [(2, .box (s.ds.map AV.d)), (5, .row 327 13 (l.take i).length (rowM s (l.take i)))])) (fun i => i <= l.length) (fun i => l.length - i) 0
  ⟨rfl, ⟨obD s.ds rfl, obR rfl ⟨rfl, .inl rfl⟩, trivial⟩, wq rfl⟩ (Nat.zero_le _) fun i hi => ?_
 have hi : i <= l.length := hi
 apply sB <;> intro h3
 ·have h3 : i < l.length := by have := dT h3; omega
  have hlen : (l.take i).length = i := by rw [List.length_take]; omega
  refine oL (List.range 10) (FzOb.no ?_)
  refine ⟨⟨rfl, by omega, by omega⟩, ?_⟩
  refine oP (zn2 s (l.getD i default) hT (hr i h3)) rfl rfl ?_
  refine ⟨⟨.inr rfl, by unfold maxLen; omega, by show ((l.take i).length + 1) * 104 <= 140737488355328; omega⟩, ?_⟩
  refine ⟨i6, ?_⟩
  refine ⟨i + 1, ⟨rfl, ⟨obD s.ds rfl, obR rfl ?_, trivial⟩, wq rfl⟩, h3, (msr (by omega))⟩
  rw [zaB h3 default]
  exact pushG (fun j hj => zot s (l.getD i default) j hj)
 ·have h3 : i = l.length := by have := dF h3; omega
  subst h3
  refine ⟨⟨_, _, _, _, rfl, ?_⟩, trivial⟩
  rw [List.take_length]
  exact dE _
def mapK (m : Mp) (k : Nat) : List Place := (List.range k).map (plc m)
theorem ze0 (m : Mp) (k : Nat) : (mapK m k).length = k := by unfold mapK; simp
theorem zpZ (m : Mp) (k : Nat) : mapK m (k + 1) = mapK m k ++ [plc m k] := by unfold mapK; rw [List.range_succ, List.map_append]; rfl
theorem zlQ {m : Mp} {n k : Nat} (h : k < n) : (mapK m n).getD k default = plc m k := by
 unfold mapK
 rw [gdq, List.getElem?_map, List.getElem?_range h]; rfl
theorem zpQ {m : Mp} {y x : Nat} (hx : x < m.w) : plc m (y * m.w + x) = ⟨(x : Int), (y : Int)⟩ := by
 unfold plc
 have e1 : (y * m.w + x) % m.w = x := by rw [Nat.add_comm, Nat.add_mul_mod_self_right, Nat.mod_eq_of_lt hx]
 have e2 : (y * m.w + x) / m.w = y := by rw [Nat.add_comm, Nat.add_mul_div_right _ _ (by omega), Nat.div_eq_of_lt hx, Nat.zero_add]
 rw [e1, e2]
theorem zpF (s : Svc) (hv : validM s.c.M = true) : Spec PP 178 [s.v] [.d (lP (mapK s.c.M (s.c.M.w * s.c.M.h)))] := by
 obtain ⟨bw, bh, -, -⟩ := zaf hv
 have ew : ((s.c.M.w : Nat) : Int) = s.c.M.W := by show ((s.c.M.W.toNat : Nat) : Int) = s.c.M.W; omega
 have eh : ((s.c.M.h : Nat) : Int) = s.c.M.H := by show ((s.c.M.H.toNat : Nat) : Int) = s.c.M.H; omega
 refine sA Tryz.func178 ?_
 refine LoopOb.of (σ := Nat) (fun y => ([(1, .box 1 0), (3, .own 3), (4, .d (I y))], [(1, .box (s.ds.map AV.d)), (3, .row 43 2 (mapK s.c.M (y * s.c.M.w)).length (rowP (mapK s.c.M (y * s.c.M.w))))])) (fun y => y <= s.c.M.h) (fun y => s.c.M.h - y) 0
  ⟨rfl, ⟨obD s.ds rfl, obR rfl ⟨by rw [ze0]; omega, .inl rfl⟩, trivial⟩, wq rfl⟩ (Nat.zero_le _) fun y hy => ?_
 have hy : y <= s.c.M.h := hy
 apply sB <;> intro h1
 ·have h1 : y < s.c.M.h := by have := dT h1; omega
  have hm : y * s.c.M.w <= 48 * 49 := Nat.mul_le_mul (by omega) (by omega)
  refine LoopOb.of (σ := Nat) (fun x => ([(1, .box 1 0), (3, .own 3), (4, .d (I y)), (5, .d (I x))], [(1, .box (s.ds.map AV.d)), (3, .row 43 2 (mapK s.c.M (y * s.c.M.w + x)).length (rowP (mapK s.c.M (y * s.c.M.w + x))))])) (fun x => x <= s.c.M.w) (fun x => s.c.M.w - x) 0
   ⟨rfl, ⟨obD s.ds rfl, obR rfl (dE _), trivial⟩, wq rfl⟩ (Nat.zero_le _) fun x hx => ?_
  have hx : x <= s.c.M.w := hx
  apply sB <;> intro h2
  ·have h2 : x < s.c.M.w := by have := dT h2; omega
   have hl := ze0 s.c.M (y * s.c.M.w + x)
   refine ⟨⟨.inr rfl, by unfold maxLen; omega, by show ((mapK s.c.M (y * s.c.M.w + x)).length + 1) * 16 <= 140737488355328; omega⟩, ?_⟩
   refine ⟨i6, ?_⟩
   refine ⟨x + 1, ⟨rfl, ⟨obD s.ds rfl, obR rfl ?_, trivial⟩, wq rfl⟩, h2, (msr (by omega))⟩
   rw [show y * s.c.M.w + (x + 1) = y * s.c.M.w + x + 1 by omega, zpZ, zpQ h2]
   exact zof (at2 rfl rfl)
  ·have h2 : x = s.c.M.w := by have := dF h2; omega
   subst h2
   refine ⟨i6, ?_⟩
   refine ⟨y + 1, ⟨rfl, ⟨obD s.ds rfl, obR rfl ?_, trivial⟩, wq rfl⟩, h1, (msr (by omega))⟩
   rw [Nat.succ_mul]; exact dE _
 ·have h1 : y = s.c.M.h := by have := dF h1; omega
  refine ⟨⟨_, _, _, _, rfl, ?_⟩, trivial⟩
  rw [h1, Nat.mul_comm]
  exact dE _
def fstT (s : Svc) (b : Brn) (l : List Rpt) (p : Place) : Int := idxL (fun r => !allB s b r p) l
theorem zlu (s : Svc) (b : Brn) (l : List Rpt) (p : Place) (hl : l.length <= 24) : Spec PP 179 [s.v, b.v, .d (lM s l), p.v] [N (fstT s b l p)] := by
 refine sA Tryz.func179 ?_
 refine LoopOb.of (σ := Nat) (fun i => ([(2, .d (lM s l)), (4, .box 4 0), (5, .box 5 0), (7, .box 7 0), (9, .d (I i))], [(4, .box (s.ds.map AV.d)), (5, .box (b.ds.map AV.d)), (7, .box ([I p.X, I p.Y].map AV.d))])) (fun i => i <= l.length /\ ∀ j, j < i -> (!allB s b (l.getD j default) p) = false) (fun i => l.length - i) 0
  ⟨rfl, ⟨obD s.ds rfl, obD b.ds rfl, obD [I p.X, I p.Y] rfl, trivial⟩, wq rfl⟩ z0L fun i hi => ?_
 obtain ⟨hi, ha⟩ := hi
 apply sB <;> intro h1
 ·have h1 : i < l.length := by have := dT h1; omega
  refine oL (List.range 9) (FzOb.no ?_)
  refine ⟨⟨rfl, by omega, by omega⟩, ?_⟩
  refine oP (zjm s b (l.getD i default) p) rfl rfl ?_
  apply sB <;> intro h2
  ·refine r1I rfl ?_
   exact (zao (p := fun r : Rpt => !allB s b r p) default h1 h2 ha).symm
  ·refine ⟨i6, ?_⟩
   refine ⟨i + 1, ⟨rfl, ⟨obD s.ds rfl, obD b.ds rfl, obD [I p.X, I p.Y] rfl, trivial⟩, wq rfl⟩, ⟨h1, fun j hj => ?_⟩, (msr (by omega))⟩
   by_cases e : j = i
   ·subst e; exact h2
   ·exact ha j (by omega)
 have h1 : i = l.length := by have := dF h1; omega
 subst h1
 refine r1I rfl ?_
 exact (zaz (p := fun r : Rpt => !allB s b r p) default ha).symm
def telR (s : Svc) (b : Brn) (l : List Rpt) (k : Nat) : List Rsn := ((List.range k).filter fun n => !decide (fstT s b l (plc s.c.M n) < 0)).map fun n => ⟨plc s.c.M n, (l.getD (fstT s b l (plc s.c.M n)).toNat default).ID⟩
theorem zk7 {s : Svc} {b : Brn} {l : List Rpt} {k : Nat} (h : ¬ fstT s b l (plc s.c.M k) < 0) : telR s b l (k + 1) = telR s b l k ++ [⟨plc s.c.M k, (l.getD (fstT s b l (plc s.c.M k)).toNat default).ID⟩] := by
 unfold telR
 rw [List.range_succ, List.filter_append, List.map_append, List.filter_cons_of_pos (p := fun n => !decide (fstT s b l (plc s.c.M n) < 0)) (by rw [decide_eq_false h]; rfl)]; rfl
theorem znL {s : Svc} {b : Brn} {l : List Rpt} {k : Nat} (h : fstT s b l (plc s.c.M k) < 0) : telR s b l (k + 1) = telR s b l k := by
 unfold telR
 rw [List.range_succ, List.filter_append, List.map_append, List.filter_cons_of_neg (p := fun n => !decide (fstT s b l (plc s.c.M n) < 0)) (by rw [decide_eq_true h]; decide)]; simp
theorem zk8 (s : Svc) (b : Brn) (l : List Rpt) (k : Nat) : (telR s b l k).length <= k := by
 unfold telR
 have := List.length_filter_le (fun n => !decide (fstT s b l (plc s.c.M n) < 0)) (List.range k)
 simpa using this
def telP (s : Svc) (b : Brn) (l : List Rpt) (n : Nat) : Bool := decide (fstT s b l (plc s.c.M n) < 0)
def obTel (s : Svc) (b : Brn) (l : List Rpt) (k : Nat) : List (Nat × Ob) := [(3, .box (s.ds.map AV.d)), (4, .box (b.ds.map AV.d)), (6, .box [.nilsl, .nilsl, .d (I 0)]), (7, .box [.own 33, .own 34, .d (I 0)]), (33, .row 43 2 (plsK s.c.M (telP s b l) k).length (rowP (plsK s.c.M (telP s b l) k))), (34, .row 278 3 (telR s b l k).length (rowS (telR s b l k)))]
theorem zqi {s : Svc} {b : Brn} {l : List Rpt} {p : Place} (h : ¬ fstT s b l p < 0) : 0 <= fstT s b l p /\ fstT s b l p < l.length := by
 rcases idxL_cases (fun r : Rpt => !allB s b r p) l default with ⟨e, -⟩ | ⟨i, hi, e, -, -⟩
 ·exact absurd (show fstT s b l p < 0 by unfold fstT; rw [e]; decide) h
 ·have : fstT s b l p = (i : Int) := e
  omega
theorem zn1 (s : Svc) (b : Brn) (l : List Rpt) (hv : validM s.c.M = true) (hT : s.c.T.length <= 1000000) (hl : l.length <= 24) (hr : ∀ i, i < l.length -> RptOk s (l.getD i default)) :
  Spec PP 95 [s.v, b.v, .d (lR l)] [.agg [lP (plsL s.c.M (telP s b l)), lRs (telR s b l s.n), I 0]] := by
 obtain ⟨bw, bh, -, -⟩ := zaf hv
 have hn : s.n <= 49 * 49 := Nat.mul_le_mul (by show s.c.M.W.toNat <= 49; omega) (by show s.c.M.H.toNat <= 49; omega)
 refine zhe [11] Tryz.func95 rfl (by kernel_rfl) rfl ?_
 refine CallSt.ro (zpE s l hT hl hr) rfl rfl ?_
 refine CallSt.ro (zpF s hv) rfl rfl ?_
 refine LoopOb.of (σ := Nat) (fun k => ([(2, .d (lR l)), (3, .box 3 0), (4, .box 4 0), (6, .box 6 0), (7, .box 7 0), (8, .d (lM s l)), (9, .d (lP (mapK s.c.M s.n))), (10, .d (I k))], obTel s b l k)) (fun k => k <= s.n) (fun k => s.n - k) 0
  ⟨rfl, ⟨obD s.ds rfl, obD b.ds rfl, obX rfl, ⟨avNl rfl rfl rfl, avNl rfl rfl rfl, dE _, trivial⟩, obZ rfl rfl, obZ rfl rfl, trivial⟩, wq rfl⟩ (Nat.zero_le _) fun k hk => ?_
 have hk : k <= s.n := hk
 have hml := ze0 s.c.M s.n
 apply sB <;> intro h1
 ·have h1 : k < s.n := by have := dT h1; rw [hml] at this; omega
  have hg := zlQ (m := s.c.M) h1
  have hpl := zeR s.c.M (telP s b l) k
  have hrl := zk8 s b l k
  refine oL (List.range 9) (FzOb.no ?_)
  refine ⟨⟨rfl, by omega, by rw [hml]; omega⟩, ?_⟩
  refine CallOb.pureE (zlu s b l (plc s.c.M k) hl) rfl ⟨zaa _, zaa _, dE _, zbc (congrArg Place.X hg) (congrArg Place.Y hg), trivial⟩ rfl ?_
  apply sB <;> intro h2
  ·have h2 : fstT s b l (plc s.c.M k) < 0 := dT h2
   refine oL (List.range 10) (FzOb.no ?_)
   refine ⟨⟨rfl, by omega, by rw [hml]; omega⟩, ?_⟩
   refine ⟨⟨.inr rfl, by unfold maxLen; omega, by show ((plsK s.c.M (telP s b l) k).length + 1) * 16 <= 140737488355328; omega⟩, ?_⟩
   refine ⟨i6, ?_⟩
   refine ⟨k + 1, ⟨rfl, ⟨obD s.ds rfl, obD b.ds rfl, obX rfl, ⟨rfl, rfl, dE _, trivial⟩, obR rfl ?_, obR rfl ?_, trivial⟩, wq rfl⟩, h1, (msr (by omega))⟩
   ·rw [zhr (P := telP s b l) (decide_eq_true h2)]
    exact zof (at2 (congrArg (fun p : Place => I p.X) hg) (congrArg (fun p : Place => I p.Y) hg))
   ·rw [znL h2]; exact dE _
  ·have h2 : ¬ fstT s b l (plc s.c.M k) < 0 := dF h2
   have h3 := zqi h2
   refine oL (List.range 16) (FzOb.no ?_)
   refine ⟨⟨rfl, by omega, by rw [hml]; omega⟩, ⟨⟨rfl, by omega, by omega⟩, ?_⟩⟩
   refine ⟨⟨.inr rfl, by unfold maxLen; omega, by show ((telR s b l k).length + 1) * 24 <= 140737488355328; omega⟩, ?_⟩
   refine ⟨i6, ?_⟩
   refine ⟨k + 1, ⟨rfl, ⟨obD s.ds rfl, obD b.ds rfl, obX rfl, ⟨rfl, rfl, dE _, trivial⟩, obR rfl ?_, obR rfl ?_, trivial⟩, wq rfl⟩, h1, (msr (by omega))⟩
   ·rw [zjy (P := telP s b l) (decide_eq_false h2)]; exact dE _
   ·rw [zk7 h2]
    exact pushS (at3 (congrArg (fun p : Place => I p.X) hg) (congrArg (fun p : Place => I p.Y) hg) rfl)
 ·have h1 : k = s.n := by have := dF h1; rw [hml] at this; omega
  subst h1
  refine CutOb.at [(6, .box 6 0), (7, .box 7 0)] [(6, .box [.nilsl, .nilsl, .d (I 0)]), (7, .box [.d (lP (plsL s.c.M (telP s b l))), .d (lRs (telR s b l s.n)), .d (I 0)])] ⟨rfl, ⟨obX rfl, ⟨avOw rfl rfl rfl (dE _), avOw rfl rfl rfl (dE _), dE _, trivial⟩, trivial⟩, wq rfl⟩ ?_
  exact r1C rfl rfl rfl rfl rfl rfl (zaa _)
theorem zkf {s : Svc} {b : Brn} {l : List Rpt} {n : Nat} (h : n < s.n) : fstT s b l (plc s.c.M n) = fstI (l.map (alwP s b)) n := by
 have key : ∀ (l : List Rpt) (k : Nat), idxA (fun r => !allB s b r (plc s.c.M n)) l k = idxA (fun P : Nat -> Bool => !P n) (l.map (alwP s b)) k := fun l => by
  induction l with
  | nil => intro k; rfl
  | cons r t ih =>
   intro k
   have e : alwP s b r n = allB s b r (plc s.c.M n) := by
    show (decide (n < s.n) && allB s b r (plc s.c.M n)) = _
    rw [decide_eq_true h, Bool.true_and]
   show (if (!allB s b r (plc s.c.M n)) = true then (k : Int) else idxA _ t (k + 1)) = (if (!alwP s b r n) = true then (k : Int) else idxA _ (t.map (alwP s b)) (k + 1))
   rw [e, ih]
 exact key l 0
theorem zoI {s : Svc} {b : Brn} {l : List Rpt} {n : Nat} (h : n < s.n) : telP s b l n = metP (l.map (alwP s b)) n := by
 unfold telP
 rw [zkf h]
 have h1 := ze8 (fun P : Nat -> Bool => !P n) (l.map (alwP s b)) default
 have e : metP (l.map (alwP s b)) n = !((l.map (alwP s b)).any fun P => !P n) := by
  unfold metP
  rw [List.not_any_eq_all_not]
  simp
 rw [e]
 cases hh : (l.map (alwP s b)).any fun P => !P n with
 | true => exact decide_eq_false (by have := h1.2 hh; show ¬ idxL _ _ < 0; omega)
 | false => exact decide_eq_true (by
   refine Classical.byContradiction fun g => ?_
   have : 0 <= idxL (fun P : Nat -> Bool => !P n) (l.map (alwP s b)) := by
    have : ¬ idxL (fun P : Nat -> Bool => !P n) (l.map (alwP s b)) < 0 := g
    omega
   rw [h1.1 this] at hh; cases hh)
theorem zej {k : Nat} {p q : Nat -> Bool} (h : ∀ n, n < k -> p n = q n) : (List.range k).filter p = (List.range k).filter q :=
 List.filter_congr fun n hn => h n (List.mem_range.1 hn)
theorem zk6 (s : Svc) (b : Brn) (l : List Rpt) : plsL s.c.M (telP s b l) = plsL s.c.M (metP (l.map (alwP s b))) := by
 unfold plsL plsK
 rw [zej fun n hn => zoI hn]
theorem zk5 (s : Svc) (b : Brn) (l : List Rpt) : telR s b l s.n = rsnK s l (l.map (alwP s b)) s.n := by
 unfold telR rsnK
 have e : ((List.range s.n).filter fun n => !decide (fstT s b l (plc s.c.M n) < 0)) = (List.range s.n).filter fun n => decide (0 <= fstI (l.map (alwP s b)) n) := zej fun n hn => by
  rw [zkf hn, <- decide_not]
  exact decide_eq_decide.2 (by omega)
 rw [e]
 refine List.map_congr_left fun n hn => ?_
 have hn := List.mem_range.1 (List.mem_filter.1 hn).1
 rw [zkf hn]; rfl
theorem zjn (s : Svc) (b : Brn) (l : List Rpt) : Spec PP 42 [s.v, b.v, .d (lR l)] [.agg [lP (plcR s b l).1, lRs (rsnR s b l).1, I (givE s b l)]] := by
 refine sA Tryz.func42 ?_
 refine cP (zic s b l) rfl rfl ?_
 apply sB <;> intro h0
 ·have h0 : givE s b l ≠ 0 := by simpa using h0
  have e1 : plcR s b l = ([], givE s b l) := by unfold plcR; rw [if_pos h0]
  have e2 : rsnR s b l = ([], givE s b l) := by unfold rsnR; rw [if_pos h0]
  rw [e1, e2]
  exact r1C rfl rfl rfl rfl rfl rfl ⟨rfl, rfl, ⟨rfl, rfl⟩, trivial⟩
 have h0 : givE s b l = 0 := by simpa using h0
 have ok := zdu h0
 have e1 : plcR s b l = (plsL s.c.M (metP (l.map (alwP s b))), 0) := by unfold plcR; rw [if_neg (fun hh => hh h0)]
 have e2 : rsnR s b l = (rsnK s l (l.map (alwP s b)) s.n, 0) := by unfold rsnR; rw [if_neg (fun hh => hh h0)]
 rw [e1, e2, h0]
 have ht := zn1 s b l ok.s.c.m (by have := ok.s.c.t; omega) ok.n (fun i hi => zpC (ok.r i hi).2)
 rw [zk6, zk5] at ht
 refine CallSt.ro ht rfl rfl ?_
 exact r1C rfl rfl rfl rfl rfl rfl (zaa _)
end Go.Pg
