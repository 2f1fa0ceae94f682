/- Texts joined and shortened by program. -/
import Derived.Test.YtooepbnecjepnaaGreatT7
import Derived.Test.YtooepbnecjepnaaGreatT4
set_option maxHeartbeats 4000000
set_option linter.all false
set_option maxRecDepth 100000
namespace Go.Pg
open Go.Proofs Go.RowKit Go.Sort Go.Shelf
def selL (L : List (Nat -> Bool)) (js : List Int) : List (Nat -> Bool) := js.map fun j => L.getD j.toNat default
theorem zju {L : List (Nat -> Bool)} {js : List Int} {i : Nat} (h : i < js.length) : selL L (js.take (i + 1)) = selL L (js.take i) ++ [L.getD (js.getD i 0).toNat default] := zeQ _ js h 0
def agrB (s : Svc) (L : List (Nat -> Bool)) (js : List Int) : Bool := decide (0 < (plsL s.c.M (metP (selL L js))).length)
theorem zkk (s : Svc) (L : List (Nat -> Bool)) (js : List Int) (hv : validM s.c.M = true) (hj : ∀ j ∈ js, 0 <= j /\ j < L.length) (hn : js.length <= 10000) : Spec PP 73 [.d (lI js), .d (capB [lB L]), .d (capB s.ds)] [B (agrB s L js)] := by
 refine sA Tryz.func73 ?_
 refine LoopOb.of (σ := Nat) (fun i => ([(0, .d (lI js)), (1, avOf (.d (capB [lB L]))), (2, avOf (.d (capB s.ds))), (5, .own 5), (8, .d (lI js)), (9, .d (I js.length)), (10, .d (I i))], [(5, .row 168 38 (selL L (js.take i)).length (rowB (selL L (js.take i))))])) (fun i => i <= js.length) (fun i => js.length - i) 0
  ⟨rfl, ⟨obR rfl ⟨rfl, .inl rfl⟩, trivial⟩, wq rfl⟩ (Nat.zero_le _) fun i hi => ?_
 apply bY <;> intro h2
 ·have h2 : i < js.length := by have := dT h2; omega
  have hb := hj _ (gd1 h2 0)
  have hlen : (selL L (js.take i)).length = i := by unfold selL; rw [List.length_map, List.length_take]; omega
  refine ⟨⟨rfl, by omega, by omega⟩, ?_⟩
  refine ⟨⟨rfl, hb.1, hb.2⟩, ?_⟩
  refine ⟨⟨.inr rfl, by unfold maxLen; omega, by show ((selL L (js.take i)).length + 1) * 304 <= 140737488355328; omega⟩, ?_⟩
  refine ⟨i6, ?_⟩
  refine ⟨i + 1, ⟨rfl, ⟨obR rfl ?_, trivial⟩, wq rfl⟩, h2, (msr (by omega))⟩
  rw [zju h2]
  exact zp7 fun j hj => zqU (L.getD (js.getD i 0).toNat default) hj
 ·have h2 : i = js.length := by have := dF h2; omega
  subst h2
  rw [List.take_length]
  have hlen : (selL L js).length = js.length := by unfold selL; rw [List.length_map]
  refine oL (List.range 6) (FzOb.fz [5] ?_)
  refine oP (zew (selL L js) (by omega)) rfl rfl ?_
  refine oP (ze9 s (metP (selL L js)) hv) rfl rfl ?_
  refine r1B rfl ?_
  unfold agrB
  apply decide_eq_decide.2
  omega
def crS (agr : List Int -> Bool) : Nat -> List Int -> Nat -> List Int
 | 0, js, _ => js
 | n + 1, js, i => if agr (rmL js i) = true then crS agr n js (i + 1) else crS agr n (rmL js i) i
def crL (agr : List Int -> Bool) (js : List Int) : List Int := crS agr js.length js 0
def corR (s : Svc) (b : Brn) (l : List Rpt) : List Int × Int :=
 if givE s b l ≠ 0 then ([], givE s b l) else if agrB s (l.map (alwP s b)) (ordL l) = true then ([], 5) else (idsL l (crL (agrB s (l.map (alwP s b))) (ordL l)), 0)
theorem zqt {s : Svc} {b : Brn} {l : List Rpt} (h : GivOk s b l) : IdsOk l := by
 have bd : ∀ i, i < l.length -> 1 <= (l.getD i default).ID /\ (l.getD i default).ID <= 1099511627776 := fun i hi => by
  have h1 := (h.r i hi).1
  unfold frmB at h1
  simp only [Bool.and_eq_true, Bool.not_eq_true'] at h1
  have h2 := h1.1
  unfold frmC at h2
  simp only [Bool.or_eq_false_iff, Bool.not_eq_false'] at h2
  exact zab.1 h2.1.1.1
 have dd : ∀ i j, i < j -> j < l.length -> (l.getD i default).ID ≠ (l.getD j default).ID := fun i j hij hj e => by
  have h1 := h.d j hj
  rw [<- e] at h1
  have h2 : (l.getD i default).ID ∈ (l.take j).map Rpt.ID := by
   refine List.mem_map.2 ⟨l.getD i default, ?_, rfl⟩
   have e2 : (l.take j).getD i default = l.getD i default := by
    rw [gdq, List.getElem?_take, if_pos hij, <- gdq]
   rw [<- e2]
   exact gd1 (by rw [List.length_take]; omega) default
  rw [List.contains_iff_mem.2 h2] at h1
  cases h1
 refine ⟨bd, fun i j hi hj e => ?_⟩
 rcases Nat.lt_trichotomy i j with h1 | h1 | h1
 ·exact absurd e (dd i j h1 hj)
 ·exact h1
 ·exact absurd e.symm (dd j i h1 hi)
theorem znw (s : Svc) (b : Brn) (l : List Rpt) : Spec PP 28 [s.v, b.v, .d (lR l)] [.d (lI (corR s b l).1), .d (.int .i64 (corR s b l).2)] := by
 refine sA Tryz.func28 ?_
 refine CallSt.ro (zmm s b l) rfl rfl ?_
 by_cases h0 : givE s b l = 0
 ·have e : allR s b l = (l.map (alwP s b), 0) := by unfold allR; rw [if_neg (fun hh => hh h0)]
  have e1 : corR s b l = if agrB s (l.map (alwP s b)) (ordL l) = true then ([], 5) else (idsL l (crL (agrB s (l.map (alwP s b))) (ordL l)), 0) := by unfold corR; rw [if_neg (fun hh => hh h0)]
  have ok := zcz h0
  have hn := ok.n
  have hL : (l.map (alwP s b)).length = l.length := List.length_map _
  rw [e, e1]
  generalize l.map (alwP s b) = L at hL
  refine sF ?_
  refine CallSt.ro (zqo l (zqt ok) (by omega)) rfl rfl ?_
  have hm : ∀ j ∈ ordL l, 0 <= j /\ j < L.length := fun j hj => by rw [hL]; exact zhF j hj
  refine CallSt.fzP [8, 3] (zkk s L (ordL l) ok.s.c.m hm (by rw [ze4]; omega)) rfl ⟨dE _, dE _, dE _, trivial⟩ rfl ?_
  apply bY <;> intro h1
  ·have h1 : agrB s L (ordL l) = true := h1
   rw [if_pos h1]
   exact ⟨⟨_, _, _, _, rfl, rfl, .inl rfl⟩, rtI rfl rfl, trivial⟩
  have h1 : agrB s L (ordL l) = false := h1
  rw [if_neg (by rw [h1]; decide)]
  refine LoopOb.of (σ := Nat × List Int) (fun p => ([(2, .d (lR l)), (10, .d (cloB 73 [capB [lB L], capB s.ds])), (11, .d (lI p.2)), (12, .d (I p.1))], [])) (fun p => p.1 <= p.2.length /\ (∀ j ∈ p.2, 0 <= j /\ j < L.length) /\ p.2.length <= 24 /\ crS (agrB s L) (p.2.length - p.1) p.2 p.1 = crL (agrB s L) (ordL l)) (fun p => p.2.length - p.1) (0, ordL l)
   ⟨rfl, trivial, avR _ rfl, ⟨rfl, rfl, fun j hj => ?_⟩, wq rfl⟩ ⟨Nat.zero_le _, hm, by rw [ze4]; exact hn, rfl⟩ fun ⟨i, js⟩ ⟨hi, hjs, hlen, hc⟩ => ?_
  ·match j, hj with
   | 0, _ => exact ⟨_, rfl, dE _⟩
   | 1, _ => exact ⟨_, rfl, dE _⟩
  dsimp only at hi hjs hlen hc ⊢
  apply bY <;> intro h2
  ·have h2 : i < js.length := by have := dT h2; omega
   have hr : ∀ j ∈ rmL js i, 0 <= j /\ j < L.length := fun j hj => hjs j (zog hj)
   have hrl := zoh js h2
   refine CallSt.ro (zkg js i h2 (by omega)) rfl rfl ?_
   refine cP (zkk s L (rmL js i) ok.s.c.m hr (by omega)) rfl rfl ?_
   have ec : crS (agrB s L) (js.length - i) js i = if agrB s L (rmL js i) = true then crS (agrB s L) (js.length - i - 1) js (i + 1) else crS (agrB s L) (js.length - i - 1) (rmL js i) i := by
    obtain ⟨d, hd⟩ : ∃ d, js.length - i = d + 1 := ⟨js.length - i - 1, by omega⟩
    rw [hd]; rfl
   apply bY <;> intro h3
   ·have h3 : agrB s L (rmL js i) = false := by
     have : (!agrB s L (rmL js i)) = true := h3
     simpa using this
    refine ⟨(i, rmL js i), ⟨rfl, trivial, wq rfl⟩, ⟨(show i <= (rmL js i).length by omega), hr, (show (rmL js i).length <= 24 by omega), ?_⟩, (show (rmL js i).length - i < js.length - i by omega)⟩
    dsimp only
    rw [<- hc, ec, if_neg (by rw [h3]; decide), hrl]
    congr 1; omega
   ·have h3 : agrB s L (rmL js i) = true := by
     have : (!agrB s L (rmL js i)) = false := h3
     simpa using this
    refine ⟨i6, ?_⟩
    refine ⟨(i + 1, js), ⟨rfl, trivial, wq rfl⟩, ⟨h2, hjs, hlen, ?_⟩, (msr (by omega))⟩
    dsimp only
    rw [<- hc, ec, if_pos h3]
    congr 1
  ·have h2 : i = js.length := by have := dF h2; omega
   have ec : crL (agrB s L) (ordL l) = js := by rw [<- hc, h2, Nat.sub_self]; rfl
   rw [ec]
   refine CallSt.ro (zqm l js (fun j hj => by rw [<- hL]; exact hjs j hj) (by omega)) rfl rfl ?_
   exact ⟨dE _, rtI rfl rfl, trivial⟩
 ·have e : allR s b l = ([], givE s b l) := by unfold allR; rw [if_pos h0]
  have e1 : corR s b l = ([], givE s b l) := by unfold corR; rw [if_pos h0]
  rw [e, e1]
  refine Split.yes (by simpa using h0) ?_
  exact ⟨⟨_, _, _, _, rfl, rfl, .inl rfl⟩, rtI rfl rfl, trivial⟩
def valP (fx fy : Int) (p : Place) : Int := fx * p.X + fy * p.Y
theorem zgK (fx fy : Int) (p : Place) (hx : -1000 <= fx /\ fx <= 1000) (hy : -1000 <= fy /\ fy <= 1000) (hp : on p = true) : Spec PP 41 [p.v, .d (capB [I fx, I fy])] [N (valP fx fy p)] := by
 obtain ⟨p1, p2⟩ := zaR.1 hp
 have m1 := mulB (a := fx) (b := p.X) (x := 1000) (y := 48) (by omega) (by omega)
 have m2 := mulB (a := fy) (b := p.Y) (x := 1000) (y := 48) (by omega) (by omega)
 refine sA Tryz.func41 ?_
 refine ⟨i6, ⟨i6, ⟨i6, ?_⟩⟩⟩
 exact r1I rfl rfl
def bstP (fx fy : Int) (l : List Place) (p : Place) : Place := l.foldl (fun q x => if valP fx fy q < valP fx fy x then x else q) p
def mstR (s : Svc) (b : Brn) (l : List Rpt) (fx fy : Int) : Int × Place × Int :=
 if (plcR s b l).2 ≠ 0 then (0, ⟨0, 0⟩, (plcR s b l).2) else if (within fx (-1000) 1000 && within fy (-1000) 1000) = false then (0, ⟨0, 0⟩, 1)
 else if (plcR s b l).1.length = 0 then (0, ⟨0, 0⟩, 9)
 else (valP fx fy (bstP fx fy (plcR s b l).1 ((plcR s b l).1.getD 0 default)), bstP fx fy (plcR s b l).1 ((plcR s b l).1.getD 0 default), 0)
theorem znp {m : Mp} {P : Nat -> Bool} (hv : validM m = true) : ∀ p ∈ plsL m P, onM m p = true := fun p hp => by
 unfold plsL plsK at hp
 obtain ⟨n, hn, rfl⟩ := List.mem_map.1 hp
 exact znq hv (List.mem_range.1 (List.mem_filter.1 hn).1)
theorem zjR {s : Svc} {b : Brn} {l : List Rpt} : ∀ p ∈ (plcR s b l).1, on p = true := fun p hp => by
 unfold plcR at hp
 split at hp
 ·cases hp
 ·rename_i h
  have ok := zcz (Classical.byContradiction h)
  exact zhG ok.s.c.m (znp ok.s.c.m p hp)
theorem zhB (s : Svc) (b : Brn) (l : List Rpt) : (plcR s b l).1.length <= 2401 := by
 unfold plcR
 split
 ·simp
 ·rename_i h
  have ok := zcz (Classical.byContradiction h)
  exact Nat.le_trans (zhA _ _ _) (zc7 ok.s.c.m)
theorem znv (s : Svc) (b : Brn) (l : List Rpt) (fx fy : Int) : Spec PP 10 [s.v, b.v, .d (lR l), .agg [I fx, I fy]] [N (mstR s b l fx fy).1, (mstR s b l fx fy).2.1.v, .d (.int .i64 (mstR s b l fx fy).2.2)] := by
 refine sA Tryz.func10 ?_
 refine CallSt.ro (zdb s b l) rfl rfl ?_
 apply bY <;> intro h0
 ·have e : mstR s b l fx fy = (0, ⟨0, 0⟩, (plcR s b l).2) := by unfold mstR; rw [if_pos (by simpa using h0)]
  rw [e]
  exact ⟨rtI rfl rfl, rtC (a := 9) rfl rfl rfl rfl rfl rfl (zaa _), rtI rfl rfl, trivial⟩
 have h0 : (plcR s b l).2 = 0 := by simpa using h0
 refine cP (zaM fx (-1000) 1000) rfl rfl ?_
 have bad : (within fx (-1000) 1000 && within fy (-1000) 1000) = false -> mstR s b l fx fy = (0, ⟨0, 0⟩, 1) := fun h => by unfold mstR; rw [if_neg (fun hh => hh h0), if_pos h]
 apply bY <;> intro h1
 ·have h1 : within fx (-1000) 1000 = false := by simpa using h1
  refine sT ?_
  rw [bad (by rw [h1]; rfl)]
  exact ⟨rtI rfl rfl, rtC (a := 9) rfl rfl rfl rfl rfl rfl (zaa _), rtI rfl rfl, trivial⟩
 have h1 : within fx (-1000) 1000 = true := by simpa using h1
 refine cP (zaM fy (-1000) 1000) rfl rfl ?_
 refine sF ?_
 apply bY <;> intro h2
 ·have h2 : within fy (-1000) 1000 = false := by simpa using h2
  rw [bad (by rw [h2, Bool.and_false])]
  exact ⟨rtI rfl rfl, rtC (a := 9) rfl rfl rfl rfl rfl rfl (zaa _), rtI rfl rfl, trivial⟩
 have h2 : within fy (-1000) 1000 = true := by simpa using h2
 have bx := zab.1 h1
 have by' := zab.1 h2
 have hon := zjR (s := s) (b := b) (l := l)
 have hlen := zhB s b l
 apply bY <;> intro h3
 ·have h3 : (plcR s b l).1.length = 0 := by
   have : ((plcR s b l).1.length : Int) = 0 := by simpa using h3
   omega
  have e : mstR s b l fx fy = (0, ⟨0, 0⟩, 9) := by unfold mstR; rw [if_neg (fun hh => hh h0), if_neg (by rw [h1, h2]; decide), if_pos h3]
  rw [e]
  exact ⟨rtI rfl rfl, rtC (a := 9) rfl rfl rfl rfl rfl rfl (zaa _), rtI rfl rfl, trivial⟩
 have h3 : (plcR s b l).1.length ≠ 0 := fun h => by rw [h] at h3; simp at h3
 have e : mstR s b l fx fy = (valP fx fy (bstP fx fy (plcR s b l).1 ((plcR s b l).1.getD 0 default)), bstP fx fy (plcR s b l).1 ((plcR s b l).1.getD 0 default), 0) := by unfold mstR; rw [if_neg (fun hh => hh h0), if_neg (by rw [h1, h2]; decide), if_neg h3]
 rw [e]
 generalize (plcR s b l).1 = L at *
 refine ⟨⟨rfl, by omega, by omega⟩, ?_⟩
 refine LoopOb.of (σ := Nat × Place) (fun p => ([(9, .box 9 0), (13, .box 13 0), (14, .d (cloB 41 [capB [I fx, I fy]])), (50, .d (lP L)), (51, .d (I L.length)), (52, .d (I p.1))], [(9, .box ([I 0, I 0].map AV.d)), (13, .box [.d (I p.2.X), .d (I p.2.Y)])])) (fun p => p.1 <= L.length /\ on p.2 = true /\ bstP fx fy (L.drop p.1) p.2 = bstP fx fy L (L.getD 0 default)) (fun p => L.length - p.1) (0, L.getD 0 default)
  ⟨rfl, ⟨obX rfl, obX rfl, trivial⟩, avQ rfl, avQ rfl, ⟨rfl, rfl, fun j hj => ?_⟩, wq rfl⟩ ⟨Nat.zero_le _, hon _ (gd1 (by omega) default), rfl⟩ fun ⟨i, q⟩ ⟨hi, hq, hc⟩ => ?_
 ·match j, hj with
  | 0, _ => exact ⟨_, rfl, rfl, _, _, rfl, rfl, rfl, fun j hj => dE _⟩
 dsimp only at hi hq hc ⊢
 apply bY <;> intro h4
 ·have h4 : i < L.length := by have := dT h4; omega
  have ho := hon _ (gd1 h4 default)
  have ed : bstP fx fy (L.drop i) q = bstP fx fy (L.drop (i + 1)) (if valP fx fy q < valP fx fy (L.getD i default) then L.getD i default else q) := by
   rw [List.drop_eq_getElem_cons h4, gdq, gqe h4]; rfl
  refine ⟨⟨rfl, by omega, by omega⟩, ?_⟩
  refine oL (List.range 7) (FzOb.no ?_)
  refine oP (zgK fx fy (L.getD i default) bx by' ho) rfl rfl ?_
  refine oP (zgK fx fy q bx by' hq) rfl rfl ?_
  apply bY <;> intro h5
  ·have h5 : valP fx fy q < valP fx fy (L.getD i default) := dT h5
   refine ⟨i6, ?_⟩
   refine ⟨(i + 1, L.getD i default), ⟨rfl, ⟨obX rfl, obX rfl, trivial⟩, wq rfl⟩, ⟨h4, ho, ?_⟩, (msr (by omega))⟩
   dsimp only
   rw [<- hc, ed, if_pos h5]
  ·have h5 : ¬ valP fx fy q < valP fx fy (L.getD i default) := dF h5
   refine ⟨i6, ?_⟩
   refine ⟨(i + 1, q), ⟨rfl, ⟨obX rfl, obX rfl, trivial⟩, wq rfl⟩, ⟨h4, hq, ?_⟩, (msr (by omega))⟩
   dsimp only
   rw [<- hc, ed, if_neg h5]
 ·have h4 : i = L.length := by have := dF h4; omega
  have eq : bstP fx fy L (L.getD 0 default) = q := by rw [<- hc, h4, List.drop_length]; rfl
  rw [eq]
  refine oL (List.range 7) (FzOb.no ?_)
  refine oP (zgK fx fy q bx by' hq) rfl rfl ?_
  exact ⟨rtI rfl rfl, rtC (a := 9) rfl rfl rfl rfl rfl rfl (zaa _), rtI rfl rfl, trivial⟩
def blkO (x : Lk) : Rpt := ⟨1, 2, x.Tower, x.C, x.Tick, x.From, x.To, x.Slack⟩
abbrev Lk.ds (x : Lk) : List D := [I x.Tower, I x.C, I x.Tick, I x.From, I x.To, I x.Slack]
def zLk (s : Svc) (x : Lk) : Spn := (zerR s.k x.C x.Tick).1
def wideL (s : Svc) (x : Lk) : Wdg := ⟨(x.From - x.Slack - (zLk s x).Hi) % 3600, (x.To + x.Slack - (zLk s x).Lo) % 3600⟩
def seeP (s : Svc) (b : Brn) (P : Nat -> Bool) (x : Lk) (n : Nat) : Bool :=
 P n && within x.Tick b.From b.To && liesW (wideL s x) (towG s.c.T x.Tower).1.At (plc s.c.M n) && (decide ((seesE s.c x.Tower (plc s.c.M n) b.Rise x.Tick).2 = 0) && (seesE s.c x.Tower (plc s.c.M n) b.Rise x.Tick).1)
def seeK (s : Svc) (b : Brn) (P : Nat -> Bool) (x : Lk) (k : Nat) : Nat := ((List.range k).filter (seeP s b P x)).length
theorem zlE {s : Svc} {b : Brn} {P : Nat -> Bool} {x : Lk} {k : Nat} (h : seeP s b P x k = true) : seeK s b P x (k + 1) = seeK s b P x k + 1 := by
 unfold seeK
 rw [List.range_succ, List.filter_append, List.filter_cons_of_pos h]; simp
theorem zn9 {s : Svc} {b : Brn} {P : Nat -> Bool} {x : Lk} {k : Nat} (h : seeP s b P x k = false) : seeK s b P x (k + 1) = seeK s b P x k := by
 unfold seeK
 rw [List.range_succ, List.filter_append, List.filter_cons_of_neg (by rw [h]; decide)]; simp
theorem zoa (s : Svc) (b : Brn) (P : Nat -> Bool) (x : Lk) (k : Nat) : seeK s b P x k <= k := by
 unfold seeK
 have := List.length_filter_le (seeP s b P x) (List.range k)
 simpa using this
def lkE (s : Svc) (x : Lk) : Int := if rptE s (blkO x) ≠ 0 then rptE s (blkO x) else if 900 < (x.To - x.From) % 3600 + 2 * x.Slack + (zLk s x).Hi - (zLk s x).Lo then 50 else 0
def fndR (s : Svc) (b : Brn) (P : Nat -> Bool) (x : Lk) : Int × Int × Int :=
 if lkE s x ≠ 0 then (0, 0, lkE s x) else (seeK s b P x s.n, (plsL s.c.M (metP [P, alwP s b (blkO x)])).length, 0)
theorem zqI {f : Nat -> Nat -> D} {P Q : Nat -> Bool} (h0 : ∀ j, j < 38 -> f 0 j = bAt P j) (h1 : ∀ j, j < 38 -> f 1 j = bAt Q j) : eqV1s [.d (.slc 38 2 f)] [.d (lB [P, Q])] := by
 refine ⟨⟨rfl, .inr ⟨rfl, fun i hi j hj => ?_⟩⟩, trivial⟩
 match i, hi with
 | 0, _ => rw [h0 j hj]; exact dE _
 | 1, _ => rw [h1 j hj]; exact dE _
theorem two_0 (P Q : Nat -> Bool) : ∀ j, j < 38 -> rowOf 38 (bD P ++ bD Q) 0 j = bAt P j := fun j hj => by
 rcases i38 hj with rfl | rfl | rfl | rfl | rfl | rfl | rfl | rfl | rfl | rfl | rfl | rfl | rfl | rfl | rfl | rfl | rfl | rfl | rfl | rfl | rfl | rfl | rfl | rfl | rfl | rfl | rfl | rfl | rfl | rfl | rfl | rfl | rfl | rfl | rfl | rfl | rfl | rfl <;> rfl
theorem two_1 (P Q : Nat -> Bool) : ∀ j, j < 38 -> rowOf 38 (bD P ++ bD Q) 1 j = bAt Q j := fun j hj => by
 rcases i38 hj with rfl | rfl | rfl | rfl | rfl | rfl | rfl | rfl | rfl | rfl | rfl | rfl | rfl | rfl | rfl | rfl | rfl | rfl | rfl | rfl | rfl | rfl | rfl | rfl | rfl | rfl | rfl | rfl | rfl | rfl | rfl | rfl | rfl | rfl | rfl | rfl | rfl | rfl <;> rfl
def obBeh (s : Svc) (b : Brn) (P : Nat -> Bool) (x : Lk) (k : Nat) : List (Nat × Ob) :=
 [(4, .box (s.ds.map AV.d)), (5, .box (b.ds.map AV.d)), (6, .box ((bD P).map AV.d)), (7, .box (x.ds.map AV.d)), (8, .box ([I 0, I 0].map AV.d)), (14, .box ([I (wideL s x).F, I (wideL s x).T].map AV.d)),
  (15, .box ([I (towG s.c.T x.Tower).1.ID, I (towG s.c.T x.Tower).1.At.X, I (towG s.c.T x.Tower).1.At.Y, I (towG s.c.T x.Tower).1.H].map AV.d)), (17, .box ([I (seeK s b P x k), I (plsL s.c.M (metP [P, alwP s b (blkO x)])).length].map AV.d))]
theorem zmk (s : Svc) (b : Brn) (P : Nat -> Bool) (x : Lk) (ok : SvcOk s) : Spec PP 94 [s.v, b.v, .agg (bD P), x.v] [.agg [I (fndR s b P x).1, I (fndR s b P x).2.1], .d (.int .i64 (fndR s b P x).2.2)] := by
 have hl := zc7 ok.c.m
 refine sA Tryz.func94 ?_
 refine cP (zbv s (blkO x) (by have := ok.c.t; omega) (by have := ok.k.n; omega)) rfl rfl ?_
 apply bY <;> intro h0
 ·have h0 : rptE s (blkO x) ≠ 0 := by simpa using h0
  have e1 : lkE s x = rptE s (blkO x) := by unfold lkE; rw [if_pos h0]
  have e : fndR s b P x = (0, 0, rptE s (blkO x)) := by unfold fndR; rw [e1, if_pos h0]
  rw [e]
  exact r2CI rfl rfl rfl rfl rfl rfl rfl (zaa _) rfl
 have h0 : rptE s (blkO x) = 0 := by simpa using h0
 have hf := zjD h0
 have hb := zkB hf (show (2 : Int) ≠ 1 by decide)
 have b1 : 0 <= x.From /\ x.From <= 3599 := hb.f
 have b2 : 0 <= x.To /\ x.To <= 3599 := hb.t
 have b3 : 1 <= x.Slack /\ x.Slack <= 100 := hb.s
 have zb : (-300 <= (zLk s x).Lo /\ (zLk s x).Lo <= 100000300) /\ (-100000300 <= (zLk s x).Hi /\ (zLk s x).Hi <= 300) := zhd s.k x.C x.Tick
 refine cP (zh5 s.k x.C x.Tick) rfl rfl ?_
 refine oL (List.range 17) (FzOb.no ?_)
 refine ⟨i6, ?_⟩
 refine oP (zbt (x.To - x.From) (by omega)) rfl rfl ?_
 have g1 : inR .i64 ((x.To - x.From) % 3600 + 2 * x.Slack) := i6
 have g2 : inR .i64 ((x.To - x.From) % 3600 + 2 * x.Slack + (zLk s x).Hi) := i6
 have g3 : inR .i64 ((x.To - x.From) % 3600 + 2 * x.Slack + (zLk s x).Hi - (zLk s x).Lo) := i6
 refine ⟨i6, ⟨g1, ⟨g2, ⟨g3, ?_⟩⟩⟩⟩
 apply bY <;> intro h1
 ·have h1 : 900 < (x.To - x.From) % 3600 + 2 * x.Slack + (zLk s x).Hi - (zLk s x).Lo := dT h1
  have e1 : lkE s x = 50 := by unfold lkE; rw [if_neg (fun hh => hh h0), if_pos h1]
  have e : fndR s b P x = (0, 0, 50) := by unfold fndR; rw [e1, if_pos (by decide)]
  rw [e]
  exact r2CI rfl rfl rfl rfl rfl rfl rfl (zaa _) rfl
 have h1 : ¬ 900 < (x.To - x.From) % 3600 + 2 * x.Slack + (zLk s x).Hi - (zLk s x).Lo := dF h1
 have e1 : lkE s x = 0 := by unfold lkE; rw [if_neg (fun hh => hh h0), if_neg h1]
 have e : fndR s b P x = ((seeK s b P x s.n : Int), ((plsL s.c.M (metP [P, alwP s b (blkO x)])).length : Int), 0) := by unfold fndR; rw [e1, if_neg (fun hh => hh rfl)]
 rw [e]
 refine oL (List.range 21) (FzOb.no ?_)
 have g4 : inR .i64 (x.From - x.Slack) := i6
 have g5 : inR .i64 (x.From - x.Slack - (zLk s x).Hi) := i6
 have g6 : inR .i64 (x.To + x.Slack) := i6
 have g7 : inR .i64 (x.To + x.Slack - (zLk s x).Lo) := i6
 refine ⟨g4, ⟨g5, ?_⟩⟩
 refine oP (zbt (x.From - x.Slack - (zLk s x).Hi) (by omega)) rfl rfl ?_
 refine ⟨g6, ⟨g7, ?_⟩⟩
 refine oP (zbt (x.To + x.Slack - (zLk s x).Lo) (by omega)) rfl rfl ?_
 refine cP (zdE s x.Tower (by have := ok.c.t; omega)) rfl rfl ?_
 refine oL (List.range 12) (FzOb.no ?_)
 refine oP (zfT s b (blkO x) ok.c.m hf (by have := ok.c.t; omega)) rfl rfl ?_
 refine CallOb.pureE (zew [P, alwP s b (blkO x)] (Nat.le_of_ble_eq_true rfl)) rfl (zqI (two_0 _ _) (two_1 _ _)) rfl ?_
 refine oP (ze9 s (metP [P, alwP s b (blkO x)]) ok.c.m) rfl rfl ?_
 refine CallSt.ro (zgJ s.c.M) rfl rfl ?_
 refine CodeOb.rangeAt (ze8 s.c.M ok.c.m) rfl (spEnc s.c.M) (zi0 s.c.M) (fun _ => rfl) (by decide) [(4, .box 4 0), (5, .box 5 0), (6, .box 6 0), (7, .box 7 0), (8, .box 8 0), (14, .box 14 0), (15, .box 15 0), (17, .box 17 0)] [] (fun pre => obBeh s b P x pre.length) rfl (fun _ => rfl) ?_ (Iv := fun _ => True) trivial (fun v pre q hx _ => ?_) (fun _ => ?_)
 ·exact ⟨rfl, ⟨obX rfl, obX rfl, obX rfl, obX rfl, obX rfl, obX rfl, obX rfl, obX rfl, trivial⟩, wq rfl⟩
 ·obtain ⟨rfl, hk⟩ := zjm hx
  have hn := zdp ok.c.m (k := pre.length)
  have hp := zqn P pre.length (by omega)
  rw [<- hn] at hp
  have hle := zoa s b P x pre.length
  have no : seeP s b P x pre.length = false -> some (Ob.box ([I (seeK s b P x pre.length), I (plsL s.c.M (metP [P, alwP s b (blkO x)])).length].map AV.d)) = some (Ob.box ([I (seeK s b P x (pre ++ [(pre.length / s.c.M.w, pre.length % s.c.M.w)]).length), I (plsL s.c.M (metP [P, alwP s b (blkO x)])).length].map AV.d)) := fun h => by
   rw [List.length_append]; show _ = some (Ob.box ([I (seeK s b P x (pre.length + 1)), _].map AV.d)); rw [zn9 h]
  refine cP hp rfl rfl ?_
  apply bY <;> intro h2
  ·have h2 : P pre.length = false := by
    have : (!P pre.length) = true := h2
    simpa using this
   refine sT (sT ?_)
   refine ⟨trivial, rfl, ⟨obX rfl, obX rfl, obX rfl, obX rfl, obX rfl, obX rfl, obX rfl, obX (no ?_), trivial⟩, wq rfl⟩
   unfold seeP; rw [h2]; rfl
  have h2 : P pre.length = true := by
   have : (!P pre.length) = false := h2
   simpa using this
  refine cP (zaM x.Tick b.From b.To) rfl rfl ?_
  refine sF ?_
  apply bY <;> intro h3
  ·have h3 : within x.Tick b.From b.To = false := by
    have : (!within x.Tick b.From b.To) = true := h3
    simpa using this
   refine sT ?_
   refine ⟨trivial, rfl, ⟨obX rfl, obX rfl, obX rfl, obX rfl, obX rfl, obX rfl, obX rfl, obX (no ?_), trivial⟩, wq rfl⟩
   unfold seeP; rw [h2, h3]; rfl
  have h3 : within x.Tick b.From b.To = true := by
   have : (!within x.Tick b.From b.To) = false := h3
   simpa using this
  refine cP (zla (wideL s x) (towG s.c.T x.Tower).1.At (plc s.c.M pre.length)) rfl rfl ?_
  refine sF ?_
  apply bY <;> intro h4
  ·have h4 : liesW (wideL s x) (towG s.c.T x.Tower).1.At (plc s.c.M pre.length) = false := by
    have : (!liesW (wideL s x) (towG s.c.T x.Tower).1.At (plc s.c.M pre.length)) = true := h4
    simpa using this
   refine ⟨trivial, rfl, ⟨obX rfl, obX rfl, obX rfl, obX rfl, obX rfl, obX rfl, obX rfl, obX (no ?_), trivial⟩, wq rfl⟩
   unfold seeP; rw [h2, h3, h4]; rfl
  have h4 : liesW (wideL s x) (towG s.c.T x.Tower).1.At (plc s.c.M pre.length) = true := by
   have : (!liesW (wideL s x) (towG s.c.T x.Tower).1.At (plc s.c.M pre.length)) = false := h4
   simpa using this
  refine cP (zkx s.c x.Tower (plc s.c.M pre.length) b.Rise x.Tick) rfl rfl ?_
  apply bY <;> intro h5
  ·have h5 : decide ((seesE s.c x.Tower (plc s.c.M pre.length) b.Rise x.Tick).2 = 0) = true := by simpa using h5
   refine sT ?_
   apply bY <;> intro h6
   ·have h6 : (seesE s.c x.Tower (plc s.c.M pre.length) b.Rise x.Tick).1 = true := h6
    refine ⟨i6, ?_⟩
    refine ⟨trivial, rfl, ⟨obX rfl, obX rfl, obX rfl, obX rfl, obX rfl, obX rfl, obX rfl, obX ?_, trivial⟩, wq rfl⟩
    rw [List.length_append]
    show _ = some (Ob.box ([I (seeK s b P x (pre.length + 1)), _].map AV.d))
    rw [zlE (by unfold seeP; rw [h2, h3, h4, h5, h6]; rfl)]
    rfl
   ·have h6 : (seesE s.c x.Tower (plc s.c.M pre.length) b.Rise x.Tick).1 = false := h6
    refine ⟨trivial, rfl, ⟨obX rfl, obX rfl, obX rfl, obX rfl, obX rfl, obX rfl, obX rfl, obX (no ?_), trivial⟩, wq rfl⟩
    unfold seeP; rw [h2, h3, h4, h5, h6]; rfl
  ·have h5 : decide ((seesE s.c x.Tower (plc s.c.M pre.length) b.Rise x.Tick).2 = 0) = false := by simpa using h5
   refine sF (sF ?_)
   refine ⟨trivial, rfl, ⟨obX rfl, obX rfl, obX rfl, obX rfl, obX rfl, obX rfl, obX rfl, obX (no ?_), trivial⟩, wq rfl⟩
   unfold seeP; rw [h2, h3, h4, h5]; rfl
 ·rw [zdr]
  exact r2CI rfl rfl rfl rfl rfl rfl rfl (zaa _) rfl
def behR (s : Svc) (b : Brn) (l : List Rpt) (x : Lk) : Int × Int × Int := if givE s b l ≠ 0 then (0, 0, givE s b l) else fndR s b (metP (l.map (alwP s b))) x
theorem zmq (s : Svc) (b : Brn) (l : List Rpt) (x : Lk) : Spec PP 38 [s.v, b.v, .d (lR l), x.v] [.agg [I (behR s b l x).1, I (behR s b l x).2.1], .d (.int .i64 (behR s b l x).2.2)] := by
 refine sA Tryz.func38 ?_
 refine CallSt.ro (zmm s b l) rfl rfl ?_
 by_cases h0 : givE s b l = 0
 ·have e : allR s b l = (l.map (alwP s b), 0) := by unfold allR; rw [if_neg (fun hh => hh h0)]
  have e1 : behR s b l x = fndR s b (metP (l.map (alwP s b))) x := by unfold behR; rw [if_neg (fun hh => hh h0)]
  have ok := zcz h0
  have hn := ok.n
  rw [e, e1]
  refine sF ?_
  refine oL (List.range 10) (FzOb.no ?_)
  refine oP (zew (l.map (alwP s b)) (by rw [List.length_map]; omega)) rfl rfl ?_
  refine oP (zmk s b (metP (l.map (alwP s b))) x ok.s) rfl rfl ?_
  exact r2CI rfl rfl rfl rfl rfl rfl rfl (zaa _) rfl
 ·have e : allR s b l = ([], givE s b l) := by unfold allR; rw [if_pos h0]
  have e1 : behR s b l x = (0, 0, givE s b l) := by unfold behR; rw [if_pos h0]
  rw [e, e1]
  refine Split.yes (by simpa using h0) ?_
  exact r2CI rfl rfl rfl rfl rfl rfl rfl (zaa _) rfl
theorem eqPs (p q : Place) : (p.X == q.X && (p.Y == q.Y && (true))) = (p == q) := by
 rw [Bool.eq_iff_iff]
 simp only [Bool.and_eq_true, beq_iff_eq, and_true]
 cases p; cases q; simp
theorem zfG (a b : List Place) (hn : a.length <= 1000000) : Spec PP 39 [slP a, slP b] [B (decide (a = b))] := by
 refine sA Tryz.func39 ?_
 apply bY <;> intro h1
 ·have h1 : a.length ≠ b.length := by
   have : ¬ (a.length : Int) = b.length := by simpa using h1
   omega
  refine r1B rfl ?_
  exact (decide_eq_false fun e => h1 (by rw [e])).symm
 have h1 : a.length = b.length := by
  have : (a.length : Int) = b.length := by simpa using h1
  omega
 refine LoopOb.of (σ := Nat) (fun i => ([(0, avOf (slP a)), (1, avOf (slP b)), (5, .d (I i))], [])) (fun i => i <= a.length /\ a.take i = b.take i) (fun i => a.length - i) 0 ⟨rfl, trivial, wq rfl⟩ ⟨Nat.zero_le _, rfl⟩ fun i hi => ?_
 obtain ⟨i1, i2⟩ := hi
 apply bY <;> intro h2
 ·have h2 : i < a.length := by simpa using h2
  refine oL (List.range 9) (FzOb.no ?_)
  refine ⟨⟨rfl, by omega, by omega⟩, ?_⟩
  refine ⟨⟨rfl, by omega, by omega⟩, ?_⟩
  apply bY <;> intro h3
  ·have h3 : (a.getD i default == b.getD i default) = false := by
    have h3 : (!((a.getD i default).X == (b.getD i default).X && ((a.getD i default).Y == (b.getD i default).Y && (true)))) = true := h3
    rw [eqPs] at h3
    simpa using h3
   refine r1B rfl ?_
   refine (decide_eq_false fun e => ?_).symm
   subst e
   simp at h3
  ·have h3 : (a.getD i default == b.getD i default) = true := by
    have h3 : (!((a.getD i default).X == (b.getD i default).X && ((a.getD i default).Y == (b.getD i default).Y && (true)))) = false := h3
    rw [eqPs] at h3
    simpa using h3
   have h3 : a.getD i default = b.getD i default := by simpa using h3
   refine ⟨i6, ?_⟩
   refine ⟨i + 1, ⟨rfl, trivial, wq rfl⟩, ⟨h2, ?_⟩, ?_⟩
   ·rw [zaD h2 default, zaD (by omega) default, i2, h3]
   ·show a.length - (i + 1) < a.length - i
    omega
 ·have h2 : i = a.length := by
   have : ¬ i < a.length := by simpa using h2
   omega
  refine r1B rfl ?_
  rw [h2, List.take_length, h1, List.take_length] at i2
  exact (decide_eq_true i2).symm
theorem zin (a b : List Int) (hn : a.length <= 1000000) : Spec PP 17 [.d (lI a), .d (lI b)] [B (decide (a = b))] := by
 refine sA Tryz.func17 ?_
 apply bY <;> intro h1
 ·have h1 : a.length ≠ b.length := by
   have : ¬ (a.length : Int) = b.length := by simpa using h1
   omega
  refine r1B rfl ?_
  exact (decide_eq_false fun e => h1 (by rw [e])).symm
 have h1 : a.length = b.length := by
  have : (a.length : Int) = b.length := by simpa using h1
  omega
 refine LoopOb.of (σ := Nat) (fun i => ([(0, .d (lI a)), (1, .d (lI b)), (5, .d (I i))], [])) (fun i => i <= a.length /\ a.take i = b.take i) (fun i => a.length - i) 0 ⟨rfl, trivial, wq rfl⟩ ⟨Nat.zero_le _, rfl⟩ fun i hi => ?_
 obtain ⟨i1, i2⟩ := hi
 apply bY <;> intro h2
 ·have h2 : i < a.length := by simpa using h2
  refine oL (List.range 9) (FzOb.no ?_)
  refine ⟨⟨rfl, by omega, by omega⟩, ?_⟩
  refine ⟨⟨rfl, by omega, by omega⟩, ?_⟩
  apply bY <;> intro h3
  ·have h3 : (a.getD i 0 == b.getD i 0) = false := by
    have h3 : (!((a.getD i 0) == (b.getD i 0))) = true := h3
    skip
    simpa using h3
   refine r1B rfl ?_
   refine (decide_eq_false fun e => ?_).symm
   subst e
   simp at h3
  ·have h3 : (a.getD i 0 == b.getD i 0) = true := by
    have h3 : (!((a.getD i 0) == (b.getD i 0))) = false := h3
    skip
    simpa using h3
   have h3 : a.getD i 0 = b.getD i 0 := by simpa using h3
   refine ⟨i6, ?_⟩
   refine ⟨i + 1, ⟨rfl, trivial, wq rfl⟩, ⟨h2, ?_⟩, ?_⟩
   ·rw [zaD h2 0, zaD (by omega) 0, i2, h3]
   ·show a.length - (i + 1) < a.length - i
    omega
 ·have h2 : i = a.length := by
   have : ¬ i < a.length := by simpa using h2
   omega
  refine r1B rfl ?_
  rw [h2, List.take_length, h1, List.take_length] at i2
  exact (decide_eq_true i2).symm
def svc0 : Svc := ⟨⟨⟨21, 21, List.replicate 441 0⟩, [⟨1, ⟨0, 0⟩, 30⟩, ⟨2, ⟨20, 0⟩, 30⟩], []⟩, ⟨[⟨1, ⟨0, 0⟩, 0, 1000, 0, 0, 0⟩, ⟨2, ⟨20, 0⟩, 0, 1000, 0, 0, 0⟩], []⟩⟩
def rp0 : Rpt := ⟨5, 1, 1, 1, 20, 450, 0, 1⟩
def rp1 : Rpt := ⟨6, 1, 2, 2, 30, 1350, 0, 1⟩
def rp2 : Rpt := ⟨7, 2, 1, 1, 40, 300, 500, 1⟩
def brn0 : Brn := ⟨10, 50, 10⟩
def lk0 : Lk := ⟨2, 2, 35, 1300, 1400, 1⟩
theorem znG {g : Int -> Int -> Int} (hg : ∀ x y, g x y = 0) (a b c d k : Int) : crsH g a b c d k = 0 := by
 unfold crsH
 simp only [hg, Int.mul_zero, Int.add_zero, ite_self]
theorem zgD {m : Mp} (hm : ∀ p, grd m p = 0) (a b : Place) : ∀ (n : Nat) (k0 k1 : Int), ∀ p ∈ ptsF m a b n k0 k1, p.hi = 0
 | 0, _, _, p, hp => by cases hp
 | n + 1, k0, k1, p, hp => by
  unfold ptsF at hp
  split at hp
  ·split at hp
   ·rcases List.mem_cons.1 hp with rfl | hp
    ·exact znG (g := fun y x => grd m ⟨x, y⟩) (fun _ _ => hm _) _ _ _ _ _
    ·exact zgD hm a b n _ _ p hp
   ·rcases List.mem_cons.1 hp with rfl | hp
    ·exact znG (g := fun x y => grd m ⟨x, y⟩) (fun _ _ => hm _) _ _ _ _ _
    ·exact zgD hm a b n _ _ p hp
  ·cases hp
theorem zf0 {m : Mp} (hm : ∀ p, grd m p = 0) (hv : validM m = true) {a b : Place} (ha : onM m a = true) (hb : onM m b = true) {ta tb : Int} (h1 : 0 <= ta) (h2 : 0 <= tb) : freeB m a ta b tb = true := by
 unfold freeB
 rw [Bool.not_eq_true', List.any_eq_false]
 intro p hp
 have ok := zno hv ha hb p hp
 have h3 := zgD hm a b _ _ _ p hp
 unfold ovrB abvI
 rw [h3, hm, hm]
 have k1 := Int.mul_nonneg (show 0 <= p.n - p.k by have := ok.k; omega) (show 0 <= 0 + ta by omega)
 have k2 := Int.mul_nonneg ok.k.1 (show 0 <= 0 + tb by omega)
 simp only [decide_eq_true_eq]
 omega
theorem grd0 (p : Place) : grd svc0.c.M p = 0 := by
 show (List.replicate 441 (0 : Int)).getD _ 0 = 0
 rw [gdq, List.getElem?_replicate]
 split <;> rfl
theorem val0 : validM svc0.c.M = true := by unfold validM; decide +kernel
theorem zpT (id : Int) (h : id = 1 \/ id = 2) (p : Place) (hp : onM svc0.c.M p = true) (t : Int) (ht : within t 0 1048576 = true) : seesE svc0.c id p 10 t = (true, 0) := by
 have e0 : ctryE svc0.c = 0 := by unfold ctryE; rw [if_neg (by rw [val0]; decide +kernel)]; unfold towE hzE onM; decide +kernel
 have e1 : (towG svc0.c.T id) = (if id = 1 then ⟨1, ⟨0, 0⟩, 30⟩ else ⟨2, ⟨20, 0⟩, 30⟩, true) := by rcases h with rfl | rfl <;> decide +kernel
 have e2 : farZ t svc0.c.Z = 100 := rfl
 have op := zaf.1 hp
 have ox : 0 <= p.X /\ p.X < 21 := op.1
 have oy : 0 <= p.Y /\ p.Y < 21 := op.2
 unfold seesE
 have e1' : (towG svc0.c.T id).2 = true := by rcases h with rfl | rfl <;> decide +kernel
 rw [if_neg (fun hh => hh e0), if_neg (by rw [e1']; decide +kernel), if_neg (by rw [hp, ht]; decide +kernel), e2]
 have e3 : seesB svc0.c (towG svc0.c.T id).1 p 10 100 = true := by
  unfold seesB
  have on1 : onM svc0.c.M ⟨0, 0⟩ = true := by unfold onM; decide +kernel
  have on2 : onM svc0.c.M ⟨20, 0⟩ = true := by unfold onM; decide +kernel
  have m1 := mulB (a := p.X) (b := p.X) (x := 20) (y := 20) (by omega) (by omega)
  have m2 := mulB (a := p.Y) (b := p.Y) (x := 20) (y := 20) (by omega) (by omega)
  have m3 := mulB (a := 20 - p.X) (b := 20 - p.X) (x := 20) (y := 20) (by omega) (by omega)
  rw [e1]
  rcases h with rfl | rfl
  ·show (nearB ⟨0, 0⟩ p 100 && freeB svc0.c.M ⟨0, 0⟩ 30 p 10) = true
   rw [zf0 grd0 val0 on1 hp (by decide +kernel) (by decide +kernel), Bool.and_true]
   unfold nearB
   refine decide_eq_true ?_
   show (0 - p.X) * (0 - p.X) + (0 - p.Y) * (0 - p.Y) <= 100 * 100
   have a1 : (0 - p.X) * (0 - p.X) = p.X * p.X := by rw [Int.zero_sub, Int.neg_mul_neg]
   have a2 : (0 - p.Y) * (0 - p.Y) = p.Y * p.Y := by rw [Int.zero_sub, Int.neg_mul_neg]
   omega
  ·show (nearB ⟨20, 0⟩ p 100 && freeB svc0.c.M ⟨20, 0⟩ 30 p 10) = true
   rw [zf0 grd0 val0 on2 hp (by decide +kernel) (by decide +kernel), Bool.and_true]
   unfold nearB
   refine decide_eq_true ?_
   show (20 - p.X) * (20 - p.X) + (0 - p.Y) * (0 - p.Y) <= 100 * 100
   have a2 : (0 - p.Y) * (0 - p.Y) = p.Y * p.Y := by rw [Int.zero_sub, Int.neg_mul_neg]
   omega
 rw [e3]
theorem ths0 (x : Cir) : thsL svc0.k x = [thg0 x] := by
 show [thg0 x].mergeSort _ = [thg0 x]
 exact List.mergeSort_singleton _
theorem zer0 (id t : Int) (h : id = 1 \/ id = 2) (ht : within t 0 1000 = true) : zerR svc0.k id t = (⟨0, 0⟩, 0) := by
 have bt := zab.1 ht
 have e0 : cirsE svc0.k = 0 := by decide +kernel
 have e1 : cirI svc0.k id = if id = 1 then 0 else 1 := by rcases h with rfl | rfl <;> decide +kernel
 have go : ∀ x : Cir, x.Drift = 0 -> x.Lo = 0 -> x.Hi = 0 -> knw svc0.k id [t] = (x, [thg0 x], 0) -> zerR svc0.k id t = (⟨0, 0⟩, 0) := fun x d1 d2 d3 hk => by
  have ec : clsL x [thg0 x] = [] := by
   unfold clsL clsU clsI
   have en : noneB (thg0 x) = false := by unfold noneB; exact decide_eq_false (by show ¬ x.Hi < x.Lo; omega)
   simp [List.range_succ, en, clsJ]
  have ea : atR svc0.k id t = (x, [thg0 x], 0) := by
   unfold atR; rw [hk]; dsimp only; rw [if_pos rfl]; unfold agrE; rw [if_pos ec]
  have ed : drf x x.From t = 0 := by unfold drf; rw [d1]; simp
  unfold zerR
  rw [ea, if_neg (fun hh => hh rfl)]
  dsimp only
  unfold zer
  simp only [List.foldl_cons, List.foldl_nil, zStep, thg0, ed, d2, d3]
  simp
 rcases h with rfl | rfl
 ·refine go ⟨1, ⟨0, 0⟩, 0, 1000, 0, 0, 0⟩ rfl rfl rfl ?_
  unfold knw
  rw [if_neg (fun hh => hh e0), e1, if_neg (by decide +kernel), if_pos (by show (within t 0 1000 && true) = true; rw [ht]; rfl), ths0]; rfl
 ·refine go ⟨2, ⟨20, 0⟩, 0, 1000, 0, 0, 0⟩ rfl rfl rfl ?_
  unfold knw
  rw [if_neg (fun hh => hh e0), e1, if_neg (by decide +kernel), if_pos (by show (within t 0 1000 && true) = true; rw [ht]; rfl), ths0]; rfl
theorem zpN : svcE svc0 = 0 := by
 have e0 : ctryE svc0.c = 0 := by unfold ctryE; rw [if_neg (by rw [val0]; decide +kernel)]; unfold towE hzE onM; decide +kernel
 have e1 : cirsE svc0.k = 0 := by decide +kernel
 unfold svcE
 rw [if_neg (fun hh => hh e0), if_neg (fun hh => hh e1)]
 decide +kernel
theorem wdg0 (r : Rpt) (hc : r.C = 1 \/ r.C = 2) (ht : within r.Tick 0 1000 = true) (hs : within r.From 0 3599 = true) (hl : r.Slack = 1) : wdgR svc0.k (rdgO r) = (wdg (r.From - 1) 2, 0) := by
 have e1 : cirsE svc0.k = 0 := by decide +kernel
 have e2 : rdgE svc0.k (rdgO r) = 0 := by
  unfold rdgE rdgO
  rw [if_neg (fun hh => hh e1)]
  rw [if_neg]
  dsimp only
  rw [hs, hl]; decide +kernel
 have e3 : zerR svc0.k (rdgO r).C (rdgO r).Tick = (⟨0, 0⟩, 0) := zer0 r.C r.Tick hc ht
 unfold wdgR
 rw [if_neg (fun hh => hh e2), e3, if_neg (fun hh => hh rfl)]
 show (if (900 : Int) < 2 * r.Slack + 0 - 0 then _ else (wdg (r.From - r.Slack - 0) (2 * r.Slack + 0 - 0), (0 : Int))) = _
 rw [hl, if_neg (by decide +kernel)]
 congr 2
 omega
theorem blk0 (r : Rpt) (hc : r.C = 1 \/ r.C = 2) (ht : within r.Tick 0 1000 = true) (h : ¬ (r.To - r.From) % 3600 < 2 * r.Slack + 0 - 0) : blkR svc0 r = (⟨(r.From + r.Slack) % 3600, (r.To - r.Slack) % 3600⟩, true) := by
 have e3 := zer0 r.C r.Tick hc ht
 unfold blkR
 rw [e3]
 dsimp only
 rw [if_neg h]
 simp
theorem rpt0 (r : Rpt) (hf : frmB r = true) (hc : r.C = 1 \/ r.C = 2) (ht : within r.Tick 0 1000 = true) (hw : r.Tower = r.C) (hk : r.Kind = 1 -> within r.From 0 3599 = true /\ r.Slack = 1) : rptE svc0 r = 0 := by
 have e3 := zer0 r.C r.Tick hc ht
 unfold rptE
 rw [if_neg (by rw [hf]; decide +kernel), hw, e3]
 have e4 : ¬ ((towG svc0.c.T r.C).2 = false \/ cirI svc0.k r.C < 0) := by rcases hc with e | e <;> rw [e] <;> decide +kernel
 have e5 : (svc0.k.C.getD (cirI svc0.k r.C).toNat default).At = (towG svc0.c.T r.C).1.At := by rcases hc with e | e <;> rw [e] <;> decide +kernel
 rw [if_neg e4, if_neg (fun hh => hh e5), if_neg (fun hh => hh rfl)]
 split
 ·rename_i h1
  rw [wdg0 r hc ht (hk h1).1 (hk h1).2]
 ·rfl
def lieP (w : Wdg) (a : Place) (n : Nat) : Bool := decide (n < 441) && liesW w a ⟨((n % 21 : Nat) : Int), ((n / 21 : Nat) : Int)⟩
def notP (w : Wdg) (a : Place) (n : Nat) : Bool := decide (n < 441) && !liesW w a ⟨((n % 21 : Nat) : Int), ((n / 21 : Nat) : Int)⟩
theorem plc0 {n : Nat} (h : n < 441) : onM svc0.c.M (plc svc0.c.M n) = true := znq val0 h
theorem zql (r : Rpt) (hw : r.Tower = 1 \/ r.Tower = 2) (ht : within r.Tick 0 1048576 = true) (hb : within r.Tick 10 50 = true) {n : Nat} (h : n < 441) : lookB svc0 brn0 r (plc svc0.c.M n) = true := by
 unfold lookB
 rw [show brn0.Rise = 10 from rfl, zpT r.Tower hw _ (plc0 h) r.Tick ht]
 show (true && true && within r.Tick 10 50) = true
 rw [hb]; rfl
theorem zqY (r : Rpt) (w : Wdg) (a : Place) (hk : r.Kind = 1) (hw : r.Tower = 1 \/ r.Tower = 2) (ht : within r.Tick 0 1048576 = true) (hb : within r.Tick 10 50 = true) (hs : secR svc0 r = (w, true)) (ha : (towG svc0.c.T r.Tower).1.At = a) : alwP svc0 brn0 r = lieP w a := by
 funext n
 unfold alwP alwK lieP
 show (decide (n < 441) && _) = _
 by_cases h : n < 441
 ·refine congrArg (decide (n < 441) && ·) ?_
  unfold allB seenB
  rw [if_pos hk, hs, ha, zql r hw ht hb h, Bool.and_true]; rfl
 ·rw [decide_eq_false h]; rfl
theorem zqZ (r : Rpt) (w : Wdg) (a : Place) (hk : r.Kind ≠ 1) (hw : r.Tower = 1 \/ r.Tower = 2) (ht : within r.Tick 0 1048576 = true) (hb : within r.Tick 10 50 = true) (hs : secR svc0 r = (w, true)) (ha : (towG svc0.c.T r.Tower).1.At = a) : alwP svc0 brn0 r = notP w a := by
 funext n
 unfold alwP alwK notP
 show (decide (n < 441) && _) = _
 by_cases h : n < 441
 ·refine congrArg (decide (n < 441) && ·) ?_
  unfold allB seenB
  rw [if_neg hk, hs, ha, zql r hw ht hb h, Bool.and_true]; rfl
 ·rw [decide_eq_false h]; rfl
abbrev A0 : Nat -> Bool := lieP ⟨449, 451⟩ ⟨0, 0⟩
abbrev A1 : Nat -> Bool := lieP ⟨1349, 1351⟩ ⟨20, 0⟩
abbrev A2 : Nat -> Bool := notP ⟨301, 499⟩ ⟨0, 0⟩
theorem sec0 : secR svc0 rp0 = (⟨449, 451⟩, true) := by
 unfold secR
 rw [if_pos (by rfl), wdg0 rp0 (.inl rfl) (by decide +kernel) (by decide +kernel) rfl]; decide +kernel
theorem sec1 : secR svc0 rp1 = (⟨1349, 1351⟩, true) := by
 unfold secR
 rw [if_pos (by rfl), wdg0 rp1 (.inr rfl) (by decide +kernel) (by decide +kernel) rfl]; decide +kernel
theorem sec2 : secR svc0 rp2 = (⟨301, 499⟩, true) := by
 unfold secR
 rw [if_neg (by decide +kernel), blk0 rp2 (.inl rfl) (by decide +kernel) (by decide +kernel)]; decide +kernel
theorem alw0 : alwP svc0 brn0 rp0 = A0 := zqY rp0 _ _ rfl (.inl rfl) (by decide +kernel) (by decide +kernel) sec0 (by decide +kernel)
theorem alw1 : alwP svc0 brn0 rp1 = A1 := zqY rp1 _ _ rfl (.inr rfl) (by decide +kernel) (by decide +kernel) sec1 (by decide +kernel)
theorem alw2 : alwP svc0 brn0 rp2 = A2 := zqZ rp2 _ _ (by decide +kernel) (.inl rfl) (by decide +kernel) (by decide +kernel) sec2 (by decide +kernel)
theorem rE0 : rptE svc0 rp0 = 0 := rpt0 rp0 (by decide +kernel) (.inl rfl) (by decide +kernel) rfl fun _ => ⟨by decide +kernel, rfl⟩
theorem rE1 : rptE svc0 rp1 = 0 := rpt0 rp1 (by decide +kernel) (.inr rfl) (by decide +kernel) rfl fun _ => ⟨by decide +kernel, rfl⟩
theorem rE2 : rptE svc0 rp2 = 0 := rpt0 rp2 (by decide +kernel) (.inl rfl) (by decide +kernel) rfl fun h => absurd h (by decide +kernel)
theorem giv0 (l : List Rpt) (h24 : ¬ 24 < l.length) (h : ∀ i, i < l.length -> rptE svc0 (l.getD i default) = 0 /\ ((l.take i).map Rpt.ID).contains (l.getD i default).ID = false) : givE svc0 brn0 l = 0 := by
 unfold givE
 rw [if_neg (fun hh => hh zpN), if_neg (by decide +kernel), if_neg h24]
 refine zbe fun i hi => ?_
 unfold rp1E
 rw [if_neg (fun hh => hh (h i hi).1), if_neg (by rw [(h i hi).2]; decide +kernel)]
theorem giv1 : givE svc0 brn0 [rp0] = 0 := giv0 _ (by decide +kernel) fun i hi => by
 match i, hi with
 | 0, _ => exact ⟨rE0, rfl⟩
theorem giv2 : givE svc0 brn0 [rp0, rp1] = 0 := giv0 _ (by decide +kernel) fun i hi => by
 match i, hi with
 | 0, _ => exact ⟨rE0, rfl⟩
 | 1, _ => exact ⟨rE1, rfl⟩
theorem giv3 : givE svc0 brn0 [rp0, rp1, rp2] = 0 := giv0 _ (by decide +kernel) fun i hi => by
 match i, hi with
 | 0, _ => exact ⟨rE0, rfl⟩
 | 1, _ => exact ⟨rE1, rfl⟩
 | 2, _ => exact ⟨rE2, rfl⟩
theorem zo0 : lstR [rp0, rp1, rp2] 10 = (⟨20, 30, 10⟩, 0) := by decide +kernel
theorem zmF : sctR svc0 rp2 = (⟨301, 499⟩, true, 0) := by
 have e : crpE svc0 rp2 = 0 := by unfold crpE; rw [if_neg (fun hh => hh zpN), rE2]
 unfold sctR
 rw [if_neg (fun hh => hh e), sec2]
theorem pls2 : plsL svc0.c.M (metP [A0, A1]) = [⟨10, 10⟩] := by decide +kernel
theorem pls1 : (plsL svc0.c.M (metP [A0])).length = 20 := by decide +kernel
theorem zf5 : plcR svc0 brn0 [rp0, rp1] = ([⟨10, 10⟩], 0) := by
 unfold plcR
 rw [if_neg (fun hh => hh giv2)]
 show (plsL svc0.c.M (metP [alwP svc0 brn0 rp0, alwP svc0 brn0 rp1]), (0 : Int)) = _
 rw [alw0, alw1, pls2]
theorem zkG : ∃ q : List Place, plcR svc0 brn0 [rp0] = (q, 0) /\ q.length = 20 := by
 refine ⟨plsL svc0.c.M (metP [A0]), ?_, pls1⟩
 unfold plcR
 rw [if_neg (fun hh => hh giv1)]
 show (plsL svc0.c.M (metP [alwP svc0 brn0 rp0]), (0 : Int)) = _
 rw [alw0]
theorem ord3 : ordL [rp0, rp1, rp2] = [0, 1, 2] := by
 unfold ordL ordF
 rw [List.mergeSort_of_pairwise (by decide +kernel)]
 rfl
theorem zq3 : agrB svc0 [A0, A1, A2] [0, 1, 2] = false := by decide +kernel
theorem agr12 : agrB svc0 [A0, A1, A2] [1, 2] = true := by decide +kernel
theorem agr02 : agrB svc0 [A0, A1, A2] [0, 2] = false := by decide +kernel
theorem agr0 : agrB svc0 [A0, A1, A2] [0] = true := by decide +kernel
theorem cr3 : crL (agrB svc0 [A0, A1, A2]) [0, 1, 2] = [0, 2] := by
 have r0 : rmL [0, 1, 2] 0 = [1, 2] := by unfold rmL; rfl
 have r1 : rmL [0, 1, 2] 1 = [0, 2] := by unfold rmL; rfl
 have r2 : rmL [0, 2] 1 = [0] := by unfold rmL; rfl
 show crS (agrB svc0 [A0, A1, A2]) 3 [0, 1, 2] 0 = _
 unfold crS; rw [r0, if_pos agr12]
 unfold crS; rw [r1, if_neg (by rw [agr02]; decide +kernel)]
 unfold crS; rw [r2, if_pos agr0]
 rfl
theorem zqH : corR svc0 brn0 [rp0, rp1, rp2] = ([5, 7], 0) := by
 unfold corR
 rw [if_neg (fun hh => hh giv3)]
 show (if agrB svc0 [alwP svc0 brn0 rp0, alwP svc0 brn0 rp1, alwP svc0 brn0 rp2] (ordL [rp0, rp1, rp2]) = true then _ else (idsL [rp0, rp1, rp2] (crL (agrB svc0 [alwP svc0 brn0 rp0, alwP svc0 brn0 rp1, alwP svc0 brn0 rp2]) (ordL [rp0, rp1, rp2])), (0 : Int))) = _
 rw [alw0, alw1, alw2, ord3, if_neg (by rw [zq3]; decide +kernel), cr3]
 have e : idsL [rp0, rp1, rp2] [0, 2] = [5, 7] := by
  show [5, 7].mergeSort _ = _
  rw [List.mergeSort_of_pairwise (by decide +kernel)]
 rw [e]
theorem zqG : mstR svc0 brn0 [rp0, rp1] 0 1 = (10, ⟨10, 10⟩, 0) := by
 unfold mstR
 rw [zf5]
 decide +kernel
theorem lkE0 : lkE svc0 lk0 = 0 := by
 have e : rptE svc0 (blkO lk0) = 0 := rpt0 (blkO lk0) (by decide +kernel) (.inr rfl) (by decide +kernel) rfl fun h => absurd h (by decide +kernel)
 unfold lkE zLk
 rw [if_neg (fun hh => hh e), zer0 lk0.C lk0.Tick (.inr rfl) (by decide +kernel)]
 decide +kernel
theorem see0 : seeP svc0 brn0 (metP [A0]) lk0 = fun n => metP [A0] n && liesW ⟨1299, 1401⟩ ⟨20, 0⟩ ⟨((n % 21 : Nat) : Int), ((n / 21 : Nat) : Int)⟩ := by
 funext n
 unfold seeP
 have ew : wideL svc0 lk0 = ⟨1299, 1401⟩ := by
  unfold wideL zLk
  rw [zer0 lk0.C lk0.Tick (.inr rfl) (by decide +kernel)]; decide +kernel
 have ea : (towG svc0.c.T lk0.Tower).1.At = ⟨20, 0⟩ := by decide +kernel
 rw [ew, ea]
 by_cases h : n < 441
 ·rw [show brn0.Rise = 10 from rfl, zpT lk0.Tower (.inr rfl) _ (plc0 h) lk0.Tick (by decide +kernel)]
  rw [show within lk0.Tick brn0.From brn0.To = true by decide +kernel]
  simp only [Bool.and_true, decide_true]; rfl
 ·have : metP [A0] n = false := by show ((decide (n < 441) && _) && _) = false; rw [decide_eq_false h]; rfl
  rw [this]; rfl
theorem zmG : behR svc0 brn0 [rp0] lk0 = (1, 19, 0) := by
 unfold behR
 rw [if_neg (fun hh => hh giv1)]
 show fndR svc0 brn0 (metP [alwP svc0 brn0 rp0]) lk0 = _
 rw [alw0]
 have eb : alwP svc0 brn0 (blkO lk0) = notP ⟨1301, 1399⟩ ⟨20, 0⟩ := zqZ _ _ _ (by decide +kernel) (.inr rfl) (by decide +kernel) (by decide +kernel) (by
  unfold secR
  rw [if_neg (by decide +kernel), blk0 (blkO lk0) (.inr rfl) (by decide +kernel) (by decide +kernel)]; decide +kernel) (by decide +kernel)
 have e1 : seeK svc0 brn0 (metP [A0]) lk0 svc0.n = 1 := by
  unfold seeK
  rw [see0]
  decide +kernel
 have e2 : (plsL svc0.c.M (metP [metP [A0], notP ⟨1301, 1399⟩ ⟨20, 0⟩])).length = 19 := by decide +kernel
 unfold fndR
 rw [if_neg (fun hh => hh lkE0), eb, e1, e2]; rfl
abbrev rps0 : List Rpt := [rp0, rp1, rp2]
theorem ziY : Spec PP 34 [] [svc0.v] := by
 refine sA Tryz.func34 ?_
 refine ⟨⟨by decide, rfl, by decide, by decide⟩, ?_⟩
 refine r1C rfl rfl rfl rfl rfl rfl ⟨⟨rfl, rfl⟩, ⟨rfl, rfl⟩, ⟨rfl, .inr ⟨rfl, fun i hi j hj => ?_⟩⟩, ⟨rfl, .inr ⟨rfl, fun i hi j hj => ?_⟩⟩, rfl, ⟨rfl, .inr ⟨rfl, fun i hi j hj => ?_⟩⟩, rfl, trivial⟩
 ·have hj : j < 1 := hj
  obtain rfl : j = 0 := by omega
  refine ⟨rfl, ?_⟩
  show (0 : Int) = (List.replicate 441 (0 : Int)).getD i 0
  rw [gdq, List.getElem?_replicate]
  split <;> rfl
 ·have h1 : i = 0 \/ i = 1 := by omega
  have hj : j < 4 := hj
  have h2 : j = 0 \/ j = 1 \/ j = 2 \/ j = 3 := by omega
  rcases h1 with rfl | rfl <;> rcases h2 with rfl | rfl | rfl | rfl <;> exact ⟨rfl, rfl⟩
 ·have h1 : i = 0 \/ i = 1 := by omega
  have hj : j < 8 := hj
  have h2 : j = 0 \/ j = 1 \/ j = 2 \/ j = 3 \/ j = 4 \/ j = 5 \/ j = 6 \/ j = 7 := by omega
  rcases h1 with rfl | rfl <;> rcases h2 with rfl | rfl | rfl | rfl | rfl | rfl | rfl | rfl <;> exact ⟨rfl, rfl⟩
theorem ziZ : Spec PP 35 [] [.d (lR rps0)] := by
 refine sA Tryz.func35 ?_
 refine ⟨⟨_, _, _, _, rfl, ⟨rfl, .inr ⟨rfl, fun i hi j hj => ?_⟩⟩⟩, trivial⟩
 have h1 : i = 0 \/ i = 1 \/ i = 2 := by omega
 have hj : j < 8 := hj
 have h2 : j = 0 \/ j = 1 \/ j = 2 \/ j = 3 \/ j = 4 \/ j = 5 \/ j = 6 \/ j = 7 := by omega
 rcases h1 with rfl | rfl | rfl <;> rcases h2 with rfl | rfl | rfl | rfl | rfl | rfl | rfl | rfl <;> exact ⟨rfl, rfl⟩
theorem zmQ (R : List Rpt) (k : Nat) (h : k <= R.length) : D.eqv (.slc 8 k fun i => (R.getD i default).at) (lR (R.take k)) := by
 refine ⟨by rw [List.length_take]; omega, .inr ⟨rfl, fun i hi j hj => ?_⟩⟩
 show D.eqv ((R.getD i default).at j) (((R.take k).getD i default).at j)
 have e : (R.take k).getD i default = R.getD i default := by
  rw [gdq, List.getElem?_take, if_pos hi, <- gdq]
 rw [e]; exact dE _
theorem zoU : Spec PP 36 [.d (lR rps0), N 10] [.agg [I 20, I 30, I 10], .d (.int .i64 0)] := by
 have h := zoN rps0 10 (by decide)
 rw [zo0] at h; exact h
theorem zmv : Spec PP 37 [svc0.v, rp2.v] [.agg [I 301, I 499], B true, .d (.int .i64 0)] := by
 have h := zmn svc0 rp2
 rw [zmF] at h; exact h
theorem h_Places2 : Spec PP 26 [svc0.v, brn0.v, .d (lR [rp0, rp1])] [.d (lP [⟨10, 10⟩]), .d (.int .i64 0)] := by
 have h := zdb svc0 brn0 [rp0, rp1]
 rw [zf5] at h; exact h
theorem zks : ∃ q : List Place, q.length = 20 /\ Spec PP 26 [svc0.v, brn0.v, .d (lR [rp0])] [.d (lP q), .d (.int .i64 0)] := by
 obtain ⟨q, hq, hl⟩ := zkG
 have h := zdb svc0 brn0 [rp0]
 rw [hq] at h; exact ⟨q, hl, h⟩
theorem zqx : Spec PP 28 [svc0.v, brn0.v, .d (lR rps0)] [.d (lI [5, 7]), .d (.int .i64 0)] := by
 have h := znw svc0 brn0 rps0
 rw [zqH] at h; exact h
theorem h_Most : Spec PP 10 [svc0.v, brn0.v, .d (lR [rp0, rp1]), .agg [I 0, I 1]] [N 10, .agg [I 10, I 10], .d (.int .i64 0)] := by
 have h := znv svc0 brn0 [rp0, rp1] 0 1
 rw [zqG] at h; exact h
theorem h_Behind : Spec PP 38 [svc0.v, brn0.v, .d (lR [rp0]), lk0.v] [.agg [I 1, I 19], .d (.int .i64 0)] := by
 have h := zmq svc0 brn0 [rp0] lk0
 rw [zmG] at h; exact h
abbrev cutR (k : Nat) : D := .slc 8 k fun i => (rps0.getD i default).at
theorem zk9 : Spec PP 26 [svc0.v, brn0.v, .d (cutR 2)] [.d (lP [⟨10, 10⟩]), .d (.int .i64 0)] := h_Places2.eqv ⟨zaa _, zaa _, zmQ rps0 2 (by decide), trivial⟩
theorem zqR : Spec PP 10 [svc0.v, brn0.v, .d (cutR 2), .agg [I 0, I 1]] [N 10, .agg [I 10, I 10], .d (.int .i64 0)] := h_Most.eqv ⟨zaa _, zaa _, zmQ rps0 2 (by decide), zaa _, trivial⟩
theorem zm1 : Spec PP 38 [svc0.v, brn0.v, .d (cutR 1), lk0.v] [.agg [I 1, I 19], .d (.int .i64 0)] := h_Behind.eqv ⟨zaa _, zaa _, zmQ rps0 1 (by decide), zaa _, trivial⟩
theorem zbb : Spec PP 9 [] [B true] := by
 obtain ⟨q, hq, hPl⟩ := zks
 have hPl : Spec PP 26 [svc0.v, brn0.v, .d (cutR 1)] [.d (lP q), .d (.int .i64 0)] := hPl.eqv ⟨zaa _, zaa _, zmQ rps0 1 (by decide), trivial⟩
 refine sA Tryz.func9 ?_
 refine CallSt.ro ziY rfl rfl ?_
 refine CallSt.ro ziZ rfl rfl ?_
 refine cP zoU rfl rfl ?_
 repeat first | apply sT | apply sF | refine Split.no rfl ?_ | refine Split.yes rfl ?_
 refine oL (List.range 13) (FzOb.no ?_)
 refine ⟨⟨rfl, by decide, by decide⟩, ?_⟩
 refine oP zmv rfl rfl ?_
 refine oL (List.range 10) (FzOb.no ?_)
 refine ⟨⟨by decide, by decide, by decide⟩, ?_⟩
 refine CallOb.ro zk9 rfl rfl ?_
 refine oL (List.range 10) (FzOb.no ?_)
 refine ⟨⟨by decide, by decide, by decide⟩, ?_⟩
 refine CallOb.ro hPl rfl rfl ?_
 refine CallSt.ro zqx rfl rfl ?_
 refine oL (List.range 14) (FzOb.no ?_)
 refine ⟨⟨by decide, by decide, by decide⟩, ?_⟩
 refine oP zqR rfl rfl ?_
 repeat first | apply sT | apply sF | refine Split.no rfl ?_ | refine Split.yes rfl ?_
 refine oL (List.range 12) (FzOb.no ?_)
 refine ⟨⟨by decide, by decide, by decide⟩, ?_⟩
 refine oP zm1 rfl rfl ?_
 refine CallSt.pureE (zfG [⟨10, 10⟩] [⟨10, 10⟩] (by decide)) rfl ⟨dE _, zdd (at2 rfl rfl)⟩ rfl ?_
 refine Split.yes (by decide) ?_
 refine sT ?_
 refine Split.yes (by rw [hq]; rfl) ?_
 refine CallSt.pureE (zin [5, 7] [5, 7] (by decide)) rfl ⟨dE _, ⟨rfl, .inr ⟨rfl, fun i hi j hj => ?_⟩⟩, trivial⟩ rfl ?_
 ·have hj : j < 1 := hj
  obtain rfl : j = 0 := by omega
  have h1 : i = 0 \/ i = 1 := by omega
  rcases h1 with rfl | rfl <;> exact ⟨rfl, rfl⟩
 refine Split.yes (by decide) ?_
 repeat first | apply sT | apply sF | refine Split.no rfl ?_ | refine Split.yes rfl ?_ | refine bY (fun _ => ?_) (fun h => by cases h)
 exact r1B rfl rfl
theorem rep_lR {w : World} {ok : Nat -> Prop} {x : D} {v : Value} (hr : Rep1 w ok (.d x) v) (h : All2 Fits [.sl 8 (fun j => shSl.getD' [.int .i64, .int .i64, .int .i64, .int .i64, .int .i64, .int .i64, .int .i64, .int .i64] j)] [x]) : ∃ l : List Rpt, Rep1 w ok (.d (lR l)) v := by
 cases h with
 | cons h _ =>
 obtain ⟨l, _, _, hl⟩ := fitsL (at_ := Rpt.at) (fun g => ⟨g 0, g 1, g 2, g 3, g 4, g 5, g 6, g 7⟩) (fun j hj => by
  match j, hj with
  | 0, _ => rfl
  | 1, _ => rfl
  | 2, _ => rfl
  | 3, _ => rfl
  | 4, _ => rfl
  | 5, _ => rfl
  | 6, _ => rfl
  | 7, _ => rfl) (fun g j hj => by
  match j, hj with
  | 0, _ => rfl
  | 1, _ => rfl
  | 2, _ => rfl
  | 3, _ => rfl
  | 4, _ => rfl
  | 5, _ => rfl
  | 6, _ => rfl
  | 7, _ => rfl) h
 exact ⟨l, Rep.eqv hr hl⟩
end Go.Pg
