/- Texts joined and shortened by program. -/
import Derived.Test.YtooepbnecjepnaaGreatT6
import Derived.Test.YtooepbnecjepnaaGreatT7
import Derived.Test.YtooepbnecjepnaaGreatTB
import Derived.Test.YtooepbnecjepnaaGreatTA
import Derived.Test.YtooepbnecjepnaaGreatT5
import Derived.Test.YtooepbnecjepnaaGreatT4
import Derived.Test.YtooepbnecjepnaaGreatTC
set_option maxHeartbeats 4000000
set_option linter.all false
set_option maxRecDepth 100000
namespace Go.Pg
open Go.Proofs Go.RowKit
def shwB (a p : Place) (z sl : Int) : Bool := (on a && on p) && !decide (a = p) && within z (-300) 300 && within sl 1 100
def shwS (a p : Place) (z sl : Int) : Spn := if shwB a p z sl = true then ⟨-(-((bear a p).1 + (z - sl) * (bear a p).2) / (bear a p).2), ((bear a p).1 + (z + sl) * (bear a p).2) / (bear a p).2⟩ else ⟨0, 0⟩
theorem zpn (a p : Place) (z sl : Int) : Spec PP 67 [a.v, p.v, N z, N sl] [(shwS a p z sl).v, B (shwB a p z sl)] := by
 refine sA Tryz.func67 ?_
 have no : shwB a p z sl = false -> shwS a p z sl = ⟨0, 0⟩ := fun h => by unfold shwS; rw [h]; rfl
 refine CallSt.pureE (c_on [a, p] (Nat.le_of_ble_eq_true rfl)) rfl (zhU (at2 rfl rfl) (at2 rfl rfl)) rfl ?_
 apply bY <;> intro h2
 ·have h2 : (on a && on p) = false := by simp only [List.all_cons, List.all_nil, Bool.and_true, Bool.not_eq_true'] at h2; exact h2
  have e : shwB a p z sl = false := by unfold shwB; rw [h2]; rfl
  repeat first | apply sT | apply sF
  rw [no e, e]
  exact ⟨rtC (a := 8) rfl rfl rfl rfl rfl rfl (zaa _), rtB rfl rfl, trivial⟩
 have h2 : on a = true /\ on p = true := by simpa using h2
 repeat first | apply sT | apply sF
 apply bY <;> intro h3
 ·have h3 : a = p := of_decide_eq_true ((eqPW a p).symm.trans h3)
  have e : shwB a p z sl = false := by unfold shwB; rw [decide_eq_true h3]; simp
  repeat first | apply sT | apply sF
  rw [no e, e]
  exact ⟨rtC (a := 8) rfl rfl rfl rfl rfl rfl (zaa _), rtB rfl rfl, trivial⟩
 have h3 : a ≠ p := of_decide_eq_false ((eqPW a p).symm.trans h3)
 refine cP (zaB z (-300) 300) rfl rfl ?_
 repeat first | apply sT | apply sF
 apply bY <;> intro h4
 ·have h4 : within z (-300) 300 = false := by simpa using h4
  have e : shwB a p z sl = false := by unfold shwB; rw [h4]; simp
  repeat first | apply sT | apply sF
  rw [no e, e]
  exact ⟨rtC (a := 8) rfl rfl rfl rfl rfl rfl (zaa _), rtB rfl rfl, trivial⟩
 have h4 : within z (-300) 300 = true := by simpa using h4
 refine cP (zaB sl 1 100) rfl rfl ?_
 repeat first | apply sT | apply sF
 apply bY <;> intro h5
 ·have h5 : within sl 1 100 = false := by simpa using h5
  have e : shwB a p z sl = false := by unfold shwB; rw [h5]; simp
  repeat first | apply sT | apply sF
  rw [no e, e]
  exact ⟨rtC (a := 8) rfl rfl rfl rfl rfl rfl (zaa _), rtB rfl rfl, trivial⟩
 have h5 : within sl 1 100 = true := by simpa using h5
 have e : shwB a p z sl = true := by unfold shwB; rw [h2.1, h2.2, decide_eq_false h3, h4, h5]; rfl
 have e2 : shwS a p z sl = ⟨-(-((bear a p).1 + (z - sl) * (bear a p).2) / (bear a p).2), ((bear a p).1 + (z + sl) * (bear a p).2) / (bear a p).2⟩ := by unfold shwS; rw [if_pos e]
 have b4 := zab.1 h4
 have b5 := zab.1 h5
 have hb := zbB h2.1 h2.2 h3
 have m1 := mulB (a := z - sl) (b := (bear a p).2) (x := 400) (y := 48) (by omega) (by omega)
 have m2 := mulB (a := z + sl) (b := (bear a p).2) (x := 400) (y := 48) (by omega) (by omega)
 rw [e, e2]
 refine cP (zdW a p h2.1 h2.2 h3) rfl rfl ?_
 refine ⟨i6, ⟨i6, ⟨i6, ?_⟩⟩⟩
 refine cP (zk6 ((bear a p).1 + (z - sl) * (bear a p).2) (bear a p).2 (by omega) (by omega)) rfl rfl ?_
 refine ⟨i6, ⟨i6, ⟨i6, ?_⟩⟩⟩
 refine cP (zg3 ((bear a p).1 + (z + sl) * (bear a p).2) (bear a p).2 (by omega) (by omega)) rfl rfl ?_
 exact ⟨rtC (a := 8) rfl rfl rfl rfl rfl rfl (zaa _), rtB rfl rfl, trivial⟩
def alnK (c : Cirs) (id : Int) : Chk := c.K.getD (chkI c id).toNat default
def alnR (c : Cirs) (id : Int) : Spn × Int :=
 if cirsE c ≠ 0 then (⟨0, 0⟩, cirsE c) else if chkI c id < 0 then (⟨0, 0⟩, 5)
 else if (alo (chkO c (alnK c id)) (alnK c id)).Hi < (alo (chkO c (alnK c id)) (alnK c id)).Lo then (⟨0, 0⟩, 9) else (alo (chkO c (alnK c id)) (alnK c id), 0)
theorem zpg {c : Cirs} {id : Int} (h : ¬ chkI c id < 0) : (chkI c id).toNat < c.K.length /\ chkI c id = ((chkI c id).toNat : Int) := by
 rcases idxL_cases (fun x : Chk => x.ID == id) c.K default with ⟨e, -⟩ | ⟨i, hi, e, -, -⟩
 ·exact absurd (show chkI c id < 0 by unfold chkI; rw [e]; decide) h
 ·have e : chkI c id = (i : Int) := e
  rw [e]; exact ⟨by omega, by omega⟩
theorem zpo (c : Cirs) (id : Int) : Spec PP 63 [c.v, N id] [(alnR c id).1.v, .d (.int .i64 (alnR c id).2)] := by
 refine sA Tryz.func63 ?_
 refine cP (zfk c) rfl rfl ?_
 apply bY <;> intro h0
 ·have e : alnR c id = (⟨0, 0⟩, cirsE c) := by unfold alnR; rw [if_pos (by simpa using h0)]
  rw [e]
  exact ⟨rtC (a := 4) rfl rfl rfl rfl rfl rfl (zaa _), rtI rfl rfl, trivial⟩
 have h0 : cirsE c = 0 := by simpa using h0
 have ok := zbf h0
 have okn := ok.n
 have okm := ok.m
 refine cP (zge c id (by omega)) rfl rfl ?_
 apply bY <;> intro h1
 ·have e : alnR c id = (⟨0, 0⟩, 5) := by unfold alnR; rw [if_neg (fun h => h h0), if_pos (dT h1)]
  rw [e]
  exact ⟨rtC (a := 4) rfl rfl rfl rfl rfl rfl (zaa _), rtI rfl rfl, trivial⟩
 have h1 : ¬ chkI c id < 0 := dF h1
 obtain ⟨l1, l2⟩ := zpg h1
 have kk := ok.ks _ l1
 have hk : c.K.getD (chkI c id).toNat default = alnK c id := rfl
 rw [hk] at kk
 have hc : ¬ cirI c (alnK c id).C < 0 := by have := kk.cc; omega
 obtain ⟨c1, c2⟩ := za9 hc
 have co := ok.cs _ c1
 refine ⟨⟨rfl, by omega, by omega⟩, ?_⟩
 refine oL (List.range 12) (FzOb.no ?_)
 refine oP (zb6 c (alnK c id).C (by omega)) rfl rfl ?_
 refine ⟨⟨rfl, by omega, by omega⟩, ?_⟩
 refine oP (zk7 (chkO c (alnK c id)) (alnK c id) co.on kk.on (fun h => kk.ne h.symm) kk.s kk.l) rfl rfl ?_
 apply bY <;> intro h2
 ·have e : alnR c id = (⟨0, 0⟩, 9) := by unfold alnR; rw [if_neg (fun h => h h0), if_neg h1, if_pos (dT h2)]
  rw [e]
  exact ⟨rtC (a := 4) rfl rfl rfl rfl rfl rfl (zaa _), rtI rfl rfl, trivial⟩
 have e : alnR c id = (alo (chkO c (alnK c id)) (alnK c id), 0) := by unfold alnR; rw [if_neg (fun h => h h0), if_neg h1, if_neg (dF h2)]
 rw [e]
 exact ⟨rtC (a := 4) rfl rfl rfl rfl rfl rfl (zaa _), rtI rfl rfl, trivial⟩
structure Rl where
  At : Place
  Z : List Int
  deriving Inhabited
abbrev Rl.ds (x : Rl) : List D := [I x.At.X, I x.At.Y, lI x.Z]
abbrev Rl.v (x : Rl) : V1 := .agg x.ds
theorem zbr (n : Int) (hn : -1000000000000 <= n /\ n <= 1000000000000) : Spec PP 69 [N n] [N (n % 3600)] := by
 have h1 := Int.tmod_lt_of_pos n (show (0 : Int) < 3600 by decide)
 have h2 := Int.tmod_lt_of_pos (-n) (show (0 : Int) < 3600 by decide)
 rw [Int.neg_tmod] at h2
 refine sA Tryz.func69 ?_
 refine ⟨by omega, ⟨i6, ⟨by omega, ?_⟩⟩⟩
 refine r1I rfl ?_
 rw [Int.tmod_eq_emod_of_nonneg (by omega), Int.add_emod_right]
 rw [Int.tmod_def, Int.sub_mul_emod_self_left]
def zroI (s : Svc) (x : Rl) (id : Int) : Int := idxL (fun c : Cir => c.ID == id) s.k.C
def zroR (s : Svc) (x : Rl) (id : Int) : Int := if zroI s x id < 0 then 0 else x.Z.getD (zroI s x id).toNat 0
theorem zpC (s : Svc) (x : Rl) (id : Int) (hz : x.Z.length = s.k.C.length) (hn : s.k.C.length <= 1000000) : Spec PP 68 [s.v, x.v, N id] [N (zroR s x id)] := by
 refine sA Tryz.func68 ?_
 refine LoopOb.of (σ := Nat) (fun i => ([(2, .d (I id)), (4, .box 4 0), (11, .d (lC s.k.C)), (12, .d (I s.k.C.length)), (13, .d (I i))], [(4, .box (x.ds.map AV.d))])) (fun i => i <= s.k.C.length /\ ∀ j, j < i -> ((s.k.C.getD j default).ID == id) = false) (fun i => s.k.C.length - i) 0
  ⟨rfl, ⟨obD x.ds rfl, trivial⟩, wq rfl⟩ z0L fun i hi => ?_
 obtain ⟨i1, i2⟩ := hi
 apply bY <;> intro g1
 ·have g1 : i < s.k.C.length := by have := dT g1; omega
  refine ⟨⟨rfl, by omega, by omega⟩, ?_⟩
  apply bY <;> intro g2
  ·have g2 : ((s.k.C.getD i default).ID == id) = true := g2
   repeat first | apply sT | apply sF
   refine Split.yes (decide_eq_true (show (i : Int) < (x.Z.length : Int) by omega)) ?_
   refine ⟨⟨rfl, by omega, (show (i : Int) < (x.Z.length : Int) by omega)⟩, ?_⟩
   refine r1I rfl ?_
   have e := zbm (p := fun c : Cir => c.ID == id) default g1 g2 i2
   have e : zroI s x id = i := e
   unfold zroR
   rw [e, if_neg (by omega)]
  ·have g2 : ((s.k.C.getD i default).ID == id) = false := g2
   repeat first | apply sT | apply sF
   refine ⟨i6, ?_⟩
   refine ⟨i + 1, ⟨rfl, ⟨obD x.ds rfl, trivial⟩, wq rfl⟩, ⟨g1, fun j hj => ?_⟩, msr g1⟩
   by_cases e : j = i
   ·subst e; exact g2
   ·exact i2 j (by omega)
 have g1 : i = s.k.C.length := by have := dF g1; omega
 subst g1
 refine r1I rfl ?_
 have e : zroI s x id = -1 := zbn (p := fun c : Cir => c.ID == id) default i2
 unfold zroR
 rw [e, if_pos (by decide)]
def posK (s : Svc) (x : Rl) (i : Nat) (k : Chk) : Bool := k.C != (s.k.C.getD i default).ID || (decide ((alnR s.k k.ID).2 = 0) && !decide (x.Z.getD i 0 < (alnR s.k k.ID).1.Lo) && !decide ((alnR s.k k.ID).1.Hi < x.Z.getD i 0))
def posC (s : Svc) (x : Rl) (i : Nat) : Bool := !decide (x.Z.getD i 0 < (s.k.C.getD i default).Lo) && !decide ((s.k.C.getD i default).Hi < x.Z.getD i 0) && s.k.K.all (posK s x i)
def posB (s : Svc) (x : Rl) : Bool := decide (x.Z.length = s.k.C.length) && (List.range s.k.C.length).all (posC s x)
theorem zhw {s : Svc} {x : Rl} {i : Nat} (hi : i < s.k.C.length) (h : posC s x i = false) : posB s x = false := by
 unfold posB
 rw [Bool.and_eq_false_iff]
 refine .inr (Bool.eq_false_iff.2 fun g => ?_)
 have := List.all_eq_true.1 g i (List.mem_range.2 hi)
 rw [h] at this; cases this
theorem zid (s : Svc) (x : Rl) (hn : s.k.C.length <= 1000000) (hk : s.k.K.length <= 1000000) : Spec PP 22 [s.v, x.v] [B (posB s x)] := by
 refine sA Tryz.func22 ?_
 apply bY <;> intro h0
 ·have h0 : x.Z.length ≠ s.k.C.length := by
   have : ¬ (x.Z.length : Int) = s.k.C.length := by simpa using h0
   omega
  refine r1B rfl ?_
  unfold posB; rw [decide_eq_false h0]; rfl
 have h0 : x.Z.length = s.k.C.length := by
  have : (x.Z.length : Int) = s.k.C.length := by simpa using h0
  omega
 refine LoopOb.of (σ := Nat) (fun i => ([(2, .box 2 0), (3, .box 3 0), (22, .d (lC s.k.C)), (23, .d (I s.k.C.length)), (24, .d (I i))], [(2, .box (s.ds.map AV.d)), (3, .box (x.ds.map AV.d))])) (fun i => i <= s.k.C.length /\ ∀ j, j < i -> posC s x j = true) (fun i => s.k.C.length - i) 0
  ⟨rfl, ⟨obD s.ds rfl, obD x.ds rfl, trivial⟩, wq rfl⟩ z0L fun i hi => ?_
 obtain ⟨i1, i2⟩ := hi
 apply bY <;> intro g1
 ·have g1 : i < s.k.C.length := by have := dT g1; omega
  refine ⟨⟨rfl, by omega, by omega⟩, ?_⟩
  refine ⟨⟨rfl, by omega, (show (i : Int) < (x.Z.length : Int) by omega)⟩, ?_⟩
  have bad : posC s x i = false -> Spec PP 22 [s.v, x.v] [B (posB s x)] -> posB s x = false := fun h _ => zhw g1 h
  apply bY <;> intro g2
  ·have g2 : x.Z.getD i 0 < (s.k.C.getD i default).Lo := dT g2
   repeat first | apply sT | apply sF
   refine r1B rfl ?_
   rw [zhw g1]
   unfold posC; rw [decide_eq_true g2]; rfl
  have g2 : ¬ x.Z.getD i 0 < (s.k.C.getD i default).Lo := dF g2
  repeat first | apply sT | apply sF
  apply bY <;> intro g3
  ·have g3 : (s.k.C.getD i default).Hi < x.Z.getD i 0 := dT g3
   repeat first | apply sT | apply sF
   refine r1B rfl ?_
   rw [zhw g1]
   unfold posC; rw [decide_eq_true g3]; simp
  have g3 : ¬ (s.k.C.getD i default).Hi < x.Z.getD i 0 := dF g3
  repeat first | apply sT | apply sF
  have eC : posC s x i = s.k.K.all (posK s x i) := by unfold posC; rw [decide_eq_false g2, decide_eq_false g3]; rfl
  refine LoopOb.of (σ := Nat) (fun k => ([(2, .box 2 0), (3, .box 3 0), (6, .box 6 0), (7, .d (I (x.Z.getD i 0))), (22, .d (lC s.k.C)), (23, .d (I s.k.C.length)), (24, .d (I i)), (48, .d (lK s.k.K)), (49, .d (I s.k.K.length)), (50, .d (I k))], [(2, .box (s.ds.map AV.d)), (3, .box (x.ds.map AV.d)), (6, .box ((s.k.C.getD i default).ds.map AV.d))])) (fun k => k <= s.k.K.length /\ ∀ j, j < k -> posK s x i (s.k.K.getD j default) = true) (fun k => s.k.K.length - k) 0
   ⟨rfl, ⟨obD s.ds rfl, obD x.ds rfl, obX rfl, trivial⟩, wq rfl⟩ z0L fun k hk' => ?_
  obtain ⟨k1, k2⟩ := hk'
  apply bY <;> intro g4
  ·have g4 : k < s.k.K.length := by have := dT g4; omega
   refine ⟨⟨rfl, by omega, by omega⟩, ?_⟩
   have nok : posK s x i (s.k.K.getD k default) = false -> posB s x = false := fun h => zhw g1 (by
    rw [eC, Bool.eq_false_iff]
    intro g
    rw [List.all_eq_true.1 g _ (gd1 g4 default)] at h; cases h)
   have nxt : posK s x i (s.k.K.getD k default) = true -> ∀ j, j < k + 1 -> posK s x i (s.k.K.getD j default) = true := fun h j hj => by
    by_cases e : j = k
    ·subst e; exact h
    ·exact k2 j (by omega)
   apply bY <;> intro g5
   ·have g5 : ((s.k.K.getD k default).C != (s.k.C.getD i default).ID) = true := g5
    refine ⟨i6, ?_⟩
    exact ⟨k + 1, ⟨rfl, ⟨obD s.ds rfl, obD x.ds rfl, obX rfl, trivial⟩, wq rfl⟩, ⟨g4, nxt (by unfold posK; rw [g5]; rfl)⟩, msr g4⟩
   have g5 : ((s.k.K.getD k default).C != (s.k.C.getD i default).ID) = false := g5
   refine cP (zpo s.k (s.k.K.getD k default).ID) rfl rfl ?_
   apply bY <;> intro g6
   ·have g6 : (alnR s.k (s.k.K.getD k default).ID).2 ≠ 0 := by simpa using g6
    repeat first | apply sT | apply sF
    refine r1B rfl ?_
    rw [nok]
    unfold posK; rw [g5, decide_eq_false g6]; rfl
   have g6 : (alnR s.k (s.k.K.getD k default).ID).2 = 0 := by simpa using g6
   repeat first | apply sT | apply sF
   apply bY <;> intro g7
   ·have g7 : x.Z.getD i 0 < (alnR s.k (s.k.K.getD k default).ID).1.Lo := dT g7
    repeat first | apply sT | apply sF
    refine r1B rfl ?_
    rw [nok]
    unfold posK; rw [g5, decide_eq_true g7]; simp
   have g7 : ¬ x.Z.getD i 0 < (alnR s.k (s.k.K.getD k default).ID).1.Lo := dF g7
   repeat first | apply sT | apply sF
   apply bY <;> intro g8
   ·have g8 : (alnR s.k (s.k.K.getD k default).ID).1.Hi < x.Z.getD i 0 := dT g8
    repeat first | apply sT | apply sF
    refine r1B rfl ?_
    rw [nok]
    unfold posK; rw [g5, decide_eq_true g8]; simp
   have g8 : ¬ (alnR s.k (s.k.K.getD k default).ID).1.Hi < x.Z.getD i 0 := dF g8
   repeat first | apply sT | apply sF
   refine ⟨i6, ?_⟩
   exact ⟨k + 1, ⟨rfl, ⟨obD s.ds rfl, obD x.ds rfl, obX rfl, trivial⟩, wq rfl⟩, ⟨g4, nxt (by unfold posK; rw [g6, decide_eq_false g7, decide_eq_false g8]; simp)⟩, msr g4⟩
  have g4 : k = s.k.K.length := by have := dF g4; omega
  subst g4
  refine ⟨i6, ?_⟩
  refine ⟨i + 1, ⟨rfl, ⟨obD s.ds rfl, obD x.ds rfl, trivial⟩, wq rfl⟩, ⟨g1, fun j hj => ?_⟩, msr g1⟩
  by_cases e : j = i
  ·subst e
   rw [eC, List.all_eq_true]
   intro k hk
   obtain ⟨m, hm, rfl⟩ := List.getElem_of_mem hk
   have := k2 m hm
   rw [gdq, gqe hm] at this
   exact this
  ·exact i2 j (by omega)
 have g1 : i = s.k.C.length := by have := dF g1; omega
 subst g1
 refine r1B rfl ?_
 symm
 unfold posB
 rw [decide_eq_true h0, Bool.true_and, List.all_eq_true]
 exact fun j hj => i2 j (List.mem_range.1 hj)
theorem zku {s : Svc} {b : Brn} {l : List Rpt} : givE s b l = 0 ↔ svcE s = 0 /\ brnB b = true /\ l.length <= 24 /\ (∀ r ∈ l, rptE s r = 0) /\ (l.map Rpt.ID).Nodup := by
 have hnd : (l.map Rpt.ID).Nodup ↔ ∀ i j, i < j -> j < l.length -> (l.getD i default).ID ≠ (l.getD j default).ID := by grind [zgE, Rpt]
 have hc : ∀ i, i < l.length -> (((l.take i).map Rpt.ID).contains (l.getD i default).ID = false ↔ ∀ j, j < i -> (l.getD j default).ID ≠ (l.getD i default).ID) := fun i hi => by
  constructor
  ·grind [zkp]
  ·grind [zkp]
 constructor
 ·intro h
  have h0 : svcE s = 0 := by grind [givE]
  unfold givE at h
  rw [if_neg (fun hh => hh h0)] at h
  cases hb : brnB b with
  | false => rw [hb, if_pos rfl] at h; cases h
  | true =>
   rw [hb, if_neg (by decide)] at h
   by_cases hl : 24 < l.length
   ·omega
   rw [if_neg hl] at h
   have hz := za8 h
   have hr : ∀ j, j < l.length -> rptE s (l.getD j default) = 0 /\ ((l.take j).map Rpt.ID).contains (l.getD j default).ID = false := fun j hj => by
    have h1 := hz j hj
    unfold rp1E at h1
    by_cases h2 : rptE s (l.getD j default) = 0
    ·grind
    ·omega
   refine ⟨h0, rfl, by omega, fun r hrr => ?_, hnd.2 fun i j hij hj => (hc j hj).1 (hr j hj).2 i hij⟩
   obtain ⟨j, hj, rfl⟩ := zaX default hrr
   exact (hr j hj).1
 grind [givE, rp1E, zbe, gd1]
theorem zjQ {m : Mp} {P : Nat -> Bool} : 0 < (plsL m P).length ↔ ∃ n, n < m.w * m.h /\ P n = true := by simp [plsL, plsK]
theorem zpx {s : Svc} {L : List (Nat -> Bool)} {js : List Int} : agrB s L js = true ↔ ∃ n, n < s.n /\ ∀ j ∈ js, L.getD j.toNat default n = true := by
 unfold agrB
 rw [decide_eq_true_iff, zjQ]
 simp [metP, selL]
@[irreducible] def rmB (L : List (Nat -> Bool)) (i : Nat) : List (Nat -> Bool) := L.take i ++ L.drop (i + 1)
theorem zoi {L : List (Nat -> Bool)} {i j : Nat} (hi : i < L.length) : (rmB L i)[j]? = if j < i then L[j]? else L[j + 1]? := by grind [rmB]
theorem zjG {L : List (Nat -> Bool)} {i : Nat} (hi : i < L.length) : (rmB L i).length = L.length - 1 := by unfold rmB; simp; omega
def cntP (s : Svc) (P : Nat -> Bool) : Nat := (plsL s.c.M P).length
def ovrI (s : Svc) (L : List (Nat -> Bool)) (c : Nat) (k : Nat) : List Int := ((List.range k).filter fun i => decide (c < cntP s (metP (rmB L i)))).map fun i : Nat => (i : Int)
theorem zl0 {s : Svc} {L : List (Nat -> Bool)} {c k : Nat} (h : c < cntP s (metP (rmB L k))) : ovrI s L c (k + 1) = ovrI s L c k ++ [(k : Int)] := by
 unfold ovrI
 rw [List.range_succ, List.filter_append, List.map_append, List.filter_cons_of_pos (p := fun i => decide (c < cntP s (metP (rmB L i)))) (decide_eq_true h)]; rfl
theorem zow {s : Svc} {L : List (Nat -> Bool)} {c k : Nat} (h : ¬ c < cntP s (metP (rmB L k))) : ovrI s L c (k + 1) = ovrI s L c k := by
 unfold ovrI
 rw [List.range_succ, List.filter_append, List.map_append, List.filter_cons_of_neg (p := fun i => decide (c < cntP s (metP (rmB L i)))) (by rw [decide_eq_false h]; decide)]; simp
theorem zl2 (s : Svc) (L : List (Nat -> Bool)) (c k : Nat) : (ovrI s L c k).length <= k := by
 unfold ovrI
 grind
theorem zl1 {s : Svc} {L : List (Nat -> Bool)} {c k : Nat} {j : Int} : j ∈ ovrI s L c k ↔ ∃ i : Nat, i < k /\ c < cntP s (metP (rmB L i)) /\ j = i := by grind [ovrI]
def susR (s : Svc) (b : Brn) (l : List Rpt) : List Int × Int :=
 if givE s b l ≠ 0 then ([], givE s b l) else if 0 < cntP s (metP (l.map (alwP s b))) then ([], 0) else (idsL l (ovrI s (l.map (alwP s b)) 0 l.length), 0)
theorem zeB {x : Cir} (hx : 0 <= x.Drift) (a b : Int) : 0 <= drf x a b := by
 have := Int.mul_nonneg hx (show 0 <= max (a - b) (b - a) by omega)
 unfold drf; omega
theorem zo2 {x : Cir} (hx : 0 <= x.Drift) (a b t : Int) : drf x a b <= drf x a t + drf x b t := by
 have h1 := Int.mul_le_mul_of_nonneg_left (show max (a - b) (b - a) <= max (a - t) (t - a) + max (b - t) (t - b) by omega) hx
 rw [Int.mul_add] at h1
 unfold drf; omega
theorem zoZ {x : Cir} {l : List Thg} (hx : 0 <= x.Drift) (hf : Fine x l) {a b : Thg} (ha : a ∈ l) (hb : b ∈ l) (t : Int) : a.s.Lo - drf x a.k.Tick t <= b.s.Hi + drf x b.k.Tick t := by
 have key : ∀ i j, i < j -> j < l.length -> (l.getD i default).s.Lo - (l.getD j default).s.Hi <= drf x (l.getD i default).k.Tick (l.getD j default).k.Tick /\ (l.getD j default).s.Lo - (l.getD i default).s.Hi <= drf x (l.getD i default).k.Tick (l.getD j default).k.Tick := fun i j hij hj => by
  have := of_decide_eq_false (zgE.1 hf.2 i j hij hj)
  unfold gap at this
  omega
 obtain ⟨i, hi, rfl⟩ := zaX default ha
 obtain ⟨j, hj, rfl⟩ := zaX default hb
 have n1 := zeB hx (l.getD i default).k.Tick t
 have n2 := zeB hx (l.getD j default).k.Tick t
 have t1 := zo2 hx (l.getD i default).k.Tick (l.getD j default).k.Tick t
 rcases Nat.lt_trichotomy i j with h | h | h
 ·have := key i j h hj; omega
 ·subst h
  have := of_decide_eq_false (hf.1 _ (gd1 hi default))
  omega
 ·have := key j i h hi
  rw [zmK] at this
  omega
theorem zpy {x : Cir} {l : List Thg} (hx : 0 <= x.Drift) (hf : Fine x l) (ho : ∀ g ∈ l, ThgOk g) (t : Int) : (zer x l t).lo <= (zer x l t).hi := by
 unfold zer
 refine (ziR x t l _ _).2 ⟨(zhc x t l _ _).2 ⟨by decide, fun g hg => ?_⟩, fun g hg => (zhc x t l _ _).2 ⟨?_, fun g' hg' => zoZ hx hf hg hg' t⟩⟩
 ·have := (ho g hg).hi
  have := zeB hx g.k.Tick t
  show (-300 : Int) <= _
  omega
 ·have := (ho g hg).lo
  have := zeB hx g.k.Tick t
  show _ <= (300 : Int)
  omega
theorem znK {c : Cirs} {id t : Int} (h : (zerR c id t).2 = 0) : (zerR c id t).1.Lo <= (zerR c id t).1.Hi := by
 unfold zerR at h ⊢
 split at h
 ·rename_i h1; exact absurd h h1
 ·rename_i h1
  rw [if_neg h1]
  have h1 : (atR c id t).2.2 = 0 := Classical.byContradiction h1
  have h0 := zm7 h1
  obtain ⟨k1, k2, k3, k4, k5⟩ := zkl h0
  have ok := zbf k1
  have hx := ok.cs _ (za9 k2).1
  have e1 : (atR c id t).1 = c.C.getD (cirI c id).toNat default := k4
  have e2 : (atR c id t).2.1 = thsL c (c.C.getD (cirI c id).toNat default) := k5
  have h2 : agrE (atR c id t).1 (atR c id t).2.1 = 0 := by
   have h3 : (if (knw c id [t]).2.2 = 0 then agrE (knw c id [t]).1 (knw c id [t]).2.1 else (knw c id [t]).2.2) = 0 := h1
   rw [if_pos h0] at h3; exact h3
  have h3 : clsL (atR c id t).1 (atR c id t).2.1 = [] := by
   refine Classical.byContradiction fun g => ?_
   unfold agrE at h2; rw [if_neg g] at h2; cases h2
  rw [e1, e2] at h3 ⊢
  exact zpy hx.d.1 ((zmU _ _).1 h3) (zhk ok k2) t
theorem zdz {w : Wdg} (h1 : 0 <= w.F /\ w.F <= 3599) (h2 : 0 <= w.T /\ w.T <= 3599) : openW w = (w.T - w.F) % 3600 := by
 unfold openW; rw [if_pos ⟨zab.2 h1, zab.2 h2⟩]
theorem zkd {u t T m : Int} {a p : Place} (ht : 0 <= t /\ t <= T) (hm : 0 <= m) (hT : T + m <= 900) (h : liesW (wdg (u + t) m) a p = true) : liesW (wdg u (T + m)) a p = true := by
 unfold liesW at h ⊢
 simp only [Bool.and_eq_true, Bool.not_eq_true', decide_eq_false_iff_not, decide_eq_true_eq] at h ⊢
 obtain ⟨⟨⟨h1, h2⟩, h3⟩, h4⟩ := h
 have bk := zbB h2.1 h2.2 h3
 have o1 : openW (wdg (u + t) m) = m := by
  rw [zdz (by unfold wdg; dsimp only; omega) (by unfold wdg; dsimp only; omega)]
  unfold wdg; dsimp only; omega
 have o2 : openW (wdg u (T + m)) = T + m := by
  rw [zdz (by unfold wdg; dsimp only; omega) (by unfold wdg; dsimp only; omega)]
  unfold wdg; dsimp only; omega
 refine ⟨⟨⟨?_, h2⟩, h3⟩, ?_⟩
 ·unfold validW; rw [o2]; exact zab.2 (by omega)
 rw [o1] at h4
 rw [o2]
 generalize (bear a p).1 = n at *
 generalize (bear a p).2 = d at *
 have e1 : (n - (wdg (u + t) m).F * d) % (3600 * d) = (n - (u + t) * d) % (3600 * d) := by
  have : (wdg (u + t) m).F = (u + t) - 3600 * ((u + t) / 3600) := by unfold wdg; dsimp only; omega
  rw [this]
  have e : n - ((u + t) - 3600 * ((u + t) / 3600)) * d = (n - (u + t) * d) + (u + t) / 3600 * (3600 * d) := by grind
  rw [e, Int.add_mul_emod_self_right]
 have e2 : (n - (wdg u (T + m)).F * d) % (3600 * d) = (n - u * d) % (3600 * d) := by
  have : (wdg u (T + m)).F = u - 3600 * (u / 3600) := by unfold wdg; dsimp only; omega
  rw [this]
  have e : n - (u - 3600 * (u / 3600)) * d = (n - u * d) + u / 3600 * (3600 * d) := by grind
  rw [e, Int.add_mul_emod_self_right]
 rw [e1] at h4
 rw [e2]
 have hd : 0 < d := bk.1.1
 have x0 := Int.emod_nonneg (n - (u + t) * d) (show 3600 * d ≠ 0 by omega)
 generalize hX : (n - (u + t) * d) % (3600 * d) = X at *
 have m1 : 0 <= t * d := Int.mul_nonneg ht.1 (by omega)
 have m2 : t * d <= T * d := Int.mul_le_mul_of_nonneg_right ht.2 (by omega)
 have m3 : (T + m) * d <= 900 * d := Int.mul_le_mul_of_nonneg_right hT (by omega)
 have m4 : (T + m) * d = T * d + m * d := Int.add_mul _ _ _
 have q := Int.emod_add_mul_ediv (n - (u + t) * d) (3600 * d)
 rw [hX] at q
 have e3 : n - u * d = (X + t * d) + (n - (u + t) * d) / (3600 * d) * (3600 * d) := by
  have : (u + t) * d = u * d + t * d := Int.add_mul _ _ _
  rw [Int.mul_comm ((n - (u + t) * d) / (3600 * d))]
  omega
 rw [e3, Int.add_mul_emod_self_right, Int.emod_eq_of_lt (by omega) (by omega)]
 omega
theorem zbE {s : Svc} {r : Rpt} (h : rptE s r = 0) : frmB r = true /\ ¬ ((towG s.c.T r.Tower).2 = false \/ cirI s.k r.C < 0) /\ (s.k.C.getD (cirI s.k r.C).toNat default).At = (towG s.c.T r.Tower).1.At /\ (zerR s.k r.C r.Tick).2 = 0 := by
 unfold rptE at h
 split at h
 ·cases h
 rename_i h1
 split at h
 ·cases h
 rename_i h2
 split at h
 ·cases h
 rename_i h3
 split at h
 ·rename_i h4; exact absurd h h4
 rename_i h4
 exact ⟨by simpa using h1, h2, Classical.byContradiction h3, Classical.byContradiction h4⟩
theorem zp4 {s : Svc} {r : Rpt} (h : rptE s r = 0) (hk : r.Kind = 1) : (wdgR s.k (rdgO r)).2 = 0 := by
 obtain ⟨f1, f2, f3, f4⟩ := zbE h
 unfold rptE at h
 rw [if_neg (by rw [f1]; decide), if_neg f2, if_neg (fun hh => hh f3), if_neg (fun hh => hh f4), if_pos hk] at h
 exact h
theorem zpR (a p : Place) (z sl : Int) : (-1000 <= (shwS a p z sl).Lo /\ (shwS a p z sl).Lo <= 5000) /\ (-1000 <= (shwS a p z sl).Hi /\ (shwS a p z sl).Hi <= 5000) := by
 unfold shwS
 split
 ·rename_i h
  unfold shwB at h
  simp only [Bool.and_eq_true, Bool.not_eq_true', decide_eq_false_iff_not, zab] at h
  obtain ⟨⟨⟨⟨h1, h2⟩, h3⟩, h4⟩, h5⟩ := h
  obtain ⟨⟨d1, d2⟩, n1, n2⟩ := zbB h1 h2 h3
  dsimp only
  generalize (bear a p).1 = n at *
  generalize (bear a p).2 = d at *
  have q : ∀ m : Int, -400 <= m /\ m <= 400 -> -400 * d <= n + m * d /\ n + m * d <= 4000 * d := fun m hm => by
   have a := Int.mul_le_mul_of_nonneg_right hm.1 (Int.le_of_lt d1)
   have b := Int.mul_le_mul_of_nonneg_right hm.2 (Int.le_of_lt d1)
   omega
  have u1 := q (z - sl) (by omega)
  have u2 := q (z + sl) (by omega)
  refine ⟨⟨?_, ?_⟩, ?_, ?_⟩
  ·have := Int.ediv_le_of_le_mul (a := -(n + (z - sl) * d)) (b := 400) d1 (by omega); omega
  ·have := (Int.le_ediv_iff_mul_le (a := -4000) (b := -(n + (z - sl) * d)) d1).2 (by omega); omega
  ·have := (Int.le_ediv_iff_mul_le (a := -400) (b := n + (z + sl) * d) d1).2 (by omega); omega
  ·have := Int.ediv_le_of_le_mul (a := n + (z + sl) * d) (b := 4000) d1 (by omega); omega
 ·decide
def tolB (s : Svc) (b : Brn) (p : Place) (z : Int) (r : Rpt) : Bool :=
 if r.Kind = 1 then lookB s b r p && shwB (towG s.c.T r.Tower).1.At p z r.Slack && decide ((r.From - (shwS (towG s.c.T r.Tower).1.At p z r.Slack).Lo) % 3600 <= (shwS (towG s.c.T r.Tower).1.At p z r.Slack).Hi - (shwS (towG s.c.T r.Tower).1.At p z r.Slack).Lo)
 else !lookB s b r p || !shwB (towG s.c.T r.Tower).1.At p z r.Slack || decide ((r.To - r.From) % 3600 < ((shwS (towG s.c.T r.Tower).1.At p z r.Slack).Lo - r.From) % 3600 + (shwS (towG s.c.T r.Tower).1.At p z r.Slack).Hi - (shwS (towG s.c.T r.Tower).1.At p z r.Slack).Lo)
def truB (s : Svc) (b : Brn) (x : Rl) (r : Rpt) : Bool := tolB s b x.At (zroR s x r.C) r
def atK (s : Svc) (r : Rpt) (i : Nat) : Place := if (towI s.c.T r.Tower).toNat < i then (towG s.c.T r.Tower).1.At else ⟨0, 0⟩
theorem zlt {s : Svc} (h : CtryOk s.c) {id : Int} {i : Nat} (hi : i < s.c.T.length) (h0 : ¬ towI s.c.T id < 0) : (s.c.T.getD i default).ID = id ↔ i = (towI s.c.T id).toNat := by
 rcases idxL_cases (fun t : Twr => t.ID == id) s.c.T default with ⟨e, -⟩ | ⟨m, hm, e, e1, e2⟩
 ·exact absurd (show towI s.c.T id < 0 by unfold towI; rw [e]; decide) h0
 have e : towI s.c.T id = m := e
 rw [e, Int.toNat_natCast]
 have e1 : (s.c.T.getD m default).ID = id := by simpa using e1
 constructor
 ·intro g
  rcases Nat.lt_trichotomy i m with g1 | g1 | g1
  ·have t := e2 i g1
   rw [g] at t; simp at t
  ·exact g1
  ·have := h.d i hi
   rw [List.any_eq_false] at this
   have m2 : s.c.T.getD m default ∈ s.c.T.take i := by
    have q : (s.c.T.take i).getD m default = s.c.T.getD m default := by
     rw [gdq, List.getElem?_take, if_pos g1, <- gdq]
    rw [<- q]
    exact gd1 (by rw [List.length_take]; omega) default
   exact absurd (by rw [e1, g]; simp) (this _ m2)
 ·rintro rfl; exact e1
theorem zmB {r : Rpt} (h : frmB r = true) : 0 <= r.From /\ r.From <= 3599 := by
 unfold frmB at h
 simp only [Bool.and_eq_true, Bool.not_eq_true'] at h
 have h2 := h.1
 unfold frmC at h2
 simp only [Bool.or_eq_false_iff, Bool.not_eq_false'] at h2
 exact zab.1 h2.1.2
theorem zpD (s : Svc) (b : Brn) (x : Rl) (r : Rpt) (hc : crpE s r = 0) (hz : x.Z.length = s.k.C.length) : Spec PP 25 [s.v, b.v, x.v, r.v] [B (truB s b x r)] := by
 obtain ⟨c1, c2, c3⟩ := zpd hc
 have ok := zfw c1
 have okt := ok.c.t
 have okc := ok.k.n
 obtain ⟨f1, f2, f3, f4⟩ := zbE c2
 have ff := zmB f1
 have fT : ¬ towI s.c.T r.Tower < 0 := fun h => f2 (.inl (by unfold towG; rw [if_pos h]))
 have tl := zeN fT
 have tu := fun {i : Nat} (hi : i < s.c.T.length) => zlt (s := s) ok.c (id := r.Tower) hi fT
 have sb := zpR (towG s.c.T r.Tower).1.At x.At (zroR s x r.C) r.Slack
 have eT : truB s b x r = if r.Kind = 1 then lookB s b r x.At && shwB (towG s.c.T r.Tower).1.At x.At (zroR s x r.C) r.Slack && decide ((r.From - (shwS (towG s.c.T r.Tower).1.At x.At (zroR s x r.C) r.Slack).Lo) % 3600 <= (shwS (towG s.c.T r.Tower).1.At x.At (zroR s x r.C) r.Slack).Hi - (shwS (towG s.c.T r.Tower).1.At x.At (zroR s x r.C) r.Slack).Lo)
  else !lookB s b r x.At || !shwB (towG s.c.T r.Tower).1.At x.At (zroR s x r.C) r.Slack || decide ((r.To - r.From) % 3600 < ((shwS (towG s.c.T r.Tower).1.At x.At (zroR s x r.C) r.Slack).Lo - r.From) % 3600 + (shwS (towG s.c.T r.Tower).1.At x.At (zroR s x r.C) r.Slack).Hi - (shwS (towG s.c.T r.Tower).1.At x.At (zroR s x r.C) r.Slack).Lo) := rfl
 have cS := zpn (towG s.c.T r.Tower).1.At x.At (zroR s x r.C) r.Slack
 have cZ := zpC s x r.C hz (by omega)
 refine sA Tryz.func25 ?_
 refine LoopOb.of (σ := Nat) (fun i => ([(4, .box 4 0), (5, .box 5 0), (6, .box 6 0), (7, .box 7 0), (9, .box 9 0), (19, .d (lT s.c.T)), (20, .d (I s.c.T.length)), (21, .d (I i))], [(4, .box (s.ds.map AV.d)), (5, .box (b.ds.map AV.d)), (6, .box (x.ds.map AV.d)), (7, .box (r.ds.map AV.d)), (9, .box ([I (atK s r i).X, I (atK s r i).Y].map AV.d))])) (fun i => i <= s.c.T.length) (fun i => s.c.T.length - i) 0
  ⟨rfl, ⟨obD s.ds rfl, obD b.ds rfl, obD x.ds rfl, obD r.ds rfl, obX (by unfold atK; rw [if_neg (by omega)]; rfl), trivial⟩, wq rfl⟩ (Nat.zero_le _) fun i hi => ?_
 apply bY <;> intro g1
 ·have g1 : i < s.c.T.length := by have := dT g1; omega
  refine ⟨⟨rfl, by omega, by omega⟩, ?_⟩
  apply bY <;> intro g2
  ·have g2 : (s.c.T.getD i default).ID = r.Tower := by simpa using g2
   have e := (tu g1).1 g2
   have ea : atK s r (i + 1) = (s.c.T.getD i default).At := by unfold atK; rw [if_pos (by omega), zlu fT, <- e]
   refine ⟨i6, ?_⟩
   exact ⟨i + 1, ⟨rfl, ⟨obD s.ds rfl, obD b.ds rfl, obD x.ds rfl, obD r.ds rfl, obX (by rw [ea]; rfl), trivial⟩, wq rfl⟩, g1, msr g1⟩
  ·have g2 : (s.c.T.getD i default).ID ≠ r.Tower := by simpa using g2
   have e : i ≠ (towI s.c.T r.Tower).toNat := fun h => g2 ((tu g1).2 h)
   have ea : atK s r (i + 1) = atK s r i := by
    unfold atK
    by_cases h : (towI s.c.T r.Tower).toNat < i
    ·rw [if_pos h, if_pos (by omega)]
    ·rw [if_neg h, if_neg (by omega)]
   refine ⟨i6, ?_⟩
   exact ⟨i + 1, ⟨rfl, ⟨obD s.ds rfl, obD b.ds rfl, obD x.ds rfl, obD r.ds rfl, obX (by rw [ea]; rfl), trivial⟩, wq rfl⟩, g1, msr g1⟩
 have g1 : i = s.c.T.length := by have := dF g1; omega
 subst g1
 have ea : atK s r s.c.T.length = (towG s.c.T r.Tower).1.At := by unfold atK; rw [if_pos (by omega)]
 rw [ea]
 have eL : lookB s b r x.At = (decide ((seesE s.c r.Tower x.At b.Rise r.Tick).2 = 0) && (seesE s.c r.Tower x.At b.Rise r.Tick).1 && within r.Tick b.From b.To) := rfl
 refine cP (zkx s.c r.Tower x.At b.Rise r.Tick) rfl rfl ?_
 by_cases hl : lookB s b r x.At = true
 ·have hl' := hl
  rw [eL] at hl'
  simp only [Bool.and_eq_true, decide_eq_true_eq, zab] at hl'
  obtain ⟨⟨l1, l2⟩, l3, l4⟩ := hl'
  refine Split.yes l2 ?_
  repeat first | apply sT | apply sF
  refine Split.yes (by rw [l1]; rfl) ?_
  repeat first | apply sT | apply sF
  refine Split.yes (decide_eq_true l3) ?_
  repeat first | apply sT | apply sF
  have e4 : decide (r.Tick <= b.To) = true := decide_eq_true l4
  refine oL (List.range 17) (FzOb.no ?_)
  refine oP cZ rfl rfl ?_
  refine oP cS rfl rfl ?_
  apply bY <;> intro k1
  ·have k1 : r.Kind = 1 := by simpa using k1
   rw [if_pos k1, hl] at eT
   refine oL (List.range 19) (FzOb.no ?_)
   refine Split.yes e4 ?_
   repeat first | apply sT | apply sF
   apply bY <;> intro k2
   ·have k2 : shwB (towG s.c.T r.Tower).1.At x.At (zroR s x r.C) r.Slack = true := k2
    repeat first | apply sT | apply sF
    refine ⟨i6, ?_⟩
    refine oP (zbr (r.From - (shwS (towG s.c.T r.Tower).1.At x.At (zroR s x r.C) r.Slack).Lo) (by omega)) rfl rfl ?_
    refine ⟨i6, ?_⟩
    repeat first | apply sT | apply sF
    exact r1B rfl (by rw [eT, k2]; rfl)
   ·have k2 : shwB (towG s.c.T r.Tower).1.At x.At (zroR s x r.C) r.Slack = false := k2
    repeat first | apply sT | apply sF
    exact r1B rfl (by rw [eT, k2]; rfl)
  ·have k1 : r.Kind ≠ 1 := by simpa using k1
   rw [if_neg k1, hl] at eT
   have fb := zkB f1 k1
   obtain ⟨fb1, fb2, fb3⟩ := fb
   refine ⟨i6, ?_⟩
   refine cP (zbr ((shwS (towG s.c.T r.Tower).1.At x.At (zroR s x r.C) r.Slack).Lo - r.From) (by omega)) rfl rfl ?_
   refine oL (List.range 23) (FzOb.no ?_)
   refine Split.no (by rw [e4]; rfl) ?_
   repeat first | apply sT | apply sF
   apply bY <;> intro k2
   ·have k2 : shwB (towG s.c.T r.Tower).1.At x.At (zroR s x r.C) r.Slack = false := by simpa using k2
    repeat first | apply sT | apply sF
    exact r1B rfl (by rw [eT, k2]; rfl)
   ·have k2 : shwB (towG s.c.T r.Tower).1.At x.At (zroR s x r.C) r.Slack = true := by simpa using k2
    repeat first | apply sT | apply sF
    refine ⟨i6, ⟨i6, ⟨i6, ?_⟩⟩⟩
    refine oP (zbr (r.To - r.From) (by omega)) rfl rfl ?_
    repeat first | apply sT | apply sF
    exact r1B rfl (by rw [eT, k2]; rfl)
 ·have hl : lookB s b r x.At = false := by simpa using hl
  have hl' := hl
  rw [eL] at hl'
  have fin1 : r.Kind = 1 -> truB s b x r = false := fun k1 => by rw [eT, if_pos k1, hl]; rfl
  have fin2 : r.Kind ≠ 1 -> truB s b x r = true := fun k1 => by rw [eT, if_neg k1, hl]; rfl
  apply bY <;> intro l2
  case h2 =>
   repeat first | apply sT | apply sF
   refine oL (List.range 17) (FzOb.no ?_)
   refine oP cZ rfl rfl ?_
   refine oP cS rfl rfl ?_
   apply bY <;> intro k1
   ·have k1 : r.Kind = 1 := by simpa using k1
    refine oL (List.range 19) (FzOb.no ?_)
    repeat first | apply sT | apply sF
    exact r1B rfl (fin1 k1).symm
   ·have k1 : r.Kind ≠ 1 := by simpa using k1
    refine ⟨i6, ?_⟩
    refine cP (zbr ((shwS (towG s.c.T r.Tower).1.At x.At (zroR s x r.C) r.Slack).Lo - r.From) (by omega)) rfl rfl ?_
    refine oL (List.range 23) (FzOb.no ?_)
    repeat first | apply sT | apply sF
    exact r1B rfl (fin2 k1).symm
  have l2 : (seesE s.c r.Tower x.At b.Rise r.Tick).1 = true := l2
  repeat first | apply sT | apply sF
  apply bY <;> intro l1
  case h2 =>
   repeat first | apply sT | apply sF
   refine oL (List.range 17) (FzOb.no ?_)
   refine oP cZ rfl rfl ?_
   refine oP cS rfl rfl ?_
   apply bY <;> intro k1
   ·have k1 : r.Kind = 1 := by simpa using k1
    refine oL (List.range 19) (FzOb.no ?_)
    repeat first | apply sT | apply sF
    exact r1B rfl (fin1 k1).symm
   ·have k1 : r.Kind ≠ 1 := by simpa using k1
    refine ⟨i6, ?_⟩
    refine cP (zbr ((shwS (towG s.c.T r.Tower).1.At x.At (zroR s x r.C) r.Slack).Lo - r.From) (by omega)) rfl rfl ?_
    refine oL (List.range 23) (FzOb.no ?_)
    repeat first | apply sT | apply sF
    exact r1B rfl (fin2 k1).symm
  have l1 : (seesE s.c r.Tower x.At b.Rise r.Tick).2 = 0 := by simpa using l1
  repeat first | apply sT | apply sF
  apply bY <;> intro l3
  case h2 =>
   repeat first | apply sT | apply sF
   refine oL (List.range 17) (FzOb.no ?_)
   refine oP cZ rfl rfl ?_
   refine oP cS rfl rfl ?_
   apply bY <;> intro k1
   ·have k1 : r.Kind = 1 := by simpa using k1
    refine oL (List.range 19) (FzOb.no ?_)
    repeat first | apply sT | apply sF
    exact r1B rfl (fin1 k1).symm
   ·have k1 : r.Kind ≠ 1 := by simpa using k1
    refine ⟨i6, ?_⟩
    refine cP (zbr ((shwS (towG s.c.T r.Tower).1.At x.At (zroR s x r.C) r.Slack).Lo - r.From) (by omega)) rfl rfl ?_
    refine oL (List.range 23) (FzOb.no ?_)
    repeat first | apply sT | apply sF
    exact r1B rfl (fin2 k1).symm
  have l3 : b.From <= r.Tick := dT l3
  have l4 : ¬ r.Tick <= b.To := fun l4 => by
   rw [l2, decide_eq_true l1, zab.2 ⟨l3, l4⟩] at hl'
   cases hl'
  have e4 : decide (r.Tick <= b.To) = false := decide_eq_false l4
  repeat first | apply sT | apply sF
  refine oL (List.range 17) (FzOb.no ?_)
  refine oP cZ rfl rfl ?_
  refine oP cS rfl rfl ?_
  apply bY <;> intro k1
  ·have k1 : r.Kind = 1 := by simpa using k1
   refine oL (List.range 19) (FzOb.no ?_)
   refine Split.no e4 ?_
   repeat first | apply sT | apply sF
   exact r1B rfl (fin1 k1).symm
  ·have k1 : r.Kind ≠ 1 := by simpa using k1
   refine ⟨i6, ?_⟩
   refine cP (zbr ((shwS (towG s.c.T r.Tower).1.At x.At (zroR s x r.C) r.Slack).Lo - r.From) (by omega)) rfl rfl ?_
   refine oL (List.range 23) (FzOb.no ?_)
   refine Split.yes (by rw [e4]; rfl) ?_
   repeat first | apply sT | apply sF
   exact r1B rfl (fin2 k1).symm
@[irreducible] def fraction (f : Frac) : Bool := within f.Den 1 2097152 && within f.Num (-2199023255552) 2199023255552 && ((gcdL [f.Num, f.Den] : Int) == 1)
theorem zbh (f : Frac) : Spec PP 88 [f.v] [B (fraction f)] := by
 refine sA Tryz.func88 ?_
 repeat' first
  | refine sT ?_
  | refine sF ?_
  | refine bY (fun _ => ?_) (fun _ => ?_)
  | refine cP (zc9 _ _ _) rfl rfl ?_
  | refine CallSt.pureE (zod [f.Num, f.Den] ?_ ?_) rfl (zde rfl rfl) rfl ?_
  | refine r1B rfl ?_
 ·intro n hn
  simp only [zab] at *
  simp only [List.mem_cons, List.not_mem_nil, or_false] at hn
  omega
 ·exact Nat.le_of_ble_eq_true rfl
 all_goals (unfold fraction; simp_all)
@[irreducible] def cmpC (p q : Corner) : Int := if valid p = true /\ valid q = true then orL [ord (p.X * q.Den) (q.X * p.Den), ord (p.Y * q.Den) (q.Y * p.Den)] else 0
theorem zkO (p q : Corner) : SpecD PP 97 [p.v, q.v] [N (cmpC p q)] := by
 refine zaz Tryz.func97 rfl (by kernel_rfl) rfl ?_
 by_cases hp : valid p = true
 ·by_cases hq : valid q = true
  ·have gp := zaK hp
   have gq := zaK hq
   have h1 := mulB gp.x (b := q.Den) (y := 2097152) (by have := gq.d; omega)
   have h2 := mulB gq.x (b := p.Den) (y := 2097152) (by have := gp.d; omega)
   have h3 := mulB gp.y (b := q.Den) (y := 2097152) (by have := gq.d; omega)
   have h4 := mulB gq.y (b := p.Den) (y := 2097152) (by have := gp.d; omega)
   refine cP (zdP p) rfl rfl ?_
   rw [hp]
   refine sF ?_
   refine cP (zdP q) rfl rfl ?_
   rw [hq]
   refine sF (sF ?_)
   refine oL (List.range 25) (FzOb.no ?_)
   refine ⟨i6, ⟨i6, ?_⟩⟩
   refine oP (zgT _ _) rfl rfl ?_
   refine ⟨i6, ⟨i6, ?_⟩⟩
   refine oP (zgT _ _) rfl rfl ?_
   refine CallOb.pureE (d_or [_, _] ?_) rfl (zde rfl rfl) rfl ?_
   ·exact Nat.le_of_ble_eq_true rfl
   refine r1I rfl ?_
   unfold cmpC
   rw [if_pos ⟨hp, hq⟩]
  ·refine cP (zdP p) rfl rfl ?_
   rw [hp]
   refine sF ?_
   refine cP (zdP q) rfl rfl ?_
   rw [Bool.eq_false_iff.2 hq]
   refine sF (sT (r1I rfl ?_))
   unfold cmpC
   rw [if_neg fun h => hq h.2]
 ·refine cP (zdP p) rfl rfl ?_
  rw [Bool.eq_false_iff.2 hp]
  refine sT (sT (sT (r1I rfl ?_)))
  unfold cmpC
  rw [if_neg fun h => hp h.1]
@[irreducible] def less (a b : Frac) : Int := if fraction a = true /\ fraction b = true then ord (a.Num * b.Den) (b.Num * a.Den) else 0
theorem zdM {f : Frac} (h : fraction f = true) : (1 <= f.Den /\ f.Den <= 2097152) /\ (-2199023255552 <= f.Num /\ f.Num <= 2199023255552) := by
 unfold fraction at h
 simp only [Bool.and_eq_true, zab] at h
 exact h.1
theorem zp2 (a b : Frac) : Spec PP 123 [a.v, b.v] [N (less a b)] := by
 refine sA Tryz.func123 ?_
 by_cases hp : fraction a = true
 ·by_cases hq : fraction b = true
  ·have ga := zdM hp
   have gb := zdM hq
   have h1 := mulB ga.2 (b := b.Den) (y := 2097152) (by omega)
   have h2 := mulB gb.2 (b := a.Den) (y := 2097152) (by omega)
   refine cP (zbh a) rfl rfl ?_
   rw [hp]
   refine sF ?_
   refine cP (zbh b) rfl rfl ?_
   rw [hq]
   refine sF (sF ?_)
   refine ⟨i6, ⟨i6, ?_⟩⟩
   refine cP (zeZ _ _) rfl rfl ?_
   refine r1I rfl ?_
   unfold less
   rw [if_pos ⟨hp, hq⟩]
  ·refine cP (zbh a) rfl rfl ?_
   rw [hp]
   refine sF ?_
   refine cP (zbh b) rfl rfl ?_
   rw [Bool.eq_false_iff.2 hq]
   refine sF (sT (r1I rfl ?_))
   unfold less
   rw [if_neg fun h => hq h.2]
 ·refine cP (zbh a) rfl rfl ?_
  rw [Bool.eq_false_iff.2 hp]
  refine sT (sT (sT (r1I rfl ?_)))
  unfold less
  rw [if_neg fun h => hp h.1]
@[irreducible] def det (g h : Half) : Int := g.A * h.B - h.A * g.B
theorem zkN {g h : Half} (hg : okH g) (hh : okH h) : -2000000 <= det g h /\ det g h <= 2000000 := by
 have h1 := mulB hg.a hh.b
 have h2 := mulB hh.a hg.b
 unfold det
 omega
theorem zoe (g h : Half) (hg : okH g) (hh : okH h) : Spec PP 126 [g.v, h.v] [N (det g h)] := by
 have h1 := mulB hg.a hh.b
 have h2 := mulB hh.a hg.b
 refine sA Tryz.func126 ?_
 refine ⟨i6, ⟨i6, ⟨i6, ?_⟩⟩⟩
 refine r1I rfl ?_
 unfold det; rfl
@[irreducible] def lowest (x y d : Int) : Corner := let g : Int := if d < 0 then -gcdL [x, y, d] else gcdL [x, y, d]; ⟨x.tdiv g, y.tdiv g, d.tdiv g⟩
theorem zdn {a g b : Int} (ha : -b <= a /\ a <= b) : -b <= a.tdiv g /\ a.tdiv g <= b := by
 have h : (a.tdiv g).natAbs <= a.natAbs := by rw [Int.natAbs_tdiv]; exact Nat.div_le_self _ _
 omega
theorem zlG (x y d : Int) (hx : -1073741824 <= x /\ x <= 1073741824) (hy : -1073741824 <= y /\ y <= 1073741824) (hd : -1073741824 <= d /\ d <= 1073741824) (h0 : d ≠ 0) :
  Spec PP 231 [.agg [I x, I y, I d]] [(lowest x y d).v] := by
 have hg : 0 < gcdL [x, y, d] := by
  simp only [gcdL, List.foldl_cons, List.foldl_nil]
  exact Nat.gcd_pos_of_pos_right _ (by omega)
 have hg' : gcdL [x, y, d] <= 1073741824 := by
  have : gcdL [x, y, d] <= d.natAbs := by
   simp only [gcdL, List.foldl_cons, List.foldl_nil]
   exact Nat.gcd_le_right _ (by omega)
  omega
 have b1 := fun g => zdn (g := g) hx
 have b2 := fun g => zdn (g := g) hy
 have b3 := fun g => zdn (g := g) hd
 refine sA Tryz.func231 ?_
 refine ⟨⟨by decide, by decide⟩, ⟨⟨by decide, by decide⟩, ⟨⟨by decide, by decide⟩, ?_⟩⟩⟩
 refine CallSt.pureE (zod [x, y, d] ?_ ?_) rfl (zhV rfl rfl rfl) rfl ?_
 ·intro n hn
  simp only [List.mem_cons, List.not_mem_nil, or_false] at hn
  omega
 ·exact Nat.le_of_ble_eq_true rfl
 refine ⟨⟨by decide, by decide⟩, ?_⟩
 apply bY <;> intro h1
 ·have h1 : d < 0 := dT h1
  refine ⟨i6, ?_⟩
  refine oL (List.range 14) (FzOb.no ?_)
  refine ⟨⟨by decide, by decide⟩, ⟨⟨by omega, zgN (b1 _)⟩, ⟨⟨by decide, by decide⟩, ⟨⟨by omega, zgN (b2 _)⟩, ⟨⟨by decide, by decide⟩, ⟨⟨by omega, zgN (b3 _)⟩, ?_⟩⟩⟩⟩⟩⟩
  refine r1C rfl rfl rfl rfl rfl rfl (zmI ?_ ?_ ?_) <;> (unfold lowest; simp only [if_pos h1])
 ·have h1 : ¬ d < 0 := dF h1
  refine oL (List.range 14) (FzOb.no ?_)
  refine ⟨⟨by decide, by decide⟩, ⟨⟨by omega, zgN (b1 _)⟩, ⟨⟨by decide, by decide⟩, ⟨⟨by omega, zgN (b2 _)⟩, ⟨⟨by decide, by decide⟩, ⟨⟨by omega, zgN (b3 _)⟩, ?_⟩⟩⟩⟩⟩⟩
  refine r1C rfl rfl rfl rfl rfl rfl (zmI ?_ ?_ ?_) <;> (unfold lowest; simp only [if_neg h1])
@[irreducible] def crossing (g h : Half) : Corner := lowest (g.C * h.B - h.C * g.B) (g.A * h.C - h.A * g.C) (det g h)
theorem zik (g h : Half) (hg : okH g) (hh : okH h) (hd : det g h ≠ 0) : Spec PP 170 [g.v, h.v] [(crossing g h).v] := by
 have h1 := mulB hg.c hh.b
 have h2 := mulB hh.c hg.b
 have h3 := mulB hg.a hh.c
 have h4 := mulB hh.a hg.c
 have h5 := zkN hg hh
 refine sA Tryz.func170 ?_
 refine oL (List.range 28) (FzOb.no ?_)
 refine ⟨i6, ⟨i6, ⟨i6, ⟨i6, ⟨i6, ⟨i6, ?_⟩⟩⟩⟩⟩⟩
 refine oP (zoe g h hg hh) rfl rfl ?_
 refine oP (zlG (g.C * h.B - h.C * g.B) (g.A * h.C - h.A * g.C) (det g h) (by omega) (by omega) (by omega) hd) rfl rfl ?_
 refine r1C rfl rfl rfl rfl rfl rfl (zmI ?_ ?_ ?_) <;> (unfold crossing; rfl)
abbrev Form := Place
structure okF (f : Form) : Prop where
  x : -1000 <= f.X /\ f.X <= 1000
  y : -1000 <= f.Y /\ f.Y <= 1000
theorem zfL {f : Form} (h : slope f.X f.Y = true) : okF f := by
 unfold slope at h
 simp only [Bool.and_eq_true, zab] at h
 exact ⟨h.1, h.2⟩
@[irreducible] def value (f : Form) (p : Corner) : Frac := let n := f.X * p.X + f.Y * p.Y; let g : Int := gcdL [n, p.Den]; ⟨n.tdiv g, p.Den.tdiv g⟩
theorem zgt (f : Form) (p : Corner) (hf : okF f) (hp : okC p) : Spec PP 91 [f.v, p.v] [(value f p).v] := by
 have h1 := mulB hf.x hp.x
 have h2 := mulB hf.y hp.y
 have hd := hp.d
 have hg : 0 < gcdL [f.X * p.X + f.Y * p.Y, p.Den] := by
  simp only [gcdL, List.foldl_cons, List.foldl_nil]
  exact Nat.gcd_pos_of_pos_right _ (by omega)
 have b1 := fun g => zdn (g := g) (a := f.X * p.X + f.Y * p.Y) (b := 2147483648000) (by omega)
 have b2 := fun g => zdn (g := g) (a := p.Den) (b := 1073741824) (by omega)
 refine sA Tryz.func91 ?_
 refine ⟨i6, ⟨i6, ⟨i6, ?_⟩⟩⟩
 refine CallSt.pureE (zod [f.X * p.X + f.Y * p.Y, p.Den] ?_ ?_) rfl (zde rfl rfl) rfl ?_
 ·intro n hn
  simp only [List.mem_cons, List.not_mem_nil, or_false] at hn
  rcases hn with rfl | rfl <;> omega
 ·exact Nat.le_of_ble_eq_true rfl
 refine oL (List.range 9) (FzOb.no ?_)
 refine ⟨⟨by omega, zah (by have := b1 (gcdL [f.X * p.X + f.Y * p.Y, p.Den]); omega) (by have := b1 (gcdL [f.X * p.X + f.Y * p.Y, p.Den]); omega)⟩, ⟨⟨by omega, zgN (b2 _)⟩, ?_⟩⟩
 refine r1C rfl rfl rfl rfl rfl rfl (zdO ?_ ?_) <;> (unfold value; rfl)
theorem zoc : Spec PP 169 [] [.agg [I (-1), I 0, I 0, I 1, I 0, I 48, I 0, I (-1), I 0, I 0, I 1, I 48]] := by
 refine sA Tryz.func169 ?_
 refine r1C rfl rfl rfl rfl rfl rfl ?_
 exact zaa _
def sidesL : List Half := [⟨-1, 0, 0⟩, ⟨1, 0, 48⟩, ⟨0, -1, 0⟩, ⟨0, 1, 48⟩]
def outsideL : List Num -> Corner -> Int
 | [], _ => -5
 | x :: r, p => if lies x.h p = true then outsideL r p else x.n
theorem zjz (l : List Num) (p : Corner) (hl : ∀ x ∈ l, okH x.h) (hp : okC p) (hn : l.length <= 1000000) : Spec PP 81 [slN l, p.v] [N (outsideL l p)] := by
 refine sA Tryz.func81 ?_
 refine LoopOb.of (σ := Nat) (fun i => ([(3, .box 3 0), (7, avOf (slN l)), (8, .d (I l.length)), (9, .d (I i))], [(3, .box [.d (I p.X), .d (I p.Y), .d (I p.Den)])])) (fun i => i <= l.length /\ outsideL (l.drop i) p = outsideL l p) (fun i => l.length - i) 0 ⟨rfl, ⟨obD [I p.X, I p.Y, I p.Den] rfl, trivial⟩, ⟨rfl, rfl⟩, wq rfl⟩ ⟨Nat.zero_le _, rfl⟩ fun i hi => ?_
 obtain ⟨hi, ho⟩ := hi
 apply bY <;> intro h1
 ·have h1 : i < l.length := by simpa using h1
  have hd : l.drop i = l.getD i default :: l.drop (i + 1) := by
   rw [List.drop_eq_getElem_cons h1, gdq, gqe h1]; rfl
  rw [hd] at ho
  refine ⟨⟨rfl, by omega, by omega⟩, ?_⟩
  refine cP (zpW (l.getD i default).h p (hl _ (gd1 h1 default)) hp) rfl rfl ?_
  apply bY <;> intro h2
  ·have h2 : lies (l.getD i default).h p = false := by simpa using h2
   refine r1I rfl ?_
   rw [<- ho]; simp only [outsideL, h2]; rfl
  ·have h2 : lies (l.getD i default).h p = true := by simpa using h2
   refine ⟨i6, ?_⟩
   refine ⟨i + 1, ⟨rfl, ⟨obD [I p.X, I p.Y, I p.Den] rfl, trivial⟩, ⟨rfl, rfl⟩, wq rfl⟩, ⟨h1, ?_⟩, ?_⟩
   ·rw [<- ho]; simp only [outsideL, h2, if_true]
   ·show l.length - (i + 1) < l.length - i
    omega
 ·have h1 : i = l.length := by
   have : ¬ i < l.length := by simpa using h1
   omega
  refine r1I rfl ?_
  rw [<- ho, h1, List.drop_length]; rfl
def allAt (l : List Half) (i : Nat) : Num := if i < l.length then ⟨i, l.getD i default⟩ else ⟨-1 - ((i : Int) - l.length), sidesL.getD (i - l.length) default⟩
def allL (l : List Half) : List Num := (List.range (l.length + 4)).map (allAt l)
theorem zb8 (l : List Half) (i : Nat) : allAt l (l.length + i) = ⟨-1 - (i : Int), sidesL.getD i default⟩ := by
 unfold allAt
 rw [if_neg (by omega), Nat.add_sub_cancel_left]
 congr 1
 omega
theorem zdh (l : List Half) : (allL l).length = l.length + 4 := by simp [allL]
theorem zpw (l : List Half) {i : Nat} (h : i < l.length + 4) : (allL l).getD i default = allAt l i := by
 unfold allL
 rw [gdq, List.getElem?_map, List.getElem?_range h]
 rfl
theorem app1 {k n : Nat} {f f' g : Nat -> Nat -> D} (hf : ∀ i, i < n -> ∀ j, j < k -> D.eqv (f i j) (f' i j)) (hg : ∀ j, j < k -> D.eqv (g 0 j) (f' n j)) : D.eqv (.slc k (n + 1) (appRow n f g)) (.slc k (n + 1) f') := by
 refine ⟨rfl, .inr ⟨rfl, fun i hi j hj => ?_⟩⟩
 unfold appRow
 by_cases h : i < n
 ·rw [if_pos h]; exact hf i h j hj
 ·obtain rfl : i = n := by omega
  rw [if_neg h, Nat.sub_self]; exact hg j hj
theorem zp1 (l : List Half) (hn : l.length <= 1000000) : Spec PP 82 [slH l] [slN (allL l)] := by
 refine sA Tryz.func82 ?_
 refine LoopOb.of (σ := Nat) (fun i => ([(3, .own 3), (8, avOf (slH l)), (9, .d (I l.length)), (10, .d (I i))], [(3, .row 225 4 i fun m => (allAt l m).at)])) (fun i => i <= l.length) (fun i => l.length - i) 0 ⟨rfl, ⟨obR rfl ⟨rfl, .inl rfl⟩, trivial⟩, rfl, wq rfl⟩ (Nat.zero_le _) fun i hi => ?_
 apply bY <;> intro h1
 ·have h1 : i < l.length := by simpa using h1
  refine ⟨⟨rfl, by omega, by omega⟩, ?_⟩
  refine ⟨⟨.inr rfl, by unfold maxLen; omega, by show (i + 1) * 32 <= 140737488355328; omega⟩, ?_⟩
  refine ⟨i6, ?_⟩
  have e : allAt l i = ⟨i, l.getD i default⟩ := if_pos h1
  refine ⟨i + 1, ⟨rfl, ⟨obR rfl (app1 (fun _ _ _ _ => dE _) fun j hj => ?_), trivial⟩, rfl, wq rfl⟩, h1, ?_⟩
  ·rw [e]
   match j, hj with
   | 0, _ => exact ⟨rfl, rfl⟩
   | 1, _ => exact ⟨rfl, rfl⟩
   | 2, _ => exact ⟨rfl, rfl⟩
   | 3, _ => exact ⟨rfl, rfl⟩
  ·show l.length - (i + 1) < l.length - i
   omega
 ·have h1 : i = l.length := by
   have : ¬ i < l.length := by simpa using h1
   omega
  subst h1
  refine cP zoc rfl rfl ?_
  refine LoopOb.of (σ := Nat) (fun i => ([(3, .own 3), (22, .agg [I (-1), I 0, I 0, I 1, I 0, I 48, I 0, I (-1), I 0, I 0, I 1, I 48]), (23, .d (I i))], [(3, .row 225 4 (l.length + i) fun m => (allAt l m).at)])) (fun i => i <= 4) (fun i => 4 - i) 0 ⟨rfl, ⟨obR rfl (dE _), trivial⟩, rfl, avA rfl (zaa _), avR _ rfl, trivial⟩ (Nat.zero_le _) fun i hi => ?_
  apply bY <;> intro h1
  ·have h1 : i < 4 := by have := dT h1; omega
   obtain rfl | rfl | rfl | rfl : i = 0 \/ i = 1 \/ i = 2 \/ i = 3 := by omega
   ·refine ⟨⟨by decide, by decide⟩, ?_⟩
    refine ⟨zah (by decide) (by decide), ?_⟩
    refine ⟨⟨.inr rfl, by unfold maxLen; omega, by show (l.length + 0 + 1) * 32 <= 140737488355328; omega⟩, ?_⟩
    refine ⟨zah (by decide) (by decide), ?_⟩
    have e : allAt l l.length = _ := zb8 l 0
    refine ⟨0 + 1, ⟨rfl, ⟨obR rfl (app1 (fun _ _ _ _ => dE _) fun j hj => ?_), trivial⟩, rfl, avA rfl (zaa _), avI rfl rfl, trivial⟩, by decide, by decide⟩
    rw [e]
    match j, hj with
    | 0, _ => exact ⟨rfl, rfl⟩
    | 1, _ => exact ⟨rfl, rfl⟩
    | 2, _ => exact ⟨rfl, rfl⟩
    | 3, _ => exact ⟨rfl, rfl⟩
   ·refine ⟨⟨by decide, by decide⟩, ?_⟩
    refine ⟨zah (by decide) (by decide), ?_⟩
    refine ⟨⟨.inr rfl, by unfold maxLen; omega, by show (l.length + 1 + 1) * 32 <= 140737488355328; omega⟩, ?_⟩
    refine ⟨zah (by decide) (by decide), ?_⟩
    have e := zb8 l 1
    refine ⟨1 + 1, ⟨rfl, ⟨obR rfl (app1 (fun _ _ _ _ => dE _) fun j hj => ?_), trivial⟩, rfl, avA rfl (zaa _), avI rfl rfl, trivial⟩, by decide, by decide⟩
    rw [e]
    match j, hj with
    | 0, _ => exact ⟨rfl, rfl⟩
    | 1, _ => exact ⟨rfl, rfl⟩
    | 2, _ => exact ⟨rfl, rfl⟩
    | 3, _ => exact ⟨rfl, rfl⟩
   ·refine ⟨⟨by decide, by decide⟩, ?_⟩
    refine ⟨zah (by decide) (by decide), ?_⟩
    refine ⟨⟨.inr rfl, by unfold maxLen; omega, by show (l.length + 2 + 1) * 32 <= 140737488355328; omega⟩, ?_⟩
    refine ⟨zah (by decide) (by decide), ?_⟩
    have e := zb8 l 2
    refine ⟨2 + 1, ⟨rfl, ⟨obR rfl (app1 (fun _ _ _ _ => dE _) fun j hj => ?_), trivial⟩, rfl, avA rfl (zaa _), avI rfl rfl, trivial⟩, by decide, by decide⟩
    rw [e]
    match j, hj with
    | 0, _ => exact ⟨rfl, rfl⟩
    | 1, _ => exact ⟨rfl, rfl⟩
    | 2, _ => exact ⟨rfl, rfl⟩
    | 3, _ => exact ⟨rfl, rfl⟩
   ·refine ⟨⟨by decide, by decide⟩, ?_⟩
    refine ⟨zah (by decide) (by decide), ?_⟩
    refine ⟨⟨.inr rfl, by unfold maxLen; omega, by show (l.length + 3 + 1) * 32 <= 140737488355328; omega⟩, ?_⟩
    refine ⟨zah (by decide) (by decide), ?_⟩
    have e := zb8 l 3
    refine ⟨3 + 1, ⟨rfl, ⟨obR rfl (app1 (fun _ _ _ _ => dE _) fun j hj => ?_), trivial⟩, rfl, avA rfl (zaa _), avI rfl rfl, trivial⟩, by decide, by decide⟩
    rw [e]
    match j, hj with
    | 0, _ => exact ⟨rfl, rfl⟩
    | 1, _ => exact ⟨rfl, rfl⟩
    | 2, _ => exact ⟨rfl, rfl⟩
    | 3, _ => exact ⟨rfl, rfl⟩
  ·have h1 : i = 4 := by have := dF h1; omega
   subst h1
   refine ⟨?_, trivial⟩
   refine ⟨_, _, _, _, rfl, ?_⟩
   refine ⟨(zdh l).symm, .inr ⟨rfl, fun i hi j hj => ?_⟩⟩
   show D.eqv ((allAt l i).at j) (((allL l).getD i default).at j)
   rw [zpw l hi]
   exact dE _
end Go.Pg
namespace Go.Pg
open Go.Proofs Go.RowKit Go.Sort Go.Shelf
theorem ord_spec (a b : Int) : (ord a b = -1 /\ a < b) \/ (ord a b = 1 /\ b < a) \/ (ord a b = 0 /\ a = b) := by
 unfold ord
 by_cases h1 : a < b
 ·exact .inl ⟨if_pos h1, h1⟩
 ·by_cases h2 : b < a
  ·exact .inr (.inl ⟨by rw [if_neg h1, if_pos h2], h2⟩)
  ·exact .inr (.inr ⟨by rw [if_neg h1, if_neg h2], by omega⟩)
def ltC (p q : Corner) : Prop := p.X * q.Den < q.X * p.Den \/ (p.X * q.Den = q.X * p.Den /\ p.Y * q.Den < q.Y * p.Den)
instance (p q : Corner) : Decidable (ltC p q) := by unfold ltC; infer_instance
theorem zgX {p q : Corner} (hp : valid p = true) (hq : valid q = true) : cmpC p q < 0 ↔ ltC p q := by
 unfold cmpC ltC
 rw [if_pos ⟨hp, hq⟩]
 simp only [orL]
 rcases ord_spec (p.X * q.Den) (q.X * p.Den) with ⟨e, h⟩ | ⟨e, h⟩ | ⟨e, h⟩ <;> rcases ord_spec (p.Y * q.Den) (q.Y * p.Den) with ⟨e', h'⟩ | ⟨e', h'⟩ | ⟨e', h'⟩ <;> rw [e, e'] <;> simp <;> omega
theorem zbp {a b c x y z : Int} (hy : 0 < y) (hx : 0 < x) (hz : 0 < z) (h1 : a * y <= b * x) (h2 : b * z <= c * y) : a * z <= c * x := by
 have e1 : a * y * z <= b * x * z := Int.mul_le_mul_of_nonneg_right h1 (by omega)
 have e2 : b * z * x <= c * y * x := Int.mul_le_mul_of_nonneg_right h2 (by omega)
 have e3 : (a * z) * y <= (c * x) * y := by
  have q1 : a * y * z = a * z * y := by rw [Int.mul_assoc, Int.mul_comm y z, <- Int.mul_assoc]
  have q2 : b * x * z = b * z * x := by rw [Int.mul_assoc, Int.mul_comm x z, <- Int.mul_assoc]
  have q3 : c * y * x = c * x * y := by rw [Int.mul_assoc, Int.mul_comm y x, <- Int.mul_assoc]
  omega
 exact Int.le_of_mul_le_mul_right e3 hy
def leC (p q : Corner) : Prop := p.X * q.Den < q.X * p.Den \/ (p.X * q.Den = q.X * p.Den /\ p.Y * q.Den <= q.Y * p.Den)
theorem zaL {p q : Corner} : ¬ ltC p q ↔ leC q p := by unfold ltC leC; omega
theorem zbG {p q r : Corner} (hp : 0 < p.Den) (hq : 0 < q.Den) (hr : 0 < r.Den) (h1 : leC p q) (h2 : leC q r) : leC p r := by
 have hx := zbp (a := p.X) (b := q.X) (c := r.X) hq hp hr (by unfold leC at h1; omega) (by unfold leC at h2; omega)
 unfold leC at *
 by_cases hlt : p.X * r.Den < r.X * p.Den
 ·exact .inl hlt
 ·have hE : p.X * r.Den = r.X * p.Den := by omega
  have e1 : p.X * q.Den = q.X * p.Den := by
   have := zbp (a := q.X) (b := r.X) (c := p.X) hr hq hp (by omega) (by omega)
   omega
  have e2 : q.X * r.Den = r.X * q.Den := by
   have := zbp (a := r.X) (b := p.X) (c := q.X) hp hr hq (by omega) (by omega)
   omega
  have y1 : p.Y * q.Den <= q.Y * p.Den := by omega
  have y2 : q.Y * r.Den <= r.Y * q.Den := by omega
  exact .inr ⟨hE, zbp hq hp hr y1 y2⟩
theorem leC_total (p q : Corner) : leC p q \/ leC q p := by unfold leC; omega
theorem zfr {p : Corner} (h : valid p = true) : Nat.gcd (Nat.gcd p.X.natAbs p.Y.natAbs) p.Den.natAbs = 1 := by
 unfold valid at h
 simp only [Bool.and_eq_true, beq_iff_eq] at h
 have := h.2
 simp only [gcdL, List.foldl_cons, List.foldl_nil, Nat.gcd_zero_left] at this
 exact_mod_cast this
theorem zbH {p q : Corner} (hp : valid p = true) (hq : valid q = true) (h1 : leC p q) (h2 : leC q p) : p = q := by
 have dp := (zaK hp).d
 have dq := (zaK hq).d
 have ex : p.X * q.Den = q.X * p.Den := by unfold leC at *; omega
 have ey : p.Y * q.Den = q.Y * p.Den := by unfold leC at *; omega
 have nx : p.X.natAbs * q.Den.natAbs = q.X.natAbs * p.Den.natAbs := by rw [<- Int.natAbs_mul, <- Int.natAbs_mul, ex]
 have ny : p.Y.natAbs * q.Den.natAbs = q.Y.natAbs * p.Den.natAbs := by rw [<- Int.natAbs_mul, <- Int.natAbs_mul, ey]
 have g1 : Nat.gcd (Nat.gcd (p.X.natAbs * q.Den.natAbs) (p.Y.natAbs * q.Den.natAbs)) (p.Den.natAbs * q.Den.natAbs) = q.Den.natAbs := by
  rw [Nat.gcd_mul_right, Nat.gcd_mul_right, zfr hp, Nat.one_mul]
 have g2 : Nat.gcd (Nat.gcd (q.X.natAbs * p.Den.natAbs) (q.Y.natAbs * p.Den.natAbs)) (q.Den.natAbs * p.Den.natAbs) = p.Den.natAbs := by
  rw [Nat.gcd_mul_right, Nat.gcd_mul_right, zfr hq, Nat.one_mul]
 rw [nx, ny, Nat.mul_comm p.Den.natAbs, g2] at g1
 have ed : p.Den = q.Den := by omega
 have hx : p.X = q.X := by
  rw [ed] at ex
  exact Int.eq_of_mul_eq_mul_right (by omega) ex
 have hy : p.Y = q.Y := by
  rw [ed] at ey
  exact Int.eq_of_mul_eq_mul_right (by omega) ey
 cases p; cases q; simp_all
abbrev VC := { p : Corner // valid p = true }
instance : Inhabited VC := ⟨⟨⟨0, 0, 1⟩, by unfold valid within; decide⟩⟩
def VI : Ints VC 3 where
  lst p := [p.1.X, p.1.Y, p.1.Den]
  len _ := rfl
  at_ p := p.1.at
  hat p j hj := by
    match j, hj with
    | 0, _ => rfl
    | 1, _ => rfl
    | 2, _ => rfl
def cmpV (p q : VC) : Int := cmpC p.1 q.1
theorem zbL (p q : VC) : ltOf cmpV p q = decide (ltC p.1 q.1) := by
 unfold ltOf cmpV
 exact decide_eq_decide.2 (zgX p.2 q.2)
theorem VC.den (p : VC) : 0 < p.1.Den := by have := (zaK p.2).d; omega
theorem swoV : SWO (ltOf cmpV) where
  irrefl x := by rw [zbL]; simp [ltC]
  trans x y z h1 h2 := by
    rw [zbL] at *
    simp only [decide_eq_true_eq] at *
    refine Classical.not_not.1 fun hn => ?_
    rw [zaL] at hn
    have h3 : leC x.1 y.1 := by unfold ltC at h1; unfold leC; omega
    exact (zaL.2 (zbG z.den x.den y.den hn h3)) h2
  ntrans x y z h1 h2 := by
    rw [zbL] at *
    simp only [decide_eq_false_iff_not] at *
    rw [zaL] at *
    exact zbG z.den y.den x.den h2 h1
theorem totV (x y : VC) (h1 : ltOf cmpV x y = false) (h2 : ltOf cmpV y x = false) : x = y := by
 rw [zbL] at *
 simp only [decide_eq_false_iff_not] at *
 rw [zaL] at *
 exact Subtype.ext (zbH x.2 y.2 h2 h1)
theorem aggC : ∀ w, (isAgg (Tryz.sortC_ren.t 24)).run PP w = .ok true w := fun _ => by kernel_rfl
theorem sizC : ∀ w, (Go.sizeOf (Tryz.sortC_ren.t 24)).run PP w = .ok 3 w := fun _ => by kernel_rfl
theorem zok (l : List VC) (hn : l.length <= 1000000) : SpecR PP 96 [] [.d (.fn 97)] 67 3 l.length (VI.row l) (VI.row (l.mergeSort fun x y => !(ltOf cmpV) y x)) [] :=
 zee VI Tryz.sortC ⟨_, Tryz.func96, by kernel_rfl, by kernel_rfl⟩ aggC sizC cmpV swoV totV 97 (fun x y => zkO x.1 y.1) 67 l hn
abbrev Num.v (x : Num) : V1 := .agg [I x.n, I x.h.A, I x.h.B, I x.h.C]
def Num.val (x : Num) : Value := .agg #[.int .i64 x.n, .int .i64 x.h.A, .int .i64 x.h.B, .int .i64 x.h.C]
def rowPh (l : List Num) (i k : Nat) : List (Num × Num) := (List.range k).filterMap fun k => if det (l.getD k default).h (l.getD i default).h = 0 then none else some (l.getD k default, l.getD i default)
def upP (l : List Num) (i : Nat) : List (Num × Num) := (List.range i).flatMap fun i => rowPh l i i
def pairsL (l : List Num) : List (Num × Num) := upP l l.length
theorem zcm (l : List Num) (i k : Nat) : rowPh l i (k + 1) = rowPh l i k ++ (if det (l.getD k default).h (l.getD i default).h = 0 then [] else [(l.getD k default, l.getD i default)]) := by
 unfold rowPh
 rw [List.range_succ, List.filterMap_append]
 congr 1
 by_cases h : det (l.getD k default).h (l.getD i default).h = 0
 ·rw [if_pos h, List.filterMap_cons_none (by rw [if_pos h])]; rfl
 ·rw [if_neg h, List.filterMap_cons_some (by rw [if_neg h])]; rfl
theorem zc6 (l : List Num) (i : Nat) : upP l (i + 1) = upP l i ++ rowPh l i i := by
 unfold upP
 rw [List.range_succ, List.flatMap_append]
 simp
theorem zlH (l : List Num) (i : Nat) : ∀ {k m : Nat}, k <= m -> rowPh l i k <+: rowPh l i m := fun {k m} h => by
 obtain ⟨d, rfl⟩ := Nat.exists_eq_add_of_le h
 induction d with
 | zero => exact List.prefix_rfl
 | succ d ih => exact (ih (by omega)).trans (by rw [<- Nat.add_assoc, zcm]; exact List.prefix_append _ _)
theorem znT (l : List Num) : ∀ {k m : Nat}, k <= m -> upP l k <+: upP l m := fun {k m} h => by
 obtain ⟨d, rfl⟩ := Nat.exists_eq_add_of_le h
 induction d with
 | zero => exact List.prefix_rfl
 | succ d ih => exact (ih (by omega)).trans (by rw [<- Nat.add_assoc, zc6]; exact List.prefix_append _ _)
theorem zdx (l : List Num) {i k : Nat} (hi : i < l.length) (hk : k < i) (hd : det (l.getD k default).h (l.getD i default).h ≠ 0) : (pairsL l)[(upP l i).length + (rowPh l i k).length]? = some (l.getD k default, l.getD i default) := by
 have h1 : rowPh l i (k + 1) <+: rowPh l i i := zlH l i hk
 have h2 : upP l (i + 1) <+: pairsL l := znT l hi
 rw [zcm, if_neg hd] at h1
 rw [zc6] at h2
 obtain ⟨r1, h1⟩ := h1
 obtain ⟨r2, h2⟩ := h2
 rw [<- h2, <- h1]
 simp
def Num.sl (l : List Num) : D := .slc 4 l.length fun i => (l.getD i default).at
def pairsEnc (x : Num × Num) : List V1 := [x.1.v, x.2.v]
def pairsVal (x : Num × Num) : List Value := [x.1.val, x.2.val]
theorem zj3 {x : Num} {w : World} {ok : Nat -> Prop} {u : Value} (h : Rep1 w ok x.v u) : u = x.val := by
 obtain ⟨vs, rfl, h⟩ := h
 cases h with
 | cons h1 h => cases h with
  | cons h2 h => cases h with
   | cons h3 h => cases h with
    | cons h4 h =>
     cases h
     rw [show _ = _ from h1, show _ = _ from h2, show _ = _ from h3, show _ = _ from h4]
     rfl
theorem zi1 (x : Num) (w : World) (ok : Nat -> Prop) : Rep1 w ok x.v x.val := ⟨_, rfl, .cons rfl (.cons rfl (.cons rfl (.cons rfl .nil)))⟩
theorem zho (l : List Num) (hl : ∀ x ∈ l, okH x.h) (hn : l.length <= 1000000) : SeqC PP 201 1 (fun _ => .ptr 1 fun _ => Num.sl l) pairsVal (pairsL l) := by
 refine zgr Tryz.func201 rfl (by kernel_rfl) rfl rfl pairsEnc (fun x w ok us h => ?_) _ fun y => ?_
 ·cases h with
  | cons h1 h => cases h with
   | cons h2 h => cases h; rw [zj3 h1, zj3 h2]; rfl
 refine LoopOb.of (σ := Nat) (fun i => ([(G, .gho (some (upP l i).length)), (0, .yl y), (1, .roe 1 fun _ => Num.sl l), (7, avOf (slN l)), (8, .d (I l.length)), (9, .d (I i))], [])) (fun i => i <= l.length) (fun i => l.length - i) 0 ⟨rfl, trivial, wq rfl⟩ (Nat.zero_le _) fun i hi => ?_
 apply bY <;> intro h1
 ·have h1 : i < l.length := by simpa using h1
  refine ⟨⟨rfl, by omega, by omega⟩, ?_⟩
  refine ⟨⟨.inr rfl, by omega, by omega⟩, ?_⟩
  refine LoopOb.of (σ := Nat) (fun k => ([(G, .gho (some ((upP l i).length + (rowPh l i k).length))), (0, .yl y), (1, .roe 1 fun _ => Num.sl l), (4, .roe 4 (l.getD i default).at), (7, avOf (slN l)), (8, .d (I l.length)), (9, .d (I i)), (16, .d (.slc 4 i fun i => (l.getD i default).at)), (17, .d (I i)), (18, .d (I k))], [])) (fun k => k <= i) (fun k => i - k) 0 ⟨rfl, trivial, avQ rfl, avQ rfl, avQ rfl, avBx rfl rfl rfl rfl (eqv4 rfl (dE _) (dE _) (dE _) (dE _)), avQ rfl, avQ rfl, avQ rfl, avE rfl ⟨by omega, .inr ⟨rfl, fun _ _ _ _ => dE _⟩⟩, avI rfl (by omega), avQ rfl, trivial⟩ (Nat.zero_le _) fun k hk => ?_
  apply bY <;> intro h2
  ·have h2 : k < i := by simpa using h2
   have hok1 := hl _ (gd1 (show k < l.length by omega) default)
   have hok2 := hl _ (gd1 h1 default)
   refine ⟨⟨rfl, by omega, by omega⟩, ?_⟩
   refine cP (zoe (l.getD k default).h (l.getD i default).h hok1 hok2) rfl rfl ?_
   apply bY <;> intro h3
   ·have h3 : det (l.getD k default).h (l.getD i default).h ≠ 0 := by simpa using h3
    refine CallSt.yd (d := 32) [(0, .yl y), (1, .roe 1 fun _ => Num.sl l), (4, .roe 4 (l.getD i default).at), (7, avOf (slN l)), (8, .d (I l.length)), (9, .d (I i)), (16, .d (.slc 4 i fun i => (l.getD i default).at)), (17, .d (I i)), (18, .d (I k)), (28, .d (.bool true))] rfl rfl rfl rfl ⟨rfl, trivial, wq rfl⟩ (zdx l h1 h2 h3) rfl rfl ?_ ?_
    ·refine sT ?_
     refine sF ?_
     refine ⟨i6, ?_⟩
     refine ⟨k + 1, ⟨rfl, trivial, avG rfl ?_, wq rfl⟩, h2, ?_⟩
     ·rw [zcm, if_neg h3]; simp; omega
     ·show i - (k + 1) < i - k
      omega
    ·refine sT ?_
     refine sT ?_
     exact .inr rfl
   ·have h3 : det (l.getD k default).h (l.getD i default).h = 0 := by simpa using h3
    refine sF ?_
    refine sF ?_
    refine ⟨i6, ?_⟩
    refine ⟨k + 1, ⟨rfl, trivial, avG rfl ?_, wq rfl⟩, h2, ?_⟩
    ·rw [zcm, if_pos h3]; simp
    ·show i - (k + 1) < i - k
     omega
  ·have h2 : k = i := by
    have : ¬ k < i := by simpa using h2
    omega
   subst h2
   refine ⟨i6, ?_⟩
   refine ⟨k + 1, ⟨rfl, trivial, avG rfl ?_, wq rfl⟩, h1, ?_⟩
   ·rw [zc6]; simp
   ·show l.length - (k + 1) < l.length - k
    omega
 ·have h1 : i = l.length := by
   have : ¬ i < l.length := by simpa using h1
   omega
  subst h1
  exact .inl rfl
abbrev pairsClo (l : List Num) : D := .clo 201 1 fun _ => .ptr 1 fun _ => Num.sl l
theorem zjy (l : List Num) : Spec PP 124 [slN l] [.d (pairsClo l)] := by
 refine sA Tryz.func124 ?_
 refine ⟨⟨rfl, rfl, fun j hj => ?_⟩, trivial⟩
 obtain rfl : j = 0 := by omega
 exact ⟨_, rfl, rfl, _, _, rfl, rfl, rfl, fun j hj => (by
  cases Nat.lt_one_iff.1 hj
  exact dE _)⟩
abbrev Uh (n : Int) : D := .int .u64 n
abbrev NU (n : Int) : V1 := .d (Uh n)
theorem zmP (a : Int) : SpecD PP 292 [NU a] [B false] := by
 refine zaz Tryz.func292 rfl (by kernel_rfl) rfl ?_
 refine r1B rfl ?_
 simp
theorem zqK (a b : Int) : SpecD PP 233 [NU a, NU b] [N (ord a b)] := by
 refine zaz Tryz.func233 rfl (by kernel_rfl) rfl ?_
 repeat' first
  | refine sT ?_
  | refine sF ?_
  | refine bY (fun _ => ?_) (fun _ => ?_)
  | refine cP (zmP _) rfl rfl ?_
  | refine r1I rfl ?_
 all_goals (unfold ord; simp_all)
 all_goals omega
theorem zmO (a b : Int) : SpecD PP 174 [NU a, NU b] [N (ord a b)] := by
 refine zaz Tryz.func174 rfl (by kernel_rfl) rfl ?_
 refine cP (zqK a b) rfl rfl ?_
 exact r1I rfl rfl
theorem zhp (a b : Int) : Spec PP 174 [NU a, NU b] [N (ord a b)] := (zmO a b).of
theorem zo8 (x y : Nat) (hx : x < 18446744073709551616) (hy : y < 18446744073709551616) : SpecD PP 171 [NU x, NU y] [NU ((x * y / 18446744073709551616 : Nat) : Int), NU ((x * y % 18446744073709551616 : Nat) : Int)] :=
 zgo Tryz.mul64 ⟨_, Tryz.func171, by kernel_rfl, by kernel_rfl⟩ x y hx hy
def hiW (n : Int) : Int := ((n.natAbs / 18446744073709551616 : Nat) : Int)
def loW (n : Int) : Int := ((n.natAbs % 18446744073709551616 : Nat) : Int)
abbrev wide (n : Int) : V1 := .agg [I (ord n 0), Uh (hiW n), Uh (loW n)]
theorem zox (a b : Int) : ord a 0 * ord b 0 = ord (a * b) 0 := by
 unfold ord
 rcases Int.lt_trichotomy a 0 with h | h | h <;> rcases Int.lt_trichotomy b 0 with g | g | g
 ·have := Int.mul_pos_of_neg_of_neg h g; rw [if_pos h, if_pos g, if_neg (by omega), if_pos this]; rfl
 ·subst g; simp
 ·have := Int.mul_neg_of_neg_of_pos h g; rw [if_pos h, if_neg (by omega), if_pos g, if_pos this]; rfl
 ·subst h; simp
 ·subst h; simp
 ·subst h; simp
 ·have := Int.mul_neg_of_pos_of_neg h g; rw [if_neg (by omega), if_pos h, if_pos g, if_pos this]; rfl
 ·subst g; simp
 ·have := Int.mul_pos h g; rw [if_neg (by omega), if_pos h, if_neg (by omega), if_pos g, if_neg (by omega), if_pos this]; rfl
theorem absW {a : Int} (h : -9223372036854775807 <= a /\ a <= 9223372036854775807) : IntKind.u64.wrap (max a (-a)) = (a.natAbs : Int) := by
 have e : max a (-a) = (a.natAbs : Int) := by omega
 rw [e]
 show ((a.natAbs : Int) % 2 ^ 64) = _
 omega
theorem zfJ (a b : Int) : -1 <= ord a b /\ ord a b <= 1 := by
 unfold ord; split
 ·omega
 ·split <;> omega
theorem zjv (a b : Int) (ha : -9223372036854775807 <= a /\ a <= 9223372036854775807) (hb : -9223372036854775807 <= b /\ b <= 9223372036854775807) : Spec PP 89 [N a, N b] [wide (a * b)] := by
 refine sA Tryz.func89 ?_
 refine ⟨i6, ⟨i6, ?_⟩⟩
 refine CallSt.pureE (zo8 a.natAbs b.natAbs (by omega) (by omega)).of rfl ⟨⟨rfl, absW ha⟩, ⟨rfl, absW hb⟩, trivial⟩ rfl ?_
 refine cP (zeZ a 0) rfl rfl ?_
 refine cP (zeZ b 0) rfl rfl ?_
 have h1 := zfJ a 0
 have h2 := zfJ b 0
 have h3 := mulB h1 h2
 refine ⟨i6, ?_⟩
 refine r1C rfl rfl rfl rfl rfl rfl (zmI (zox a b) ?_ ?_)
 ·unfold hiW; rw [Int.natAbs_mul]
 ·unfold loW; rw [Int.natAbs_mul]
theorem zoy (a b c d : Nat) (hb : b < 18446744073709551616) (hd : d < 18446744073709551616) : orL [ord a c, ord b d] = ord (18446744073709551616 * a + b) (18446744073709551616 * c + d) := by
 simp only [orL]
 unfold ord
 rcases Nat.lt_trichotomy a c with h | h | h
 ·rw [if_pos (show (a : Int) < c by omega), if_neg (by decide), if_pos (by omega)]
 ·subst h
  rw [if_neg (show ¬ (a : Int) < a by omega), if_neg (show ¬ (a : Int) < a by omega), if_pos rfl]
  rcases Nat.lt_trichotomy b d with g | g | g
  ·rw [if_pos (show (b : Int) < d by omega), if_neg (by decide), if_pos (by omega)]
  ·subst g; simp
  ·rw [if_neg (show ¬ (b : Int) < d by omega), if_pos (show (d : Int) < b by omega), if_neg (by decide), if_neg (by omega), if_pos (by omega)]
 ·rw [if_neg (show ¬ (a : Int) < c by omega), if_pos (show (c : Int) < a by omega), if_neg (by decide), if_neg (by omega), if_pos (by omega)]
theorem zoz (m n : Int) : orL [ord (hiW m) (hiW n), ord (loW m) (loW n)] = ord m.natAbs n.natAbs := by
 have h1 := Nat.div_add_mod m.natAbs 18446744073709551616
 have h2 := Nat.div_add_mod n.natAbs 18446744073709551616
 unfold hiW loW
 rw [zoy _ _ _ _ (Nat.mod_lt _ (by decide)) (Nat.mod_lt _ (by decide))]
 congr 1 <;> omega
theorem zhE (m n : Int) : (if ord m 0 = ord n 0 then ord m 0 * orL [ord (hiW m) (hiW n), ord (loW m) (loW n)] else ord (ord m 0) (ord n 0)) = ord m n := by
 rw [zoz]
 rcases Int.lt_trichotomy m 0 with h | h | h <;> rcases Int.lt_trichotomy n 0 with g | g | g
 all_goals
  first
   | have e1 : ord m 0 = -1 := by unfold ord; rw [if_pos h]
   | have e1 : ord m 0 = 0 := by subst h; unfold ord; rfl
   | have e1 : ord m 0 = 1 := by unfold ord; rw [if_neg (by omega), if_pos h]
  first
   | have e2 : ord n 0 = -1 := by unfold ord; rw [if_pos g]
   | have e2 : ord n 0 = 0 := by subst g; unfold ord; rfl
   | have e2 : ord n 0 = 1 := by unfold ord; rw [if_neg (by omega), if_pos g]
  rw [e1, e2]
  unfold ord
  (repeat' split) <;> omega
theorem zpV (m n : Int) : Spec PP 90 [wide m, wide n] [N (ord m n)] := by
 refine sA Tryz.func90 ?_
 apply bY <;> intro h1
 ·have h1 : ord m 0 ≠ ord n 0 := by simpa using h1
  refine cP (zeZ _ _) rfl rfl ?_
  refine r1I rfl ?_
  rw [<- zhE m n, if_neg h1]
 ·have h1 : ord m 0 = ord n 0 := by simpa using h1
  refine oL (List.range 16) (FzOb.no ?_)
  refine oP (zhp _ _) rfl rfl ?_
  refine oP (zhp _ _) rfl rfl ?_
  refine CallOb.pureE (s_or [_, _] ?_) rfl (zde rfl rfl) rfl ?_
  ·exact Nat.le_of_ble_eq_true rfl
  have hb : ∀ x y : Int, (-1 <= x /\ x <= 1) -> (-1 <= y /\ y <= 1) -> -1 <= orL [x, y] /\ orL [x, y] <= 1 := fun x y hx hy => by
   simp only [orL]; split
   ·split <;> omega
   ·omega
  have h3 := mulB (zfJ m 0) (hb _ _ (zfJ (hiW m) (hiW n)) (zfJ (loW m) (loW n)))
  refine ⟨i6, ?_⟩
  refine r1I rfl ?_
  rw [<- zhE m n, if_pos h1]
def dXh (a b : Corner) : Int := b.X * a.Den - a.X * b.Den
def dYh (a b : Corner) : Int := b.Y * a.Den - a.Y * b.Den
@[irreducible] def turn (a b c : Corner) : Int := ord (dXh a b * dYh a c) (dYh a b * dXh a c)
theorem zpU (a b c : Corner) (ha : okC a) (hb : okC b) (hc : okC c) : Spec PP 183 [a.v, b.v, c.v] [N (turn a b c)] := by
 have da := ha.d
 have db := hb.d
 have dc := hc.d
 have h1 := mulB hb.x (b := a.Den) (y := 2097152) (by omega)
 have h2 := mulB ha.x (b := b.Den) (y := 2097152) (by omega)
 have h3 := mulB hb.y (b := a.Den) (y := 2097152) (by omega)
 have h4 := mulB ha.y (b := b.Den) (y := 2097152) (by omega)
 have h5 := mulB hc.x (b := a.Den) (y := 2097152) (by omega)
 have h6 := mulB ha.x (b := c.Den) (y := 2097152) (by omega)
 have h7 := mulB hc.y (b := a.Den) (y := 2097152) (by omega)
 have h8 := mulB ha.y (b := c.Den) (y := 2097152) (by omega)
 refine sA Tryz.func183 ?_
 refine oL (List.range 24) (FzOb.no ?_)
 refine ⟨i6, ⟨i6, ⟨i6, ⟨i6, ⟨i6, ⟨i6, ?_⟩⟩⟩⟩⟩⟩
 refine oL (List.range 24) (FzOb.no ?_)
 refine ⟨i6, ⟨i6, ⟨i6, ⟨i6, ⟨i6, ⟨i6, ?_⟩⟩⟩⟩⟩⟩
 refine cP (zjv (b.X * a.Den - a.X * b.Den) (c.Y * a.Den - a.Y * c.Den) (by omega) (by omega)) rfl rfl ?_
 refine cP (zjv (b.Y * a.Den - a.Y * b.Den) (c.X * a.Den - a.X * c.Den) (by omega) (by omega)) rfl rfl ?_
 refine cP (zpV _ _) rfl rfl ?_
 refine r1I rfl ?_
 unfold turn dXh dYh; rfl
abbrev rowC (l : List Corner) : Nat -> Nat -> D := fun i => (l.getD i default).at
theorem avS {s : St} {ob : Nat -> Option Ob} {v : AV} {i k lo n lo' n' : Nat} (h : v = .sub i k lo n) (e1 : lo = lo') (e2 : n = n') : AVle s ob v (.sub i k lo' n') := by subst h; exact ⟨rfl, rfl, e1, e2⟩
theorem zkC (l : List Corner) (m j : Nat) : (rowC l m j).flat = true := by
 show ((l.getD m default).at j).flat = true
 unfold Corner.at; split <;> rfl
theorem zhI (l : List Corner) (hn : l.length <= 1000000) : SpecO PP 184 [slC l] 67 3 l.length (rowC l) := by
 refine zc8 Tryz.func184 rfl (by kernel_rfl) rfl ?_
 refine fun b hb => ?_
 apply bY <;> intro h1
 ·have h0 := hb h1
  refine ⟨rfl, rfl, h0.symm, fun i hi => ?_⟩
  omega
 ·refine ⟨⟨.inr rfl, by unfold maxLen; omega, by show (0 + l.length) * 24 <= 140737488355328; omega⟩, ?_⟩
  refine ⟨rfl, rfl, Nat.zero_add _, fun i hi j hj => ?_⟩
  exact dE _
@[irreducible] def keepC (l : List Corner) (i : Nat) : Bool := i == 0 || !(l.getD i default == l.getD (i - 1) default)
@[irreducible] def compP (l : List Corner) (j : Nat) : List Corner := ((List.range j).filter (keepC l)).map fun i => l.getD i default
@[irreducible] def compL (l : List Corner) : List Corner := compP l l.length
theorem zbW (l : List Corner) (i : Nat) : keepC l i = (i == 0 || !(l.getD i default == l.getD (i - 1) default)) := by unfold keepC; rfl
theorem keep0 (l : List Corner) {i : Nat} (h : i < 1) : keepC l i = true := by
 obtain rfl : i = 0 := by omega
 unfold keepC; rfl
theorem zb0 (l : List Corner) (j : Nat) : compP l (j + 1) = compP l j ++ (if keepC l j = true then [l.getD j default] else []) := by
 unfold compP
 rw [List.range_succ, List.filter_append, List.map_append]
 congr 1
 by_cases h : keepC l j = true
 ·rw [if_pos h]; simp [h]
 ·rw [if_neg h]; simp [h]
theorem zkT (l : List Corner) (j : Nat) : (compP l j).length <= j := by
 unfold compP
 rw [List.length_map]
 exact Nat.le_trans (List.length_filter_le _ _) (by simp)
theorem zdS (l : List Corner) {j : Nat} (hj : j <= l.length) (h : ∀ i, i < j -> keepC l i = true) : compP l j = l.take j := by
 induction j with
 | zero => simp [compP]
 | succ j ih => rw [zb0, if_pos (h j (by omega)), ih (by omega) fun i hi => h i (by omega), zaD (by omega) default]
theorem eqC (p q : Corner) : (p.X == q.X && (p.Y == q.Y && (p.Den == q.Den && true))) = (p == q) := by
 rw [Bool.eq_iff_iff]
 simp only [Bool.and_eq_true, beq_iff_eq, and_true]
 constructor
 ·rintro ⟨h1, h2, h3⟩; cases p; cases q; simp_all
 ·rintro rfl; exact ⟨rfl, rfl, rfl⟩
theorem zbo {α : Type} (m : List α) (k i : Nat) (p d : α) (hk : k < m.length) : (m.set k p).getD i d = if i = k then p else m.getD i d := by
 rw [gdq, List.getElem?_set, gdq]
 by_cases h : k = i
 ·subst h; simp [hk]
 ·rw [if_neg h, if_neg fun e => h e.symm]
theorem setC {m : List Corner} {n k k' : Nat} {p q : Corner} (hk : k < m.length) (e1 : k' = k) (e2 : q = p) : D.eqv (.slc 3 n (storeRow (rowC m) k' 0 [I q.X, I q.Y, I q.Den])) (.slc 3 n (rowC (m.set k p))) := by
 subst e1; subst e2
 refine ⟨rfl, .inr ⟨rfl, fun i hi j hj => ?_⟩⟩
 show D.eqv (storeRow (rowC m) k' 0 [I q.X, I q.Y, I q.Den] i j) (((m.set k' q).getD i default).at j)
 rw [zbo m k' i q default hk]
 unfold storeRow
 by_cases h : i = k'
 ·rw [if_pos h, if_pos ⟨h, by omega, by simpa using hj⟩]
  match j, hj with
  | 0, _ => exact ⟨rfl, rfl⟩
  | 1, _ => exact ⟨rfl, rfl⟩
  | 2, _ => exact ⟨rfl, rfl⟩
 ·rw [if_neg h, if_neg fun hh => h hh.1]
  exact dE _
theorem zjd (l : List Corner) (hn : l.length <= 1000000) : SpecT PP 99 [] [] 67 3 l.length (rowC l) (compL l).length (rowC (compL l)) := by
 refine zeU Tryz.func99 rfl (by kernel_rfl) (fun i _ j _ => zkC _ i j) rfl fun v => ?_
 apply bY <;> intro h1
 ·have h1 : l.length < 2 := by have := dT h1; omega
  have e : compL l = l := by
   unfold compL
   rw [zdS l (Nat.le_refl _) fun i hi => ?_, List.take_length]
   unfold keepC
   rcases Nat.eq_zero_or_pos i with h | h
   ·subst h; rfl
   ·omega
  rw [e]
  exact ⟨rfl, rfl, rfl, fun i hi j hj => dE _⟩
 ·have h1 : 2 <= l.length := by have := dF h1; omega
  refine LoopOb.of (σ := Nat) (fun k => ([(0, .own 0), (3, .d (I k))], [(0, .row 67 3 l.length (rowC l))])) (fun k => 1 <= k /\ k <= l.length /\ ∀ i, i < k -> keepC l i = true) (fun k => l.length - k) 1 ⟨rfl, ⟨obR rfl (dE _), trivial⟩, rfl, avR _ rfl, trivial⟩ ⟨Nat.le_refl _, by omega, fun i hi => keep0 l hi⟩ fun k hk => ?_
  obtain ⟨k1, k2, k3⟩ := hk
  apply bY <;> intro h2
  ·have h2 : k < l.length := by simpa using h2
   refine oL (List.range 10) (FzOb.no ?_)
   refine ⟨⟨by omega, by omega⟩, ⟨by omega, ?_⟩⟩
   refine ⟨i6, ?_⟩
   refine ⟨⟨by omega, by omega⟩, ⟨by omega, ?_⟩⟩
   apply bY <;> intro h3
   ·rw [eqC, Int.toNat_natCast, show ((k : Int) - 1).toNat = k - 1 by omega] at h3
    have hnk : keepC l k = false := by simp only [zbW, h3]; simp; omega
    have ck : compP l (k + 1) = l.take k := by rw [zb0, if_neg (by rw [hnk]; decide), List.append_nil, zdS l k2 k3]
    refine ⟨⟨rfl, by omega, by omega⟩, ?_⟩
    refine LoopOb.of (σ := Nat × Nat × List Corner) (fun x => ([(0, .own 0), (3, .d (I x.2.1)), (4, .sub 0 3 k (l.length - k)), (5, .d (I (x.1 - k)))], [(0, .row 67 3 l.length (rowC x.2.2))]))
     (fun x => k + 1 <= x.1 /\ x.1 <= l.length /\ x.2.2.length = l.length /\ x.2.1 <= x.1 - 1 /\ x.2.2.take x.2.1 = compP l x.1 /\ ∀ i, x.1 - 1 <= i -> x.2.2.getD i default = l.getD i default) (fun x => l.length - x.1) (k + 1, k, l)
     ⟨rfl, ⟨obR rfl (dE _), trivial⟩, rfl, avI rfl rfl, avS rfl (Int.toNat_natCast k) (by rw [Int.toNat_natCast]), avI rfl ?_, trivial⟩ ⟨Nat.le_refl _, h2, rfl, by simp, ck.symm, fun _ _ => rfl⟩ fun x hx => ?_
    ·show (1 : Int) = ((k + 1 : Nat) : Int) - k
     omega
    ·obtain ⟨x1, x2, x3, x4, x5, x6⟩ := hx
     apply bY <;> intro g1
     ·have g1 : x.1 < l.length := by have := dT g1; omega
      refine oL (List.range 10) (FzOb.no ?_)
      refine ⟨⟨by omega, by omega⟩, ⟨by omega, ?_⟩⟩
      refine ⟨i6, ?_⟩
      refine ⟨⟨by omega, by omega⟩, ⟨by omega, ?_⟩⟩
      have e1 : k + ((x.1 : Int) - k).toNat = x.1 := by omega
      have e2 : k + ((x.1 : Int) - k - 1).toNat = x.1 - 1 := by omega
      apply bY <;> intro g2
      ·rw [eqC, e1, e2, x6 x.1 (by omega), x6 (x.1 - 1) (by omega)] at g2
       have hkj : keepC l x.1 = true := by simp only [zbW]; simp only [Bool.or_eq_true]; exact .inr g2
       refine ⟨⟨by omega, by omega⟩, ⟨by omega, ?_⟩⟩
       refine ⟨⟨by omega, by omega⟩, ⟨by omega, ?_⟩⟩
       refine ⟨i6, ?_⟩
       refine ⟨i6, ?_⟩
       refine ⟨(x.1 + 1, x.2.1 + 1, x.2.2.set x.2.1 (l.getD x.1 default)), ⟨rfl, ⟨obR rfl (setC (by omega) (Int.toNat_natCast _) (by rw [e1, x6 _ (by omega)])), trivial⟩, rfl, avI rfl ?_, avS rfl rfl rfl, avI rfl ?_, trivial⟩, ⟨by omega, by omega, by simp; omega, (show x.2.1 + 1 <= x.1 + 1 - 1 by omega), ?_, fun i hi => ?_⟩, ?_⟩
       ·show (x.2.1 : Int) + 1 = ((x.2.1 + 1 : Nat) : Int)
        omega
       ·show (x.1 : Int) - k + 1 = ((x.1 + 1 : Nat) : Int) - k
        omega
       ·show (x.2.2.set x.2.1 (l.getD x.1 default)).take (x.2.1 + 1) = compP l (x.1 + 1)
        rw [zb0, if_pos hkj, zaD (i := x.2.1) (by simp; omega) default, zbo _ _ _ _ _ (by omega), if_pos rfl, <- x5, List.take_set_of_le (Nat.le_refl _)]
       ·have hi : x.1 + 1 - 1 <= i := hi
        show (x.2.2.set x.2.1 (l.getD x.1 default)).getD i default = _
        rw [zbo _ _ _ _ _ (by omega), if_neg (by omega)]
        exact x6 i (by omega)
       ·show l.length - (x.1 + 1) < l.length - x.1
        omega
      ·rw [eqC, e1, e2, x6 x.1 (by omega), x6 (x.1 - 1) (by omega)] at g2
       have hkj : keepC l x.1 = false := by simp only [zbW]; simp only [Bool.or_eq_false_iff]; exact ⟨by simp; omega, g2⟩
       refine ⟨i6, ?_⟩
       refine ⟨(x.1 + 1, x.2.1, x.2.2), ⟨rfl, ⟨obR rfl (dE _), trivial⟩, rfl, avI rfl rfl, avS rfl rfl rfl, avI rfl ?_, trivial⟩, ⟨by omega, by omega, x3, (show x.2.1 <= x.1 + 1 - 1 by omega), ?_, fun i hi => x6 i (by omega)⟩, ?_⟩
       ·show (x.1 : Int) - k + 1 = ((x.1 + 1 : Nat) : Int) - k
        omega
       ·show x.2.2.take x.2.1 = compP l (x.1 + 1)
        rw [zb0, if_neg (by rw [hkj]; decide), List.append_nil, x5]
       ·show l.length - (x.1 + 1) < l.length - x.1
        omega
     ·have g1 : x.1 = l.length := by have := dF g1; omega
      refine ⟨⟨rfl, by omega, by omega⟩, ?_⟩
      refine ⟨by omega, ?_⟩
      refine ⟨⟨by omega, by omega⟩, ?_⟩
      refine ⟨rfl, rfl, ?_, fun i hi j hj => ?_⟩
      ·have := congrArg List.length x5
       rw [List.length_take, g1] at this
       show (x.2.1 : Int).toNat = _
       unfold compL
       omega
      ·have hk' : x.2.1 = (compL l).length := by
        have := congrArg List.length x5
        rw [List.length_take, g1] at this
        unfold compL
        omega
       have e3 : (compL l).getD i default = x.2.2.getD i default := by
        unfold compL
        rw [<- g1, <- x5, gdq, List.getElem?_take, if_pos (by omega), <- gdq]
       show D.eqv (clrRow (rowC x.2.2) (x.2.1 : Int).toNat (l.length - (x.2.1 : Int).toNat) _ i j) (((compL l).getD i default).at j)
       unfold clrRow
       rw [if_neg (by omega), e3]
       exact dE _
   ·rw [eqC, Int.toNat_natCast, show ((k : Int) - 1).toNat = k - 1 by omega] at h3
    refine ⟨i6, ?_⟩
    refine ⟨k + 1, ⟨rfl, ⟨obR rfl (dE _), trivial⟩, rfl, avI rfl (by omega), trivial⟩, ⟨by omega, by omega, fun i hi => ?_⟩, ?_⟩
    ·rcases Nat.lt_or_ge i k with h | h
     ·exact k3 i h
     ·obtain rfl : i = k := by omega
      simp only [zbW, h3]; simp
    ·show l.length - (k + 1) < l.length - k
     omega
  ·have h2 : k = l.length := by
    have : ¬ k < l.length := by simpa using h2
    omega
   have e : compL l = l := by
    unfold compL
    rw [zdS l (Nat.le_refl _) fun i hi => k3 i (by omega), List.take_length]
   rw [e]
   exact ⟨rfl, rfl, rfl, fun i hi j hj => dE _⟩
def popR (p : Corner) : List Corner -> List Corner
 | b :: a :: r => if turn a b p <= 0 then popR p (a :: r) else b :: a :: r
 | s => s
def stepR (st : List Corner) (p : Corner) : List Corner := p :: popR p st
@[irreducible] def chainR (l : List Corner) : List Corner := l.foldl stepR []
@[irreducible] def halfL (l : List Corner) : List Corner := (chainR l).tail.reverse
theorem zhy (p : Corner) : ∀ (st : List Corner), ∀ q ∈ popR p st, q ∈ st
 | [], q, h => h
 | [b], q, h => h
 | b :: a :: r, q, h => by
  simp only [popR] at h
  split at h
  ·exact List.mem_cons_of_mem _ (zhy p (a :: r) q h)
  ·exact h
theorem zhz (p : Corner) : ∀ (st : List Corner), (popR p st).length <= st.length
 | [] => Nat.le_refl _
 | [b] => Nat.le_refl _
 | b :: a :: r => by
  simp only [popR]
  split
  ·have := zhz p (a :: r); simp only [List.length_cons] at *; omega
  ·exact Nat.le_refl _
theorem zcc (l : List Corner) {i : Nat} (h : i < l.length) : chainR (l.take (i + 1)) = stepR (chainR (l.take i)) (l.getD i default) := by
 unfold chainR
 rw [zaD h default, List.foldl_append]; rfl
theorem zdV (l : List Corner) : chainR (l.take 0) = [] := by unfold chainR; simp
theorem zb1 (l : List Corner) : ∀ i, i <= l.length -> (∀ q ∈ chainR (l.take i), q ∈ l) /\ (chainR (l.take i)).length <= i
 | 0, _ => by rw [zdV]; simp
 | i + 1, h => by
  rw [zcc l (by omega)]
  obtain ⟨h1, h2⟩ := zb1 l i (by omega)
  refine ⟨fun q hq => ?_, ?_⟩
  ·rcases List.mem_cons.1 hq with rfl | hq
   ·exact gd1 (by omega) default
   ·exact h1 q (zhy _ _ q hq)
  ·have := zhz (l.getD i default) (chainR (l.take i))
   show (popR _ _).length + 1 <= i + 1
   omega
theorem zgx (a : Corner) (r : List Corner) {n : Nat} (h : n = r.length) : (a :: r).reverse.getD n default = a := by
 subst h
 rw [gdq, List.reverse_cons, List.getElem?_append_right (by simp)]
 simp
theorem zlK (b a : Corner) (r : List Corner) {n : Nat} (h : n = r.length) : (b :: a :: r).reverse.getD n default = a := by
 subst h
 rw [gdq, List.reverse_cons, List.getElem?_append_left (by simp), <- gdq]
 exact zgx a r rfl
theorem ze0 (b : Corner) (r : List Corner) {i : Nat} (h : i < r.length) : r.reverse.getD i default = (b :: r).reverse.getD i default := by
 rw [List.reverse_cons, gdq, gdq, List.getElem?_append_left (by simpa using h)]
theorem znn {st : List Corner} {p : Corner} {n : Nat} {g : Nat -> Nat -> D} (hn : n = st.length) (hg : ∀ j, j < 3 -> D.eqv (g 0 j) (p.at j)) : D.eqv (.slc 3 (n + 1) (appRow n (rowC st.reverse) g)) (.slc 3 (p :: st).length (rowC (p :: st).reverse)) := by
 subst hn
 refine app1 (fun i hi j hj => ?_) fun j hj => ?_
 ·show D.eqv ((st.reverse.getD i default).at j) (((p :: st).reverse.getD i default).at j)
  rw [ze0 p st hi]
  exact dE _
 ·show D.eqv (g 0 j) (((p :: st).reverse.getD st.length default).at j)
  rw [zgx p st rfl]
  exact hg j hj
theorem eqAt (p : Corner) : ∀ j, j < 3 -> D.eqv (rowOf 3 [I p.X, I p.Y, I p.Den] 0 j) (p.at j)
 | 0, _ => ⟨rfl, rfl⟩
 | 1, _ => ⟨rfl, rfl⟩
 | 2, _ => ⟨rfl, rfl⟩
theorem zns (l : List Corner) (hl : ∀ q ∈ l, okC q) (h0 : 1 <= l.length) (hn : l.length <= 1000000) : SpecO PP 182 [slC l] 67 3 (halfL l).length (rowC (halfL l)) := by
 refine zc8 Tryz.func182 rfl (by kernel_rfl) rfl ?_
 refine LoopOb.of (σ := Nat × List Corner) (fun x => ([(0, avOf (slC l)), (3, .own 3), (6, avOf (slC l)), (7, .d (I l.length)), (8, .d (I x.1))], [(3, .row 67 3 x.2.length (rowC x.2.reverse))])) (fun x => x.1 <= l.length /\ x.2 = chainR (l.take x.1) /\ (0 < x.1 -> x.2 ≠ [])) (fun x => l.length - x.1) (0, [])
  ⟨rfl, ⟨obR rfl ⟨rfl, .inl rfl⟩, trivial⟩, wq rfl⟩ ⟨Nat.zero_le _, (zdV l).symm, fun h => absurd h (Nat.lt_irrefl 0)⟩ fun x hx => ?_
 obtain ⟨x1, x2, x3⟩ := hx
 obtain ⟨c1, c2⟩ := zb1 l x.1 x1
 apply bY <;> intro h1
 ·have h1 : x.1 < l.length := by simpa using h1
  refine ⟨⟨rfl, by omega, by omega⟩, ?_⟩
  have hp : l.getD x.1 default ∈ l := gd1 h1 default
  refine LoopOb.of (σ := List Corner) (fun st => ([(0, avOf (slC l)), (3, .own 3), (5, .box 5 0), (6, avOf (slC l)), (7, .d (I l.length)), (8, .d (I x.1))], [(3, .row 67 3 st.length (rowC st.reverse)), (5, .box [.d (I (l.getD x.1 default).X), .d (I (l.getD x.1 default).Y), .d (I (l.getD x.1 default).Den)])])) (fun st => popR (l.getD x.1 default) st = popR (l.getD x.1 default) x.2 /\ (∀ q ∈ st, q ∈ l) /\ st.length <= l.length) (fun st => st.length) x.2 ⟨rfl, ⟨obR rfl (dE _), obD [I (l.getD x.1 default).X, I (l.getD x.1 default).Y, I (l.getD x.1 default).Den] rfl, trivial⟩, wq rfl⟩ ⟨rfl, by rw [x2]; exact c1, by rw [x2]; omega⟩ fun st hst => ?_
  obtain ⟨s1, s2, s3⟩ := hst
  refine oL (List.range 20) (FzOb.no ?_)
  apply bY <;> intro h2
  ·have h2 : 1 < st.length := by have := dT h2; omega
   refine ⟨i6, ?_⟩
   refine ⟨⟨by omega, by omega⟩, ⟨by omega, ?_⟩⟩
   refine ⟨i6, ?_⟩
   refine ⟨⟨by omega, by omega⟩, ⟨by omega, ?_⟩⟩
   obtain ⟨b, a, r, rfl⟩ : ∃ b a r, st = b :: a :: r := by
    match st, h2 with
    | b :: a :: r, _ => exact ⟨b, a, r, rfl⟩
   have ga : (b :: a :: r).reverse.getD (((b :: a :: r).length : Int) - 2).toNat default = a := zlK b a r (by simp; omega)
   have gb : (b :: a :: r).reverse.getD (((b :: a :: r).length : Int) - 1).toNat default = b := zgx b (a :: r) (by simp)
   refine oP (zpU _ _ _ ?_ ?_ ?_) rfl rfl ?_
   ·rw [ga]; exact hl _ (s2 _ (by simp))
   ·rw [gb]; exact hl _ (s2 _ (by simp))
   ·exact hl _ hp
   refine sT ?_
   apply bY <;> intro h3
   ·have h3 : turn a b (l.getD x.1 default) <= 0 := by rw [ga, gb] at h3; exact dT h3
    refine ⟨i6, ?_⟩
    refine ⟨⟨by omega, by omega⟩, ?_⟩
    refine ⟨a :: r, ⟨rfl, ⟨obR rfl ⟨?_, .inr ⟨rfl, fun i hi j hj => ?_⟩⟩, obD [I (l.getD x.1 default).X, I (l.getD x.1 default).Y, I (l.getD x.1 default).Den] rfl, trivial⟩, wq rfl⟩, ⟨?_, fun q hq => s2 q (List.mem_cons_of_mem _ hq), by simp at s3 ⊢; omega⟩, ?_⟩
    ·simp
    ·show D.eqv (((b :: a :: r).reverse.getD i default).at j) (((a :: r).reverse.getD i default).at j)
     rw [ze0 b (a :: r) (by simp at hi ⊢; omega)]
     exact dE _
    ·rw [<- s1]; simp only [popR, if_pos h3]
    ·show (a :: r).length < (b :: a :: r).length
     simp
   ·have h3 : ¬ turn a b (l.getD x.1 default) <= 0 := by rw [ga, gb] at h3; exact dF h3
    have hst : popR (l.getD x.1 default) (b :: a :: r) = b :: a :: r := by simp only [popR, if_neg h3]
    refine ⟨⟨.inr rfl, by unfold maxLen; omega, by show ((b :: a :: r).length + 1) * 24 <= 140737488355328; omega⟩, ?_⟩
    refine ⟨i6, ?_⟩
    refine ⟨(x.1 + 1, l.getD x.1 default :: (b :: a :: r)), ⟨rfl, ⟨obR rfl (znn rfl (eqAt _)), trivial⟩, wq rfl⟩, ⟨h1, ?_, fun _ => by simp⟩, ?_⟩
    ·show l.getD x.1 default :: (b :: a :: r) = chainR (l.take (x.1 + 1))
     rw [zcc l h1, stepR, <- x2, <- s1, hst]
    ·show l.length - (x.1 + 1) < l.length - x.1
     omega
  ·have h2 : st.length <= 1 := by have := dF h2; omega
   have hst : popR (l.getD x.1 default) st = st := by
    match st, h2 with
    | [], _ => rfl
    | [b], _ => rfl
   refine sF ?_
   refine sF ?_
   refine ⟨⟨.inr rfl, by unfold maxLen; omega, by show (st.length + 1) * 24 <= 140737488355328; omega⟩, ?_⟩
   refine ⟨i6, ?_⟩
   refine ⟨(x.1 + 1, l.getD x.1 default :: st), ⟨rfl, ⟨obR rfl (znn rfl (eqAt _)), trivial⟩, wq rfl⟩, ⟨h1, ?_, fun _ => by simp⟩, ?_⟩
   ·show l.getD x.1 default :: st = chainR (l.take (x.1 + 1))
    rw [zcc l h1, stepR, <- x2, <- s1, hst]
   ·show l.length - (x.1 + 1) < l.length - x.1
    omega
 ·have h1 : x.1 = l.length := by
   have : ¬ x.1 < l.length := by simpa using h1
   omega
  have hx2 : x.2 = chainR l := by rw [x2, h1, List.take_length]
  obtain ⟨p, st, hst⟩ : ∃ p st, x.2 = p :: st := by
   have := x3 (by omega)
   match hx : x.2, this with
   | p :: st, _ => exact ⟨p, st, rfl⟩
  have hlen : x.2.length = st.length + 1 := by rw [hst]; rfl
  have hle : x.2.length <= l.length := by rw [x2]; omega
  have hr : halfL l = st.reverse := by unfold halfL; rw [<- hx2, hst]; rfl
  refine ⟨i6, ?_⟩
  refine ⟨⟨by omega, by omega⟩, ?_⟩
  refine ⟨rfl, rfl, ?_, fun i hi j hj => ?_⟩
  ·show ((x.2.length : Int) - 1).toNat = _
   rw [hr, List.length_reverse]; omega
  ·rw [hr, List.length_reverse] at hi
   show D.eqv ((x.2.reverse.getD i default).at j) (((halfL l).getD i default).at j)
   rw [hr, ze0 p st hi, hst]
   exact dE _
theorem zcv (l : List Corner) : (halfL l).length <= l.length := by
 have := (zb1 l l.length (Nat.le_refl _)).2
 rw [List.take_length] at this
 unfold halfL
 rw [List.length_reverse, List.length_tail]
 omega
@[irreducible] def hullL (l : List Corner) : List Corner := if l.length < 3 then l else halfL l ++ halfL l.reverse
def CI : Ints Corner 3 where
  lst p := [p.X, p.Y, p.Den]
  len _ := rfl
  at_ p := p.at
  hat p j hj := by
    match j, hj with
    | 0, _ => rfl
    | 1, _ => rfl
    | 2, _ => rfl
theorem zim (l : List Corner) (hn : l.length <= 1000000) : SpecR PP 185 [] [] 67 3 l.length (rowC l) (rowC l.reverse) [] :=
 zeV CI Tryz.revC ⟨_, Tryz.func185, by kernel_rfl, by kernel_rfl⟩ (fun _ => by kernel_rfl) (fun _ => by kernel_rfl) 67 l hn
theorem zpZ (l : List Corner) (hl : ∀ q ∈ l, okC q) (hn : l.length <= 1000000) : Spec PP 98 [slC l] [slC (hullL l)] := by
 refine sA Tryz.func98 ?_
 apply bY <;> intro h1
 ·have h1 : l.length < 3 := by have := dT h1; omega
  have e : hullL l = l := by unfold hullL; rw [if_pos h1]
  rw [e]
  exact ⟨dE _, trivial⟩
 ·have h1 : ¬ l.length < 3 := by have := dF h1; omega
  have e : hullL l = halfL l ++ halfL l.reverse := by unfold hullL; rw [if_neg h1]
  have n1 := zcv l
  have n2 := zcv l.reverse
  rw [List.length_reverse] at n2
  refine CallSt.own (zns l hl (by omega) hn) rfl rfl (fun m j _ _ => zkC _ m j) ?_
  refine CallSt.own (zhI (halfL l) (by omega)) rfl rfl (fun m j _ _ => zkC _ m j) ?_
  refine CallSt.own (zhI l hn) rfl rfl (fun m j _ _ => zkC _ m j) ?_
  refine CallSt.rw' rfl (zim l hn) ⟨⟨[], .tmp 16, [], [], rfl, rfl, rfl, rfl, rfl, rfl, rfl⟩⟩ rfl ?_
  refine CallSt.ownE (zns l.reverse (fun q hq => hl q (List.mem_reverse.1 hq)) (by simp; omega) (by simp; omega)) rfl ⟨?_, trivial⟩ rfl (fun m j _ _ => zkC _ m j) ?_
  ·exact ⟨by simp, .inr ⟨rfl, fun _ _ _ _ => dE _⟩⟩
  refine ⟨⟨.inr rfl, by unfold maxLen; omega, by show ((halfL l).length + (halfL l.reverse).length) * 24 <= 140737488355328; omega⟩, ?_⟩
  refine ⟨⟨_, _, _, _, rfl, ?_⟩, trivial⟩
  rw [e]
  refine ⟨by simp, .inr ⟨rfl, fun i hi j hj => ?_⟩⟩
  show D.eqv (appRow (halfL l).length (rowC (halfL l)) (rowC (halfL l.reverse)) i j) (((halfL l ++ halfL l.reverse).getD i default).at j)
  unfold appRow
  by_cases h : i < (halfL l).length
  ·rw [if_pos h, gdq, List.getElem?_append_left h, <- gdq]
   exact dE _
  ·rw [if_neg h, gdq, List.getElem?_append_right (by omega), <- gdq]
   exact dE _
theorem gcd3 (x y d : Int) : gcdL [x, y, d] = Nat.gcd (Nat.gcd x.natAbs y.natAbs) d.natAbs := by
 simp only [gcdL, List.foldl_cons, List.foldl_nil, Nat.gcd_zero_left]
theorem zfP {x y d : Int} (hd : d ≠ 0) (bx : -1073741824 <= x /\ x <= 1073741824) (by' : -1073741824 <= y /\ y <= 1073741824) (bd : -2097152 <= d /\ d <= 2097152) : valid (lowest x y d) = true := by
 have hg : 0 < gcdL [x, y, d] := by rw [gcd3]; exact Nat.gcd_pos_of_pos_right _ (by omega)
 have e1 := gcd3 x y d
 generalize hG : gcdL [x, y, d] = G' at *
 have d1 : G' ∣ x.natAbs := by rw [e1]; exact Nat.dvd_trans (Nat.gcd_dvd_left _ _) (Nat.gcd_dvd_left _ _)
 have d2 : G' ∣ y.natAbs := by rw [e1]; exact Nat.dvd_trans (Nat.gcd_dvd_left _ _) (Nat.gcd_dvd_right _ _)
 have d3 : G' ∣ d.natAbs := by rw [e1]; exact Nat.gcd_dvd_right _ _
 obtain ⟨s, hs, hsa⟩ : ∃ s : Int, s = (if d < 0 then -(G' : Int) else (G' : Int)) /\ s.natAbs = G' := ⟨_, rfl, by split <;> omega⟩
 have hl : lowest x y d = ⟨x.tdiv s, y.tdiv s, d.tdiv s⟩ := by
  unfold lowest
  rw [hs, hG]
 have ax : (x.tdiv s).natAbs = x.natAbs / G' := by rw [Int.natAbs_tdiv, hsa]; rfl
 have ay : (y.tdiv s).natAbs = y.natAbs / G' := by rw [Int.natAbs_tdiv, hsa]; rfl
 have ad : (d.tdiv s).natAbs = d.natAbs / G' := by rw [Int.natAbs_tdiv, hsa]; rfl
 have hpos : 0 <= d.tdiv s := by
  rw [hs]
  split
  ·rename_i h
   exact Int.tdiv_nonneg_of_nonpos_of_nonpos (by omega) (by omega)
  ·exact Int.tdiv_nonneg (by omega) (by omega)
 have hd1 : 1 <= d.natAbs / G' := (Nat.one_le_div_iff hg).2 (Nat.le_of_dvd (by omega) d3)
 have b1 : x.natAbs / G' <= x.natAbs := Nat.div_le_self _ _
 have b2 : y.natAbs / G' <= y.natAbs := Nat.div_le_self _ _
 have b3 : d.natAbs / G' <= d.natAbs := Nat.div_le_self _ _
 rw [hl]
 unfold valid
 simp only [Bool.and_eq_true, zab, beq_iff_eq]
 refine ⟨⟨⟨by omega, by omega⟩, by omega⟩, ?_⟩
 rw [gcd3, ax, ay, ad, Nat.gcd_div d1 d2, Nat.gcd_div (Nat.dvd_gcd d1 d2) d3, <- e1, Nat.div_self hg]
 rfl
theorem zan {g h : Half} (hg : okH g) (hh : okH h) (hd : det g h ≠ 0) : valid (crossing g h) = true := by
 have h1 := mulB hg.c hh.b
 have h2 := mulB hh.c hg.b
 have h3 := mulB hg.a hh.c
 have h4 := mulB hh.a hg.c
 have h5 := zkN hg hh
 unfold crossing
 exact zfP hd (by omega) (by omega) (by omega)
theorem zlI {l : List Num} {i k : Nat} {x : Num × Num} (hi : i < l.length) (hk : k <= i) (h : x ∈ rowPh l i k) : x.1 ∈ l /\ x.2 ∈ l /\ det x.1.h x.2.h ≠ 0 := by
 unfold rowPh at h
 obtain ⟨j, hj, he⟩ := List.mem_filterMap.1 h
 have hj := List.mem_range.1 hj
 split at he
 ·cases he
 ·rename_i hd
  cases he
  exact ⟨gd1 (by omega) default, gd1 hi default, hd⟩
theorem zbk {l : List Num} {x : Num × Num} (h : x ∈ pairsL l) : x.1 ∈ l /\ x.2 ∈ l /\ det x.1.h x.2.h ≠ 0 := by
 unfold pairsL upP at h
 obtain ⟨i, hi, hx⟩ := List.mem_flatMap.1 h
 exact zlI (List.mem_range.1 hi) (Nat.le_refl _) hx
theorem zlJ (l : List Num) (i k : Nat) : (rowPh l i k).length <= k := by
 unfold rowPh
 exact Nat.le_trans (List.length_filterMap_le _ _) (by simp)
theorem zi5 (l : List Num) (m : Nat) : ∀ i, i <= m -> (upP l i).length <= m * i
 | 0, _ => by simp [upP]
 | i + 1, h => by
  rw [zc6, List.length_append, Nat.mul_succ]
  have := zi5 l m i (by omega)
  have := zlJ l i i
  omega
theorem zeq (l : List Num) : (pairsL l).length <= l.length * l.length := zi5 l l.length l.length (Nat.le_refl _)
theorem zcf {l : List Half} (h : ∀ x ∈ l, okH x) : ∀ x ∈ allL l, okH x.h := fun x hx => by
 unfold allL at hx
 obtain ⟨i, hi, rfl⟩ := List.mem_map.1 hx
 have hi := List.mem_range.1 hi
 unfold allAt
 by_cases hl : i < l.length
 ·rw [if_pos hl]; exact h _ (gd1 hl default)
 ·rw [if_neg hl]
  obtain h0 | h0 | h0 | h0 : i - l.length = 0 \/ i - l.length = 1 \/ i - l.length = 2 \/ i - l.length = 3 := by omega
  ·rw [h0]; exact (show okH (sidesL.getD 0 default) from ⟨by decide, by decide, by decide⟩)
  ·rw [h0]; exact (show okH (sidesL.getD 1 default) from ⟨by decide, by decide, by decide⟩)
  ·rw [h0]; exact (show okH (sidesL.getD 2 default) from ⟨by decide, by decide, by decide⟩)
  ·rw [h0]; exact (show okH (sidesL.getD 3 default) from ⟨by decide, by decide, by decide⟩)
def ptV (l : List Half) (x : Num × Num) : Option VC := if h : valid (crossing x.1.h x.2.h) = true /\ outsideL (allL l) (crossing x.1.h x.2.h) = -5 then some ⟨crossing x.1.h x.2.h, h.1⟩ else none
@[irreducible] def ptsV (l : List Half) (pre : List (Num × Num)) : List VC := pre.filterMap (ptV l)
theorem zhu (l : List Half) : ptsV l [] = [] := by unfold ptsV; rfl
theorem zlU {l : List Half} {pre : List (Num × Num)} {x : Num × Num} (hv : valid (crossing x.1.h x.2.h) = true) (h : outsideL (allL l) (crossing x.1.h x.2.h) = -5) : ptsV l (pre ++ [x]) = ptsV l pre ++ [⟨crossing x.1.h x.2.h, hv⟩] := by
 unfold ptsV
 rw [List.filterMap_append]
 congr 1
 rw [List.filterMap_cons_some (b := ⟨crossing x.1.h x.2.h, hv⟩) (by unfold ptV; rw [dif_pos ⟨hv, h⟩])]
 rfl
theorem zop {l : List Half} {pre : List (Num × Num)} {x : Num × Num} (h : outsideL (allL l) (crossing x.1.h x.2.h) ≠ -5) : ptsV l (pre ++ [x]) = ptsV l pre := by
 unfold ptsV
 rw [List.filterMap_append, List.filterMap_cons_none (by unfold ptV; rw [dif_neg fun hh => h hh.2])]
 simp
theorem ze2 (l : List Half) (pre : List (Num × Num)) : (ptsV l pre).length <= pre.length := by unfold ptsV; exact List.length_filterMap_le _ _
def sortV (l : List VC) : List VC := l.mergeSort fun x y => !(ltOf cmpV) y x
@[irreducible] def sortedL (l : List Half) : List Corner := (sortV (ptsV l (pairsL (allL l)))).map fun p : VC => p.1
@[irreducible] def cornersL (l : List Half) : List Corner := hullL (compL (sortedL l))
theorem SpecT.congrh {P : Program} {f : FuncId} {pre post : List V1} {e k n n' : Nat} {g g0 g' : Nat -> Nat -> D} (h : SpecT P f pre post e k n g0 n' g') (he : ∀ m, m < n -> ∀ j, j < k -> g m j = g0 m j) : SpecT P f pre post e k n g n' g' :=
 ⟨h.1, fun w ok vs us v xs h1 h2 h3 hr => h.2 w ok vs us v xs h1 h2 h3 ⟨hr.own, hr.one, fun m hm j hj => by rw [<- he m hm j hj]; exact hr.rep m hm j hj, hr.sep⟩⟩
theorem zq4 (l : List VC) : ∀ m, m < l.length -> ∀ j, j < 3 -> VI.row l m j = rowC (l.map fun p : VC => p.1) m j := fun m hm j _ => by
 show (l.getD m default).1.at j = ((l.map fun p : VC => p.1).getD m default).at j
 rw [gdq, gdq, List.getElem?_map, gqe hm]
 rfl
theorem zie (l : List VC) (hn : l.length <= 1000000) : SpecT PP 99 [] [] 67 3 l.length (VI.row l) (compL (l.map fun p : VC => p.1)).length (rowC (compL (l.map fun p : VC => p.1))) := by
 have h := zjd (l.map fun p : VC => p.1) (by rw [List.length_map]; exact hn)
 rw [List.length_map] at h
 exact SpecT.congrh h (zq4 l)
theorem zhg (x : Num × Num) (w : World) (ok : Nat -> Prop) : All2 (Rep1 w ok) (pairsEnc x) (pairsVal x) := .cons (zi1 x.1 w ok) (.cons (zi1 x.2 w ok) .nil)
def obPts (l : List Half) (pre : List (Num × Num)) : List (Nat × Ob) := [(3, .box [.d (Num.sl (allL l))]), (4, .box [.own 26]), (26, .row 67 3 (ptsV l pre).length (VI.row (ptsV l pre)))]
theorem zcl (l : List VC) : (sortV l).length = l.length := List.length_mergeSort l
theorem zdT {l : List Corner} {q : Corner} (h : q ∈ compL l) : q ∈ l := by
 unfold compL compP at h
 obtain ⟨i, hi, rfl⟩ := List.mem_map.1 h
 have := List.mem_range.1 (List.mem_filter.1 hi).1
 exact gd1 this default
theorem zgb (l : List Corner) : (compL l).length <= l.length := by unfold compL; exact zkT l _
theorem zif (l : List VC) (hn : l.length <= 1000000) : SpecT PP 99 [] [] 67 3 l.length (VI.row (l.mergeSort fun x y => !(ltOf cmpV) y x)) (compL ((sortV l).map fun p : VC => p.1)).length (rowC (compL ((sortV l).map fun p : VC => p.1))) := by
 have h := zie (sortV l) (by rw [zcl]; exact hn)
 rw [zcl] at h
 exact h
theorem pushV {vs : List VC} {p : VC} {g : Nat -> Nat -> D} (hg : ∀ j, j < 3 -> D.eqv (g 0 j) (p.1.at j)) : D.eqv (.slc 3 (vs.length + 1) (appRow vs.length (VI.row vs) g)) (.slc 3 (vs ++ [p]).length (VI.row (vs ++ [p]))) := by
 rw [List.length_append]
 refine app1 (fun i hi j hj => ?_) fun j hj => ?_
 ·show D.eqv ((vs.getD i default).1.at j) (((vs ++ [p]).getD i default).1.at j)
  have e : (vs ++ [p]).getD i default = vs.getD i default := by rw [gdq, List.getElem?_append_left hi, <- gdq]
  rw [e]
  exact dE _
 ·show D.eqv (g 0 j) (((vs ++ [p]).getD vs.length default).1.at j)
  rw [gdq, List.getElem?_append_right (Nat.le_refl _), Nat.sub_self]
  exact hg j hj
theorem zjM (l : List Half) : look (obPts l []) 26 = some (.row 67 3 0 (VI.row (ptsV l []))) := by
 unfold obPts; rw [zhu]; rfl
theorem obNh {s : St} {ob : Nat -> Option Ob} {j e k : Nat} {f : Nat -> Nat -> D} {o : Option Ob} (h : o = some (.box [.nilsl])) (h1 : s.ob j = none) (h2 : ob j = some (.row e k 0 f)) : Oble s ob o (.box [.own j]) := by
 subst h; exact ⟨⟨h1, e, k, f, h2⟩, trivial⟩
theorem obOh {s : St} {ob : Nat -> Option Ob} {j : Nat} {o : Option Ob} (h : o = some (.box [.own j])) : Oble s ob o (.box [.own j]) := by
 subst h; exact ⟨rfl, trivial⟩
theorem obZh {s : St} {ob : Nat -> Option Ob} {e k n : Nat} {f : Nat -> Nat -> D} {o : Option Ob} (h : o = none) (h1 : n = 0) : Oble s ob o (.row e k n f) := by
 subst h; exact h1
theorem zjB (l : List Half) (hl : ∀ x ∈ l, okH x) (hn : l.length <= 60) : Spec PP 84 [slH l] [slC (cornersL l)] := by
 have hall := zcf hl
 have hlen := zdh l
 have hpl : (pairsL (allL l)).length <= 64 * 64 := Nat.le_trans (zeq _) (Nat.mul_le_mul (by omega) (by omega))
 refine sA Tryz.func84 ?_
 refine CallSt.ro (zp1 l (by omega)) rfl rfl ?_
 refine CallSt.ro (zjy (allL l)) rfl rfl ?_
 refine CodeOb.rangeAt (zho (allL l) hall (by omega)) rfl pairsEnc zhg (fun _ => rfl) (by decide) [(3, .box 3 0), (4, .box 4 0)] [(4, 0)] (obPts l) rfl (fun _ => rfl) ?_ (Iv := fun _ => True) trivial (fun v pre x hx _ => ?_) (fun _ => ?_)
 ·exact ⟨rfl, ⟨obD [Num.sl (allL l)] rfl, obNh rfl rfl (zjM l), obZh rfl (by rw [zhu]; rfl), trivial⟩, wq rfl⟩
 ·have hxm : x ∈ pairsL (allL l) := hx.subset (by simp)
  obtain ⟨m1, m2, m3⟩ := zbk hxm
  have o1 := hall _ m1
  have o2 := hall _ m2
  have hv := zan o1 o2 m3
  have hpre : (ptsV l pre).length <= 64 * 64 := Nat.le_trans (ze2 l pre) (by have := hx.length_le; simp at this; omega)
  refine cP (zik x.1.h x.2.h o1 o2 m3) rfl rfl ?_
  refine cP (zjz (allL l) (crossing x.1.h x.2.h) hall (zaK hv) (by omega)) rfl rfl ?_
  apply bY <;> intro h1
  ·have h1 : outsideL (allL l) (crossing x.1.h x.2.h) = -5 := by simpa using h1
   refine ⟨⟨.inr rfl, by unfold maxLen; omega, by show ((ptsV l pre).length + 1) * 24 <= 140737488355328; omega⟩, ?_⟩
   refine ⟨trivial, rfl, ⟨obD [Num.sl (allL l)] rfl, ?_, ?_, trivial⟩, wq rfl⟩
   ·exact obOh rfl
   ·exact obR rfl (by rw [zlU hv h1]; exact pushV (eqAt _))
  ·have h1 : outsideL (allL l) (crossing x.1.h x.2.h) ≠ -5 := by simpa using h1
   exact ⟨trivial, rfl, ⟨obD [Num.sl (allL l)] rfl, obOh rfl, obR rfl (by rw [zop h1]; exact dE _), trivial⟩, wq rfl⟩
 ·have hpts : (ptsV l (pairsL (allL l))).length <= 64 * 64 := Nat.le_trans (ze2 l _) hpl
  have e : cornersL l = hullL (compL ((sortV (ptsV l (pairsL (allL l)))).map fun p : VC => p.1)) := by unfold cornersL sortedL; rfl
  have hcl := zgb ((sortV (ptsV l (pairsL (allL l)))).map fun p : VC => p.1)
  rw [List.length_map, zcl] at hcl
  refine CallSt.rw' rfl (zok (ptsV l (pairsL (allL l))) (by omega)) ⟨⟨[], .tmp 27, [.func 97], [], rfl, rfl, rfl, rfl, rfl, rfl, rfl⟩⟩ rfl ?_
  refine CallSt.tk rfl (zif (ptsV l (pairsL (allL l))) (by omega)) ⟨⟨[], .tmp 29, [], [], rfl, rfl, rfl, rfl, rfl, rfl, rfl⟩⟩ rfl ?_
  refine CallSt.fz [26] (zpZ (compL ((sortV (ptsV l (pairsL (allL l)))).map fun p : VC => p.1)) (fun q hq => ?_) (by omega)) rfl rfl ?_
  ·obtain ⟨p, _, rfl⟩ := List.mem_map.1 (zdT hq)
   exact zaK p.2
  rw [e]
  exact ⟨dE _, trivial⟩
theorem zaO {l : List Half} (h : checkL l = 0) : l.length <= 40 /\ (∀ x ∈ l, fit x = true) /\ ∀ x ∈ l, okH x := by
 unfold checkL at h
 split at h
 ·cases h
 ·split at h
  ·rename_i h1 h2
   have h3 : ∀ x ∈ l, fit x = true := List.all_eq_true.1 h2
   exact ⟨by omega, h3, fun x hx => zqg (h3 x hx)⟩
  ·cases h
def inP (L : List Num) (x y : Nat) : Bool := outsideL L ⟨x, y, 1⟩ == -5
end Go.Pg
