/- Texts joined and shortened by program. -/
import Derived.Test.YtooepbnecjepnaaGreatT5
import Derived.Test.YtooepbnecjepnaaGreatT4
set_option maxHeartbeats 4000000
set_option linter.all false
set_option maxRecDepth 100000
namespace Go.Pg
open Go.Proofs Go.RowKit
theorem zg3 (n p : Int) (hp : 0 < p /\ p <= 1000000) (hn : -1000000000000 <= n /\ n <= 1000000000000) : Spec PP 155 [N n, N p] [N (n / p)] := by
 have h1 := Int.tmod_lt_of_pos n hp.1
 have h2 := Int.tmod_lt_of_pos (-n) hp.1
 rw [Int.neg_tmod] at h2
 have e : (n.tmod p + p).tmod p = n % p := by
  rw [Int.tmod_eq_emod_of_nonneg (by omega), Int.add_emod_right]
  rw [Int.tmod_def, Int.sub_mul_emod_self_left]
 have hm := Int.emod_nonneg n (show p ≠ 0 by omega)
 have hl := Int.emod_lt_of_pos n hp.1
 have hd := Int.emod_add_mul_ediv n p
 have eq : (n - (n.tmod p + p).tmod p).tdiv p = n / p := by
  rw [e, show n - n % p = n / p * p by rw [Int.mul_comm]; omega]
  exact Int.mul_tdiv_cancel _ (by omega)
 have g1 : -1000000000000 <= n / p := (Int.le_ediv_iff_mul_le hp.1).2 (by omega)
 have g2 : n / p <= 1000000000000 := Int.ediv_le_of_le_mul hp.1 (by omega)
 refine sA Tryz.func155 ?_
 refine ⟨by omega, ⟨i6, ⟨by omega, ⟨zah (by rw [e]; omega) (by rw [e]; omega), ⟨⟨by omega, zah (by rw [eq]; omega) (by rw [eq]; omega)⟩, ?_⟩⟩⟩⟩⟩
 exact r1I rfl eq
theorem zk6 (n p : Int) (hp : 0 < p /\ p <= 1000000) (hn : -1000000000000 <= n /\ n <= 1000000000000) : Spec PP 154 [N n, N p] [N (-(-n / p))] := by
 have g1 : -1000000000000 <= -n / p := (Int.le_ediv_iff_mul_le hp.1).2 (by omega)
 have g2 : -n / p <= 1000000000000 := Int.ediv_le_of_le_mul hp.1 (by omega)
 refine sA Tryz.func154 ?_
 refine ⟨i6, ?_⟩
 refine cP (zg3 (-n) p hp (by omega)) rfl rfl ?_
 refine ⟨i6, ?_⟩
 exact r1I rfl rfl
theorem zcN (n : Int) (l : List Int) (hn : l.length <= 1000000) : Spec PP 218 [N n, .d (lI l)] [N (l.foldl max n)] := by
 refine sA Tryz.func218 ?_
 refine LoopOb.of (σ := Nat) (fun i => ([(0, .d (I ((l.take i).foldl max n))), (7, .d (lI l)), (8, .d (I l.length)), (9, .d (I i))], [])) (fun i => i <= l.length) (fun i => l.length - i) 0
  ⟨rfl, trivial, wq rfl⟩ (Nat.zero_le _) fun i hi => ?_
 apply bY <;> intro h1
 ·have h1 : i < l.length := by have := dT h1; omega
  refine ⟨⟨rfl, by omega, by omega⟩, ?_⟩
  refine ⟨i6, ?_⟩
  refine ⟨i + 1, ⟨rfl, trivial, avI rfl ?_, wq rfl⟩, h1, (msr (by omega))⟩
  rw [zaD h1 0, List.foldl_append]; rfl
 ·have h1 : i = l.length := by have := dF h1; omega
  subst h1
  refine r1I rfl ?_
  rw [List.take_length]
theorem zfh {f : Nat -> Nat -> D} {a : Int} (h : f 0 0 = I a) : D.eqv (.slc 1 1 f) (lI [a]) :=
 ⟨rfl, .inr ⟨rfl, fun i hi j hj => by
  obtain rfl : i = 0 := by omega
  obtain rfl : j = 0 := by omega
  rw [h]; exact ⟨rfl, rfl⟩⟩⟩
def drf (x : Cir) (a b : Int) : Int := -(-(x.Drift * max (a - b) (b - a)) / 60)
theorem zk2 (x : Cir) (a b : Int) (hx : 0 <= x.Drift /\ x.Drift <= 60) (ha : 0 <= a /\ a <= 1048576) (hb : 0 <= b /\ b <= 1048576) : Spec PP 270 [x.v, N a, N b] [N (drf x a b)] := by
 have m1 := mulB (a := x.Drift) (b := max (a - b) (b - a)) (x := 60) (y := 1048576) (by omega) (by omega)
 refine sA Tryz.func270 ?_
 have mI : inR .i64 (x.Drift * max (a - b) (b - a)) := i6
 refine ⟨i6, ⟨i6, ⟨mI, ?_⟩⟩⟩
 refine cP (zk6 (x.Drift * max (a - b) (b - a)) 60 (by decide) (by omega)) rfl rfl ?_
 exact r1I rfl rfl
def cirE (x : Cir) : Int := if ((!within x.ID 1 1099511627776) || (![x.At].all on) || decide (x.From < 0) || decide (x.To < x.From) || decide (1048576 < x.To) || decide (x.Lo < -300) || decide (x.Hi < x.Lo) || decide (300 < x.Hi) || (!within x.Drift 0 60)) = true then 1 else 0
theorem zk4 (x : Cir) : Spec PP 138 [x.v] [.d (.int .i64 (cirE x))] := by
 refine sA Tryz.func138 ?_
 refine cP (zaB x.ID 1 1099511627776) rfl rfl ?_
 apply bY <;> intro k0
 ·have k0 : (!within x.ID 1 1099511627776) = true := k0
  refine sT (sT (sT (sT (sT (sT (sT (sT (sT (sT (sT (sT (sT (sT (sT (sT ?_)))))))))))))))
  refine r1I rfl ?_
  unfold cirE; rw [if_pos (by simp only [k0, Bool.or_true, Bool.true_or])]
 have k0 : (!within x.ID 1 1099511627776) = false := k0
 refine CallSt.pureE (c_on [x.At] (Nat.le_of_ble_eq_true rfl)) rfl (zdd (at2 rfl rfl)) rfl ?_
 refine sF ?_
 apply bY <;> intro k1
 ·have k1 : (![x.At].all on) = true := k1
  refine sT (sT (sT (sT (sT (sT (sT (sT (sT (sT (sT (sT (sT (sT ?_)))))))))))))
  refine r1I rfl ?_
  unfold cirE; rw [if_pos (by simp only [k0, k1, Bool.or_true, Bool.true_or])]
 have k1 : (![x.At].all on) = false := k1
 refine sF ?_
 apply bY <;> intro k2
 ·have k2 : decide (x.From < 0) = true := k2
  refine sT (sT (sT (sT (sT (sT (sT (sT (sT (sT (sT (sT ?_)))))))))))
  refine r1I rfl ?_
  unfold cirE; rw [if_pos (by simp only [k0, k1, k2, Bool.or_true, Bool.true_or])]
 have k2 : decide (x.From < 0) = false := k2
 refine sF ?_
 apply bY <;> intro k3
 ·have k3 : decide (x.To < x.From) = true := k3
  refine sT (sT (sT (sT (sT (sT (sT (sT (sT (sT ?_)))))))))
  refine r1I rfl ?_
  unfold cirE; rw [if_pos (by simp only [k0, k1, k2, k3, Bool.or_true, Bool.true_or])]
 have k3 : decide (x.To < x.From) = false := k3
 refine sF ?_
 apply bY <;> intro k4
 ·have k4 : decide (1048576 < x.To) = true := k4
  refine sT (sT (sT (sT (sT (sT (sT (sT ?_)))))))
  refine r1I rfl ?_
  unfold cirE; rw [if_pos (by simp only [k0, k1, k2, k3, k4, Bool.or_true, Bool.true_or])]
 have k4 : decide (1048576 < x.To) = false := k4
 refine sF ?_
 apply bY <;> intro k5
 ·have k5 : decide (x.Lo < -300) = true := k5
  refine sT (sT (sT (sT (sT (sT ?_)))))
  refine r1I rfl ?_
  unfold cirE; rw [if_pos (by simp only [k0, k1, k2, k3, k4, k5, Bool.or_true, Bool.true_or])]
 have k5 : decide (x.Lo < -300) = false := k5
 refine sF ?_
 apply bY <;> intro k6
 ·have k6 : decide (x.Hi < x.Lo) = true := k6
  refine sT (sT (sT (sT ?_)))
  refine r1I rfl ?_
  unfold cirE; rw [if_pos (by simp only [k0, k1, k2, k3, k4, k5, k6, Bool.or_true, Bool.true_or])]
 have k6 : decide (x.Hi < x.Lo) = false := k6
 refine sF ?_
 apply bY <;> intro k7
 ·have k7 : decide (300 < x.Hi) = true := k7
  refine sT (sT ?_)
  refine r1I rfl ?_
  unfold cirE; rw [if_pos (by simp only [k0, k1, k2, k3, k4, k5, k6, k7, Bool.or_true, Bool.true_or])]
 have k7 : decide (300 < x.Hi) = false := k7
 refine cP (zaB x.Drift 0 60) rfl rfl ?_
 refine sF ?_
 apply bY <;> intro k8
 ·have k8 : (!within x.Drift 0 60) = true := k8
  refine r1I rfl ?_
  unfold cirE; rw [if_pos (by simp only [k0, k1, k2, k3, k4, k5, k6, k7, k8, Bool.or_true, Bool.true_or])]
 have k8 : (!within x.Drift 0 60) = false := k8
 refine r1I rfl ?_
 unfold cirE; rw [if_neg (by rw [k0, k1, k2, k3, k4, k5, k6, k7, k8]; decide)]
theorem zg4 (x : Cir) (id : Int) : Spec PP 215 [x.v, .d (capB [I id])] [B (x.ID == id)] := by
 refine sA Tryz.func215 ?_
 exact r1B rfl rfl
theorem ziG (x : Chk) (id : Int) : Spec PP 217 [x.v, .d (capB [I id])] [B (x.ID == id)] := by
 refine sA Tryz.func217 ?_
 exact r1B rfl rfl
def cirI (c : Cirs) (id : Int) : Int := idxL (fun x : Cir => x.ID == id) c.C
def chkI (c : Cirs) (id : Int) : Int := idxL (fun x : Chk => x.ID == id) c.K
theorem zb6 (c : Cirs) (id : Int) (hn : c.C.length <= 1000000) : Spec PP 139 [c.v, N id] [N (cirI c id)] := by
 refine sA Tryz.func139 ?_
 refine CallSt.fz [3] (znk c.C 215 (capB [I id]) (fun t => t.ID == id) hn (fun i hi => zg4 _ id)) rfl rfl ?_
 exact r1I rfl rfl
theorem zge (c : Cirs) (id : Int) (hn : c.K.length <= 1000000) : Spec PP 141 [c.v, N id] [N (chkI c id)] := by
 refine sA Tryz.func141 ?_
 refine CallSt.fz [3] (zpX c.K 217 (capB [I id]) (fun t => t.ID == id) hn (fun i hi => ziG _ id)) rfl rfl ?_
 exact r1I rfl rfl
def chkB (k : Chk) : Bool := (!within k.ID 1 1099511627776) || (![k.Mark].all on) || (!within k.Shown 0 3599) || (!within k.Slack 1 100)
def chkO (c : Cirs) (k : Chk) : Cir := c.C.getD (cirI c k.C).toNat default
def chkE (c : Cirs) (k : Chk) : Int :=
 if chkB k = true then 1 else if cirI c k.C < 0 then 5
 else if (decide (k.Mark = (chkO c k).At) || !within k.Tick (chkO c k).From (chkO c k).To) = true then 1 else 0
theorem za9 {c : Cirs} {id : Int} (h : ¬ cirI c id < 0) : (cirI c id).toNat < c.C.length /\ cirI c id = ((cirI c id).toNat : Int) := by
 rcases idxL_cases (fun t : Cir => t.ID == id) c.C default with ⟨h1, _⟩ | ⟨i, h1, h2, _⟩
 ·exact absurd (show cirI c id < 0 by unfold cirI; rw [h1]; decide) h
 ·unfold cirI; rw [h2]; simp; exact h1
theorem zk5 (c : Cirs) (k : Chk) (hn : c.C.length <= 1000000) : Spec PP 140 [c.v, k.v] [.d (.int .i64 (chkE c k))] := by
 refine sA Tryz.func140 ?_
 refine cP (zaB k.ID 1 1099511627776) rfl rfl ?_
 apply bY <;> intro k0
 ·have k0 : (!within k.ID 1 1099511627776) = true := k0
  refine sT (sT (sT (sT (sT (sT ?_)))))
  refine r1I rfl ?_
  unfold chkE chkB; rw [if_pos (by simp only [k0, Bool.or_true, Bool.true_or])]
 have k0 : (!within k.ID 1 1099511627776) = false := k0
 refine CallSt.pureE (c_on [k.Mark] (Nat.le_of_ble_eq_true rfl)) rfl (zdd (at2 rfl rfl)) rfl ?_
 refine sF ?_
 apply bY <;> intro k1
 ·have k1 : (![k.Mark].all on) = true := k1
  refine sT (sT (sT (sT ?_)))
  refine r1I rfl ?_
  unfold chkE chkB; rw [if_pos (by simp only [k0, k1, Bool.or_true, Bool.true_or])]
 have k1 : (![k.Mark].all on) = false := k1
 refine cP (zb5 k.Shown) rfl rfl ?_
 refine sF ?_
 apply bY <;> intro k2
 ·have k2 : (!within k.Shown 0 3599) = true := k2
  refine sT (sT ?_)
  refine r1I rfl ?_
  unfold chkE chkB; rw [if_pos (by simp only [k0, k1, k2, Bool.or_true, Bool.true_or])]
 have k2 : (!within k.Shown 0 3599) = false := k2
 refine cP (zaB k.Slack 1 100) rfl rfl ?_
 refine sF ?_
 apply bY <;> intro k3
 ·have k3 : (!within k.Slack 1 100) = true := k3
  refine r1I rfl ?_
  unfold chkE chkB; rw [if_pos (by simp only [k0, k1, k2, k3, Bool.or_true, Bool.true_or])]
 have k3 : (!within k.Slack 1 100) = false := k3
 have e0 : chkB k = false := by unfold chkB; rw [k0, k1, k2, k3]; rfl
 refine cP (zb6 c k.C hn) rfl rfl ?_
 apply bY <;> intro h1
 ·refine r1I rfl ?_
  unfold chkE; rw [if_neg (by rw [e0]; decide), if_pos (dT h1)]
 have h1 : ¬ cirI c k.C < 0 := dF h1
 obtain ⟨h2, h3⟩ := za9 h1
 refine ⟨⟨rfl, by omega, by omega⟩, ?_⟩
 apply bY <;> intro h4
 ·have h4 : k.Mark = (chkO c k).At := of_decide_eq_true ((eqPW _ _).symm.trans h4)
  refine sT (sT ?_)
  refine r1I rfl ?_
  unfold chkE; rw [if_neg (by rw [e0]; decide), if_neg h1, if_pos (by rw [decide_eq_true h4]; rfl)]
 have h4 : k.Mark ≠ (chkO c k).At := of_decide_eq_false ((eqPW _ _).symm.trans h4)
 refine cP (zaB k.Tick (chkO c k).From (chkO c k).To) rfl rfl ?_
 refine sF ?_
 apply bY <;> intro h5
 ·refine r1I rfl ?_
  unfold chkE; rw [if_neg (by rw [e0]; decide), if_neg h1, if_pos (by rw [h5, Bool.or_true])]
 ·refine r1I rfl ?_
  unfold chkE; rw [if_neg (by rw [e0]; decide), if_neg h1, if_neg (by rw [h5, decide_eq_false h4]; decide)]
def cir1E (c : Cirs) (i : Nat) : Int := if cirE (c.C.getD i default) ≠ 0 then cirE (c.C.getD i default) else if cirI c (c.C.getD i default).ID < i then 6 else 0
def chk1E (c : Cirs) (i : Nat) : Int := if chkE c (c.K.getD i default) ≠ 0 then chkE c (c.K.getD i default) else if chkI c (c.K.getD i default).ID < i then 6 else 0
def cirsE (c : Cirs) : Int := if 12 < c.C.length \/ 60 < c.K.length then 2
 else if err1 (cir1E c) c.C.length ≠ 0 then err1 (cir1E c) c.C.length else err1 (chk1E c) c.K.length
abbrev bxCs (c : Cirs) : Ob := .box [.d (lC c.C), .d (lK c.K)]
theorem obCs {s : St} {ob : Nat -> Option Ob} {c : Cirs} {o : Option Ob} (g : o = some (bxCs c)) : Oble s ob o (bxCs c) := obD [lC c.C, lK c.K] g
theorem zfk (c : Cirs) : Spec PP 60 [c.v] [.d (.int .i64 (cirsE c))] := by
 refine sA Tryz.func60 ?_
 apply bY <;> intro h1
 ·have h1 : 12 < c.C.length := by have := dT h1; omega
  refine sT (sT ?_)
  refine r1I rfl ?_
  unfold cirsE; rw [if_pos (.inl h1)]
 have h1 : ¬ 12 < c.C.length := by have := dF h1; omega
 refine sF ?_
 apply bY <;> intro h2
 ·have h2 : 60 < c.K.length := by have := dT h2; omega
  refine r1I rfl ?_
  unfold cirsE; rw [if_pos (.inr h2)]
 have h2 : ¬ 60 < c.K.length := by have := dF h2; omega
 have e0 : cirsE c = if err1 (cir1E c) c.C.length ≠ 0 then err1 (cir1E c) c.C.length else err1 (chk1E c) c.K.length := by unfold cirsE; rw [if_neg (by omega)]
 refine LoopOb.of (σ := Nat) (fun i => ([(1, .box 1 0), (20, .d (lC c.C)), (21, .d (I c.C.length)), (22, .d (I i))], [(1, bxCs c)])) (fun i => i <= c.C.length /\ ∀ j, j < i -> cir1E c j = 0) (fun i => c.C.length - i) 0
  ⟨rfl, ⟨obCs rfl, trivial⟩, wq rfl⟩ z0L fun i hi => ?_
 obtain ⟨hi, ha⟩ := hi
 apply bY <;> intro h3
 ·have h3 : i < c.C.length := by have := dT h3; omega
  have bad : cir1E c i ≠ 0 -> cirsE c = cir1E c i := fun h => by
   have := zaV ha h h3
   rw [e0, if_pos (by rw [this]; exact h), this]
  refine ⟨⟨rfl, by omega, by omega⟩, ?_⟩
  refine cP (zk4 (c.C.getD i default)) rfl rfl ?_
  apply bY <;> intro h4
  ·have h4 : cirE (c.C.getD i default) ≠ 0 := by simpa using h4
   refine r1I rfl ?_
   have e : cir1E c i = cirE (c.C.getD i default) := by unfold cir1E; rw [if_pos h4]
   rw [bad (by rw [e]; exact h4), e]
  have h4 : cirE (c.C.getD i default) = 0 := by simpa using h4
  refine cP (zb6 c (c.C.getD i default).ID (by omega)) rfl rfl ?_
  apply bY <;> intro h5
  ·have h5 : cirI c (c.C.getD i default).ID < i := dT h5
   refine r1I rfl ?_
   have e : cir1E c i = 6 := by unfold cir1E; rw [if_neg (fun hh => hh h4), if_pos h5]
   rw [bad (by rw [e]; decide), e]
  ·have h5 : ¬ cirI c (c.C.getD i default).ID < i := dF h5
   have e : cir1E c i = 0 := by unfold cir1E; rw [if_neg (fun hh => hh h4), if_neg h5]
   refine ⟨i6, ?_⟩
   refine ⟨i + 1, ⟨rfl, ⟨obCs rfl, trivial⟩, wq rfl⟩, ⟨h3, fun j hj => ?_⟩, (msr (by omega))⟩
   by_cases q : j = i
   ·subst q; exact e
   ·exact ha j (by omega)
 have h3 : i = c.C.length := by have := dF h3; omega
 subst h3
 have e1 : cirsE c = err1 (chk1E c) c.K.length := by rw [e0, zbe ha]; rfl
 clear ha
 refine LoopOb.of (σ := Nat) (fun i => ([(1, .box 1 0), (40, .d (lK c.K)), (41, .d (I c.K.length)), (42, .d (I i))], [(1, bxCs c)])) (fun i => i <= c.K.length /\ ∀ j, j < i -> chk1E c j = 0) (fun i => c.K.length - i) 0
  ⟨rfl, ⟨obCs rfl, trivial⟩, wq rfl⟩ z0L fun i hi => ?_
 obtain ⟨hi, ha⟩ := hi
 apply bY <;> intro h3
 ·have h3 : i < c.K.length := by have := dT h3; omega
  have bad : chk1E c i ≠ 0 -> cirsE c = chk1E c i := fun h => by rw [e1, zaV ha h h3]
  refine ⟨⟨rfl, by omega, by omega⟩, ?_⟩
  refine cP (zk5 c (c.K.getD i default) (by omega)) rfl rfl ?_
  apply bY <;> intro h4
  ·have h4 : chkE c (c.K.getD i default) ≠ 0 := by simpa using h4
   refine r1I rfl ?_
   have e : chk1E c i = chkE c (c.K.getD i default) := by unfold chk1E; rw [if_pos h4]
   rw [bad (by rw [e]; exact h4), e]
  have h4 : chkE c (c.K.getD i default) = 0 := by simpa using h4
  refine cP (zge c (c.K.getD i default).ID (by omega)) rfl rfl ?_
  apply bY <;> intro h5
  ·have h5 : chkI c (c.K.getD i default).ID < i := dT h5
   refine r1I rfl ?_
   have e : chk1E c i = 6 := by unfold chk1E; rw [if_neg (fun hh => hh h4), if_pos h5]
   rw [bad (by rw [e]; decide), e]
  ·have h5 : ¬ chkI c (c.K.getD i default).ID < i := dF h5
   have e : chk1E c i = 0 := by unfold chk1E; rw [if_neg (fun hh => hh h4), if_neg h5]
   refine ⟨i6, ?_⟩
   refine ⟨i + 1, ⟨rfl, ⟨obCs rfl, trivial⟩, wq rfl⟩, ⟨h3, fun j hj => ?_⟩, (msr (by omega))⟩
   by_cases q : j = i
   ·subst q; exact e
   ·exact ha j (by omega)
 have h3 : i = c.K.length := by have := dF h3; omega
 subst h3
 refine r1I rfl ?_
 rw [e1, zbe ha]
structure CirOk (x : Cir) : Prop where
  id : 1 <= x.ID /\ x.ID <= 1099511627776
  on : on x.At = true
  t : 0 <= x.From /\ x.From <= x.To /\ x.To <= 1048576
  z : -300 <= x.Lo /\ x.Lo <= x.Hi /\ x.Hi <= 300
  d : 0 <= x.Drift /\ x.Drift <= 60
structure ChkOk (c : Cirs) (k : Chk) : Prop where
  id : 1 <= k.ID /\ k.ID <= 1099511627776
  on : on k.Mark = true
  s : 0 <= k.Shown /\ k.Shown <= 3599
  l : 1 <= k.Slack /\ k.Slack <= 100
  cc : 0 <= cirI c k.C
  ne : k.Mark ≠ (chkO c k).At
  t : (chkO c k).From <= k.Tick /\ k.Tick <= (chkO c k).To
structure CirsOk (c : Cirs) : Prop where
  n : c.C.length <= 12
  m : c.K.length <= 60
  cs : ∀ i, i < c.C.length -> CirOk (c.C.getD i default)
  ci : ∀ i, i < c.C.length -> (i : Int) <= cirI c (c.C.getD i default).ID
  ks : ∀ i, i < c.K.length -> ChkOk c (c.K.getD i default)
  ki : ∀ i, i < c.K.length -> (i : Int) <= chkI c (c.K.getD i default).ID
theorem zqN {x : Cir} (h : cirE x = 0) : CirOk x := by
 unfold cirE at h
 split at h
 ·cases h
 ·rename_i h1
  simp only [Bool.or_eq_true, Bool.not_eq_true', not_or, Bool.not_eq_false, decide_eq_true_eq, List.all_cons, List.all_nil, Bool.and_true] at h1
  obtain ⟨⟨⟨⟨⟨⟨⟨⟨a, b⟩, c⟩, d⟩, e⟩, f⟩, g⟩, i⟩, j⟩ := h1
  exact ⟨zab.1 a, b, by omega, by omega, zab.1 j⟩
theorem zqO {c : Cirs} {k : Chk} (h : chkE c k = 0) : ChkOk c k := by
 unfold chkE at h
 split at h
 ·cases h
 ·rename_i h1
  split at h
  ·cases h
  ·rename_i h2
   split at h
   ·cases h
   ·rename_i h3
    unfold chkB at h1
    simp only [Bool.or_eq_true, Bool.not_eq_true', not_or, Bool.not_eq_false, decide_eq_true_eq, List.all_cons, List.all_nil, Bool.and_true] at h1 h3
    obtain ⟨⟨⟨a, b⟩, c⟩, d⟩ := h1
    exact ⟨zab.1 a, b, zab.1 c, zab.1 d, by omega, h3.1, zab.1 h3.2⟩
theorem zbf {c : Cirs} (h : cirsE c = 0) : CirsOk c := by
 unfold cirsE at h
 split at h
 ·cases h
 ·rename_i h1
  split at h
  ·rename_i h2; exact absurd h h2
  ·rename_i h2
   have hT : err1 (cir1E c) c.C.length = 0 := Classical.byContradiction h2
   have a := za8 hT
   have b := za8 h
   have A : ∀ i, i < c.C.length -> cirE (c.C.getD i default) = 0 /\ (i : Int) <= cirI c (c.C.getD i default).ID := fun i hi => by
    have := a i hi
    unfold cir1E at this
    split at this
    ·rename_i h4; exact absurd this h4
    ·rename_i h4
     split at this
     ·cases this
     ·exact ⟨Classical.byContradiction h4, by omega⟩
   have B : ∀ i, i < c.K.length -> chkE c (c.K.getD i default) = 0 /\ (i : Int) <= chkI c (c.K.getD i default).ID := fun i hi => by
    have := b i hi
    unfold chk1E at this
    split at this
    ·rename_i h4; exact absurd this h4
    ·rename_i h4
     split at this
     ·cases this
     ·exact ⟨Classical.byContradiction h4, by omega⟩
   exact ⟨by omega, by omega, fun i hi => zqN (A i hi).1, fun i hi => (A i hi).2, fun i hi => zqO (B i hi).1, fun i hi => (B i hi).2⟩
abbrev Chk.ds (x : Chk) : List D := [I x.ID, I x.C, I x.Tick, I x.Mark.X, I x.Mark.Y, I x.Shown, I x.Slack]
abbrev Cir.ds (x : Cir) : List D := [I x.ID, I x.At.X, I x.At.Y, I x.From, I x.To, I x.Lo, I x.Hi, I x.Drift]
def aloT (b : Int × Int) (s l : Int) : Spn := ⟨max (-300) (-(-((s - l) * b.2 - b.1) / b.2)), -(max (-300) (-(((s + l) * b.2 - b.1) / b.2)))⟩
def aloR (f : Nat -> Spn) : Nat -> Nat -> Spn
 | _, 0 => ⟨1, 0⟩
 | i, n + 1 => if (f i).Lo <= (f i).Hi then f i else aloR f (i + 1) n
def aloF (x : Cir) (k : Chk) (i : Nat) : Spn := aloT (bear x.At k.Mark) (k.Shown + ((i : Int) - 1) * 3600) k.Slack
def alo (x : Cir) (k : Chk) : Spn := aloR (aloF x k) 0 3
theorem zkM {n p b : Int} (hp : 0 < p) (hb : 0 <= b) (h : -b <= n /\ n <= b) : -b <= n / p /\ n / p <= b := by
 have h1 : b * 1 <= b * p := Int.mul_le_mul_of_nonneg_left (by omega) hb
 have h2 : -b * p = -(b * p) := Int.neg_mul b p
 exact ⟨(Int.le_ediv_iff_mul_le hp).2 (by omega), Int.ediv_le_of_le_mul hp (by omega)⟩
theorem zk7 (x : Cir) (k : Chk) (ha : on x.At = true) (hm : on k.Mark = true) (hne : x.At ≠ k.Mark) (hs : 0 <= k.Shown /\ k.Shown <= 3599) (hl : 1 <= k.Slack /\ k.Slack <= 100) : Spec PP 142 [x.v, k.v] [(alo x k).v] := by
 have hb := zbB ha hm hne
 refine sA Tryz.func142 ?_
 refine cP (zdW x.At k.Mark ha hm hne) rfl rfl ?_
 refine LoopOb.of (σ := Nat) (fun i => ([(3, .box 3 0), (4, .box 4 0), (5, .d (I (bear x.At k.Mark).1)), (6, .d (I (bear x.At k.Mark).2)), (7, .d (I ((i : Int) - 1)))], [(3, .box (k.ds.map AV.d)), (4, .box [.d (I 0), .d (I 0)])])) (fun i => i <= 3 /\ aloR (aloF x k) i (3 - i) = alo x k) (fun i => 3 - i) 0
  ⟨rfl, ⟨obD k.ds rfl, obD [I 0, I 0] rfl, trivial⟩, wq rfl⟩ ⟨Nat.zero_le _, rfl⟩ fun i hi => ?_
 obtain ⟨hi, ha⟩ := hi
 apply bY <;> intro h1
 ·have h1 : (i : Int) - 1 <= 1 := dT h1
  refine ⟨i6, ⟨i6, ?_⟩⟩
  obtain ⟨S, hS⟩ : ∃ S, S = k.Shown + ((i : Int) - 1) * 3600 := ⟨_, rfl⟩
  have sb : -3600 <= S /\ S <= 7199 := by omega
  have m1 := mulB (a := S - k.Slack) (b := (bear x.At k.Mark).2) (x := 10000) (y := 48) (by omega) (by omega)
  have m2 := mulB (a := S + k.Slack) (b := (bear x.At k.Mark).2) (x := 10000) (y := 48) (by omega) (by omega)
  have q1 := zkM (n := -((S - k.Slack) * (bear x.At k.Mark).2 - (bear x.At k.Mark).1)) (b := 1000000) hb.1.1 (by omega) (by omega)
  have q2 := zkM (n := (S + k.Slack) * (bear x.At k.Mark).2 - (bear x.At k.Mark).1) (b := 1000000) hb.1.1 (by omega) (by omega)
  have hf : aloF x k i = aloT (bear x.At k.Mark) S k.Slack := by rw [hS]; rfl
  rw [<- hS]
  refine oL (List.range 29) (FzOb.no ?_)
  refine ⟨i6, ⟨i6, ⟨i6, ?_⟩⟩⟩
  refine oP (zk6 ((S - k.Slack) * (bear x.At k.Mark).2 - (bear x.At k.Mark).1) (bear x.At k.Mark).2 (by omega) (by omega)) rfl rfl ?_
  refine CallOb.pureE (zcN (-300) [_] (Nat.le_of_ble_eq_true rfl)) rfl ⟨⟨rfl, rfl⟩, zfh rfl, trivial⟩ rfl ?_
  refine ⟨i6, ⟨i6, ⟨i6, ?_⟩⟩⟩
  refine oP (zg3 ((S + k.Slack) * (bear x.At k.Mark).2 - (bear x.At k.Mark).1) (bear x.At k.Mark).2 (by omega) (by omega)) rfl rfl ?_
  refine ⟨i6, ?_⟩
  refine CallOb.pureE (zcN (-300) [_] (Nat.le_of_ble_eq_true rfl)) rfl ⟨⟨rfl, rfl⟩, zfh rfl, trivial⟩ rfl ?_
  have g1 : (aloT (bear x.At k.Mark) S k.Slack).Lo = max (-300) (-(-((S - k.Slack) * (bear x.At k.Mark).2 - (bear x.At k.Mark).1) / (bear x.At k.Mark).2)) := rfl
  have g2 : (aloT (bear x.At k.Mark) S k.Slack).Hi = -(max (-300) (-(((S + k.Slack) * (bear x.At k.Mark).2 - (bear x.At k.Mark).1) / (bear x.At k.Mark).2))) := rfl
  have mI : inR .i64 (aloT (bear x.At k.Mark) S k.Slack).Hi := zah (by rw [g2]; omega) (by rw [g2]; omega)
  refine ⟨mI, ?_⟩
  apply bY <;> intro h2
  ·have h2 : (aloT (bear x.At k.Mark) S k.Slack).Lo <= (aloT (bear x.At k.Mark) S k.Slack).Hi := dT h2
   have e : alo x k = aloT (bear x.At k.Mark) S k.Slack := by
    rw [<- ha, show 3 - i = (3 - (i + 1)) + 1 by omega, <- hf]
    unfold aloR
    rw [if_pos (by rw [hf]; exact h2)]
   rw [e]
   exact r1C rfl rfl rfl rfl rfl rfl (zdO rfl rfl)
  ·have h2 : ¬ (aloT (bear x.At k.Mark) S k.Slack).Lo <= (aloT (bear x.At k.Mark) S k.Slack).Hi := dF h2
   have e : alo x k = aloR (aloF x k) (i + 1) (3 - (i + 1)) := by
    rw [<- ha, show 3 - i = (3 - (i + 1)) + 1 by omega]
    conv => lhs; unfold aloR
    rw [if_neg (by rw [hf]; exact h2)]
   refine ⟨i6, ?_⟩
   refine ⟨i + 1, ⟨rfl, ⟨obD k.ds rfl, obD [I 0, I 0] rfl, trivial⟩, avQ rfl, avQ rfl, avR _ rfl, avR _ rfl, avI rfl (by omega), trivial⟩, ⟨by omega, e.symm⟩, (msr (by omega))⟩
 ·have h1 : i = 3 := by have : ¬ (i : Int) - 1 <= 1 := dF h1; omega
  subst h1
  have e : alo x k = ⟨1, 0⟩ := ha.symm
  rw [e]
  exact r1C rfl rfl rfl rfl rfl rfl (zdO rfl rfl)
end Go.Pg
namespace Go.Pg
open Go.Proofs Go.RowKit Go.Sort Go.Shelf
theorem ord_cases (a b : Int) : (ord a b = -1 /\ a < b) \/ (ord a b = 1 /\ b < a) \/ (ord a b = 0 /\ a = b) := by
 unfold ord
 by_cases h1 : a < b
 ·exact .inl ⟨if_pos h1, h1⟩
 ·by_cases h2 : b < a
  ·exact .inr (.inl ⟨by rw [if_neg h1, if_pos h2], h2⟩)
  ·exact .inr (.inr ⟨by rw [if_neg h1, if_neg h2], by omega⟩)
theorem zqc (a b : Int) : decide (ord a b < 0) = decide (a < b) := by
 apply decide_eq_decide.2
 rcases ord_cases a b with ⟨e, h⟩ | ⟨e, h⟩ | ⟨e, h⟩ <;> rw [e] <;> omega
theorem SpecR.congr {P : Program} {f : FuncId} {pre post res : List V1} {e k n : Nat} {g0 g g1 g' : Nat -> Nat -> D} (h : SpecR P f pre post e k n g0 g1 res) (he : ∀ m, m < n -> ∀ j, j < k -> g m j = g0 m j) (he' : ∀ m, m < n -> ∀ j, j < k -> g' m j = g1 m j) : SpecR P f pre post e k n g g' res :=
 ⟨h.1, fun w ok vs us v xs h1 h2 h3 hr => (h.2 w ok vs us v xs h1 h2 h3 ⟨hr.own, hr.one, fun m hm j hj => by rw [<- he m hm j hj]; exact hr.rep m hm j hj, hr.sep⟩).mono fun en w' ⟨r, e1, e2, e3, xs', e4, e5, e6⟩ => ⟨r, e1, e2, e3, xs', e4, e5, fun m hm j hj => by rw [he' m hm j hj]; exact e6 m hm j hj⟩⟩
section
variable {α : Type} [Inhabited α] {k : Nat} (A : Ints α k)
def Ints.on (L : List α) : Ints {x // x ∈ L} k where
  lst p := A.lst p.1
  len p := A.len p.1
  at_ p := A.at_ p.1
  hat p j hj := A.hat p.1 j hj
theorem znm (L : List α) [Inhabited {x // x ∈ L}] (l : List {x // x ∈ L}) : ∀ m, m < l.length -> ∀ j, j < k -> A.row (l.map (·.1)) m j = (A.on L).row l m j := fun m hm j _ => by
 show A.at_ ((l.map (·.1)).getD m default) j = A.at_ (l.getD m default).1 j
 rw [gdq, gdq, List.getElem?_map, gqe hm]
 rfl
theorem zgm {P : Program} {ρ : Ren} (S : SlLaysF0.n6 P ρ) (hent : Ent P (ρ.f 6)) (aE : ∀ w, (isAgg (ρ.t 24)).run P w = .ok true w) (zE : ∀ w, (Go.sizeOf (ρ.t 24)).run P w = .ok k w)
  (key : α -> Int) (L : List α) (hL : L ≠ []) (hk : ∀ x ∈ L, ∀ y ∈ L, key x = key y -> x = y) (g : FuncId)
  (hc : ∀ x ∈ L, ∀ y ∈ L, SpecD P g [.agg ((A.lst x).map (D.int .i64)), .agg ((A.lst y).map (D.int .i64))] [.d (.int .i64 (ord (key x) (key y)))]) (e : TypeId) (hn : L.length <= 1000000) :
  SpecR P (ρ.f 6) [] [.d (.fn g)] e k L.length (A.row L) (A.row (L.mergeSort fun x y => decide (key x <= key y))) [] := by
 haveI : Inhabited {x // x ∈ L} := ⟨⟨L.head hL, List.head_mem hL⟩⟩
 have hlt : ∀ x y : {x // x ∈ L}, ltOf (fun x y : {x // x ∈ L} => ord (key x.1) (key y.1)) x y = decide (key x.1 < key y.1) := fun x y => zqc _ _
 have hO : SWO (ltOf fun x y : {x // x ∈ L} => ord (key x.1) (key y.1)) := ⟨fun x => by rw [hlt]; simp, fun x y z h1 h2 => by rw [hlt] at *; simp only [decide_eq_true_eq] at *; omega, fun x y z h1 h2 => by rw [hlt] at *; simp only [decide_eq_false_iff_not] at *; omega⟩
 have h := zee (A.on L) S hent aE zE (fun x y => ord (key x.1) (key y.1)) hO (fun x y h1 h2 => by
  rw [hlt] at h1 h2
  simp only [decide_eq_false_iff_not] at h1 h2
  exact Subtype.ext (hk x.1 x.2 y.1 y.2 (by omega))) g (fun x y => hc x.1 x.2 y.1 y.2) e L.attach (by rw [List.length_attach]; exact hn)
 rw [List.length_attach] at h
 refine h.congr (fun m hm j hj => ?_) (fun m hm j hj => ?_)
 ·rw [<- znm A L L.attach m (by rw [List.length_attach]; exact hm) j hj, List.attach_map_subtype_val]
 ·rw [<- znm A L _ m (by rw [List.length_mergeSort, List.length_attach]; exact hm) j hj, List.map_mergeSort (s := fun x y => decide (key x <= key y)) (fun a _ b _ => by rw [hlt, Bool.eq_iff_iff]; simp), List.attach_map_subtype_val]
end
def ThI : Ints Thg 9 where
  lst x := [x.k.ID, x.k.C, x.k.Tick, x.k.Mark.X, x.k.Mark.Y, x.k.Shown, x.k.Slack, x.s.Lo, x.s.Hi]
  len _ := rfl
  at_ x := x.at
  hat x j hj := by
    match j, hj with
    | 0, _ => rfl
    | 1, _ => rfl
    | 2, _ => rfl
    | 3, _ => rfl
    | 4, _ => rfl
    | 5, _ => rfl
    | 6, _ => rfl
    | 7, _ => rfl
    | 8, _ => rfl
theorem zk0 (x y : Thg) : SpecD PP 320 [x.v, y.v] [N (ord x.k.ID y.k.ID)] := by
 refine zaz Tryz.func320 rfl (by kernel_rfl) rfl ?_
 refine cP (zqL x.k.ID y.k.ID) rfl rfl ?_
 exact r1I rfl rfl
theorem aggT : ∀ w, (isAgg (Tryz.sortT_ren.t 24)).run PP w = .ok true w := fun _ => by kernel_rfl
theorem sizT : ∀ w, (Go.sizeOf (Tryz.sortT_ren.t 24)).run PP w = .ok 9 w := fun _ => by kernel_rfl
theorem zol (L : List Thg) (hL : L ≠ []) (hk : ∀ x ∈ L, ∀ y ∈ L, x.k.ID = y.k.ID -> x = y) (hn : L.length <= 1000000) : SpecR PP 319 [] [.d (.fn 320)] 357 9 L.length (ThI.row L) (ThI.row (L.mergeSort fun x y => decide (x.k.ID <= y.k.ID))) [] :=
 zgm ThI Tryz.sortT ⟨_, Tryz.func319, by kernel_rfl, by kernel_rfl⟩ aggT sizT (fun x => x.k.ID) L hL hk 320 (fun x _ y _ => zk0 x y) 357 hn
def thg0 (x : Cir) : Thg := ⟨⟨0, x.ID, x.From, ⟨0, 0⟩, 0, 0⟩, ⟨x.Lo, x.Hi⟩⟩
def thsK (c : Cirs) (x : Cir) (n : Nat) : List Thg := ((c.K.take n).filter fun k => k.C == x.ID).map fun k => ⟨k, alo x k⟩
def thsR (c : Cirs) (x : Cir) (n : Nat) : List Thg := thg0 x :: thsK c x n
def thsL (c : Cirs) (x : Cir) : List Thg := (thsR c x c.K.length).mergeSort fun a b => decide (a.k.ID <= b.k.ID)
theorem pushT {vs : List Thg} {p : Thg} {g : Nat -> Nat -> D} (hg : ∀ j, j < 9 -> D.eqv (g 0 j) (p.at j)) : D.eqv (.slc 9 (vs.length + 1) (appRow vs.length (ThI.row vs) g)) (.slc 9 (vs ++ [p]).length (ThI.row (vs ++ [p]))) := by
 refine ⟨by simp, .inr ⟨rfl, fun i hi j hj => ?_⟩⟩
 show D.eqv (appRow vs.length (ThI.row vs) g i j) (((vs ++ [p]).getD i default).at j)
 unfold appRow
 by_cases h : i < vs.length
 ·rw [if_pos h, gdq, List.getElem?_append_left h, <- gdq]
  exact dE _
 ·have e : i = vs.length := by omega
  subst e
  rw [if_neg h, Nat.sub_self, gdq, List.getElem?_append_right (Nat.le_refl _), Nat.sub_self]
  exact hg j hj
theorem eqv9 {f : Nat -> D} {p : Thg} (h0 : f 0 = I p.k.ID) (h1 : f 1 = I p.k.C) (h2 : f 2 = I p.k.Tick) (h3 : f 3 = I p.k.Mark.X) (h4 : f 4 = I p.k.Mark.Y) (h5 : f 5 = I p.k.Shown) (h6 : f 6 = I p.k.Slack) (h7 : f 7 = I p.s.Lo) (h8 : f 8 = I p.s.Hi) : ∀ j, j < 9 -> D.eqv (f j) (p.at j)
 | 0, _ => by rw [h0]; exact ⟨rfl, rfl⟩
 | 1, _ => by rw [h1]; exact ⟨rfl, rfl⟩
 | 2, _ => by rw [h2]; exact ⟨rfl, rfl⟩
 | 3, _ => by rw [h3]; exact ⟨rfl, rfl⟩
 | 4, _ => by rw [h4]; exact ⟨rfl, rfl⟩
 | 5, _ => by rw [h5]; exact ⟨rfl, rfl⟩
 | 6, _ => by rw [h6]; exact ⟨rfl, rfl⟩
 | 7, _ => by rw [h7]; exact ⟨rfl, rfl⟩
 | 8, _ => by rw [h8]; exact ⟨rfl, rfl⟩
theorem zeP (c : Cirs) (x : Cir) (n : Nat) : (thsR c x n).length <= n + 1 := by
 unfold thsR thsK
 have := List.length_filter_le (fun k : Chk => k.C == x.ID) (c.K.take n)
 have := List.length_take_le n c.K
 simp; omega
theorem zlv {c : Cirs} {x : Cir} {i : Nat} (h : i < c.K.length) (hk : (c.K.getD i default).C = x.ID) : thsR c x (i + 1) = thsR c x i ++ [⟨c.K.getD i default, alo x (c.K.getD i default)⟩] := by
 unfold thsR thsK
 have e : [c.K.getD i default].filter (fun k : Chk => k.C == x.ID) = [c.K.getD i default] := by rw [List.filter_cons_of_pos (by rw [hk]; exact beq_self_eq_true _)]; rfl
 rw [zaD h default, List.filter_append, List.map_append, e]
 rfl
theorem zn0 {c : Cirs} {x : Cir} {i : Nat} (h : i < c.K.length) (hk : (c.K.getD i default).C ≠ x.ID) : thsR c x (i + 1) = thsR c x i := by
 unfold thsR thsK
 have e : [c.K.getD i default].filter (fun k : Chk => k.C == x.ID) = [] := by rw [List.filter_cons_of_neg (by simpa using hk)]; rfl
 rw [zaD h default, List.filter_append, e, List.append_nil]
structure ThsOk (c : Cirs) (x : Cir) : Prop where
  on : on x.At = true
  n : c.K.length <= 60
  k : ∀ k ∈ c.K, k.C = x.ID -> Go.Pg.on k.Mark = true /\ x.At ≠ k.Mark /\ (0 <= k.Shown /\ k.Shown <= 3599) /\ (1 <= k.Slack /\ k.Slack <= 100) /\ 1 <= k.ID
  d : ∀ a ∈ c.K, ∀ b ∈ c.K, a.ID = b.ID -> a = b
theorem znZ {c : Cirs} {x : Cir} (h : ThsOk c x) (n : Nat) : ∀ a ∈ thsR c x n, ∀ b ∈ thsR c x n, a.k.ID = b.k.ID -> a = b := by
 have mem : ∀ a ∈ thsR c x n, a = thg0 x \/ ∃ k ∈ c.K, k.C = x.ID /\ a = ⟨k, alo x k⟩ := fun a ha => by
  rcases List.mem_cons.1 ha with rfl | ha
  ·exact .inl rfl
  ·obtain ⟨k, hk, rfl⟩ := List.mem_map.1 ha
   obtain ⟨hk, he⟩ := List.mem_filter.1 hk
   exact .inr ⟨k, List.mem_of_mem_take hk, by simpa using he, rfl⟩
 intro a ha b hb e
 rcases mem a ha with rfl | ⟨k, hk, hc, rfl⟩ <;> rcases mem b hb with rfl | ⟨k', hk', hc', rfl⟩
 ·rfl
 ·have := (h.k k' hk' hc').2.2.2.2
  have : (0 : Int) = k'.ID := e
  omega
 ·have := (h.k k hk hc).2.2.2.2
  have : k.ID = (0 : Int) := e
  omega
 ·rw [h.d k hk k' hk' e]
theorem zmY (c : Cirs) (x : Cir) (hx : ThsOk c x) : Spec PP 303 [c.v, x.v] [.d (lTh (thsL c x))] := by
 have hn := hx.n
 refine sA Tryz.func303 ?_
 refine LoopOb.of (σ := Nat) (fun i => ([(2, .box 2 0), (3, .box 3 0), (5, .own 16), (18, .d (lK c.K)), (19, .d (I c.K.length)), (20, .d (I i))], [(2, bxCs c), (3, .box (x.ds.map AV.d)), (16, .row 357 9 (thsR c x i).length (ThI.row (thsR c x i)))])) (fun i => i <= c.K.length) (fun i => c.K.length - i) 0
  ⟨rfl, ⟨obCs rfl, obD x.ds rfl, obR rfl ?_, trivial⟩, wq rfl⟩ (Nat.zero_le _) fun i hi => ?_
 ·refine ⟨rfl, .inr ⟨rfl, fun i hi j hj => ?_⟩⟩
  obtain rfl : i = 0 := by omega
  exact eqv9 (p := thg0 x) rfl rfl rfl rfl rfl rfl rfl rfl rfl j hj
 apply bY <;> intro h1
 ·have h1 : i < c.K.length := by have := dT h1; omega
  refine ⟨⟨rfl, by omega, by omega⟩, ?_⟩
  apply bY <;> intro h2
  ·have h2 : (c.K.getD i default).C = x.ID := by simpa using h2
   obtain ⟨k1, k2, k3, k4, -⟩ := hx.k _ (gd1 h1 default) h2
   refine oL (List.range 9) (FzOb.no ?_)
   refine oP (zk7 x (c.K.getD i default) hx.on k1 k2 k3 k4) rfl rfl ?_
   have hl := zeP c x i
   refine ⟨⟨.inr rfl, by simp only [maxLen]; omega, by dsimp only; omega⟩, ?_⟩
   refine ⟨i6, ?_⟩
   refine ⟨i + 1, ⟨rfl, ⟨obCs rfl, obD x.ds rfl, obR rfl ?_, trivial⟩, wq rfl⟩, h1, (msr (by omega))⟩
   rw [zlv h1 h2]
   exact pushT (eqv9 (p := ⟨c.K.getD i default, alo x (c.K.getD i default)⟩) rfl rfl rfl rfl rfl rfl rfl rfl rfl)
  ·have h2 : (c.K.getD i default).C ≠ x.ID := by simpa using h2
   refine ⟨i6, ?_⟩
   refine ⟨i + 1, ⟨rfl, ⟨obCs rfl, obD x.ds rfl, obR rfl (by rw [zn0 h1 h2]; exact dE _), trivial⟩, wq rfl⟩, h1, (msr (by omega))⟩
 ·have h1 : i = c.K.length := by have := dF h1; omega
  subst h1
  refine CallSt.rw' rfl (zol (thsR c x c.K.length) (by unfold thsR; simp) (znZ hx _) (by have := zeP c x c.K.length; omega)) ⟨⟨[], .tmp 38, [.func 320], [], rfl, rfl, rfl, rfl, rfl, rfl, rfl⟩⟩ rfl ?_
  refine ⟨⟨_, _, _, _, rfl, ?_⟩, trivial⟩
  have e : (thsL c x).length = (thsR c x c.K.length).length := List.length_mergeSort _
  exact ⟨e.symm, .inr ⟨rfl, fun i _ j _ => dE _⟩⟩
def noneB (t : Thg) : Bool := decide (t.s.Hi < t.s.Lo)
theorem znI (t : Thg) : Spec PP 322 [t.v] [B (noneB t)] := by
 refine sA Tryz.func322 ?_
 exact r1B rfl rfl
def gap (a b : Thg) : Int := max (a.s.Lo - b.s.Hi) (b.s.Lo - a.s.Hi)
def clB (x : Cir) (a b : Thg) : Bool := !noneB b && decide (drf x a.k.Tick b.k.Tick < gap a b)
def clsJ (x : Cir) (l : List Thg) (i j : Nat) : List (Int × Int) := (((l.drop (i + 1)).take j).filter (clB x (l.getD i default))).map fun b => ((l.getD i default).k.ID, b.k.ID)
def clsI (x : Cir) (l : List Thg) (i : Nat) : List (Int × Int) := if noneB (l.getD i default) = true then [((l.getD i default).k.ID, (l.getD i default).k.ID)] else clsJ x l i (l.length - (i + 1))
def clsU (x : Cir) (l : List Thg) (i : Nat) : List (Int × Int) := (List.range i).flatMap (clsI x l)
def clsL (x : Cir) (l : List Thg) : List (Int × Int) := clsU x l l.length
theorem zbM (x : Cir) (l : List Thg) (i : Nat) : clsU x l (i + 1) = clsU x l i ++ clsI x l i := by unfold clsU; rw [List.range_succ, List.flatMap_append]; simp
theorem zhY (x : Cir) (l : List Thg) : ∀ {k m : Nat}, k <= m -> clsU x l k <+: clsU x l m := fun {k m} h => by
 obtain ⟨d, rfl⟩ := Nat.exists_eq_add_of_le h
 induction d with
 | zero => exact List.prefix_rfl
 | succ d ih => exact (ih (by omega)).trans (by rw [<- Nat.add_assoc, zbM]; exact List.prefix_append _ _)
theorem zmJ {l : List Thg} {i j : Nat} (h : i + 1 + j < l.length) : (l.drop (i + 1)).getD j default = l.getD (i + 1 + j) default := by
 rw [gdq, List.getElem?_drop, <- gdq]
theorem zhZ {x : Cir} {l : List Thg} {i j : Nat} (h : i + 1 + j < l.length) (hc : clB x (l.getD i default) (l.getD (i + 1 + j) default) = true) : clsJ x l i (j + 1) = clsJ x l i j ++ [((l.getD i default).k.ID, (l.getD (i + 1 + j) default).k.ID)] := by
 have h2 : j < (l.drop (i + 1)).length := by rw [List.length_drop]; omega
 have e : [l.getD (i + 1 + j) default].filter (clB x (l.getD i default)) = [l.getD (i + 1 + j) default] := by rw [List.filter_cons_of_pos hc]; rfl
 unfold clsJ
 rw [zaD h2 default, zmJ h, List.filter_append, List.map_append, e]
 rfl
theorem zpf {x : Cir} {l : List Thg} {i j : Nat} (h : i + 1 + j < l.length) (hc : clB x (l.getD i default) (l.getD (i + 1 + j) default) = false) : clsJ x l i (j + 1) = clsJ x l i j := by
 have h2 : j < (l.drop (i + 1)).length := by rw [List.length_drop]; omega
 have e : [l.getD (i + 1 + j) default].filter (clB x (l.getD i default)) = [] := by rw [List.filter_cons_of_neg (by rw [hc]; decide)]; rfl
 unfold clsJ
 rw [zaD h2 default, zmJ h, List.filter_append, e, List.append_nil]
theorem zmV (x : Cir) (l : List Thg) (i : Nat) {j m : Nat} (h : j <= m) : clsJ x l i j <+: clsJ x l i m := by
 unfold clsJ
 have h1 : (l.drop (i + 1)).take j <+: (l.drop (i + 1)).take m := List.take_prefix_take_left h
 exact (h1.filter _).map _
theorem zkv {α : Type} {xs u r : List α} {a : α} (h : u ++ (r ++ [a]) <+: xs) : xs[u.length + r.length]? = some a := by
 obtain ⟨t, rfl⟩ := h
 simp
theorem zmT {x : Cir} {l : List Thg} {i : Nat} (h : i < l.length) (hn : noneB (l.getD i default) = true) : (clsL x l)[(clsU x l i).length]? = some ((l.getD i default).k.ID, (l.getD i default).k.ID) := by
 have h1 : clsU x l (i + 1) <+: clsL x l := zhY x l h
 rw [zbM] at h1
 have e : clsI x l i = [] ++ [((l.getD i default).k.ID, (l.getD i default).k.ID)] := by unfold clsI; rw [if_pos hn]; rfl
 rw [e] at h1
 exact zkv h1
theorem zpe {x : Cir} {l : List Thg} {i j : Nat} (h : i + 1 + j < l.length) (hn : noneB (l.getD i default) = false) (hc : clB x (l.getD i default) (l.getD (i + 1 + j) default) = true) : (clsL x l)[(clsU x l i).length + (clsJ x l i j).length]? = some ((l.getD i default).k.ID, (l.getD (i + 1 + j) default).k.ID) := by
 have h1 : clsU x l (i + 1) <+: clsL x l := zhY x l (by omega)
 rw [zbM] at h1
 have e : clsI x l i = clsJ x l i (l.length - (i + 1)) := by unfold clsI; rw [if_neg (by rw [hn]; decide)]
 have h2 : clsJ x l i (j + 1) <+: clsI x l i := by rw [e]; exact zmV x l i (by omega)
 rw [zhZ h hc] at h2
 refine zkv (List.IsPrefix.trans ?_ h1)
 exact (List.prefix_append_right_inj _).2 h2
structure ThgOk (t : Thg) : Prop where
  lo : -300 <= t.s.Lo /\ t.s.Lo <= 300
  hi : -300 <= t.s.Hi /\ t.s.Hi <= 300
  t : 0 <= t.k.Tick /\ t.k.Tick <= 1048576
abbrev Thg.ds (x : Thg) : List D := [I x.k.ID, I x.k.C, I x.k.Tick, I x.k.Mark.X, I x.k.Mark.Y, I x.k.Shown, I x.k.Slack, I x.s.Lo, I x.s.Hi]
theorem zqV {s : St} {ob : Nat -> Option Ob} {v : AV} {i : Nat} {cs : List AV} (xs : List D) (e : v = .box i 0) (h1 : s.ob i = some (.box cs)) (h2 : allD cs = some xs) (h3 : ob i = none) : AVle s ob v (.roe xs.length (getD' xs)) := by
 subst e
 exact ⟨h3, cs, xs, h1, h2, rfl, fun j _ => by show D.eqv (getD' xs (0 + j)) _; rw [Nat.zero_add]; exact dE _⟩
def prEnc (x : Int × Int) : List V1 := [.agg [I x.1, I x.2]]
def prVal (x : Int × Int) : List Value := [.agg #[.int .i64 x.1, .int .i64 x.2]]
def clsCap (x : Cir) (l : List Thg) (j : Nat) : D := getD' [capB [lTh l], capB x.ds] j
theorem ziF (x : Cir) (l : List Thg) (hx : 0 <= x.Drift /\ x.Drift <= 60) (hl : ∀ t ∈ l, ThgOk t) (hn : l.length <= 100) : SeqC PP 321 2 (clsCap x l) prVal (clsL x l) := by
 refine zgr Tryz.func321 rfl (by kernel_rfl) rfl rfl prEnc (fun x w ok us h => ?_) _ fun y => ?_
 ·cases h with
  | cons h1 h =>
   cases h
   obtain ⟨vs, rfl, h⟩ := h1
   cases h with
   | cons g1 h => cases h with
    | cons g2 h =>
     cases h
     rw [show _ = _ from g1, show _ = _ from g2]
     rfl
 refine LoopOb.of (σ := Nat) (fun i => ([(G, .gho (some (clsU x l i).length)), (0, .yl y), (1, avOf (.d (capB [lTh l]))), (2, avOf (.d (capB x.ds))), (9, .d (lTh l)), (10, .d (I l.length)), (11, .d (I i))], [])) (fun i => i <= l.length) (fun i => l.length - i) 0 ⟨rfl, trivial, wq rfl⟩ (Nat.zero_le _) fun i hi => ?_
 apply bY <;> intro h1
 ·have h1 : i < l.length := by have := dT h1; omega
  have o1 := hl _ (gd1 h1 default)
  refine ⟨⟨rfl, by omega, by omega⟩, ?_⟩
  refine cP (znI (l.getD i default)) rfl rfl ?_
  apply bY <;> intro h2
  ·have eU : clsU x l (i + 1) = clsU x l i ++ [((l.getD i default).k.ID, (l.getD i default).k.ID)] := by
    rw [zbM]; unfold clsI; rw [if_pos h2]
   refine CallSt.yd (d := 26) [(0, .yl y), (1, avOf (.d (capB [lTh l]))), (2, avOf (.d (capB x.ds))), (9, .d (lTh l)), (10, .d (I l.length)), (11, .d (I i))] rfl rfl rfl rfl ⟨rfl, trivial, wq rfl⟩ (zmT h1 h2) rfl rfl ?_ ?_
   ·refine sF ?_
    refine ⟨i6, ?_⟩
    refine ⟨i + 1, ⟨rfl, trivial, avG rfl ?_, wq rfl⟩, h1, (msr (by omega))⟩
    rw [eU]; simp
   ·refine sT ?_
    exact .inr rfl
  have h2 : noneB (l.getD i default) = false := h2
  have eI : clsI x l i = clsJ x l i (l.length - (i + 1)) := by unfold clsI; rw [if_neg (by rw [h2]; decide)]
  refine ⟨i6, ?_⟩
  refine ⟨⟨.inr rfl, by omega, by omega⟩, ?_⟩
  refine LoopOb.of (σ := Nat) (fun j => ([(G, .gho (some ((clsU x l i).length + (clsJ x l i j).length))), (0, .yl y), (1, avOf (.d (capB [lTh l]))), (2, avOf (.d (capB x.ds))), (5, .roe 9 (getD' (l.getD i default).ds)), (9, .d (lTh l)), (10, .d (I l.length)), (11, .d (I i)), (31, .d (.slc 9 (l.length - (i + 1)) fun q => (l.getD (i + 1 + q) default).at)), (32, .d (I (l.length - (i + 1) : Nat))), (33, .d (I j))], [])) (fun j => j <= l.length - (i + 1)) (fun j => l.length - (i + 1) - j) 0 ⟨rfl, trivial, avG rfl ?_, avQ rfl, avQ rfl, avQ rfl, zqV (l.getD i default).ds rfl rfl rfl rfl, avR _ rfl, avR _ rfl, avR _ rfl, avE rfl ⟨by omega, .inr ⟨rfl, fun q hq j hj => ?_⟩⟩, avI rfl (by omega), avR _ rfl, trivial⟩ (Nat.zero_le _) fun j hj => ?_
  ·unfold clsJ; simp
  ·show D.eqv ((l.getD (((i : Int) + 1).toNat + q) default).at j) ((l.getD (i + 1 + q) default).at j)
   rw [show ((i : Int) + 1).toNat = i + 1 by omega]
   exact dE _
  apply bY <;> intro h3
  ·have h3 : i + 1 + j < l.length := by have := dT h3; omega
   have o2 := hl _ (gd1 h3 default)
   refine ⟨⟨rfl, by omega, by omega⟩, ?_⟩
   have q1 := o1.lo
   have q2 := o1.hi
   have q3 := o2.lo
   have q4 := o2.hi
   have z1 : inR .i64 ((l.getD i default).s.Lo - (l.getD (i + 1 + j) default).s.Hi) := i6
   have z2 : inR .i64 ((l.getD (i + 1 + j) default).s.Lo - (l.getD i default).s.Hi) := i6
   refine ⟨z1, ⟨z2, ?_⟩⟩
   refine CallSt.pureE (zcN _ [_] (Nat.le_of_ble_eq_true rfl)) rfl ⟨⟨rfl, rfl⟩, zfh rfl, trivial⟩ rfl ?_
   refine cP (znI (l.getD (i + 1 + j) default)) rfl rfl ?_
   have stay : clB x (l.getD i default) (l.getD (i + 1 + j) default) = false -> (clsU x l i).length + (clsJ x l i j).length = (clsU x l i).length + (clsJ x l i (j + 1)).length := fun h => by rw [zpf h3 h]
   apply bY <;> intro h4
   ·have h4 : (!noneB (l.getD (i + 1 + j) default)) = true := h4
    refine cP (zk2 x (l.getD i default).k.Tick (l.getD (i + 1 + j) default).k.Tick hx o1.t o2.t) rfl rfl ?_
    refine sT ?_
    apply bY <;> intro h5
    ·have hc : clB x (l.getD i default) (l.getD (i + 1 + j) default) = true := by unfold clB; rw [h4]; exact h5
     refine CallSt.yd (d := 77) [(0, .yl y), (1, avOf (.d (capB [lTh l]))), (2, avOf (.d (capB x.ds))), (5, .roe 9 (getD' (l.getD i default).ds)), (9, .d (lTh l)), (10, .d (I l.length)), (11, .d (I i)), (31, .d (.slc 9 (l.length - (i + 1)) fun q => (l.getD (i + 1 + q) default).at)), (32, .d (I (l.length - (i + 1) : Nat))), (33, .d (I j)), (68, .d (.bool true))] rfl rfl rfl rfl ⟨rfl, trivial, wq rfl⟩ (zpe h3 h2 hc) rfl rfl ?_ ?_
     ·refine sT (sF ?_)
      refine ⟨i6, ?_⟩
      refine ⟨j + 1, ⟨rfl, trivial, avG rfl ?_, wq rfl⟩, (show j + 1 <= l.length - (i + 1) by omega), (show l.length - (i + 1) - (j + 1) < l.length - (i + 1) - j by omega)⟩
      rw [zhZ h3 hc]; simp; omega
     ·refine sT (sT ?_)
      exact .inr rfl
    ·have hc : clB x (l.getD i default) (l.getD (i + 1 + j) default) = false := by unfold clB; rw [h4]; exact h5
     refine sF (sF ?_)
     refine ⟨i6, ?_⟩
     refine ⟨j + 1, ⟨rfl, trivial, avG rfl ?_, wq rfl⟩, (show j + 1 <= l.length - (i + 1) by omega), (show l.length - (i + 1) - (j + 1) < l.length - (i + 1) - j by omega)⟩
     exact stay hc
   ·have h4 : (!noneB (l.getD (i + 1 + j) default)) = false := h4
    have hc : clB x (l.getD i default) (l.getD (i + 1 + j) default) = false := by unfold clB; rw [h4]; rfl
    refine sF (sF (sF (sF ?_)))
    refine ⟨i6, ?_⟩
    refine ⟨j + 1, ⟨rfl, trivial, avG rfl ?_, wq rfl⟩, (show j + 1 <= l.length - (i + 1) by omega), (show l.length - (i + 1) - (j + 1) < l.length - (i + 1) - j by omega)⟩
    exact stay hc
  ·have h3 : j = l.length - (i + 1) := by have := dF h3; omega
   subst h3
   refine ⟨i6, ?_⟩
   refine ⟨i + 1, ⟨rfl, trivial, avG rfl ?_, wq rfl⟩, h1, (msr (by omega))⟩
   rw [zbM, eI]; simp
 ·have h1 : i = l.length := by have := dF h1; omega
  subst h1
  exact .inl rfl
abbrev clsClo (x : Cir) (l : List Thg) : D := .clo 321 2 (clsCap x l)
theorem zk3 (x : Cir) (l : List Thg) : Spec PP 304 [x.v, .d (lTh l)] [.d (clsClo x l)] := by
 refine sA Tryz.func304 ?_
 refine ⟨⟨rfl, rfl, fun j hj => ?_⟩, trivial⟩
 match j, hj with
 | 0, _ => exact ⟨_, rfl, rfl, _, _, rfl, rfl, rfl, fun j hj => dE _⟩
 | 1, _ => exact ⟨_, rfl, rfl, _, _, rfl, rfl, rfl, fun j hj => dE _⟩
def agrE (x : Cir) (l : List Thg) : Int := if clsL x l = [] then 0 else 9
theorem zpG (x : Int × Int) (w : World) (ok : Nat -> Prop) : All2 (Rep1 w ok) (prEnc x) (prVal x) := .cons ⟨_, rfl, .cons rfl (.cons rfl .nil)⟩ .nil
theorem zpm (x : Cir) (l : List Thg) (hx : 0 <= x.Drift /\ x.Drift <= 60) (hl : ∀ t ∈ l, ThgOk t) (hn : l.length <= 100) : Spec PP 269 [x.v, .d (lTh l)] [.d (.int .i64 (agrE x l))] := by
 refine sA Tryz.func269 ?_
 refine CallSt.ro (zk3 x l) rfl rfl ?_
 refine CodeOb.rangeAt (ziF x l hx hl hn) rfl prEnc zpG (fun _ => rfl) (by decide) [(2, .box 2 0), (4, .box 4 0)] [] (fun _ => [(2, .box (x.ds.map AV.d)), (4, .box [.d (I 0)])]) rfl (fun _ => rfl) ?_
  (Iv := fun pre => pre = []) rfl (fun v pre p hp hI => ?_) (fun hI => ?_)
 ·exact ⟨rfl, ⟨obD x.ds rfl, obD [I 0] rfl, trivial⟩, wq rfl⟩
 ·refine ⟨[(2, .box (x.ds.map AV.d)), (4, .box [.d (I 9)])], rfl, ⟨rfl, ⟨obD x.ds rfl, obD [I 9] rfl, trivial⟩, wq rfl⟩, ?_⟩
  refine r1CD rfl rfl rfl rfl rfl ?_
  have : clsL x l ≠ [] := fun e => by rw [e] at hp; exact absurd (List.prefix_nil.1 hp) (by simp)
  refine ⟨rfl, ?_⟩
  unfold agrE; rw [if_neg this]
 ·refine r1CD rfl rfl rfl rfl rfl ?_
  refine ⟨rfl, ?_⟩
  unfold agrE; rw [if_pos hI]
theorem zgY {c : Cirs} {id : Int} (h : ¬ cirI c id < 0) : (c.C.getD (cirI c id).toNat default).ID = id := by
 rcases idxL_cases (fun t : Cir => t.ID == id) c.C default with ⟨h1, _⟩ | ⟨i, h1, h2, h3, _⟩
 ·exact absurd (show cirI c id < 0 by unfold cirI; rw [h1]; decide) h
 ·unfold cirI; rw [h2]
  simpa using h3
theorem zgZ {c : Cirs} {i : Nat} (h : i < c.K.length) : chkI c (c.K.getD i default).ID <= i := by
 rcases idxL_cases (fun t : Chk => t.ID == (c.K.getD i default).ID) c.K default with ⟨h1, _⟩ | ⟨j, h1, h2, h3, h4⟩
 ·unfold chkI; rw [h1]; omega
 ·unfold chkI; rw [h2]
  rcases Nat.lt_or_ge i j with h5 | h5
  ·have := h4 i h5; simp at this
  ·omega
theorem zlh {f : Nat -> Spn} (hf : ∀ i, -300 <= (f i).Lo /\ (f i).Hi <= 300) : ∀ (i n : Nat), (-300 <= (aloR f i n).Lo /\ (aloR f i n).Lo <= 300) /\ (-300 <= (aloR f i n).Hi /\ (aloR f i n).Hi <= 300)
 | _, 0 => by unfold aloR; dsimp only; omega
 | i, n + 1 => by
  unfold aloR
  split
  ·have := hf i; omega
  ·exact zlh hf (i + 1) n
theorem zq1 (x : Cir) (k : Chk) : (-300 <= (alo x k).Lo /\ (alo x k).Lo <= 300) /\ (-300 <= (alo x k).Hi /\ (alo x k).Hi <= 300) :=
 zlh (fun i => by unfold aloF aloT; dsimp only; omega) 0 3
section
variable {c : Cirs} (h : CirsOk c) {id : Int} (hid : ¬ cirI c id < 0)
include h hid
theorem zpK : ThsOk c (c.C.getD (cirI c id).toNat default) := by
 obtain ⟨h1, h2⟩ := za9 hid
 have hx := h.cs _ h1
 refine ⟨hx.on, h.m, fun k hk hc => ?_, fun a ha b hb e => ?_⟩
 ·obtain ⟨j, hj, rfl⟩ := zaX default hk
  have ok := h.ks j hj
  have e : chkO c (c.K.getD j default) = c.C.getD (cirI c id).toNat default := by unfold chkO; rw [hc, zgY hid]
  have ne := ok.ne
  rw [e] at ne
  exact ⟨ok.on, fun hh => ne hh.symm, ok.s, ok.l, ok.id.1⟩
 ·obtain ⟨i, hi, rfl⟩ := zaX default ha
  obtain ⟨j, hj, rfl⟩ := zaX default hb
  have a1 := h.ki i hi
  have a2 := zgZ hi
  have b1 := h.ki j hj
  have b2 := zgZ hj
  rw [e] at a1 a2
  have : i = j := by omega
  rw [this]
theorem zhk : ∀ t ∈ thsL c (c.C.getD (cirI c id).toNat default), ThgOk t := by
 obtain ⟨h1, h2⟩ := za9 hid
 have hx := h.cs _ h1
 intro t ht
 have ht : t ∈ thsR c (c.C.getD (cirI c id).toNat default) c.K.length := by unfold thsL at ht; exact List.mem_mergeSort.1 ht
 rcases List.mem_cons.1 ht with rfl | ht
 ·have := hx.z; have := hx.t
  exact ⟨by unfold thg0; dsimp only; omega, by unfold thg0; dsimp only; omega, by unfold thg0; dsimp only; omega⟩
 ·obtain ⟨k, hk, rfl⟩ := List.mem_map.1 ht
  obtain ⟨hk, he⟩ := List.mem_filter.1 hk
  obtain ⟨j, hj, rfl⟩ := zaX default (List.mem_of_mem_take hk)
  have ok := h.ks j hj
  have e : chkO c (c.K.getD j default) = c.C.getD (cirI c id).toNat default := by
   have he : (c.K.getD j default).C = (c.C.getD (cirI c id).toNat default).ID := by simpa using he
   unfold chkO; rw [he, zgY hid]
  have t1 := ok.t
  rw [e] at t1
  have := hx.t
  have b := zq1 (c.C.getD (cirI c id).toNat default) (c.K.getD j default)
  exact ⟨b.1, b.2, by dsimp only; omega⟩
end
theorem zhj (c : Cirs) (x : Cir) : (thsL c x).length <= c.K.length + 1 := by
 unfold thsL; rw [List.length_mergeSort]; exact zeP c x _
def knw (c : Cirs) (id : Int) (l : List Int) : Cir × List Thg × Int :=
 if cirsE c ≠ 0 then (default, [], cirsE c) else if cirI c id < 0 then (default, [], 5)
 else if (l.all fun t => within t (c.C.getD (cirI c id).toNat default).From (c.C.getD (cirI c id).toNat default).To) = true then (c.C.getD (cirI c id).toNat default, thsL c (c.C.getD (cirI c id).toNat default), 0)
 else (c.C.getD (cirI c id).toNat default, [], 1)
theorem zpl (c : Cirs) (id : Int) (l : List Int) (hn : l.length <= 1000000) : Spec PP 268 [c.v, N id, .d (lI l)] [(knw c id l).1.v, .d (lTh (knw c id l).2.1), .d (.int .i64 (knw c id l).2.2)] := by
 refine sA Tryz.func268 ?_
 refine cP (zfk c) rfl rfl ?_
 apply bY <;> intro h0
 ·have h0 : cirsE c ≠ 0 := by simpa using h0
  have e : knw c id l = (default, [], cirsE c) := by unfold knw; rw [if_pos h0]
  rw [e]
  exact ⟨rtC (a := 6) rfl rfl rfl rfl rfl rfl (zaa _), ⟨_, _, _, _, rfl, rfl, .inl rfl⟩, rtI rfl rfl, trivial⟩
 have h0 : cirsE c = 0 := by simpa using h0
 have ok := zbf h0
 refine cP (zb6 c id (by have := ok.n; omega)) rfl rfl ?_
 apply bY <;> intro h1
 ·have h1 : cirI c id < 0 := dT h1
  have e : knw c id l = (default, [], 5) := by unfold knw; rw [if_neg (fun hh => hh h0), if_pos h1]
  rw [e]
  exact ⟨rtC (a := 6) rfl rfl rfl rfl rfl rfl (zaa _), ⟨_, _, _, _, rfl, rfl, .inl rfl⟩, rtI rfl rfl, trivial⟩
 have h1 : ¬ cirI c id < 0 := dF h1
 obtain ⟨h2, h3⟩ := za9 h1
 obtain ⟨x, hx⟩ : ∃ x, x = c.C.getD (cirI c id).toNat default := ⟨_, rfl⟩
 have e0 : knw c id l = if (l.all fun t => within t x.From x.To) = true then (x, thsL c x, 0) else (x, [], 1) := by
  unfold knw; rw [if_neg (fun hh => hh h0), if_neg h1, hx]
 refine ⟨⟨rfl, by omega, by omega⟩, ?_⟩
 refine LoopOb.of (σ := Nat) (fun i => ([(3, .box 3 0), (6, .box 6 0), (11, .box 11 0), (31, .d (lI l)), (32, .d (I l.length)), (33, .d (I i))], [(3, bxCs c), (6, .box ((default : Cir).ds.map AV.d)), (11, .box (x.ds.map AV.d))])) (fun i => i <= l.length /\ ∀ j, j < i -> within (l.getD j 0) x.From x.To = true) (fun i => l.length - i) 0
  ⟨rfl, ⟨obCs rfl, obD (default : Cir).ds rfl, obD x.ds (by rw [hx]; rfl), trivial⟩, wq rfl⟩ z0L fun i hi => ?_
 obtain ⟨hi, ha⟩ := hi
 apply bY <;> intro h4
 ·have h4 : i < l.length := by have := dT h4; omega
  refine ⟨⟨rfl, by omega, by omega⟩, ?_⟩
  refine cP (zaB (l.getD i 0) x.From x.To) rfl rfl ?_
  apply bY <;> intro h5
  ·have h5 : within (l.getD i 0) x.From x.To = false := by simpa using h5
   have e : knw c id l = (x, [], 1) := by
    rw [e0, if_neg fun hh => ?_]
    have := List.all_eq_true.1 hh _ (gd1 h4 0)
    rw [h5] at this; cases this
   rw [e]
   exact ⟨rtC (a := 6) rfl rfl rfl rfl rfl rfl (zaa _), ⟨_, _, _, _, rfl, rfl, .inl rfl⟩, rtI rfl rfl, trivial⟩
  ·have h5 : within (l.getD i 0) x.From x.To = true := by simpa using h5
   refine ⟨i6, ?_⟩
   refine ⟨i + 1, ⟨rfl, ⟨obCs rfl, obD (default : Cir).ds rfl, obD x.ds rfl, trivial⟩, wq rfl⟩, ⟨h4, fun j hj => ?_⟩, (msr (by omega))⟩
   by_cases q : j = i
   ·subst q; exact h5
   ·exact ha j (by omega)
 ·have h4 : i = l.length := by have := dF h4; omega
  subst h4
  have e : knw c id l = (x, thsL c x, 0) := by
   rw [e0, if_pos ?_]
   refine List.all_eq_true.2 fun t ht => ?_
   obtain ⟨j, hj, rfl⟩ := zaX 0 ht
   exact ha j hj
  rw [e]
  refine oL (List.range 7) (FzOb.no ?_)
  refine CallOb.ro (zmY c x (by rw [hx]; exact zpK ok h1)) rfl rfl ?_
  exact ⟨rtC (a := 6) rfl rfl rfl rfl rfl rfl (zaa _), dE _, rtI rfl rfl, trivial⟩
def atR (c : Cirs) (id t : Int) : Cir × List Thg × Int :=
 ((knw c id [t]).1, (knw c id [t]).2.1, if (knw c id [t]).2.2 = 0 then agrE (knw c id [t]).1 (knw c id [t]).2.1 else (knw c id [t]).2.2)
theorem zkl {c : Cirs} {id t : Int} (h : (knw c id [t]).2.2 = 0) : cirsE c = 0 /\ ¬ cirI c id < 0 /\ within t (c.C.getD (cirI c id).toNat default).From (c.C.getD (cirI c id).toNat default).To = true /\ (knw c id [t]).1 = c.C.getD (cirI c id).toNat default /\ (knw c id [t]).2.1 = thsL c (c.C.getD (cirI c id).toNat default) := by
 unfold knw at h ⊢
 split at h
 ·rename_i h1; exact absurd h h1
 ·rename_i h1
  split at h
  ·cases h
  ·rename_i h2
   split at h
   ·rename_i h3
    rw [if_neg h1, if_neg h2, if_pos h3]
    exact ⟨Classical.byContradiction h1, h2, by simpa using h3, rfl, rfl⟩
   ·cases h
theorem c_at (c : Cirs) (id t : Int) : Spec PP 219 [c.v, N id, N t] [(atR c id t).1.v, .d (lTh (atR c id t).2.1), .d (.int .i64 (atR c id t).2.2)] := by
 refine sA Tryz.func219 ?_
 refine CallSt.fzE [16] (zpl c id [t] (Nat.le_of_ble_eq_true rfl)) rfl ⟨zaa _, ⟨rfl, rfl⟩, zfh rfl, trivial⟩ rfl ?_
 apply bY <;> intro h1
 ·have h1 : (knw c id [t]).2.2 = 0 := by simpa using h1
  obtain ⟨k1, k2, k3, k4, k5⟩ := zkl h1
  have ok := zbf k1
  have hx := ok.cs _ (za9 k2).1
  refine cP (zpm (knw c id [t]).1 (knw c id [t]).2.1 (by rw [k4]; exact hx.d) (by rw [k4, k5] at *; exact zhk ok k2) (by rw [k5]; have := zhj c (c.C.getD (cirI c id).toNat default); have := ok.m; omega)) rfl rfl ?_
  exact ⟨rtC (a := 6) rfl rfl rfl rfl rfl rfl (zaa _), dE _, rtI rfl (by show _ = if _ then _ else _; rw [if_pos h1]), trivial⟩
 ·have h1 : (knw c id [t]).2.2 ≠ 0 := by simpa using h1
  exact ⟨rtC (a := 6) rfl rfl rfl rfl rfl rfl (zaa _), dE _, rtI rfl (by show _ = if _ then _ else _; rw [if_neg h1]), trivial⟩
structure ZS where
  lo : Int
  hi : Int
  a : Int
  b : Int
  deriving Inhabited
def zStep (x : Cir) (t : Int) (z : ZS) (g : Thg) : ZS :=
 let d := drf x g.k.Tick t
 ⟨if z.lo < g.s.Lo - d then g.s.Lo - d else z.lo, if g.s.Hi + d < z.hi then g.s.Hi + d else z.hi, if z.lo < g.s.Lo - d then g.k.ID else z.a, if g.s.Hi + d < z.hi then g.k.ID else z.b⟩
def zer (x : Cir) (l : List Thg) (t : Int) : ZS := l.foldl (zStep x t) ⟨-300, 300, 0, 0⟩
theorem znF {x : Cir} {a b : Int} (hx : 0 <= x.Drift /\ x.Drift <= 60) (ha : 0 <= a /\ a <= 1048576) (hb : 0 <= b /\ b <= 1048576) : -100000000 <= drf x a b /\ drf x a b <= 100000000 := by
 have m1 := mulB (a := x.Drift) (b := max (a - b) (b - a)) (x := 60) (y := 1048576) (by omega) (by omega)
 have := zkM (n := -(x.Drift * max (a - b) (b - a))) (p := 60) (b := 100000000) (by decide) (by decide) (by omega)
 unfold drf; omega
theorem zqQ (x : Cir) (l : List Thg) (t : Int) (hx : 0 <= x.Drift /\ x.Drift <= 60) (hl : ∀ t ∈ l, ThgOk t) (hn : l.length <= 100) (ht : 0 <= t /\ t <= 1048576) : Spec PP 220 [x.v, .d (lTh l), N t] [.agg [I (zer x l t).lo, I (zer x l t).hi], N (zer x l t).a, N (zer x l t).b] := by
 refine sA Tryz.func220 ?_
 refine LoopOb.of (σ := Nat × ZS) (fun p => ([(2, .d (I t)), (3, .box 3 0), (6, .box 6 0), (7, .d (I p.2.a)), (8, .d (I p.2.b)), (15, .d (lTh l)), (16, .d (I l.length)), (17, .d (I p.1))], [(3, .box (x.ds.map AV.d)), (6, .box [.d (I p.2.lo), .d (I p.2.hi)])])) (fun p => p.1 <= l.length /\ p.2 = (l.take p.1).foldl (zStep x t) ⟨-300, 300, 0, 0⟩) (fun p => l.length - p.1) (0, ⟨-300, 300, 0, 0⟩)
  ⟨rfl, ⟨obD x.ds rfl, obD [I (-300), I 300] rfl, trivial⟩, wq rfl⟩ ⟨Nat.zero_le _, rfl⟩ fun ⟨i, z⟩ ⟨hi, hz⟩ => ?_
 dsimp only at hi hz ⊢
 apply bY <;> intro h1
 ·have h1 : i < l.length := by have := dT h1; omega
  have o1 := hl _ (gd1 h1 default)
  have q1 := o1.lo
  have q2 := o1.hi
  have db := znF hx o1.t ht
  have hz' : (l.take (i + 1)).foldl (zStep x t) ⟨-300, 300, 0, 0⟩ = zStep x t z (l.getD i default) := by rw [zaD h1 default, List.foldl_append, <- hz]; rfl
  refine ⟨⟨rfl, by omega, by omega⟩, ?_⟩
  refine cP (zk2 x (l.getD i default).k.Tick t hx o1.t ht) rfl rfl ?_
  have z1 : inR .i64 ((l.getD i default).s.Lo - drf x (l.getD i default).k.Tick t) := i6
  have z2 : inR .i64 ((l.getD i default).s.Hi + drf x (l.getD i default).k.Tick t) := i6
  refine ⟨z1, ?_⟩
  apply bY <;> intro h2
  ·have h2 : z.lo < (l.getD i default).s.Lo - drf x (l.getD i default).k.Tick t := dT h2
   refine Exists.intro [0, 1, 2, 4, 4003, 5, 6] (And.intro (by kernel_rfl) (FzOb.fz [10] ⟨rfl, ?_⟩))
   refine ⟨z2, ?_⟩
   apply bY <;> intro h3
   ·have h3 : (l.getD i default).s.Hi + drf x (l.getD i default).k.Tick t < z.hi := dT h3
    refine Exists.intro [0, 1, 2, 4, 4003, 5, 6] (And.intro (by kernel_rfl) (FzOb.fz [10] ⟨rfl, ?_⟩))
    have eS : zStep x t z (l.getD i default) = ⟨(l.getD i default).s.Lo - drf x (l.getD i default).k.Tick t, (l.getD i default).s.Hi + drf x (l.getD i default).k.Tick t, (l.getD i default).k.ID, (l.getD i default).k.ID⟩ := by unfold zStep; simp only [if_pos h2, if_pos h3]
    refine ⟨i6, ?_⟩
    refine ⟨(i + 1, ⟨(l.getD i default).s.Lo - drf x (l.getD i default).k.Tick t, (l.getD i default).s.Hi + drf x (l.getD i default).k.Tick t, (l.getD i default).k.ID, (l.getD i default).k.ID⟩), ⟨rfl, ⟨obD x.ds rfl, obD [I ((l.getD i default).s.Lo - drf x (l.getD i default).k.Tick t), I ((l.getD i default).s.Hi + drf x (l.getD i default).k.Tick t)] rfl, trivial⟩, wq rfl⟩, ⟨h1, by dsimp only; rw [hz', eS]⟩, (msr (by omega))⟩
   ·have h3 : ¬ (l.getD i default).s.Hi + drf x (l.getD i default).k.Tick t < z.hi := dF h3
    have eS : zStep x t z (l.getD i default) = ⟨(l.getD i default).s.Lo - drf x (l.getD i default).k.Tick t, z.hi, (l.getD i default).k.ID, z.b⟩ := by unfold zStep; simp only [if_pos h2, if_neg h3]
    refine ⟨i6, ?_⟩
    refine ⟨(i + 1, ⟨(l.getD i default).s.Lo - drf x (l.getD i default).k.Tick t, z.hi, (l.getD i default).k.ID, z.b⟩), ⟨rfl, ⟨obD x.ds rfl, obD [I ((l.getD i default).s.Lo - drf x (l.getD i default).k.Tick t), I (z.hi)] rfl, trivial⟩, wq rfl⟩, ⟨h1, by dsimp only; rw [hz', eS]⟩, (msr (by omega))⟩
  ·have h2 : ¬ z.lo < (l.getD i default).s.Lo - drf x (l.getD i default).k.Tick t := dF h2
   refine ⟨z2, ?_⟩
   apply bY <;> intro h3
   ·have h3 : (l.getD i default).s.Hi + drf x (l.getD i default).k.Tick t < z.hi := dT h3
    refine Exists.intro [0, 1, 2, 4, 4003, 5, 6] (And.intro (by kernel_rfl) (FzOb.fz [10] ⟨rfl, ?_⟩))
    have eS : zStep x t z (l.getD i default) = ⟨z.lo, (l.getD i default).s.Hi + drf x (l.getD i default).k.Tick t, z.a, (l.getD i default).k.ID⟩ := by unfold zStep; simp only [if_neg h2, if_pos h3]
    refine ⟨i6, ?_⟩
    refine ⟨(i + 1, ⟨z.lo, (l.getD i default).s.Hi + drf x (l.getD i default).k.Tick t, z.a, (l.getD i default).k.ID⟩), ⟨rfl, ⟨obD x.ds rfl, obD [I (z.lo), I ((l.getD i default).s.Hi + drf x (l.getD i default).k.Tick t)] rfl, trivial⟩, wq rfl⟩, ⟨h1, by dsimp only; rw [hz', eS]⟩, (msr (by omega))⟩
   ·have h3 : ¬ (l.getD i default).s.Hi + drf x (l.getD i default).k.Tick t < z.hi := dF h3
    have eS : zStep x t z (l.getD i default) = ⟨z.lo, z.hi, z.a, z.b⟩ := by unfold zStep; simp only [if_neg h2, if_neg h3]
    refine ⟨i6, ?_⟩
    refine ⟨(i + 1, ⟨z.lo, z.hi, z.a, z.b⟩), ⟨rfl, ⟨obD x.ds rfl, obD [I (z.lo), I (z.hi)] rfl, trivial⟩, wq rfl⟩, ⟨h1, by dsimp only; rw [hz', eS]⟩, (msr (by omega))⟩
 ·have h1 : i = l.length := by have := dF h1; omega
  subst h1
  rw [List.take_length] at hz
  have e : zer x l t = z := hz.symm
  rw [e]
  exact ⟨rtC (a := 6) rfl rfl rfl rfl rfl rfl (zaa _), rtI rfl rfl, rtI rfl rfl, trivial⟩
def zerR (c : Cirs) (id t : Int) : Spn × Int := if (atR c id t).2.2 ≠ 0 then (⟨0, 0⟩, (atR c id t).2.2) else (⟨(zer (atR c id t).1 (atR c id t).2.1 t).lo, (zer (atR c id t).1 (atR c id t).2.1 t).hi⟩, 0)
theorem zm7 {c : Cirs} {id t : Int} (h : (atR c id t).2.2 = 0) : (knw c id [t]).2.2 = 0 := by
 have h : (if (knw c id [t]).2.2 = 0 then agrE (knw c id [t]).1 (knw c id [t]).2.1 else (knw c id [t]).2.2) = 0 := h
 split at h
 ·assumption
 ·exact h
theorem zh5 (c : Cirs) (id t : Int) : Spec PP 146 [c.v, N id, N t] [(zerR c id t).1.v, .d (.int .i64 (zerR c id t).2)] := by
 refine sA Tryz.func146 ?_
 refine CallSt.ro (c_at c id t) rfl rfl ?_
 apply bY <;> intro h1
 ·have h1 : (atR c id t).2.2 ≠ 0 := by simpa using h1
  have e : zerR c id t = (⟨0, 0⟩, (atR c id t).2.2) := by unfold zerR; rw [if_pos h1]
  rw [e]
  exact r2CI rfl rfl rfl rfl rfl rfl rfl (zaa _) rfl
 have h1 : (atR c id t).2.2 = 0 := by simpa using h1
 have h0 : (knw c id [t]).2.2 = 0 := zm7 h1
 obtain ⟨k1, k2, k3, k4, k5⟩ := zkl h0
 have ok := zbf k1
 have hx := ok.cs _ (za9 k2).1
 have ht := zab.1 k3
 have htt := hx.t
 have e1 : (atR c id t).1 = c.C.getD (cirI c id).toNat default := k4
 have e2 : (atR c id t).2.1 = thsL c (c.C.getD (cirI c id).toNat default) := k5
 refine cP (zqQ (atR c id t).1 (atR c id t).2.1 t (by rw [e1]; exact hx.d) (by rw [e2]; exact zhk ok k2) (by rw [e2]; have := zhj c (c.C.getD (cirI c id).toNat default); have := ok.m; omega) (by omega)) rfl rfl ?_
 have e : zerR c id t = (⟨(zer (atR c id t).1 (atR c id t).2.1 t).lo, (zer (atR c id t).1 (atR c id t).2.1 t).hi⟩, 0) := by unfold zerR; rw [if_neg (fun hh => hh h1)]
 rw [e]
 exact r2CI rfl rfl rfl rfl rfl rfl rfl (zaa _) rfl
def rdgE (c : Cirs) (r : Rdg) : Int := if cirsE c ≠ 0 then cirsE c else if (!within r.Shown 0 3599 || !within r.Slack 1 100) = true then 1 else 0
theorem zk1 (c : Cirs) (r : Rdg) : Spec PP 221 [c.v, r.v] [.d (.int .i64 (rdgE c r))] := by
 refine sA Tryz.func221 ?_
 refine cP (zfk c) rfl rfl ?_
 apply bY <;> intro h0
 ·have h0 : cirsE c ≠ 0 := by simpa using h0
  refine r1I rfl ?_
  unfold rdgE; rw [if_pos h0]
 have h0 : cirsE c = 0 := by simpa using h0
 have e0 : rdgE c r = if (!within r.Shown 0 3599 || !within r.Slack 1 100) = true then 1 else 0 := by unfold rdgE; rw [if_neg (fun hh => hh h0)]
 refine cP (zb5 r.Shown) rfl rfl ?_
 apply bY <;> intro h1
 ·refine sT (sT ?_)
  refine r1I rfl ?_
  rw [e0, if_pos (by rw [h1]; rfl)]
 refine cP (zaB r.Slack 1 100) rfl rfl ?_
 refine sF ?_
 apply bY <;> intro h2
 ·refine r1I rfl ?_
  rw [e0, if_pos (by rw [h1, h2]; rfl)]
 ·refine r1I rfl ?_
  rw [e0, if_neg (by rw [h1, h2]; decide)]
def wdg (n m : Int) : Wdg := ⟨n % 3600, (n + m) % 3600⟩
theorem zpk (n m : Int) (hn : -1000000000 <= n /\ n <= 1000000000) (hm : -1000000000 <= m /\ m <= 1000000000) : Spec PP 222 [N n, N m] [(wdg n m).v] := by
 refine sA Tryz.func222 ?_
 refine cP (zb4 n 1 (by decide) (by omega)) rfl rfl ?_
 refine ⟨i6, ?_⟩
 refine cP (zb4 (n + m) 1 (by decide) (by omega)) rfl rfl ?_
 exact r1C rfl rfl rfl rfl rfl rfl (zdO (show n % (3600 * 1) = n % 3600 by omega) (show (n + m) % (3600 * 1) = (n + m) % 3600 by omega))
theorem zpz {x : Cir} {l : List Thg} {t : Int} (hx : 0 <= x.Drift /\ x.Drift <= 60) (hl : ∀ g ∈ l, ThgOk g) (ht : 0 <= t /\ t <= 1048576) : ∀ (z : ZS), (-300 <= z.lo /\ z.lo <= 100000300) -> (-100000300 <= z.hi /\ z.hi <= 300) -> (-300 <= (l.foldl (zStep x t) z).lo /\ (l.foldl (zStep x t) z).lo <= 100000300) /\ (-100000300 <= (l.foldl (zStep x t) z).hi /\ (l.foldl (zStep x t) z).hi <= 300) := by
 induction l with
 | nil => exact fun z h1 h2 => ⟨h1, h2⟩
 | cons g r ih =>
  intro z h1 h2
  have o := hl g (by simp)
  have q1 := o.lo
  have q2 := o.hi
  have db := znF hx o.t ht
  refine ih (fun g hg => hl g (by simp [hg])) (zStep x t z g) ?_ ?_
  ·unfold zStep; dsimp only; split <;> omega
  ·unfold zStep; dsimp only; split <;> omega
def wdgR (c : Cirs) (r : Rdg) : Wdg × Int :=
 if rdgE c r ≠ 0 then (⟨0, 0⟩, rdgE c r) else if (zerR c r.C r.Tick).2 ≠ 0 then (⟨0, 0⟩, (zerR c r.C r.Tick).2)
 else if 900 < 2 * r.Slack + (zerR c r.C r.Tick).1.Hi - (zerR c r.C r.Tick).1.Lo then (⟨0, 0⟩, 50)
 else (wdg (r.Shown - r.Slack - (zerR c r.C r.Tick).1.Hi) (2 * r.Slack + (zerR c r.C r.Tick).1.Hi - (zerR c r.C r.Tick).1.Lo), 0)
theorem ziS {c : Cirs} {id t : Int} (h : (zerR c id t).2 = 0) : (-300 <= (zerR c id t).1.Lo /\ (zerR c id t).1.Lo <= 100000300) /\ (-100000300 <= (zerR c id t).1.Hi /\ (zerR c id t).1.Hi <= 300) := by
 unfold zerR at h ⊢
 split at h
 ·rename_i h1; exact absurd h h1
 ·rename_i h1
  have h1 : (atR c id t).2.2 = 0 := Classical.byContradiction h1
  obtain ⟨k1, k2, k3, k4, k5⟩ := zkl (zm7 h1)
  have ok := zbf k1
  have hx := ok.cs _ (za9 k2).1
  have ht := zab.1 k3
  have htt := hx.t
  have e1 : (atR c id t).1 = c.C.getD (cirI c id).toNat default := k4
  have e2 : (atR c id t).2.1 = thsL c (c.C.getD (cirI c id).toNat default) := k5
  rw [if_neg (fun hh => hh h1)]
  exact zpz (by rw [e1]; exact hx.d) (by rw [e2]; exact zhk ok k2) (by omega) _ (by decide) (by decide)
theorem zk8 (c : Cirs) (r : Rdg) : Spec PP 147 [c.v, r.v] [(wdgR c r).1.v, .d (.int .i64 (wdgR c r).2)] := by
 refine sA Tryz.func147 ?_
 refine cP (zk1 c r) rfl rfl ?_
 apply bY <;> intro h0
 ·have h0 : rdgE c r ≠ 0 := by simpa using h0
  have e : wdgR c r = (⟨0, 0⟩, rdgE c r) := by unfold wdgR; rw [if_pos h0]
  rw [e]
  exact r2CI rfl rfl rfl rfl rfl rfl rfl (zaa _) rfl
 have h0 : rdgE c r = 0 := by simpa using h0
 have hs : (0 <= r.Shown /\ r.Shown <= 3599) /\ (1 <= r.Slack /\ r.Slack <= 100) := by
  unfold rdgE at h0
  split at h0
  ·rename_i h; exact absurd h0 h
  ·split at h0
   ·cases h0
   ·rename_i h
    simp only [Bool.or_eq_true, Bool.not_eq_true', not_or, Bool.not_eq_false] at h
    exact ⟨zab.1 h.1, zab.1 h.2⟩
 refine cP (zh5 c r.C r.Tick) rfl rfl ?_
 apply bY <;> intro h1
 ·have h1 : (zerR c r.C r.Tick).2 ≠ 0 := by simpa using h1
  have e : wdgR c r = (⟨0, 0⟩, (zerR c r.C r.Tick).2) := by unfold wdgR; rw [if_neg (fun hh => hh h0), if_pos h1]
  rw [e]
  exact r2CI rfl rfl rfl rfl rfl rfl rfl (zaa _) rfl
 have h1 : (zerR c r.C r.Tick).2 = 0 := by simpa using h1
 have zb := ziS h1
 refine ⟨i6, ⟨i6, ⟨i6, ?_⟩⟩⟩
 apply bY <;> intro h2
 ·have h2 : 900 < 2 * r.Slack + (zerR c r.C r.Tick).1.Hi - (zerR c r.C r.Tick).1.Lo := dT h2
  have e : wdgR c r = (⟨0, 0⟩, 50) := by unfold wdgR; rw [if_neg (fun hh => hh h0), if_neg (fun hh => hh h1), if_pos h2]
  rw [e]
  exact r2CI rfl rfl rfl rfl rfl rfl rfl (zaa _) rfl
 have h2 : ¬ 900 < 2 * r.Slack + (zerR c r.C r.Tick).1.Hi - (zerR c r.C r.Tick).1.Lo := dF h2
 refine ⟨i6, ⟨i6, ?_⟩⟩
 refine cP (zpk (r.Shown - r.Slack - (zerR c r.C r.Tick).1.Hi) (2 * r.Slack + (zerR c r.C r.Tick).1.Hi - (zerR c r.C r.Tick).1.Lo) (by omega) (by omega)) rfl rfl ?_
 have e : wdgR c r = (wdg (r.Shown - r.Slack - (zerR c r.C r.Tick).1.Hi) (2 * r.Slack + (zerR c r.C r.Tick).1.Hi - (zerR c r.C r.Tick).1.Lo), 0) := by unfold wdgR; rw [if_neg (fun hh => hh h0), if_neg (fun hh => hh h1), if_neg h2]
 rw [e]
 exact r2CI rfl rfl rfl rfl rfl rfl rfl (zaa _) rfl
theorem zaM (n lo hi : Int) : Spec PP 40 [N n, N lo, N hi] [B (within n lo hi)] := by
 refine sA Tryz.func40 ?_
 repeat' first
  | refine sT ?_
  | refine sF ?_
  | refine bY (fun _ => ?_) (fun _ => ?_)
  | refine r1B rfl ?_
 all_goals (unfold within; simp_all <;> omega)
theorem zbt (n : Int) (hn : -1000000000000 <= n /\ n <= 1000000000000) : Spec PP 175 [N n] [N (n % 3600)] := by
 have h1 := Int.tmod_lt_of_pos n (show (0 : Int) < 3600 by decide)
 have h2 := Int.tmod_lt_of_pos (-n) (show (0 : Int) < 3600 by decide)
 rw [Int.neg_tmod] at h2
 refine sA Tryz.func175 ?_
 refine ⟨by omega, ⟨i6, ⟨by omega, ?_⟩⟩⟩
 refine r1I rfl ?_
 rw [Int.tmod_eq_emod_of_nonneg (by omega), Int.add_emod_right]
 rw [Int.tmod_def, Int.sub_mul_emod_self_left]
theorem zmi (t : Twr) (id : Int) : Spec PP 108 [t.v, .d (capB [I id])] [B (t.ID == id)] := by
 refine sA Tryz.func108 ?_
 exact r1B rfl rfl
theorem zdE (s : Svc) (id : Int) (hn : s.c.T.length <= 1000000) : Spec PP 48 [s.v, N id] [(towG s.c.T id).1.v, B (towG s.c.T id).2] := by
 refine sA Tryz.func48 ?_
 refine CallSt.fz [3] (zjA s.c.T 108 (capB [I id]) (fun t => t.ID == id) hn (fun i hi => zmi _ id)) rfl rfl ?_
 apply bY <;> intro h1
 ·have h1 : towI s.c.T id < 0 := dT h1
  have e : towG s.c.T id = (default, false) := by unfold towG; rw [if_pos h1]
  rw [e]
  exact ⟨rtC (a := 4) rfl rfl rfl rfl rfl rfl (zaa _), rtB rfl rfl, trivial⟩
 ·have h1 : ¬ towI s.c.T id < 0 := dF h1
  obtain ⟨h2, h3⟩ := zeN h1
  have e : towG s.c.T id = (s.c.T.getD (towI s.c.T id).toNat default, true) := by unfold towG; rw [if_neg h1]
  rw [e]
  refine ⟨⟨rfl, by show 0 <= towI s.c.T id; omega, by show towI s.c.T id < s.c.T.length; omega⟩, ?_⟩
  exact ⟨rtC (a := 4) rfl rfl rfl rfl rfl rfl (zaa _), rtB rfl rfl, trivial⟩
theorem zmp (w : Twr) (x : Cir) : Spec PP 62 [w.v, .d (capB x.ds)] [B (decide (w.At = x.At))] := by
 refine sA Tryz.func62 ?_
 exact r1B rfl (eqPW _ _)
abbrev Svc.ds (s : Svc) : List D := [I s.c.M.W, I s.c.M.H, lI s.c.M.G, lT s.c.T, lZ s.c.Z, lC s.k.C, lK s.k.K]
def svc1E (s : Svc) (i : Nat) : Int := if (s.c.T.any fun w => decide (w.At = (s.k.C.getD i default).At)) = true then 0 else 5
def svcE (s : Svc) : Int := if ctryE s.c ≠ 0 then ctryE s.c else if cirsE s.k ≠ 0 then cirsE s.k else err1 (svc1E s) s.k.C.length
theorem zgL (s : Svc) : Spec PP 21 [s.v] [.d (.int .i64 (svcE s))] := by
 refine sA Tryz.func21 ?_
 refine cP (zky s.c) rfl rfl ?_
 apply bY <;> intro h0
 ·have h0 : ctryE s.c ≠ 0 := by simpa using h0
  refine r1I rfl ?_
  unfold svcE; rw [if_pos h0]
 have h0 : ctryE s.c = 0 := by simpa using h0
 have ok0 := zgU h0
 refine cP (zfk s.k) rfl rfl ?_
 apply bY <;> intro h1
 ·have h1 : cirsE s.k ≠ 0 := by simpa using h1
  refine r1I rfl ?_
  unfold svcE; rw [if_neg (fun hh => hh h0), if_pos h1]
 have h1 : cirsE s.k = 0 := by simpa using h1
 have ok1 := zbf h1
 have e0 : svcE s = err1 (svc1E s) s.k.C.length := by unfold svcE; rw [if_neg (fun hh => hh h0), if_neg (fun hh => hh h1)]
 have hn := ok1.n
 have ht := ok0.t
 refine LoopOb.of (σ := Nat) (fun i => ([(1, .box 1 0), (21, .d (lC s.k.C)), (22, .d (I s.k.C.length)), (23, .d (I i))], [(1, .box (s.ds.map AV.d))])) (fun i => i <= s.k.C.length /\ ∀ j, j < i -> svc1E s j = 0) (fun i => s.k.C.length - i) 0
  ⟨rfl, ⟨obD s.ds rfl, trivial⟩, wq rfl⟩ z0L fun i hi => ?_
 obtain ⟨hi, ha⟩ := hi
 apply bY <;> intro h3
 ·have h3 : i < s.k.C.length := by have := dT h3; omega
  refine ⟨⟨rfl, by omega, by omega⟩, ?_⟩
  refine CallSt.fzP [6] (znl s.c.T 62 (capB (s.k.C.getD i default).ds) (fun w => decide (w.At = (s.k.C.getD i default).At)) (by omega) (fun k hk => zmp _ _)) rfl ⟨dE _, ⟨rfl, rfl, fun j hj => ?_⟩, trivial⟩ rfl ?_
  ·obtain rfl : j = 0 := by
    have : j < 1 := hj
    omega
   exact dE _
  apply bY <;> intro h4
  ·have h4 : (s.c.T.any fun w => decide (w.At = (s.k.C.getD i default).At)) = false := by simpa using h4
   have e : svc1E s i = 5 := by unfold svc1E; rw [if_neg (by rw [h4]; decide)]
   refine r1I rfl ?_
   rw [e0, zaV ha (by rw [e]; decide) h3, e]
  ·have h4 : (s.c.T.any fun w => decide (w.At = (s.k.C.getD i default).At)) = true := by simpa using h4
   have e : svc1E s i = 0 := by unfold svc1E; rw [if_pos h4]
   refine ⟨i6, ?_⟩
   refine ⟨i + 1, ⟨rfl, ⟨obD s.ds rfl, trivial⟩, wq rfl⟩, ⟨h3, fun j hj => ?_⟩, (msr (by omega))⟩
   by_cases q : j = i
   ·subst q; exact e
   ·exact ha j (by omega)
 ·have h3 : i = s.k.C.length := by have := dF h3; omega
  subst h3
  refine r1I rfl ?_
  rw [e0, zbe ha]
def frmC (r : Rpt) : Bool := (!within r.ID 1 1099511627776) || (!within r.Tick 0 1048576) || (!within r.From 0 3599) || (!within r.Slack 1 100)
def frmB (r : Rpt) : Bool := !frmC r && (if r.Kind = 1 then decide (r.To = 0) else if r.Kind = 2 then within r.To 0 3599 && decide ((r.To - r.From) % 3600 <= 900) else false)
theorem zmj (r : Rpt) : Spec PP 143 [r.v] [B (frmB r)] := by
 refine sA Tryz.func143 ?_
 refine cP (zaM r.ID 1 1099511627776) rfl rfl ?_
 apply bY <;> intro k0
 ·have k0 : (!within r.ID 1 1099511627776) = true := k0
  refine sT (sT (sT (sT (sT (sT ?_)))))
  refine r1B rfl ?_
  unfold frmB frmC; simp only [k0, Bool.or_true, Bool.true_or, Bool.not_true, Bool.false_and]
 have k0 : (!within r.ID 1 1099511627776) = false := k0
 refine cP (zaM r.Tick 0 1048576) rfl rfl ?_
 refine sF ?_
 apply bY <;> intro k1
 ·have k1 : (!within r.Tick 0 1048576) = true := k1
  refine sT (sT (sT (sT ?_)))
  refine r1B rfl ?_
  unfold frmB frmC; simp only [k0, k1, Bool.or_true, Bool.true_or, Bool.not_true, Bool.false_and]
 have k1 : (!within r.Tick 0 1048576) = false := k1
 refine cP (zaM r.From 0 3599) rfl rfl ?_
 refine sF ?_
 apply bY <;> intro k2
 ·have k2 : (!within r.From 0 3599) = true := k2
  refine sT (sT ?_)
  refine r1B rfl ?_
  unfold frmB frmC; simp only [k0, k1, k2, Bool.or_true, Bool.true_or, Bool.not_true, Bool.false_and]
 have k2 : (!within r.From 0 3599) = false := k2
 refine cP (zaM r.Slack 1 100) rfl rfl ?_
 refine sF ?_
 apply bY <;> intro k3
 ·have k3 : (!within r.Slack 1 100) = true := k3
  refine r1B rfl ?_
  unfold frmB frmC; simp only [k0, k1, k2, k3, Bool.or_true, Bool.true_or, Bool.not_true, Bool.false_and]
 have k3 : (!within r.Slack 1 100) = false := k3
 have e0 : frmB r = if r.Kind = 1 then decide (r.To = 0) else if r.Kind = 2 then within r.To 0 3599 && decide ((r.To - r.From) % 3600 <= 900) else false := by
  unfold frmB frmC; rw [k0, k1, k2, k3]; rfl
 have hf : 0 <= r.From /\ r.From <= 3599 := zab.1 (by simpa using k2)
 apply bY <;> intro h1
 ·have h1 : r.Kind = 1 := by simpa using h1
  refine r1B rfl ?_
  rw [e0, if_pos h1, Bool.eq_iff_iff]; simp
 have h1 : r.Kind ≠ 1 := by simpa using h1
 apply bY <;> intro h2
 ·have h2 : r.Kind = 2 := by simpa using h2
  refine cP (zaM r.To 0 3599) rfl rfl ?_
  apply bY <;> intro h3
  ·have h4 := zab.1 h3
   refine ⟨i6, ?_⟩
   refine cP (zbt (r.To - r.From) (by omega)) rfl rfl ?_
   refine sT ?_
   refine r1B rfl ?_
   rw [e0, if_neg h1, if_pos h2, h3]; rfl
  ·refine sF ?_
   refine r1B rfl ?_
   rw [e0, if_neg h1, if_pos h2, h3]; rfl
 ·have h2 : r.Kind ≠ 2 := by simpa using h2
  refine r1B rfl ?_
  rw [e0, if_neg h1, if_neg h2]
def rdgO (r : Rpt) : Rdg := ⟨r.C, r.Tick, r.From, r.Slack⟩
theorem zfR (r : Rpt) : Spec PP 148 [r.v] [(rdgO r).v] := by
 refine sA Tryz.func148 ?_
 exact r1C rfl rfl rfl rfl rfl rfl (zaa _)
def brnB (b : Brn) : Bool := decide (0 <= b.From) && decide (b.From <= b.To) && decide (b.To <= 1048576) && within b.Rise 0 200
theorem zoM (b : Brn) : Spec PP 106 [b.v] [B (brnB b)] := by
 refine sA Tryz.func106 ?_
 apply bY <;> intro h1
 ·have h1 : decide (0 <= b.From) = true := h1
  refine sT ?_
  apply bY <;> intro h2
  ·have h2 : decide (b.From <= b.To) = true := h2
   refine sT ?_
   apply bY <;> intro h3
   ·have h3 : decide (b.To <= 1048576) = true := h3
    refine cP (zaM b.Rise 0 200) rfl rfl ?_
    refine sT ?_
    refine r1B rfl ?_
    unfold brnB; rw [h1, h2, h3]; rfl
   ·have h3 : decide (b.To <= 1048576) = false := h3
    refine sF ?_
    refine r1B rfl ?_
    unfold brnB; rw [h1, h2, h3]; rfl
  ·have h2 : decide (b.From <= b.To) = false := h2
   refine sF (sF (sF ?_))
   refine r1B rfl ?_
   unfold brnB; rw [h1, h2]; rfl
 ·have h1 : decide (0 <= b.From) = false := h1
  refine sF (sF (sF (sF (sF ?_))))
  refine r1B rfl ?_
  unfold brnB; rw [h1]; rfl
abbrev Rpt.ds (x : Rpt) : List D := [I x.ID, I x.Kind, I x.Tower, I x.C, I x.Tick, I x.From, I x.To, I x.Slack]
abbrev tldD (r : Rpt) : D := .ifc (if r.Kind = 1 then 204 else 205) 8 (getD' r.ds)
theorem zhN (r : Rpt) : Spec PP 47 [r.v] [.d (tldD r)] := by
 refine sA Tryz.func47 ?_
 apply bY <;> intro h1
 ·have h1 : r.Kind = 1 := by simpa using h1
  unfold tldD; rw [if_pos h1]
  exact ⟨dE _, trivial⟩
 ·have h1 : r.Kind ≠ 1 := by simpa using h1
  unfold tldD; rw [if_neg h1]
  exact ⟨dE _, trivial⟩
theorem zkh (r : Rpt) : Spec PP 370 [r.v] [r.v] := by
 refine sA Tryz.func370 ?_
 exact r1C rfl rfl rfl rfl rfl rfl (zaa _)
theorem zkj (r : Rpt) : Spec PP 372 [r.v] [r.v] := by
 refine sA Tryz.func372 ?_
 exact r1C rfl rfl rfl rfl rfl rfl (zaa _)
theorem zbu (r : Rpt) (s : Svc) : Spec PP 371 [r.v, s.v] [(wdgR s.k (rdgO r)).1.v, B (decide ((wdgR s.k (rdgO r)).2 = 0))] := by
 refine sA Tryz.func371 ?_
 refine oL (List.range 12) (FzOb.no ?_)
 refine oP (zfR r) rfl rfl ?_
 refine oP (zk8 s.k (rdgO r)) rfl rfl ?_
 exact ⟨rtC (a := 4) rfl rfl rfl rfl rfl rfl (zaa _), rtB rfl (by rw [Bool.eq_iff_iff]; simp), trivial⟩
theorem zhd (c : Cirs) (id t : Int) : (-300 <= (zerR c id t).1.Lo /\ (zerR c id t).1.Lo <= 100000300) /\ (-100000300 <= (zerR c id t).1.Hi /\ (zerR c id t).1.Hi <= 300) := by
 by_cases h : (zerR c id t).2 = 0
 ·exact ziS h
 ·have e : (zerR c id t).1 = ⟨0, 0⟩ := by
   unfold zerR at h ⊢
   split
   ·rfl
   ·rename_i h1; rw [if_neg h1] at h; exact absurd rfl h
  rw [e]; decide
structure RptB (r : Rpt) : Prop where
  f : 0 <= r.From /\ r.From <= 3599
  t : 0 <= r.To /\ r.To <= 3599
  s : 1 <= r.Slack /\ r.Slack <= 100
def blkR (s : Svc) (r : Rpt) : Wdg × Bool :=
 if (r.To - r.From) % 3600 < 2 * r.Slack + (zerR s.k r.C r.Tick).1.Hi - (zerR s.k r.C r.Tick).1.Lo then (⟨0, 0⟩, false)
 else (⟨(r.From + r.Slack - (zerR s.k r.C r.Tick).1.Lo) % 3600, (r.To - r.Slack - (zerR s.k r.C r.Tick).1.Hi) % 3600⟩, true)
theorem zct (r : Rpt) (s : Svc) (hr : RptB r) : Spec PP 373 [r.v, s.v] [(blkR s r).1.v, B (blkR s r).2] := by
 obtain ⟨b1, b2, b3⟩ := hr
 have zb := zhd s.k r.C r.Tick
 refine sA Tryz.func373 ?_
 refine cP (zh5 s.k r.C r.Tick) rfl rfl ?_
 refine oL (List.range 19) (FzOb.no ?_)
 refine ⟨i6, ?_⟩
 refine oP (zbt (r.To - r.From) (by omega)) rfl rfl ?_
 refine ⟨i6, ⟨i6, ⟨i6, ?_⟩⟩⟩
 apply bY <;> intro h1
 ·have e : blkR s r = (⟨0, 0⟩, false) := by unfold blkR; rw [if_pos (dT h1)]
  rw [e]
  exact ⟨rtC (a := 4) rfl rfl rfl rfl rfl rfl (zaa _), rtB rfl rfl, trivial⟩
 have e : blkR s r = (⟨(r.From + r.Slack - (zerR s.k r.C r.Tick).1.Lo) % 3600, (r.To - r.Slack - (zerR s.k r.C r.Tick).1.Hi) % 3600⟩, true) := by unfold blkR; rw [if_neg (dF h1)]
 rw [e]
 refine oL (List.range 25) (FzOb.no ?_)
 refine ⟨i6, ⟨i6, ?_⟩⟩
 refine oP (zbt (r.From + r.Slack - (zerR s.k r.C r.Tick).1.Lo) (by omega)) rfl rfl ?_
 refine ⟨i6, ⟨i6, ?_⟩⟩
 refine oP (zbt (r.To - r.Slack - (zerR s.k r.C r.Tick).1.Hi) (by omega)) rfl rfl ?_
 exact ⟨rtC (a := 4) rfl rfl rfl rfl rfl rfl (zaa _), rtB rfl rfl, trivial⟩
theorem zd4 (x : Cir) (r : Rpt) : Spec PP 145 [x.v, .d (capB r.ds)] [B (x.ID == r.C)] := by
 refine sA Tryz.func145 ?_
 exact r1B rfl rfl
def rptE (s : Svc) (r : Rpt) : Int :=
 if frmB r = false then 1 else if (towG s.c.T r.Tower).2 = false \/ cirI s.k r.C < 0 then 5
 else if (s.k.C.getD (cirI s.k r.C).toNat default).At ≠ (towG s.c.T r.Tower).1.At then 1
 else if (zerR s.k r.C r.Tick).2 ≠ 0 then (zerR s.k r.C r.Tick).2 else if r.Kind = 1 then (wdgR s.k (rdgO r)).2 else 0
theorem zbv (s : Svc) (r : Rpt) (hT : s.c.T.length <= 1000000) (hC : s.k.C.length <= 1000000) : Spec PP 65 [s.v, r.v] [.d (.int .i64 (rptE s r))] := by
 refine sA Tryz.func65 ?_
 refine cP (zmj r) rfl rfl ?_
 apply bY <;> intro h1
 ·refine r1I rfl ?_
  unfold rptE; rw [if_pos (by simpa using h1)]
 have h1 : frmB r = true := by simpa using h1
 refine cP (zdE s r.Tower hT) rfl rfl ?_
 refine CallSt.fzP [3] (znk s.k.C 145 (capB r.ds) (fun x => x.ID == r.C) hC (fun i hi => zd4 _ r)) rfl ⟨dE _, ⟨rfl, rfl, fun j hj => ?_⟩, trivial⟩ rfl ?_
 ·obtain rfl : j = 0 := by
   have : j < 1 := hj
   omega
  exact dE _
 apply bY <;> intro h2
 ·have h2 : (towG s.c.T r.Tower).2 = false := by simpa using h2
  refine sT (sT ?_)
  refine r1I rfl ?_
  unfold rptE; rw [if_neg (by rw [h1]; decide), if_pos (.inl h2)]
 have h2 : (towG s.c.T r.Tower).2 = true := by simpa using h2
 refine sF ?_
 apply bY <;> intro h3
 ·have h3 : cirI s.k r.C < 0 := dT h3
  refine r1I rfl ?_
  unfold rptE; rw [if_neg (by rw [h1]; decide), if_pos (.inr h3)]
 have h3 : ¬ cirI s.k r.C < 0 := dF h3
 obtain ⟨h4, h5⟩ := za9 h3
 have e0 : rptE s r = if (s.k.C.getD (cirI s.k r.C).toNat default).At ≠ (towG s.c.T r.Tower).1.At then 1 else if (zerR s.k r.C r.Tick).2 ≠ 0 then (zerR s.k r.C r.Tick).2 else if r.Kind = 1 then (wdgR s.k (rdgO r)).2 else 0 := by
  unfold rptE; rw [if_neg (by rw [h1]; decide), if_neg (by rw [h2]; simp; omega)]
 refine oL (List.range 11) (FzOb.no ?_)
 refine ⟨⟨rfl, by show 0 <= cirI s.k r.C; omega, by show cirI s.k r.C < s.k.C.length; omega⟩, ?_⟩
 apply bY <;> intro h6
 ·have h6 : (s.k.C.getD (cirI s.k r.C).toNat default).At ≠ (towG s.c.T r.Tower).1.At := by
   have := (congrArg (!·) (eqPW (s.k.C.getD (cirI s.k r.C).toNat default).At (towG s.c.T r.Tower).1.At)).symm.trans h6
   simpa using this
  refine r1I rfl ?_
  rw [e0, if_pos h6]
 have h6 : (s.k.C.getD (cirI s.k r.C).toNat default).At = (towG s.c.T r.Tower).1.At := by
  have := (congrArg (!·) (eqPW (s.k.C.getD (cirI s.k r.C).toNat default).At (towG s.c.T r.Tower).1.At)).symm.trans h6
  simpa using this
 refine cP (zh5 s.k r.C r.Tick) rfl rfl ?_
 apply bY <;> intro h7
 ·have h7 : (zerR s.k r.C r.Tick).2 ≠ 0 := by simpa using h7
  refine r1I rfl ?_
  rw [e0, if_neg (fun hh => hh h6), if_pos h7]
 have h7 : (zerR s.k r.C r.Tick).2 = 0 := by simpa using h7
 apply bY <;> intro h8
 ·have h8 : r.Kind = 1 := by simpa using h8
  refine oL (List.range 11) (FzOb.no ?_)
  refine oP (zfR r) rfl rfl ?_
  refine oP (zk8 s.k (rdgO r)) rfl rfl ?_
  refine r1I rfl ?_
  rw [e0, if_neg (fun hh => hh h6), if_neg (fun hh => hh h7), if_pos h8]
 ·have h8 : r.Kind ≠ 1 := by simpa using h8
  refine r1I rfl ?_
  rw [e0, if_neg (fun hh => hh h6), if_neg (fun hh => hh h7), if_neg h8]
abbrev Brn.ds (b : Brn) : List D := [I b.From, I b.To, I b.Rise]
def lookB (s : Svc) (b : Brn) (r : Rpt) (p : Place) : Bool := decide ((seesE s.c r.Tower p b.Rise r.Tick).2 = 0) && (seesE s.c r.Tower p b.Rise r.Tick).1 && within r.Tick b.From b.To
theorem zfS (s : Svc) (b : Brn) (r : Rpt) (p : Place) : Spec PP 273 [.d (capB s.ds), .d (capB r.ds), .d (capP p), .d (capB b.ds)] [B (lookB s b r p)] := by
 refine sA Tryz.func273 ?_
 refine cP (zkx s.c r.Tower p b.Rise r.Tick) rfl rfl ?_
 apply bY <;> intro h1
 ·have h1 : decide ((seesE s.c r.Tower p b.Rise r.Tick).2 = 0) = true := by simpa using h1
  refine sT ?_
  apply bY <;> intro h2
  ·refine cP (zaM r.Tick b.From b.To) rfl rfl ?_
   refine sT ?_
   refine r1B rfl ?_
   unfold lookB; rw [h1, h2]; rfl
  ·refine sF ?_
   refine r1B rfl ?_
   unfold lookB; rw [h1, h2]; rfl
 ·have h1 : decide ((seesE s.c r.Tower p b.Rise r.Tick).2 = 0) = false := by simpa using h1
  refine sF (sF (sF ?_))
  refine r1B rfl ?_
  unfold lookB; rw [h1]; rfl
def secR (s : Svc) (r : Rpt) : Wdg × Bool := if r.Kind = 1 then ((wdgR s.k (rdgO r)).1, decide ((wdgR s.k (rdgO r)).2 = 0)) else blkR s r
def seenB (s : Svc) (b : Brn) (r : Rpt) (p : Place) : Bool := (secR s r).2 && liesW (secR s r).1 (towG s.c.T r.Tower).1.At p && lookB s b r p
def allB (s : Svc) (b : Brn) (r : Rpt) (p : Place) : Bool := if r.Kind = 1 then seenB s b r p else !seenB s b r p
theorem zkB {r : Rpt} (h : frmB r = true) (hk : r.Kind ≠ 1) : RptB r := by
 unfold frmB at h
 rw [if_neg hk] at h
 simp only [Bool.and_eq_true, Bool.not_eq_true'] at h
 obtain ⟨h1, h2⟩ := h
 split at h2
 ·unfold frmC at h1
  simp only [Bool.or_eq_false_iff, Bool.not_eq_false'] at h1
  simp only [Bool.and_eq_true] at h2
  exact ⟨zab.1 h1.1.2, zab.1 h2.1, zab.1 h1.2⟩
 ·cases h2
theorem zml (s : Svc) (b : Brn) (r : Rpt) (p : Place) (hr : frmB r = true) (hT : s.c.T.length <= 1000000) : Spec PP 226 [s.v, b.v, .d (tldD r), p.v] [B (allB s b r p)] := by
 by_cases hk : r.Kind = 1
 ·have e1 : tldD r = .ifc 204 8 (getD' r.ds) := by unfold tldD; rw [if_pos hk]
  have e2 : secR s r = ((wdgR s.k (rdgO r)).1, decide ((wdgR s.k (rdgO r)).2 = 0)) := by unfold secR; rw [if_pos hk]
  have e3 : allB s b r p = seenB s b r p := by unfold allB; rw [if_pos hk]
  rw [e1, e3]
  have e4 : seenB s b r p = (decide ((wdgR s.k (rdgO r)).2 = 0) && liesW (wdgR s.k (rdgO r)).1 (towG s.c.T r.Tower).1.At p && lookB s b r p) := by unfold seenB; rw [e2]
  refine sA Tryz.func226 ?_
  refine ⟨⟨_, _, _, _, rfl, by kernel_rfl, oP (zkh r) rfl rfl ?_⟩⟩
  refine cP (zdE s r.Tower hT) rfl rfl ?_
  refine ⟨⟨_, _, _, _, rfl, by kernel_rfl, oP (zbu r s) rfl rfl ?_⟩⟩
  apply bY <;> intro h1
  ·have h1 : decide ((wdgR s.k (rdgO r)).2 = 0) = true := h1
   refine cP (zla (wdgR s.k (rdgO r)).1 (towG s.c.T r.Tower).1.At p) rfl rfl ?_
   refine sT ?_
   apply bY <;> intro h2
   ·refine CallSt.fzP [4, 9, 7, 5] (zfS s b r p) rfl ⟨dE _, dE _, dE _, dE _, trivial⟩ rfl ?_
    refine sT ?_
    refine sT ?_
    refine r1B rfl ?_
    rw [e4, h1, h2]; rfl
   ·refine sF ?_
    refine sT ?_
    refine r1B rfl ?_
    rw [e4, h1, h2]; rfl
  ·have h1 : decide ((wdgR s.k (rdgO r)).2 = 0) = false := h1
   refine sF (sF (sF ?_))
   refine sT ?_
   refine r1B rfl ?_
   rw [e4, h1]; rfl
 ·have e1 : tldD r = .ifc 205 8 (getD' r.ds) := by unfold tldD; rw [if_neg hk]
  have e2 : secR s r = blkR s r := by unfold secR; rw [if_neg hk]
  have e3 : allB s b r p = !seenB s b r p := by unfold allB; rw [if_neg hk]
  rw [e1, e3]
  have e4 : seenB s b r p = ((blkR s r).2 && liesW (blkR s r).1 (towG s.c.T r.Tower).1.At p && lookB s b r p) := by unfold seenB; rw [e2]
  refine sA Tryz.func226 ?_
  refine ⟨⟨_, _, _, _, rfl, by kernel_rfl, oP (zkj r) rfl rfl ?_⟩⟩
  refine cP (zdE s r.Tower hT) rfl rfl ?_
  refine ⟨⟨_, _, _, _, rfl, by kernel_rfl, oP (zct r s (zkB hr hk)) rfl rfl ?_⟩⟩
  apply bY <;> intro h1
  ·have h1 : (blkR s r).2 = true := h1
   refine cP (zla (blkR s r).1 (towG s.c.T r.Tower).1.At p) rfl rfl ?_
   refine sT ?_
   apply bY <;> intro h2
   ·refine CallSt.fzP [4, 9, 7, 5] (zfS s b r p) rfl ⟨dE _, dE _, dE _, dE _, trivial⟩ rfl ?_
    refine sT ?_
    refine sF ?_
    refine r1B rfl ?_
    rw [e4, h1, h2]; rfl
   ·refine sF ?_
    refine sF ?_
    refine r1B rfl ?_
    rw [e4, h1, h2]; rfl
  ·have h1 : (blkR s r).2 = false := h1
   refine sF (sF (sF ?_))
   refine sF ?_
   refine r1B rfl ?_
   rw [e4, h1]; rfl
structure SvcOk (s : Svc) : Prop where
  c : CtryOk s.c
  k : CirsOk s.k
theorem zfw {s : Svc} (h : svcE s = 0) : SvcOk s := by
 unfold svcE at h
 split at h
 ·rename_i h1; exact absurd h h1
 ·rename_i h1
  split at h
  ·rename_i h2; exact absurd h h2
  ·rename_i h2
   exact ⟨zgU (Classical.byContradiction h1), zbf (Classical.byContradiction h2)⟩
def crpE (s : Svc) (r : Rpt) : Int := if svcE s ≠ 0 then svcE s else rptE s r
theorem zpd {s : Svc} {r : Rpt} (h : crpE s r = 0) : svcE s = 0 /\ rptE s r = 0 /\ frmB r = true := by
 unfold crpE at h
 split at h
 ·rename_i h1; exact absurd h h1
 ·rename_i h1
  refine ⟨Classical.byContradiction h1, h, ?_⟩
  unfold rptE at h
  split at h
  ·cases h
  ·rename_i h2; simpa using h2
theorem zcu (s : Svc) (r : Rpt) : Spec PP 24 [s.v, r.v] [.d (.int .i64 (crpE s r))] := by
 refine sA Tryz.func24 ?_
 refine cP (zgL s) rfl rfl ?_
 apply bY <;> intro h0
 ·refine r1I rfl ?_
  unfold crpE; rw [if_pos (by simpa using h0)]
 have h0 : svcE s = 0 := by simpa using h0
 have ok := zfw h0
 refine cP (zbv s r (by have := ok.c.t; omega) (by have := ok.k.n; omega)) rfl rfl ?_
 refine r1I rfl ?_
 unfold crpE; rw [if_neg (fun hh => hh h0)]
def sctR (s : Svc) (r : Rpt) : Wdg × Bool × Int := if crpE s r ≠ 0 then (⟨0, 0⟩, false, crpE s r) else ((secR s r).1, (secR s r).2, 0)
theorem zmn (s : Svc) (r : Rpt) : Spec PP 37 [s.v, r.v] [(sctR s r).1.v, B (sctR s r).2.1, .d (.int .i64 (sctR s r).2.2)] := by
 refine sA Tryz.func37 ?_
 refine cP (zcu s r) rfl rfl ?_
 apply bY <;> intro h0
 ·have e : sctR s r = (⟨0, 0⟩, false, crpE s r) := by unfold sctR; rw [if_pos (by simpa using h0)]
  rw [e]
  exact ⟨rtC (a := 4) rfl rfl rfl rfl rfl rfl (zaa _), rtB rfl rfl, rtI rfl rfl, trivial⟩
 have h0 : crpE s r = 0 := by simpa using h0
 have e : sctR s r = ((secR s r).1, (secR s r).2, 0) := by unfold sctR; rw [if_neg (fun hh => hh h0)]
 obtain ⟨h1, h2, hf⟩ := zpd h0
 by_cases hk : r.Kind = 1
 ·have lt := zhN r
  have e1 : tldD r = .ifc 204 8 (getD' r.ds) := by unfold tldD; rw [if_pos hk]
  have e2 : secR s r = ((wdgR s.k (rdgO r)).1, decide ((wdgR s.k (rdgO r)).2 = 0)) := by unfold secR; rw [if_pos hk]
  rw [e1] at lt
  rw [e, e2]
  refine oL (List.range 10) (FzOb.no ?_)
  refine CallOb.ro lt rfl rfl ?_
  refine ⟨⟨_, _, _, _, rfl, by kernel_rfl, oP (zbu r s) rfl rfl ?_⟩⟩
  exact ⟨rtC (a := 4) rfl rfl rfl rfl rfl rfl (zaa _), rtB rfl rfl, rtI rfl rfl, trivial⟩
 ·have lt := zhN r
  have e1 : tldD r = .ifc 205 8 (getD' r.ds) := by unfold tldD; rw [if_neg hk]
  have e2 : secR s r = blkR s r := by unfold secR; rw [if_neg hk]
  rw [e1] at lt
  rw [e, e2]
  refine oL (List.range 10) (FzOb.no ?_)
  refine CallOb.ro lt rfl rfl ?_
  refine ⟨⟨_, _, _, _, rfl, by kernel_rfl, oP (zct r s (zkB hf hk)) rfl rfl ?_⟩⟩
  exact ⟨rtC (a := 4) rfl rfl rfl rfl rfl rfl (zaa _), rtB rfl rfl, rtI rfl rfl, trivial⟩
end Go.Pg
