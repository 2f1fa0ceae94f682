/- Texts joined and shortened by program. -/
import Derived.Test.YtooepbnecjepnaaGreatH6
import Derived.Test.YtooepbnecjepnaaGreatH7
import Derived.Test.YtooepbnecjepnaaGreatHA
import Derived.Test.YtooepbnecjepnaaGreatH8
set_option maxHeartbeats 4000000
set_option linter.all false
set_option maxRecDepth 100000
namespace Go.Pg
open Go.Proofs Go.RowKit
theorem zp9 (m : Mp) (p : Place) : onM m p = (decide (0 <= p.X) && decide (p.X < m.W) && decide (0 <= p.Y) && decide (p.Y < m.H)) := by
 rw [Bool.eq_iff_iff, zaf]; simp only [Bool.and_eq_true, decide_eq_true_eq]; omega
theorem r4_On (m : Mp) (p : Place) : Spec PP 252 [m.v, p.v] [B (onM m p)] := by
 refine sA Tryz.func252 ?_
 rw [zp9]
 apply sB <;> intro h1
 ·have h1 : decide (0 <= p.X) = true := h1
  refine sT ?_
  apply sB <;> intro h2
  ·have h2 : decide (p.X < m.W) = true := h2
   refine sT ?_
   apply sB <;> intro h3
   ·have h3 : decide (0 <= p.Y) = true := h3
    refine sT ?_
    refine r1B rfl ?_
    rw [h1, h2, h3]; rfl
   ·have h3 : decide (0 <= p.Y) = false := h3
    refine sF ?_
    refine r1B rfl ?_
    rw [h1, h2, h3]; rfl
  ·have h2 : decide (p.X < m.W) = false := h2
   refine sF (sF (sF ?_))
   refine r1B rfl ?_
   rw [h1, h2]; rfl
 ·have h1 : decide (0 <= p.X) = false := h1
  refine sF (sF (sF (sF (sF ?_))))
  refine r1B rfl ?_
  rw [h1]; rfl
theorem zpU (h : Int) : Spec PP 253 [N h] [B (within h 0 200)] := by
 refine sA Tryz.func253 ?_
 repeat' first
  | refine sT ?_
  | refine sF ?_
  | refine sB (fun _ => ?_) (fun _ => ?_)
  | refine r1B rfl ?_
 all_goals (unfold within; simp_all <;> omega)
theorem zjm (c : Ctry) (id : Int) (hn : c.T.length <= 1000000) : Spec PP 254 [c.v, N id] [N (towI c.T id)] := by
 refine sA Tryz.func254 ?_
 refine LoopOb.of (σ := Nat) (fun i => ([(1, .d (I id)), (2, .box 2 0), (5, .d (I i))], [(2, bxCt c)])) (fun i => i <= c.T.length /\ ∀ j, j < i -> ((c.T.getD j default).ID == id) = false) (fun i => c.T.length - i) 0
  ⟨rfl, ⟨obCt rfl, trivial⟩, wq rfl⟩ z0L fun i hi => ?_
 obtain ⟨hi, ha⟩ := hi
 apply sB <;> intro h1
 ·have h1 : i < c.T.length := by have := dT h1; omega
  refine ⟨⟨rfl, by omega, by omega⟩, ?_⟩
  apply sB <;> intro h2
  ·refine r1I rfl ?_
   exact (zaC (p := fun t : Twr => t.ID == id) default h1 h2 ha).symm
  ·refine ⟨i6, ?_⟩
   refine ⟨i + 1, ⟨rfl, ⟨obCt rfl, trivial⟩, wq rfl⟩, ⟨h1, fun j hj => ?_⟩, (msr (by omega))⟩
   by_cases e : j = i
   ·subst e; exact h2
   ·exact ha j (by omega)
 have h1 : i = c.T.length := by have := dF h1; omega
 subst h1
 refine r1I rfl ?_
 exact (zaS (p := fun t : Twr => t.ID == id) default ha).symm
theorem za6 (m : Mp) : validM m = (!(decide (m.W < 1) || decide (49 < m.W) || decide (m.H < 1) || decide (49 < m.H) || !decide ((m.G.length : Int) = m.W * m.H)) && !(m.G.any fun h => !within h 0 4000)) := by
 rw [Bool.eq_iff_iff]
 unfold validM within
 simp only [Bool.and_eq_true, Bool.not_eq_true', Bool.or_eq_false_iff, decide_eq_true_eq, decide_eq_false_iff_not, beq_iff_eq, Bool.not_eq_false', Bool.not_not]
 constructor
 ·intro h; exact ⟨by omega, h.2⟩
 ·intro h; exact ⟨by omega, h.2⟩
theorem zm9 (m : Mp) : Spec PP 251 [m.v] [B (validM m)] := by
 refine sA Tryz.func251 ?_
 apply sB <;> intro k0
 ·have k0 : decide (m.W < 1) = true := k0
  refine sT (sT (sT (sT (sT (sT (sT (sT ?_)))))))
  refine r1B rfl ?_
  rw [za6]; simp only [k0, Bool.or_true, Bool.true_or, Bool.not_true, Bool.false_and]
 have k0 : decide (m.W < 1) = false := k0
 refine sF ?_
 apply sB <;> intro k1
 ·have k1 : decide (49 < m.W) = true := k1
  refine sT (sT (sT (sT (sT (sT ?_)))))
  refine r1B rfl ?_
  rw [za6]; simp only [k0, k1, Bool.or_true, Bool.true_or, Bool.not_true, Bool.false_and]
 have k1 : decide (49 < m.W) = false := k1
 refine sF ?_
 apply sB <;> intro k2
 ·have k2 : decide (m.H < 1) = true := k2
  refine sT (sT (sT (sT ?_)))
  refine r1B rfl ?_
  rw [za6]; simp only [k0, k1, k2, Bool.or_true, Bool.true_or, Bool.not_true, Bool.false_and]
 have k2 : decide (m.H < 1) = false := k2
 refine sF ?_
 apply sB <;> intro k3
 ·have k3 : decide (49 < m.H) = true := k3
  refine sT (sT ?_)
  refine r1B rfl ?_
  rw [za6]; simp only [k0, k1, k2, k3, Bool.or_true, Bool.true_or, Bool.not_true, Bool.false_and]
 have k3 : decide (49 < m.H) = false := k3
 have b1 : 1 <= m.W /\ m.W <= 49 := by have := of_decide_eq_false k0; have := of_decide_eq_false k1; omega
 have b2 : 1 <= m.H /\ m.H <= 49 := by have := of_decide_eq_false k2; have := of_decide_eq_false k3; omega
 have b3 := mulB (a := m.W) (b := m.H) (x := 49) (y := 49) (by omega) (by omega)
 refine ⟨i6, ?_⟩
 refine sF ?_
 apply sB <;> intro k4
 ·have k4 : (m.G.length : Int) ≠ m.W * m.H := by simpa using k4
  refine r1B rfl ?_
  rw [za6, decide_eq_false k4]; simp
 have k4 : (m.G.length : Int) = m.W * m.H := by simpa using k4
 have e0 : validM m = !(m.G.any fun h => !within h 0 4000) := by rw [za6, k0, k1, k2, k3, decide_eq_true k4]; simp
 refine LoopOb.of (σ := Nat) (fun i => ([(1, .box 1 0), (3, .d (I i))], [(1, .box (m.ds.map AV.d))])) (fun i => i <= m.G.length /\ ∀ j, j < i -> within (m.G.getD j 0) 0 4000 = true) (fun i => m.G.length - i) 0
  ⟨rfl, ⟨obD m.ds rfl, trivial⟩, wq rfl⟩ z0L fun i hi => ?_
 obtain ⟨hi, ha⟩ := hi
 apply sB <;> intro h1
 ·have h1 : i < m.G.length := by have := dT h1; omega
  have bad : within (m.G.getD i 0) 0 4000 = false -> validM m = false := fun h => by
   rw [e0, List.any_eq_true.2 ⟨_, gd1 h1 0, by rw [h]; rfl⟩]; rfl
  refine ⟨⟨rfl, by omega, by omega⟩, ?_⟩
  apply sB <;> intro h2
  ·have h2 : m.G.getD i 0 < 0 := dT h2
   refine sT (sT ?_)
   refine r1B rfl ?_
   exact (bad (by unfold within; rw [decide_eq_false (by omega)]; rfl)).symm
  ·have h2 : ¬ m.G.getD i 0 < 0 := dF h2
   refine ⟨⟨rfl, by omega, by omega⟩, ?_⟩
   refine sF ?_
   apply sB <;> intro h3
   ·have h3 : 4000 < m.G.getD i 0 := dT h3
    refine r1B rfl ?_
    exact (bad (by unfold within; rw [decide_eq_false (p := m.G.getD i 0 <= 4000) (by omega), Bool.and_false])).symm
   ·have h3 : ¬ 4000 < m.G.getD i 0 := dF h3
    refine ⟨i6, ?_⟩
    refine ⟨i + 1, ⟨rfl, ⟨obD m.ds rfl, trivial⟩, wq rfl⟩, ⟨h1, fun j hj => ?_⟩, (msr (by omega))⟩
    by_cases e : j = i
    ·subst e; exact zab.2 (by omega)
    ·exact ha j (by omega)
 ·have h1 : i = m.G.length := by have := dF h1; omega
  subst h1
  refine r1B rfl ?_
  rw [e0, zpb 0 fun j hj => by rw [ha j hj]; rfl]; rfl
structure Prf where
  ax : Int
  k : Int
  an : Int
  ad : Int
  gn : Int
  gd : Int
  deriving DecidableEq, Inhabited
abbrev Prf.ds (x : Prf) : List D := [I x.ax, I x.k, I x.an, I x.ad, I x.gn, I x.gd]
abbrev Prf.v (x : Prf) : V1 := .agg x.ds
def Prf.at (x : Prf) : Nat -> D
 | 0 => I x.ax
 | 1 => I x.k
 | 2 => I x.an
 | 3 => I x.ad
 | 4 => I x.gn
 | _ => I x.gd
structure PrfOk (x : Prf) : Prop where
  an : 0 <= x.an /\ x.an <= 48
  ad : 0 < x.ad /\ x.ad <= 48
  gn : 0 <= x.gn /\ x.gn <= 192000
  gd : 0 < x.gd /\ x.gd <= 48
  le : x.an <= x.ad
theorem zoE {T : List Twr} {i : Nat} (h : i < T.length) : towI T (T.getD i default).ID < i ↔ ((T.take i).any fun x => x.ID == (T.getD i default).ID) = true := by
 rcases idxL_cases (fun t : Twr => t.ID == (T.getD i default).ID) T default with ⟨_, h2⟩ | ⟨j, h1, h2, h3, h4⟩
 ·have := h2 i h
  simp at this
 ·unfold towI
  rw [h2, List.any_eq_true]
  constructor
  ·intro hj
   have hj : j < i := by omega
   refine ⟨T.getD j default, ?_, h3⟩
   have e : (T.take i).getD j default = T.getD j default := by
    rw [gdq, List.getElem?_take, if_pos hj, <- gdq]
   rw [<- e]
   exact gd1 (by rw [List.length_take]; omega) default
  ·rintro ⟨x, hx, hp⟩
   obtain ⟨q, hq, rfl⟩ := zbh default hx
   rw [List.length_take] at hq
   have e : (T.take i).getD q default = T.getD q default := by
    rw [gdq, List.getElem?_take, if_pos (by omega), <- gdq]
   rw [e] at hp
   rcases Nat.lt_or_ge q j with h5 | h5
   ·rw [h4 q h5] at hp; cases hp
   ·omega
theorem zc2 {Z : List Hz} {j : Nat} (h : (Z.getD j default).From < 0 \/ (Z.getD j default).To < (Z.getD j default).From \/ 1048576 < (Z.getD j default).To \/ (Z.getD j default).From <= lastZ Z j \/ (Z.getD j default).Far < 0 \/ 100 < (Z.getD j default).Far) : hzE Z j = 1 := by
 unfold hzE
 refine if_pos (Classical.byContradiction fun h0 => ?_)
 simp only [Bool.or_eq_true, Bool.not_eq_true', not_or, Bool.not_eq_false, decide_eq_true_eq, zab] at h0
 omega
theorem zr2 {Z : List Hz} {j : Nat} (h : ¬ ((Z.getD j default).From < 0 \/ (Z.getD j default).To < (Z.getD j default).From \/ 1048576 < (Z.getD j default).To \/ (Z.getD j default).From <= lastZ Z j \/ (Z.getD j default).Far < 0 \/ 100 < (Z.getD j default).Far)) : hzE Z j = 0 := by
 unfold hzE
 refine if_neg fun h0 => h ?_
 simp only [Bool.or_eq_true, Bool.not_eq_true', decide_eq_true_eq] at h0
 rcases h0 with ((h0 | h0) | h0) | h0
 ·have : ¬ (0 <= (Z.getD j default).From /\ (Z.getD j default).From <= (Z.getD j default).To) := fun hh => by rw [zab.2 hh] at h0; cases h0
  omega
 ·omega
 ·omega
 ·have : ¬ (0 <= (Z.getD j default).Far /\ (Z.getD j default).Far <= 100) := fun hh => by rw [zab.2 hh] at h0; cases h0
  omega
abbrev Hz.ds (x : Hz) : List D := [I x.From, I x.To, I x.Far]
theorem zna (c : Ctry) : Spec PP 190 [c.v] [.d (.int .i64 (ctryE c))] := by
 refine sA Tryz.func190 ?_
 refine cP (zm9 c.M) rfl rfl ?_
 apply sB <;> intro h0
 ·have h0 : validM c.M = false := by
   have : (!validM c.M) = true := h0
   simpa using this
  refine r1I rfl ?_
  unfold ctryE; rw [if_pos h0]
 have h0 : validM c.M = true := by
  have : (!validM c.M) = false := h0
  simpa using this
 apply sB <;> intro h1
 ·have h1 : 12 < c.T.length := by have := dT h1; omega
  repeat first | apply sT | apply sF
  refine r1I rfl ?_
  unfold ctryE; rw [if_neg (by rw [h0]; decide), if_pos (.inl h1)]
 have h1 : ¬ 12 < c.T.length := by have := dF h1; omega
 repeat first | apply sT | apply sF
 apply sB <;> intro h2
 ·have h2 : 60 < c.Z.length := by have := dT h2; omega
  refine r1I rfl ?_
  unfold ctryE; rw [if_neg (by rw [h0]; decide), if_pos (.inr h2)]
 have h2 : ¬ 60 < c.Z.length := by have := dF h2; omega
 have e0 : ctryE c = if err1 (towE c) c.T.length ≠ 0 then err1 (towE c) c.T.length else err1 (hzE c.Z) c.Z.length := by unfold ctryE; rw [if_neg (by rw [h0]; decide), if_neg (by omega)]
 refine LoopOb.of (σ := Nat) (fun i => ([(1, .box 1 0), (3, .d (I i))], [(1, bxCt c)])) (fun i => i <= c.T.length /\ ∀ j, j < i -> towE c j = 0) (fun i => c.T.length - i) 0
  ⟨rfl, ⟨obCt rfl, trivial⟩, wq rfl⟩ z0L fun i hi => ?_
 obtain ⟨hi, ha⟩ := hi
 apply sB <;> intro h3
 ·have h3 : i < c.T.length := by have := dT h3; omega
  have bad : towE c i ≠ 0 -> ctryE c = towE c i := fun h => by
   have := zan ha h h3
   rw [e0, if_pos (by rw [this]; exact h), this]
  have bad1 : (!within (c.T.getD i default).ID 1 1099511627776 || !onM c.M (c.T.getD i default).At || !within (c.T.getD i default).H 0 200) = true -> ctryE c = 1 := fun h => by
   have : towE c i = 1 := by unfold towE; rw [if_pos h]
   rw [bad (by rw [this]; decide), this]
  refine ⟨⟨rfl, by omega, by omega⟩, ?_⟩
  apply sB <;> intro k1
  ·have k1 : (c.T.getD i default).ID < 1 := dT k1
   repeat first | apply sT | apply sF
   refine r1I rfl ?_
   rw [bad1 (by unfold within; rw [decide_eq_false (show ¬ 1 <= (c.T.getD i default).ID by omega)]; rfl)]
  have k1 : ¬ (c.T.getD i default).ID < 1 := dF k1
  repeat first | apply sT | apply sF
  apply sB <;> intro k2
  ·have k2 : 1099511627776 < (c.T.getD i default).ID := dT k2
   repeat first | apply sT | apply sF
   refine r1I rfl ?_
   rw [bad1 (by unfold within; rw [decide_eq_false (show ¬ (c.T.getD i default).ID <= 1099511627776 by omega), Bool.and_false]; rfl)]
  have k2 : ¬ 1099511627776 < (c.T.getD i default).ID := dF k2
  have w1 : within (c.T.getD i default).ID 1 1099511627776 = true := zab.2 (by omega)
  repeat first | apply sT | apply sF
  refine cP (r4_On c.M (c.T.getD i default).At) rfl rfl ?_
  repeat first | apply sT | apply sF
  apply sB <;> intro k3
  ·have k3 : (!onM c.M (c.T.getD i default).At) = true := k3
   repeat first | apply sT | apply sF
   refine r1I rfl ?_
   rw [bad1 (by rw [k3, Bool.or_true]; rfl)]
  have k3 : (!onM c.M (c.T.getD i default).At) = false := k3
  repeat first | apply sT | apply sF
  refine cP (zpU (c.T.getD i default).H) rfl rfl ?_
  repeat first | apply sT | apply sF
  apply sB <;> intro k4
  ·have k4 : (!within (c.T.getD i default).H 0 200) = true := k4
   refine r1I rfl ?_
   rw [bad1 (by rw [k4, Bool.or_true])]
  have k4 : (!within (c.T.getD i default).H 0 200) = false := k4
  have eT : towE c i = if ((c.T.take i).any fun x => x.ID == (c.T.getD i default).ID) = true then 6 else 0 := by
   unfold towE; rw [if_neg (by rw [w1, k3, k4]; decide)]
  refine cP (zjm c (c.T.getD i default).ID (by omega)) rfl rfl ?_
  apply sB <;> intro k5
  ·have k5 : towI c.T (c.T.getD i default).ID < i := dT k5
   have e : towE c i = 6 := by rw [eT, if_pos ((zoE h3).1 k5)]
   refine r1I rfl ?_
   rw [bad (by rw [e]; decide), e]
  ·have k5 : ¬ towI c.T (c.T.getD i default).ID < i := dF k5
   have e : towE c i = 0 := by rw [eT, if_neg fun h => k5 ((zoE h3).2 h)]
   refine ⟨i6, ?_⟩
   refine ⟨i + 1, ⟨rfl, ⟨obCt rfl, trivial⟩, wq rfl⟩, ⟨h3, fun j hj => ?_⟩, (msr (by omega))⟩
   by_cases q : j = i
   ·subst q; exact e
   ·exact ha j (by omega)
 have h3 : i = c.T.length := by have := dF h3; omega
 subst h3
 have e1 : ctryE c = err1 (hzE c.Z) c.Z.length := by rw [e0, zaJ ha]; rfl
 clear ha
 refine LoopOb.of (σ := Nat) (fun i => ([(1, .box 1 0), (5, .d (I i))], [(1, bxCt c)])) (fun i => i <= c.Z.length /\ ∀ j, j < i -> hzE c.Z j = 0) (fun i => c.Z.length - i) 0
  ⟨rfl, ⟨obCt rfl, trivial⟩, wq rfl⟩ z0L fun i hi => ?_
 obtain ⟨hi, ha⟩ := hi
 apply sB <;> intro h3
 ·have h3 : i < c.Z.length := by have := dT h3; omega
  have bad1 : hzE c.Z i = 1 -> ctryE c = 1 := fun h => by rw [e1, zan ha (by rw [h]; decide) h3, h]
  refine ⟨⟨rfl, by omega, by omega⟩, ?_⟩
  refine oL (List.range 41) (FzOb.no ?_)
  apply sB <;> intro k1
  ·have k1 : (c.Z.getD i default).From < 0 := dT k1
   repeat first | apply sT | apply sF
   refine r1I rfl ?_
   rw [bad1 (zc2 (.inl k1))]
  have k1 : ¬ (c.Z.getD i default).From < 0 := dF k1
  repeat first | apply sT | apply sF
  apply sB <;> intro k2
  ·have k2 : (c.Z.getD i default).To < (c.Z.getD i default).From := dT k2
   repeat first | apply sT | apply sF
   refine r1I rfl ?_
   rw [bad1 (zc2 (.inr (.inl k2)))]
  have k2 : ¬ (c.Z.getD i default).To < (c.Z.getD i default).From := dF k2
  repeat first | apply sT | apply sF
  apply sB <;> intro k3
  ·have k3 : 1048576 < (c.Z.getD i default).To := dT k3
   repeat first | apply sT | apply sF
   refine r1I rfl ?_
   rw [bad1 (zc2 (.inr (.inr (.inl k3))))]
  have k3 : ¬ 1048576 < (c.Z.getD i default).To := dF k3
  repeat first | apply sT | apply sF
  apply sB <;> intro k4
  ·have k4 : 0 < i := by have : (0 : Int) < i := dT k4; omega
   have eL : lastZ c.Z i = (c.Z.getD (i - 1) default).To := by
    obtain ⟨d, rfl⟩ : ∃ d, i = d + 1 := ⟨i - 1, by omega⟩
    rfl
   have hz : ((i : Int) - 1).toNat = i - 1 := by omega
   refine ⟨i6, ⟨⟨rfl, by omega, by omega⟩, ?_⟩⟩
   rw [hz]
   refine sT ?_
   refine sF ?_
   apply sB <;> intro k5
   ·have k5 : (c.Z.getD i default).From <= (c.Z.getD (i - 1) default).To := dT k5
    repeat first | apply sT | apply sF
    refine r1I rfl ?_
    rw [bad1 (zc2 (.inr (.inr (.inr (.inl (by rw [eL]; exact k5))))))]
   have k5 : ¬ (c.Z.getD i default).From <= (c.Z.getD (i - 1) default).To := dF k5
   repeat first | apply sT | apply sF
   apply sB <;> intro k6
   ·have k6 : (c.Z.getD i default).Far < 0 := dT k6
    repeat first | apply sT | apply sF
    refine r1I rfl ?_
    rw [bad1 (zc2 (.inr (.inr (.inr (.inr (.inl k6))))))]
   have k6 : ¬ (c.Z.getD i default).Far < 0 := dF k6
   repeat first | apply sT | apply sF
   apply sB <;> intro k7
   ·have k7 : 100 < (c.Z.getD i default).Far := dT k7
    refine r1I rfl ?_
    rw [bad1 (zc2 (.inr (.inr (.inr (.inr (.inr k7))))))]
   have k7 : ¬ 100 < (c.Z.getD i default).Far := dF k7
   have e : hzE c.Z i = 0 := zr2 (by rw [eL]; omega)
   refine ⟨i6, ?_⟩
   refine ⟨i + 1, ⟨rfl, ⟨obCt rfl, trivial⟩, wq rfl⟩, ⟨h3, fun j hj => ?_⟩, (msr (by omega))⟩
   by_cases q : j = i
   ·subst q; exact e
   ·exact ha j (by omega)
  have k4 : i = 0 := by have : ¬ (0 : Int) < i := dF k4; omega
  subst k4
  repeat first | apply sT | apply sF
  apply sB <;> intro k6
  ·have k6 : (c.Z.getD 0 default).Far < 0 := dT k6
   repeat first | apply sT | apply sF
   refine r1I rfl ?_
   rw [bad1 (zc2 (.inr (.inr (.inr (.inr (.inl k6))))))]
  have k6 : ¬ (c.Z.getD 0 default).Far < 0 := dF k6
  repeat first | apply sT | apply sF
  apply sB <;> intro k7
  ·have k7 : 100 < (c.Z.getD 0 default).Far := dT k7
   refine r1I rfl ?_
   rw [bad1 (zc2 (.inr (.inr (.inr (.inr (.inr k7))))))]
  have k7 : ¬ 100 < (c.Z.getD 0 default).Far := dF k7
  have e : hzE c.Z 0 = 0 := zr2 (by show ¬ (_ \/ _ \/ _ \/ _ <= (-1 : Int) \/ _ \/ _); omega)
  refine ⟨i6, ?_⟩
  refine ⟨0 + 1, ⟨rfl, ⟨obCt rfl, trivial⟩, wq rfl⟩, ⟨h3, fun j hj => ?_⟩, (msr (by omega))⟩
  obtain rfl : j = 0 := by omega
  exact e
 have h3 : i = c.Z.length := by have := dF h3; omega
 subst h3
 refine r1I rfl ?_
 rw [e1, zaJ ha]
theorem avBl {s : St} {ob : Nat -> Option Ob} {v : AV} {a b : Bool} (h : v = .d (.bool a)) (e : a = b) : AVle s ob v (.d (.bool b)) := by subst h; subst e; exact dE _
theorem zeJ (s : Svc) (id : Int) (hn : s.c.T.length <= 1000000) : Spec PP 122 [s.v, N id] [N (towI s.c.T id)] := by
 refine sA Tryz.func122 ?_
 refine LoopOb.of (σ := Nat) (fun i => ([(1, .d (I id)), (2, .box 2 0), (5, .d (I i))], [(2, .box (s.ds.map AV.d))])) (fun i => i <= s.c.T.length /\ ∀ j, j < i -> ((s.c.T.getD j default).ID == id) = false) (fun i => s.c.T.length - i) 0
  ⟨rfl, ⟨obD s.ds rfl, trivial⟩, wq rfl⟩ z0L fun i hi => ?_
 obtain ⟨hi, ha⟩ := hi
 apply sB <;> intro h1
 ·have h1 : i < s.c.T.length := by have := dT h1; omega
  refine ⟨⟨rfl, by omega, by omega⟩, ?_⟩
  apply sB <;> intro h2
  ·refine r1I rfl ?_
   exact (zaC (p := fun t : Twr => t.ID == id) default h1 h2 ha).symm
  ·refine ⟨i6, ?_⟩
   refine ⟨i + 1, ⟨rfl, ⟨obD s.ds rfl, trivial⟩, wq rfl⟩, ⟨h1, fun j hj => ?_⟩, (msr (by omega))⟩
   by_cases e : j = i
   ·subst e; exact h2
   ·exact ha j (by omega)
 have h1 : i = s.c.T.length := by have := dF h1; omega
 subst h1
 refine r1I rfl ?_
 exact (zaS (p := fun t : Twr => t.ID == id) default ha).symm
theorem zhh (s : Svc) (id : Int) (hn : s.k.C.length <= 1000000) : Spec PP 258 [s.v, N id] [N (cirI s.k id)] := by
 refine sA Tryz.func258 ?_
 refine LoopOb.of (σ := Nat) (fun i => ([(1, .d (I id)), (2, .box 2 0), (5, .d (I i))], [(2, .box (s.ds.map AV.d))])) (fun i => i <= s.k.C.length /\ ∀ j, j < i -> ((s.k.C.getD j default).ID == id) = false) (fun i => s.k.C.length - i) 0
  ⟨rfl, ⟨obD s.ds rfl, trivial⟩, wq rfl⟩ z0L fun i hi => ?_
 obtain ⟨hi, ha⟩ := hi
 apply sB <;> intro h1
 ·have h1 : i < s.k.C.length := by have := dT h1; omega
  refine ⟨⟨rfl, by omega, by omega⟩, ?_⟩
  apply sB <;> intro h2
  ·refine r1I rfl ?_
   exact (zaC (p := fun t : Cir => t.ID == id) default h1 h2 ha).symm
  ·refine ⟨i6, ?_⟩
   refine ⟨i + 1, ⟨rfl, ⟨obD s.ds rfl, trivial⟩, wq rfl⟩, ⟨h1, fun j hj => ?_⟩, (msr (by omega))⟩
   by_cases e : j = i
   ·subst e; exact h2
   ·exact ha j (by omega)
 have h1 : i = s.k.C.length := by have := dF h1; omega
 subst h1
 refine r1I rfl ?_
 exact (zaS (p := fun t : Cir => t.ID == id) default ha).symm
theorem tm36 (n : Int) : (n.tmod 3600 + 3600).tmod 3600 = n % 3600 := by
 have h1 := Int.tmod_lt_of_pos n (show (0 : Int) < 3600 by decide)
 have h2 := Int.tmod_lt_of_pos (-n) (show (0 : Int) < 3600 by decide)
 rw [Int.neg_tmod] at h2
 rw [Int.tmod_eq_emod_of_nonneg (by omega)]
 rw [Int.tmod_eq_emod]
 split
 ·show (n % 3600 - 0 + 3600) % 3600 = n % 3600
  omega
 ·show (n % 3600 - 3600 + 3600) % 3600 = n % 3600
  omega
theorem zdk (n : Int) (hn : -1000000000000 <= n /\ n <= 1000000000000) : Spec PP 118 [N n] [N (n % 3600)] := by
 have h1 := Int.tmod_lt_of_pos n (show (0 : Int) < 3600 by decide)
 have h2 := Int.tmod_lt_of_pos (-n) (show (0 : Int) < 3600 by decide)
 rw [Int.neg_tmod] at h2
 refine sA Tryz.func118 ?_
 refine ⟨by decide, ⟨i6, ⟨by decide, ?_⟩⟩⟩
 exact r1I rfl (tm36 n)
theorem zos {α : Type} {p : α -> Bool} {l : List α} {j : Nat} (h : j < l.length) (d : α) : (l.take (j + 1)).any p = ((l.take j).any p || p (l.getD j d)) := by
 rw [zas h d, List.any_append, List.any_cons, List.any_nil, Bool.or_false]
theorem zm4 (s : Svc) : Spec PP 113 [s.v] [.d (.int .i64 (svcE s))] := by
 refine sA Tryz.func113 ?_
 refine cP (zna s.c) rfl rfl ?_
 apply sB <;> intro h0
 ·have h0 : ctryE s.c ≠ 0 := by simpa using h0
  refine r1I rfl ?_
  unfold svcE; rw [if_pos h0]
 have h0 : ctryE s.c = 0 := by simpa using h0
 have ok0 := zfP h0
 refine cP (zfr s.k) rfl rfl ?_
 apply sB <;> intro h1
 ·have h1 : cirsE s.k ≠ 0 := by simpa using h1
  refine r1I rfl ?_
  unfold svcE; rw [if_neg (fun hh => hh h0), if_pos h1]
 have h1 : cirsE s.k = 0 := by simpa using h1
 have ok1 := zbG h1
 have e0 : svcE s = err1 (svc1E s) s.k.C.length := by unfold svcE; rw [if_neg (fun hh => hh h0), if_neg (fun hh => hh h1)]
 have hn := ok1.n
 have ht := ok0.t
 refine LoopOb.of (σ := Nat) (fun i => ([(1, .box 1 0), (4, .d (I i))], [(1, .box (s.ds.map AV.d))])) (fun i => i <= s.k.C.length /\ ∀ j, j < i -> svc1E s j = 0) (fun i => s.k.C.length - i) 0
  ⟨rfl, ⟨obD s.ds rfl, trivial⟩, wq rfl⟩ z0L fun i hi => ?_
 obtain ⟨hi, ha⟩ := hi
 apply sB <;> intro h3
 ·have h3 : i < s.k.C.length := by have := dT h3; omega
  refine LoopOb.of (σ := Nat) (fun j => ([(1, .box 1 0), (4, .d (I i)), (5, .d (.bool ((s.c.T.take j).any fun w => decide (w.At = (s.k.C.getD i default).At)))), (6, .d (I j))], [(1, .box (s.ds.map AV.d))])) (fun j => j <= s.c.T.length) (fun j => s.c.T.length - j) 0
   ⟨rfl, ⟨obD s.ds rfl, trivial⟩, wq rfl⟩ (Nat.zero_le _) fun j hj => ?_
  have hj : j <= s.c.T.length := hj
  apply sB <;> intro h4
  ·have h4 : j < s.c.T.length := by have := dT h4; omega
   have eA := zos (p := fun w : Twr => decide (w.At = (s.k.C.getD i default).At)) h4 default
   refine oL (List.range 19) (FzOb.no ?_)
   apply sB <;> intro h5
   ·have h5 : ((s.c.T.take j).any fun w => decide (w.At = (s.k.C.getD i default).At)) = true := h5
    repeat first | apply sT | apply sF
    refine ⟨i6, ?_⟩
    exact ⟨j + 1, ⟨rfl, ⟨obD s.ds rfl, trivial⟩, avQ rfl, avR _ rfl, avBl rfl (by rw [eA, h5]; rfl), avI rfl rfl, trivial⟩, h4, (msr (by omega))⟩
   ·have h5 : ((s.c.T.take j).any fun w => decide (w.At = (s.k.C.getD i default).At)) = false := h5
    refine ⟨⟨rfl, by omega, by omega⟩, ⟨⟨rfl, by omega, by omega⟩, ?_⟩⟩
    repeat first | apply sT | apply sF
    refine ⟨i6, ?_⟩
    exact ⟨j + 1, ⟨rfl, ⟨obD s.ds rfl, trivial⟩, avQ rfl, avR _ rfl, avBl rfl (by rw [eA, h5, Bool.false_or]; exact eqPW _ _), avI rfl rfl, trivial⟩, h4, (msr (by omega))⟩
  ·have h4 : j = s.c.T.length := by have := dF h4; omega
   subst h4
   rw [List.take_length]
   apply sB <;> intro h5
   ·have h5 : (s.c.T.any fun w => decide (w.At = (s.k.C.getD i default).At)) = false := by simpa using h5
    have e : svc1E s i = 5 := by unfold svc1E; rw [if_neg (by rw [h5]; decide)]
    refine r1I rfl ?_
    rw [e0, zan ha (by rw [e]; decide) h3, e]
   ·have h5 : (s.c.T.any fun w => decide (w.At = (s.k.C.getD i default).At)) = true := by simpa using h5
    have e : svc1E s i = 0 := by unfold svc1E; rw [if_pos h5]
    refine ⟨i6, ?_⟩
    refine ⟨i + 1, ⟨rfl, ⟨obD s.ds rfl, trivial⟩, wq rfl⟩, ⟨h3, fun j hj => ?_⟩, (msr (by omega))⟩
    by_cases q : j = i
    ·subst q; exact e
    ·exact ha j (by omega)
 ·have h3 : i = s.k.C.length := by have := dF h3; omega
  subst h3
  refine r1I rfl ?_
  rw [e0, zaJ ha]
theorem ziK {r : Rpt} (h : frmC r = true) : frmB r = false := by unfold frmB; rw [h]; rfl
theorem zr9 {r : Rpt} (h : within r.Kind 1 2 = false) : frmB r = false := by
 have h1 : r.Kind ≠ 1 := fun e => by
  have : within r.Kind 1 2 = true := zab.2 (by omega)
  rw [this] at h; cases h
 have h2 : r.Kind ≠ 2 := fun e => by
  have : within r.Kind 1 2 = true := zab.2 (by omega)
  rw [this] at h; cases h
 unfold frmB; rw [if_neg h1, if_neg h2, Bool.and_false]
theorem zkH (r : Rpt) : Spec PP 257 [r.v] [B (frmB r)] := by
 refine sA Tryz.func257 ?_
 refine cP (zfp r.ID 1 1099511627776) rfl rfl ?_
 apply sB <;> intro k0
 ·have k0 : (!within r.ID 1 1099511627776) = true := k0
  repeat first | apply sT | apply sF
  exact r1B rfl (ziK (by unfold frmC; rw [k0]; rfl)).symm
 have k0 : (!within r.ID 1 1099511627776) = false := k0
 refine cP (zfp r.Kind 1 2) rfl rfl ?_
 repeat first | apply sT | apply sF
 apply sB <;> intro k1
 ·have k1 : (!within r.Kind 1 2) = true := k1
  repeat first | apply sT | apply sF
  exact r1B rfl (zr9 (by simpa using k1)).symm
 have k1 : (!within r.Kind 1 2) = false := k1
 refine cP (zfp r.Tick 0 1048576) rfl rfl ?_
 repeat first | apply sT | apply sF
 apply sB <;> intro k2
 ·have k2 : (!within r.Tick 0 1048576) = true := k2
  repeat first | apply sT | apply sF
  exact r1B rfl (ziK (by unfold frmC; rw [k0, k2]; rfl)).symm
 have k2 : (!within r.Tick 0 1048576) = false := k2
 refine cP (zfp r.From 0 3599) rfl rfl ?_
 repeat first | apply sT | apply sF
 apply sB <;> intro k3
 ·have k3 : (!within r.From 0 3599) = true := k3
  repeat first | apply sT | apply sF
  exact r1B rfl (ziK (by unfold frmC; rw [k0, k2, k3]; rfl)).symm
 have k3 : (!within r.From 0 3599) = false := k3
 refine cP (zfp r.Slack 1 100) rfl rfl ?_
 repeat first | apply sT | apply sF
 apply sB <;> intro k4
 ·have k4 : (!within r.Slack 1 100) = true := k4
  repeat first | apply sT | apply sF
  exact r1B rfl (ziK (by unfold frmC; rw [k0, k2, k3, k4]; rfl)).symm
 have k4 : (!within r.Slack 1 100) = false := k4
 have e0 : frmB r = if r.Kind = 1 then decide (r.To = 0) else if r.Kind = 2 then within r.To 0 3599 && decide ((r.To - r.From) % 3600 <= 900) else false := by
  unfold frmB frmC; rw [k0, k2, k3, k4]; rfl
 have hk := zab.1 (show within r.Kind 1 2 = true by simpa using k1)
 have hf := zab.1 (show within r.From 0 3599 = true by simpa using k3)
 apply sB <;> intro h1
 ·have h1 : r.Kind = 1 := by simpa using h1
  refine r1B rfl ?_
  rw [e0, if_pos h1, Bool.eq_iff_iff]; simp
 have h1 : r.Kind ≠ 1 := by simpa using h1
 rw [if_neg h1, if_pos (show r.Kind = 2 by omega)] at e0
 refine cP (zfp r.To 0 3599) rfl rfl ?_
 apply sB <;> intro h3
 ·have h4 := zab.1 h3
  refine ⟨i6, ?_⟩
  refine cP (zdk (r.To - r.From) (by omega)) rfl rfl ?_
  repeat first | apply sT | apply sF
  refine r1B rfl ?_
  rw [e0, h3]; rfl
 ·repeat first | apply sT | apply sF
  refine r1B rfl ?_
  rw [e0, h3]; rfl
theorem zjf (b : Brn) : Spec PP 114 [b.v] [B (brnB b)] := by
 refine sA Tryz.func114 ?_
 refine cP (zfp b.From 0 1048576) rfl rfl ?_
 apply sB <;> intro h1
 ·have h1' := zab.1 h1
  refine cP (zfp b.To b.From 1048576) rfl rfl ?_
  repeat first | apply sT | apply sF
  apply sB <;> intro h2
  ·have h2' := zab.1 h2
   refine cP (zfp b.Rise 0 200) rfl rfl ?_
   repeat first | apply sT | apply sF
   refine r1B rfl ?_
   unfold brnB; rw [decide_eq_true (by omega), decide_eq_true (by omega), decide_eq_true (by omega)]; rfl
  ·have h2' : ¬ (b.From <= b.To /\ b.To <= 1048576) := fun hh => by rw [zab.2 hh] at h2; cases h2
   repeat first | apply sT | apply sF
   refine r1B rfl ?_
   unfold brnB
   by_cases h3 : b.From <= b.To
   ·rw [decide_eq_false (p := b.To <= 1048576) (fun h4 => h2' ⟨h3, h4⟩), Bool.and_false]; rfl
   ·rw [decide_eq_false h3, Bool.and_false]; rfl
 ·have h1' : ¬ (0 <= b.From /\ b.From <= 1048576) := fun hh => by rw [zab.2 hh] at h1; cases h1
  repeat first | apply sT | apply sF
  refine r1B rfl ?_
  unfold brnB
  by_cases h3 : 0 <= b.From
  ·by_cases h4 : b.From <= b.To
   ·rw [decide_eq_false (p := b.To <= 1048576) (by omega), Bool.and_false]; rfl
   ·rw [decide_eq_false h4, Bool.and_false]; rfl
  ·rw [decide_eq_false h3]; rfl
theorem zh4 {T : List Twr} {id : Int} (h : ¬ towI T id < 0) : towG T id = (T.getD (towI T id).toNat default, true) := by unfold towG; rw [if_neg h]
theorem r6_at (s : Svc) (r : Rpt) (hn : s.c.T.length <= 1000000) (h : ¬ towI s.c.T r.Tower < 0) : Spec PP 53 [s.v, r.v] [(towG s.c.T r.Tower).1.At.v] := by
 have h1 := zdw h
 refine sA Tryz.func53 ?_
 refine oL (List.range 12) (FzOb.no ?_)
 refine oP (zeJ s r.Tower hn) rfl rfl ?_
 refine ⟨⟨rfl, by show 0 <= max 0 (towI s.c.T r.Tower); omega, by show max 0 (towI s.c.T r.Tower) < s.c.T.length; omega⟩, ?_⟩
 have e : s.c.T.getD (max 0 (towI s.c.T r.Tower)).toNat default = (towG s.c.T r.Tower).1 := by rw [zh4 h, show max 0 (towI s.c.T r.Tower) = towI s.c.T r.Tower by omega]
 exact r1C rfl rfl rfl rfl rfl rfl (zbl (congrArg (fun t : Twr => t.At.X) e) (congrArg (fun t : Twr => t.At.Y) e))
theorem zkJ (s : Svc) (r : Rpt) (hT : s.c.T.length <= 1000000) (hC : s.k.C.length <= 1000000) : Spec PP 192 [s.v, r.v] [.d (.int .i64 (rptE s r))] := by
 refine sA Tryz.func192 ?_
 refine cP (zkH r) rfl rfl ?_
 apply sB <;> intro h1
 ·refine r1I rfl ?_
  unfold rptE; rw [if_pos (by simpa using h1)]
 have h1 : frmB r = true := by simpa using h1
 refine cP (zeJ s r.Tower hT) rfl rfl ?_
 refine cP (zhh s r.C hC) rfl rfl ?_
 apply sB <;> intro h2
 ·have h2 : towI s.c.T r.Tower < 0 := dT h2
  repeat first | apply sT | apply sF
  refine r1I rfl ?_
  have h3 : (towG s.c.T r.Tower).2 = false := by unfold towG; rw [if_pos h2]
  unfold rptE; rw [if_neg (by rw [h1]; decide), if_pos (.inl h3)]
 have h2 : ¬ towI s.c.T r.Tower < 0 := dF h2
 repeat first | apply sT | apply sF
 apply sB <;> intro h3
 ·have h3 : cirI s.k r.C < 0 := dT h3
  refine r1I rfl ?_
  unfold rptE; rw [if_neg (by rw [h1]; decide), if_pos (.inr h3)]
 have h3 : ¬ cirI s.k r.C < 0 := dF h3
 obtain ⟨h4, h5⟩ := zaK h3
 obtain ⟨g4, g5⟩ := zdw h2
 have eT := zh4 h2
 have e0 : rptE s r = if (s.k.C.getD (cirI s.k r.C).toNat default).At ≠ (s.c.T.getD (towI s.c.T r.Tower).toNat default).At then 1 else if (zerR s.k r.C r.Tick).2 ≠ 0 then (zerR s.k r.C r.Tick).2 else if r.Kind = 1 then (wdgR s.k (rdgO r)).2 else 0 := by
  unfold rptE; rw [if_neg (by rw [h1]; decide), if_neg (by rw [eT]; simp; omega), eT]
 refine oL (List.range 15) (FzOb.no ?_)
 refine ⟨⟨rfl, by show 0 <= towI s.c.T r.Tower; omega, by show towI s.c.T r.Tower < s.c.T.length; omega⟩, ⟨⟨rfl, by show 0 <= cirI s.k r.C; omega, by show cirI s.k r.C < s.k.C.length; omega⟩, ?_⟩⟩
 apply sB <;> intro h6
 ·have h6 : (s.k.C.getD (cirI s.k r.C).toNat default).At ≠ (s.c.T.getD (towI s.c.T r.Tower).toNat default).At := by
   have := (congrArg (!·) (eqPW (s.c.T.getD (towI s.c.T r.Tower).toNat default).At (s.k.C.getD (cirI s.k r.C).toNat default).At)).symm.trans h6
   have h7 : ¬ (s.c.T.getD (towI s.c.T r.Tower).toNat default).At = (s.k.C.getD (cirI s.k r.C).toNat default).At := by simpa using this
   exact fun e => h7 e.symm
  refine r1I rfl ?_
  rw [e0, if_pos h6]
 have h6 : (s.k.C.getD (cirI s.k r.C).toNat default).At = (s.c.T.getD (towI s.c.T r.Tower).toNat default).At := by
  have := (congrArg (!·) (eqPW (s.c.T.getD (towI s.c.T r.Tower).toNat default).At (s.k.C.getD (cirI s.k r.C).toNat default).At)).symm.trans h6
  have h7 : (s.c.T.getD (towI s.c.T r.Tower).toNat default).At = (s.k.C.getD (cirI s.k r.C).toNat default).At := by simpa using this
  exact h7.symm
 refine cP (zhk s.k r.C r.Tick) rfl rfl ?_
 apply sB <;> intro h7
 ·have h7 : (zerR s.k r.C r.Tick).2 ≠ 0 := by simpa using h7
  repeat first | apply sT | apply sF
  refine r1I rfl ?_
  rw [e0, if_neg (fun hh => hh h6), if_pos h7]
 have h7 : (zerR s.k r.C r.Tick).2 = 0 := by simpa using h7
 repeat first | apply sT | apply sF
 apply sB <;> intro h8
 ·have h8 : r.Kind = 2 := by simpa using h8
  refine r1I rfl ?_
  rw [e0, if_neg (fun hh => hh h6), if_neg (fun hh => hh h7), if_neg (by omega)]; exact h7
 ·have h8 : r.Kind ≠ 2 := by simpa using h8
  have h9 : r.Kind = 1 := by
   refine Classical.byContradiction fun h10 => ?_
   have := zr9 (r := r) (by
    cases hw : within r.Kind 1 2 with
    | false => rfl
    | true => have := zab.1 hw; omega)
   rw [h1] at this; cases this
  refine cP (zig s.k (rdgO r)) rfl rfl ?_
  refine r1I rfl ?_
  rw [e0, if_neg (fun hh => hh h6), if_neg (fun hh => hh h7), if_pos h9]
structure RptOk (s : Svc) (r : Rpt) : Prop where
  f : frmB r = true
  t : ¬ towI s.c.T r.Tower < 0
  w : r.Kind = 1 -> (wdgR s.k (rdgO r)).2 = 0
theorem zrx {s : Svc} {r : Rpt} (h : rptE s r = 0) : RptOk s r := by
 unfold rptE at h
 split at h
 ·cases h
 rename_i h1
 split at h
 ·cases h
 rename_i h2
 split at h
 ·cases h
 split at h
 ·rename_i h4; exact absurd h h4
 refine ⟨by simpa using h1, fun h3 => h2 (.inl (by unfold towG; rw [if_pos h3])), fun hk => ?_⟩
 rw [if_pos hk] at h; exact h
theorem zkI (s : Svc) (r : Rpt) (h : RptOk s r) : Spec PP 51 [s.v, r.v] [(secR s r).1.v, B (secR s r).2] := by
 refine sA Tryz.func51 ?_
 apply sB <;> intro h1
 ·have h1 : r.Kind = 1 := by simpa using h1
  have e : secR s r = ((wdgR s.k (rdgO r)).1, true) := by unfold secR; rw [if_pos h1, decide_eq_true (h.w h1)]
  refine cP (zig s.k (rdgO r)) rfl rfl ?_
  rw [e]
  exact ⟨rtC (a := 4) rfl rfl rfl rfl rfl rfl (zaa _), rtB rfl rfl, trivial⟩
 have h1 : r.Kind ≠ 1 := by simpa using h1
 have e0 : secR s r = blkR s r := by unfold secR; rw [if_neg h1]
 rw [e0]
 obtain ⟨b1, b2, b3⟩ := znU h.f h1
 have zb := ze8 s.k r.C r.Tick
 refine cP (zhk s.k r.C r.Tick) rfl rfl ?_
 refine oL (List.range 16) (FzOb.no ?_)
 refine ⟨i6, ?_⟩
 refine oP (zdk (r.To - r.From) (by omega)) rfl rfl ?_
 refine ⟨i6, ⟨i6, ⟨i6, ?_⟩⟩⟩
 apply sB <;> intro h2
 ·have e : blkR s r = (⟨0, 0⟩, false) := by unfold blkR; rw [if_pos (dT h2)]
  rw [e]
  exact ⟨rtC (a := 4) rfl rfl rfl rfl rfl rfl (zaa _), rtB rfl rfl, trivial⟩
 have e : blkR s r = (⟨(r.From + r.Slack - (zerR s.k r.C r.Tick).1.Lo) % 3600, (r.To - r.Slack - (zerR s.k r.C r.Tick).1.Hi) % 3600⟩, true) := by unfold blkR; rw [if_neg (dF h2)]
 rw [e]
 refine oL (List.range 21) (FzOb.no ?_)
 refine ⟨i6, ⟨i6, ?_⟩⟩
 refine oP (zdk (r.From + r.Slack - (zerR s.k r.C r.Tick).1.Lo) (by omega)) rfl rfl ?_
 refine ⟨i6, ⟨i6, ?_⟩⟩
 refine oP (zdk (r.To - r.Slack - (zerR s.k r.C r.Tick).1.Hi) (by omega)) rfl rfl ?_
 exact ⟨rtC (a := 4) rfl rfl rfl rfl rfl rfl (zaa _), rtB rfl rfl, trivial⟩
end Go.Pg
