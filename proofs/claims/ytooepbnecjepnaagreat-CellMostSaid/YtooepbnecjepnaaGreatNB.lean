/- Texts joined and shortened by program. -/
import Derived.Test.YtooepbnecjepnaaGreatN6
import Derived.Test.YtooepbnecjepnaaGreatN7
import Derived.Test.YtooepbnecjepnaaGreatNA
import Derived.Test.YtooepbnecjepnaaGreatN8
set_option maxHeartbeats 4000000
set_option linter.all false
set_option maxRecDepth 100000
namespace Go.Pg
open Go.Proofs Go.RowKit
theorem zoq (m : Mp) (p : Place) : onM m p = (decide (0 <= p.X) && decide (p.X < m.W) && decide (0 <= p.Y) && decide (p.Y < m.H)) := by
 rw [Bool.eq_iff_iff, zac]; simp only [Bool.and_eq_true, decide_eq_true_eq]; omega
theorem zpK (m : Mp) (p : Place) : Spec PP 252 [m.v, p.v] [B (onM m p)] := by
 refine sA Tryz.func252 ?_
 rw [zoq]
 apply sB <;> intro h1
 ·have h1 : decide (0 <= p.X) = true := h1
  refine sT ?_
  apply sB <;> intro h2
  ·have h2 : decide (p.X < m.W) = true := h2
   refine sT ?_
   apply sB <;> intro h3
   ·have h3 : decide (0 <= p.Y) = true := h3
    refine sT ?_
    refine r1B rfl ?_
    rw [h1, h2, h3]; rfl
   ·have h3 : decide (0 <= p.Y) = false := h3
    refine sF ?_
    refine r1B rfl ?_
    rw [h1, h2, h3]; rfl
  ·have h2 : decide (p.X < m.W) = false := h2
   refine sF (sF (sF ?_))
   refine r1B rfl ?_
   rw [h1, h2]; rfl
 ·have h1 : decide (0 <= p.X) = false := h1
  refine sF (sF (sF (sF (sF ?_))))
  refine r1B rfl ?_
  rw [h1]; rfl
theorem zjr (h : Int) : Spec PP 253 [N h] [B (within h 0 200)] := by
 refine sA Tryz.func253 ?_
 repeat' first
  | refine sT ?_
  | refine sF ?_
  | refine sB (fun _ => ?_) (fun _ => ?_)
  | refine r1B rfl ?_
 all_goals (unfold within; simp_all <;> omega)
theorem zjs (h : Int) : Spec PP 327 [N h] [B (within h 0 1048576)] := by
 refine sA Tryz.func327 ?_
 repeat' first
  | refine sT ?_
  | refine sF ?_
  | refine sB (fun _ => ?_) (fun _ => ?_)
  | refine r1B rfl ?_
 all_goals (unfold within; simp_all <;> omega)
theorem zn9 (a b : Place) (d : Int) (ha : on a = true) (hb : on b = true) (hd : 0 <= d /\ d <= 100) : Spec PP 331 [a.v, b.v, N d] [B (nearB a b d)] := by
 obtain ⟨a1, a2⟩ := zaS.1 ha
 obtain ⟨b1, b2⟩ := zaS.1 hb
 have m1 := mulB (a := a.X - b.X) (b := a.X - b.X) (x := 48) (y := 48) (by omega) (by omega)
 have m2 := mulB (a := a.Y - b.Y) (b := a.Y - b.Y) (x := 48) (y := 48) (by omega) (by omega)
 have m3 := mulB (a := d) (b := d) (x := 100) (y := 100) (by omega) (by omega)
 refine sA Tryz.func331 ?_
 refine ⟨i6, ⟨i6, ⟨i6, ⟨i6, ⟨i6, ⟨i6, ⟨i6, ⟨i6, ?_⟩⟩⟩⟩⟩⟩⟩⟩
 exact r1B rfl rfl
theorem zeb (c : Ctry) (id : Int) (hn : c.T.length <= 1000000) : Spec PP 254 [c.v, N id] [N (towI c.T id)] := by
 refine sA Tryz.func254 ?_
 refine LoopOb.of (σ := Nat) (fun i => ([(1, .d (I id)), (2, .box 2 0), (5, .d (I i))], [(2, bxCt c)])) (fun i => i <= c.T.length /\ ∀ j, j < i -> ((c.T.getD j default).ID == id) = false) (fun i => c.T.length - i) 0
  ⟨rfl, ⟨obCt rfl, trivial⟩, wq rfl⟩ z0L fun i hi => ?_
 obtain ⟨hi, ha⟩ := hi
 apply sB <;> intro h1
 ·have h1 : i < c.T.length := by have := dT h1; omega
  refine ⟨⟨rfl, by omega, by omega⟩, ?_⟩
  apply sB <;> intro h2
  ·refine r1I rfl ?_
   exact (zao (p := fun t : Twr => t.ID == id) default h1 h2 ha).symm
  ·refine ⟨i6, ?_⟩
   refine ⟨i + 1, ⟨rfl, ⟨obCt rfl, trivial⟩, wq rfl⟩, ⟨h1, fun j hj => ?_⟩, (msr (by omega))⟩
   by_cases e : j = i
   ·subst e; exact h2
   ·exact ha j (by omega)
 have h1 : i = c.T.length := by have := dF h1; omega
 subst h1
 refine r1I rfl ?_
 exact (zaz (p := fun t : Twr => t.ID == id) default ha).symm
theorem zpJ (c : Ctry) (t : Int) (hn : c.Z.length <= 1000000) : Spec PP 329 [c.v, N t] [N (farZ t c.Z)] := by
 refine sA Tryz.func329 ?_
 refine LoopOb.of (σ := Nat) (fun i => ([(1, .d (I t)), (2, .box 2 0), (5, .d (I i))], [(2, bxCt c)])) (fun i => i <= c.Z.length /\ farZ t (c.Z.drop i) = farZ t c.Z) (fun i => c.Z.length - i) 0
  ⟨rfl, ⟨obCt rfl, trivial⟩, wq rfl⟩ ⟨Nat.zero_le _, rfl⟩ fun i hi => ?_
 obtain ⟨hi, ha⟩ := hi
 apply sB <;> intro h1
 ·have h1 : i < c.Z.length := by have := dT h1; omega
  have hd := zfU (t := t) h1
  refine ⟨⟨rfl, by omega, by omega⟩, ?_⟩
  apply sB <;> intro h2
  ·have h2 : (c.Z.getD i default).From <= t := dT h2
   refine ⟨⟨rfl, by omega, by omega⟩, ?_⟩
   refine sT ?_
   apply sB <;> intro h3
   ·have h3 : t <= (c.Z.getD i default).To := dT h3
    refine ⟨⟨rfl, by omega, by omega⟩, ?_⟩
    refine r1I rfl ?_
    rw [<- ha, hd, if_pos ⟨h2, h3⟩]; rfl
   ·have h3 : ¬ t <= (c.Z.getD i default).To := dF h3
    rw [if_neg fun h => h3 h.2] at hd
    refine ⟨i6, ?_⟩
    exact ⟨i + 1, ⟨rfl, ⟨obCt rfl, trivial⟩, wq rfl⟩, ⟨h1, by rw [<- hd]; exact ha⟩, (msr (by omega))⟩
  ·have h2 : ¬ (c.Z.getD i default).From <= t := dF h2
   refine sF (sF ?_)
   rw [if_neg fun h => h2 h.1] at hd
   refine ⟨i6, ?_⟩
   exact ⟨i + 1, ⟨rfl, ⟨obCt rfl, trivial⟩, wq rfl⟩, ⟨h1, by rw [<- hd]; exact ha⟩, (msr (by omega))⟩
 ·have h1 : i = c.Z.length := by have := dF h1; omega
  subst h1
  rw [List.drop_length] at ha
  refine r1I rfl ?_
  rw [<- ha]; rfl
theorem za0 (m : Mp) : validM m = (!(decide (m.W < 1) || decide (49 < m.W) || decide (m.H < 1) || decide (49 < m.H) || !decide ((m.G.length : Int) = m.W * m.H)) && !(m.G.any fun h => !within h 0 4000)) := by
 rw [Bool.eq_iff_iff]
 unfold validM within
 simp only [Bool.and_eq_true, Bool.not_eq_true', Bool.or_eq_false_iff, decide_eq_true_eq, decide_eq_false_iff_not, beq_iff_eq, Bool.not_eq_false', Bool.not_not]
 constructor
 ·intro h; exact ⟨by omega, h.2⟩
 ·intro h; exact ⟨by omega, h.2⟩
theorem zlB (m : Mp) : Spec PP 251 [m.v] [B (validM m)] := by
 refine sA Tryz.func251 ?_
 apply sB <;> intro k0
 ·have k0 : decide (m.W < 1) = true := k0
  refine sT (sT (sT (sT (sT (sT (sT (sT ?_)))))))
  refine r1B rfl ?_
  rw [za0]; simp only [k0, Bool.or_true, Bool.true_or, Bool.not_true, Bool.false_and]
 have k0 : decide (m.W < 1) = false := k0
 refine sF ?_
 apply sB <;> intro k1
 ·have k1 : decide (49 < m.W) = true := k1
  refine sT (sT (sT (sT (sT (sT ?_)))))
  refine r1B rfl ?_
  rw [za0]; simp only [k0, k1, Bool.or_true, Bool.true_or, Bool.not_true, Bool.false_and]
 have k1 : decide (49 < m.W) = false := k1
 refine sF ?_
 apply sB <;> intro k2
 ·have k2 : decide (m.H < 1) = true := k2
  refine sT (sT (sT (sT ?_)))
  refine r1B rfl ?_
  rw [za0]; simp only [k0, k1, k2, Bool.or_true, Bool.true_or, Bool.not_true, Bool.false_and]
 have k2 : decide (m.H < 1) = false := k2
 refine sF ?_
 apply sB <;> intro k3
 ·have k3 : decide (49 < m.H) = true := k3
  refine sT (sT ?_)
  refine r1B rfl ?_
  rw [za0]; simp only [k0, k1, k2, k3, Bool.or_true, Bool.true_or, Bool.not_true, Bool.false_and]
 have k3 : decide (49 < m.H) = false := k3
 have b1 : 1 <= m.W /\ m.W <= 49 := by have := of_decide_eq_false k0; have := of_decide_eq_false k1; omega
 have b2 : 1 <= m.H /\ m.H <= 49 := by have := of_decide_eq_false k2; have := of_decide_eq_false k3; omega
 have b3 := mulB (a := m.W) (b := m.H) (x := 49) (y := 49) (by omega) (by omega)
 refine ⟨i6, ?_⟩
 refine sF ?_
 apply sB <;> intro k4
 ·have k4 : (m.G.length : Int) ≠ m.W * m.H := by simpa using k4
  refine r1B rfl ?_
  rw [za0, decide_eq_false k4]; simp
 have k4 : (m.G.length : Int) = m.W * m.H := by simpa using k4
 have e0 : validM m = !(m.G.any fun h => !within h 0 4000) := by rw [za0, k0, k1, k2, k3, decide_eq_true k4]; simp
 refine LoopOb.of (σ := Nat) (fun i => ([(1, .box 1 0), (3, .d (I i))], [(1, .box (m.ds.map AV.d))])) (fun i => i <= m.G.length /\ ∀ j, j < i -> within (m.G.getD j 0) 0 4000 = true) (fun i => m.G.length - i) 0
  ⟨rfl, ⟨obD m.ds rfl, trivial⟩, wq rfl⟩ z0L fun i hi => ?_
 obtain ⟨hi, ha⟩ := hi
 apply sB <;> intro h1
 ·have h1 : i < m.G.length := by have := dT h1; omega
  have bad : within (m.G.getD i 0) 0 4000 = false -> validM m = false := fun h => by
   rw [e0, List.any_eq_true.2 ⟨_, gd1 h1 0, by rw [h]; rfl⟩]; rfl
  refine ⟨⟨rfl, by omega, by omega⟩, ?_⟩
  apply sB <;> intro h2
  ·have h2 : m.G.getD i 0 < 0 := dT h2
   refine sT (sT ?_)
   refine r1B rfl ?_
   exact (bad (by unfold within; rw [decide_eq_false (by omega)]; rfl)).symm
  ·have h2 : ¬ m.G.getD i 0 < 0 := dF h2
   refine ⟨⟨rfl, by omega, by omega⟩, ?_⟩
   refine sF ?_
   apply sB <;> intro h3
   ·have h3 : 4000 < m.G.getD i 0 := dT h3
    refine r1B rfl ?_
    exact (bad (by unfold within; rw [decide_eq_false (p := m.G.getD i 0 <= 4000) (by omega), Bool.and_false])).symm
   ·have h3 : ¬ 4000 < m.G.getD i 0 := dF h3
    refine ⟨i6, ?_⟩
    refine ⟨i + 1, ⟨rfl, ⟨obD m.ds rfl, trivial⟩, wq rfl⟩, ⟨h1, fun j hj => ?_⟩, (msr (by omega))⟩
    by_cases e : j = i
    ·subst e; exact zab.2 (by omega)
    ·exact ha j (by omega)
 ·have h1 : i = m.G.length := by have := dF h1; omega
  subst h1
  refine r1B rfl ?_
  rw [e0, znp 0 fun j hj => by rw [ha j hj]; rfl]; rfl
theorem zeL (n : Int) (hn : -1000000 <= n /\ n <= 1000000) : Spec PP 351 [N n] [N ((n.natAbs : Nat) : Int)] := by
 refine sA Tryz.func351 ?_
 refine ⟨i6, ?_⟩
 exact r1I rfl (by show max n (-n) = _; omega)
theorem za4 (l k : Int) : Spec PP 352 [N 0, N l, N k] [(Place.mk l k).v] := by
 refine sA Tryz.func352 ?_
 refine Split.no rfl ?_
 exact r1C rfl rfl rfl rfl rfl rfl (zbc rfl rfl)
theorem za3 (l k : Int) : Spec PP 352 [N 1, N l, N k] [(Place.mk k l).v] := by
 refine sA Tryz.func352 ?_
 refine Split.yes rfl ?_
 exact r1C rfl rfl rfl rfl rfl rfl (zbc rfl rfl)
theorem zb6 (m : Mp) (p : Place) (hv : validM m = true) (hp : onM m p = true) : Spec PP 347 [m.v, p.v] [N (grd m p)] := by
 obtain ⟨w, h, -, -⟩ := zaf hv
 obtain ⟨a1, a2⟩ := zac.1 hp
 have g := zaM hv hp
 have m1 := mulB (a := p.Y) (b := m.W) (x := 49) (y := 49) (by omega) (by omega)
 refine sA Tryz.func347 ?_
 refine ⟨i6, ⟨i6, ⟨⟨rfl, g.1.1, g.1.2⟩, ?_⟩⟩⟩
 exact r1I rfl rfl
def dvs (a b : Int) : Int := max ((Nat.gcd a.natAbs b.toNat : Nat) : Int) 1
theorem zig (a b : Int) (ha : -1000000000 <= a /\ a <= 1000000000) (hb : 0 <= b /\ b <= 1000000000) : Spec PP 354 [N a, N b] [N (dvs a b)] := by
 have loop : ∀ {s : St} {K : KK} (x0 : Nat), s.sl 0 = .d (.int .i64 x0) -> s.sl 1 = .d (.int .i64 b) -> True := fun _ _ _ => trivial
 refine sA Tryz.func354 ?_
 apply sB <;> intro h0
 ·have h0 : a < 0 := dT h0
  refine ⟨i6, ?_⟩
  refine LoopOb.of (σ := Nat × Nat) (fun p => ([(0, .d (I p.1)), (1, .d (I p.2))], [])) (fun p => Nat.gcd p.1 p.2 = Nat.gcd a.natAbs b.toNat /\ p.1 <= 1000000000 /\ p.2 <= 1000000000) (fun p => p.2) (a.natAbs, b.toNat)
   ⟨rfl, trivial, avI rfl (by omega), avI rfl (by omega), trivial⟩ ⟨rfl, by omega, by omega⟩ fun ⟨x, y⟩ ⟨hg, h1, h2⟩ => ?_
  dsimp only at hg h1 h2 ⊢
  apply sB <;> intro h3
  ·have h3 : 0 < y := by have := dT h3; omega
   refine oL (List.range 6) (FzOb.no ?_)
   refine ⟨by omega, ?_⟩
   have hlt := Nat.mod_lt x h3
   refine ⟨(y, x % y), ⟨rfl, trivial, avR _ rfl, avI rfl (by rw [Int.tmod_eq_emod_of_nonneg (by omega)]; rfl), trivial⟩, ⟨?_, h2, (show x % y <= 1000000000 by omega)⟩, hlt⟩
   dsimp only
   rw [<- hg, Nat.gcd_comm x y, Nat.gcd_rec y x, Nat.gcd_comm]
  ·have h3 : y = 0 := by have := dF h3; omega
   subst h3
   refine r1I rfl ?_
   unfold dvs
   rw [<- hg, Nat.gcd_zero_right]
 ·have h0 : ¬ a < 0 := dF h0
  refine LoopOb.of (σ := Nat × Nat) (fun p => ([(0, .d (I p.1)), (1, .d (I p.2))], [])) (fun p => Nat.gcd p.1 p.2 = Nat.gcd a.natAbs b.toNat /\ p.1 <= 1000000000 /\ p.2 <= 1000000000) (fun p => p.2) (a.natAbs, b.toNat)
   ⟨rfl, trivial, avI rfl (by omega), avI rfl (by omega), trivial⟩ ⟨rfl, by omega, by omega⟩ fun ⟨x, y⟩ ⟨hg, h1, h2⟩ => ?_
  dsimp only at hg h1 h2 ⊢
  apply sB <;> intro h3
  ·have h3 : 0 < y := by have := dT h3; omega
   refine oL (List.range 6) (FzOb.no ?_)
   refine ⟨by omega, ?_⟩
   have hlt := Nat.mod_lt x h3
   refine ⟨(y, x % y), ⟨rfl, trivial, avR _ rfl, avI rfl (by rw [Int.tmod_eq_emod_of_nonneg (by omega)]; rfl), trivial⟩, ⟨?_, h2, (show x % y <= 1000000000 by omega)⟩, hlt⟩
   dsimp only
   rw [<- hg, Nat.gcd_comm x y, Nat.gcd_rec y x, Nat.gcd_comm]
  ·have h3 : y = 0 := by have := dF h3; omega
   subst h3
   refine r1I rfl ?_
   unfold dvs
   rw [<- hg, Nat.gcd_zero_right]
def lowF (n d : Int) : Int × Int := (n.tdiv (dvs n d), d.tdiv (dvs n d))
theorem zdB (n d : Int) : 0 < dvs n d := by unfold dvs; omega
theorem zb9 {n d : Int} (hn : 0 <= n) (hd : 0 < d) : n = (lowF n d).1 * dvs n d /\ d = (lowF n d).2 * dvs n d := by
  have hg : 0 < Nat.gcd n.natAbs d.toNat := Nat.gcd_pos_of_pos_right _ (by omega)
  have e : dvs n d = ((Nat.gcd n.natAbs d.toNat : Nat) : Int) := by unfold dvs; omega
  obtain ⟨p, hp⟩ := Nat.gcd_dvd_left n.natAbs d.toNat
  obtain ⟨q, hq⟩ := Nat.gcd_dvd_right n.natAbs d.toNat
  generalize hG : Nat.gcd n.natAbs d.toNat = g at *
  have en : n = (g : Int) * p := by have : n = ((n.natAbs : Nat) : Int) := by omega
                                    rw [this, hp]; simp
  have ed : d = (g : Int) * q := by have : d = ((d.toNat : Nat) : Int) := by omega
                                    rw [this, hq]; simp
  unfold lowF
  dsimp only
  rw [e]
  refine ⟨?_, ?_⟩
  · conv => rhs; rw [en]
    rw [Int.mul_tdiv_cancel_left _ (by omega), Int.mul_comm]; exact en
  · conv => rhs; rw [ed]
    rw [Int.mul_tdiv_cancel_left _ (by omega), Int.mul_comm]; exact ed
theorem zgF {n d : Int} (hn : 0 <= n) (hd : 0 < d) : (0 <= (lowF n d).1 /\ (lowF n d).1 <= n) /\ (0 < (lowF n d).2 /\ (lowF n d).2 <= d) := by
 obtain ⟨e1, e2⟩ := zb9 hn hd
 have hg := zdB n d
 generalize dvs n d = g at *
 generalize (lowF n d).1 = p at *
 generalize (lowF n d).2 = q at *
 have p0 : 0 <= p := by
  rcases Int.lt_or_le p 0 with h | h
  ·have := Int.mul_neg_of_neg_of_pos h hg; omega
  ·exact h
 have q0 : 0 < q := by
  rcases Int.lt_or_le 0 q with h | h
  ·exact h
  ·have := Int.mul_nonpos_of_nonpos_of_nonneg h (Int.le_of_lt hg); omega
 have m1 := Int.mul_le_mul_of_nonneg_left (show 1 <= g by omega) p0
 have m2 := Int.mul_le_mul_of_nonneg_left (show 1 <= g by omega) (Int.le_of_lt q0)
 omega
theorem zaj (n d : Int) (hn : 0 <= n /\ n <= 1000000000) (hd : 0 < d /\ d <= 1000000000) : Spec PP 353 [N n, N d] [.agg [I (lowF n d).1, I (lowF n d).2]] := by
 have b := zgF hn.1 hd.1
 have hg := zdB n d
 refine sA Tryz.func353 ?_
 refine cP (zig n d (by omega) (by omega)) rfl rfl ?_
 have e1 : n.tdiv (dvs n d) = (lowF n d).1 := rfl
 have e2 : d.tdiv (dvs n d) = (lowF n d).2 := rfl
 refine oL (List.range 8) (FzOb.no ?_)
 refine ⟨⟨by omega, zat (by rw [e1]; omega) (by rw [e1]; omega)⟩, ⟨⟨by omega, zat (by rw [e2]; omega) (by rw [e2]; omega)⟩, ?_⟩⟩
 exact r1C rfl rfl rfl rfl rfl rfl (zbc rfl rfl)
structure Prf where
  ax : Int
  k : Int
  an : Int
  ad : Int
  gn : Int
  gd : Int
  deriving DecidableEq, Inhabited
abbrev Prf.ds (x : Prf) : List D := [I x.ax, I x.k, I x.an, I x.ad, I x.gn, I x.gd]
abbrev Prf.v (x : Prf) : V1 := .agg x.ds
def Prf.at (x : Prf) : Nat -> D
 | 0 => I x.ax
 | 1 => I x.k
 | 2 => I x.an
 | 3 => I x.ad
 | 4 => I x.gn
 | _ => I x.gd
def prfOf (p : Pnt) : Prf := ⟨p.ax, p.k, (lowF p.k p.n).1, (lowF p.k p.n).2, (lowF p.hi p.n).1, (lowF p.hi p.n).2⟩
structure PrfOk (x : Prf) : Prop where
  an : 0 <= x.an /\ x.an <= 48
  ad : 0 < x.ad /\ x.ad <= 48
  gn : 0 <= x.gn /\ x.gn <= 192000
  gd : 0 < x.gd /\ x.gd <= 48
  le : x.an <= x.ad
theorem zhp {p : Pnt} (h : PntOk p) (hn : 0 < p.n) : PrfOk (prfOf p) := by
 have b1 := zgF h.k.1 hn
 have b2 := zgF h.hi.1 hn
 have hk := h.k
 have hnn := h.n
 have hh := h.hi
 have e := zb9 h.k.1 hn
 have hg := zdB p.k p.n
 refine ⟨?_, ?_, ?_, ?_, ?_⟩ <;> show _ <;> unfold prfOf <;> dsimp only
 ·omega
 ·omega
 ·omega
 ·omega
 ·rcases Int.lt_or_le (lowF p.k p.n).2 (lowF p.k p.n).1 with h1 | h1
  ·have := Int.mul_lt_mul_of_pos_right h1 hg
   omega
  ·exact h1
def lsF (a b : Prf) : Bool := decide (a.an * b.ad < b.an * a.ad)
theorem zob (a b : Prf) (ha : PrfOk a) (hb : PrfOk b) : Spec PP 350 [.agg [I a.an, I a.ad], .agg [I b.an, I b.ad]] [B (lsF a b)] := by
 have a1 := ha.an
 have a2 := ha.ad
 have b1 := hb.an
 have b2 := hb.ad
 have m1 := mulB (a := a.an) (b := b.ad) (x := 48) (y := 48) (by omega) (by omega)
 have m2 := mulB (a := b.an) (b := a.ad) (x := 48) (y := 48) (by omega) (by omega)
 refine sA Tryz.func350 ?_
 refine ⟨i6, ⟨i6, ?_⟩⟩
 exact r1B rfl rfl
def ovF (x : Prf) (lo hi : Int) : Bool := decide ((lo * (x.ad - x.an) + hi * x.an) * x.gd < x.gn * x.ad)
theorem zn8 (x : Prf) (lo hi : Int) (hx : PrfOk x) (hl : 0 <= lo /\ lo <= 10000) (hh : 0 <= hi /\ hi <= 10000) : Spec PP 346 [x.v, N lo, N hi] [B (ovF x lo hi)] := by
 have a1 := hx.an
 have a2 := hx.ad
 have a3 := hx.gn
 have a4 := hx.gd
 have a5 := hx.le
 have m1 := mulB (a := x.gn) (b := x.ad) (x := 192000) (y := 48) (by omega) (by omega)
 have m2 := mulB (a := lo) (b := x.ad - x.an) (x := 10000) (y := 48) (by omega) (by omega)
 have m3 := mulB (a := hi) (b := x.an) (x := 10000) (y := 48) (by omega) (by omega)
 have m4 := mulB (a := lo * (x.ad - x.an) + hi * x.an) (b := x.gd) (x := 1000000) (y := 48) (by omega) (by omega)
 refine sA Tryz.func346 ?_
 refine ⟨i6, ⟨i6, ⟨i6, ⟨i6, ⟨i6, ⟨i6, ?_⟩⟩⟩⟩⟩⟩
 exact r1B rfl rfl
theorem zlF {m : Mp} {a b : Place} {ta tb : Int} {p : Pnt} (h : PntOk p) (hn : 0 < p.n) : ovF (prfOf p) (grd m a + ta) (grd m b + tb) = ovrB m a ta b tb p := by
 obtain ⟨e1, e2⟩ := zb9 h.k.1 hn
 obtain ⟨e3, e4⟩ := zb9 h.hi.1 hn
 have g1 := zdB p.k p.n
 have g2 := zdB p.hi p.n
 unfold ovF ovrB abvI prfOf
 dsimp only
 apply decide_eq_decide.2
 generalize dvs p.k p.n = u at *
 generalize dvs p.hi p.n = w at *
 generalize (lowF p.k p.n).1 = an at *
 generalize (lowF p.k p.n).2 = ad at *
 generalize (lowF p.hi p.n).1 = gn at *
 generalize (lowF p.hi p.n).2 = gd at *
 generalize grd m a + ta = A at *
 generalize grd m b + tb = C at *
 have k1 : (A * (ad - an) + C * an) * gd * (u * w) = (A * (p.n - p.k) + C * p.k) * p.n := by
  have x1 : A * (p.n - p.k) = A * (ad - an) * u := by rw [e1, e2]; grind
  have x2 : C * p.k = C * an * u := by rw [e1]; grind
  have x3 : p.n = gd * w := e4
  rw [x1, x2]
  conv => rhs; rw [x3]
  grind
 have k2 : gn * ad * (u * w) = p.hi * p.n := by
  conv => rhs; rw [e3, e2]
  grind
 have huw := Int.mul_pos g1 g2
 have s1 : (A * (ad - an) + C * an) * gd < gn * ad ↔ (A * (ad - an) + C * an) * gd * (u * w) < gn * ad * (u * w) := (Int.mul_lt_mul_right huw).symm
 have s2 : A * (p.n - p.k) + C * p.k < p.hi ↔ (A * (p.n - p.k) + C * p.k) * p.n < p.hi * p.n := (Int.mul_lt_mul_right hn).symm
 rw [s1, k1, k2, <- s2]
 have c1 : (p.n - p.k) * A = A * (p.n - p.k) := Int.mul_comm _ _
 have c2 : p.k * C = C * p.k := Int.mul_comm _ _
 rw [c1, c2]
 omega
theorem mix0 {m : Mp} {a b : Place} {k : Int} : (0 < (crsY a.X a.Y b.X b.Y k).tmod ((b.X - a.X).natAbs : Int) -> grd m ⟨(crsX a.X b.X k), ((crsY a.X a.Y b.X b.Y k).tdiv ((b.X - a.X).natAbs : Int))⟩ * (((b.X - a.X).natAbs : Int) - (crsY a.X a.Y b.X b.Y k).tmod ((b.X - a.X).natAbs : Int)) + grd m ⟨(crsX a.X b.X k), (((crsY a.X a.Y b.X b.Y k).tdiv ((b.X - a.X).natAbs : Int)) + 1)⟩ * (crsY a.X a.Y b.X b.Y k).tmod ((b.X - a.X).natAbs : Int) = (crs0 m a b k).hi)
  /\ ((crsY a.X a.Y b.X b.Y k).tmod ((b.X - a.X).natAbs : Int) = 0 -> grd m ⟨(crsX a.X b.X k), ((crsY a.X a.Y b.X b.Y k).tdiv ((b.X - a.X).natAbs : Int))⟩ * ((b.X - a.X).natAbs : Int) = (crs0 m a b k).hi) := by
 unfold crs0 crsH
 dsimp only
 refine ⟨fun h => ?_, fun h => ?_⟩
 ·rw [if_pos h, Int.mul_comm (grd m ⟨(crsX a.X b.X k), ((crsY a.X a.Y b.X b.Y k).tdiv ((b.X - a.X).natAbs : Int))⟩), Int.mul_comm (grd m ⟨(crsX a.X b.X k), (((crsY a.X a.Y b.X b.Y k).tdiv ((b.X - a.X).natAbs : Int)) + 1)⟩)]
 ·rw [if_neg (by omega), h, Int.sub_zero, Int.mul_comm]
theorem zgx (m : Mp) (a b : Place) (k : Int) (hv : validM m = true) (ha : onM m a = true) (hb : onM m b = true) (hk : 1 <= k /\ k <= 48) : Spec PP 349 [m.v, a.v, b.v, .agg [I 0, I k]] (if k < ((b.X - a.X).natAbs : Int) then [(prfOf (crs0 m a b k)).v, B true] else [.agg [I 0, I 0, I 0, I 0, I 0, I 0], B false]) := by
 obtain ⟨w, h, -, -⟩ := zaf hv
 obtain ⟨a1, a2⟩ := zac.1 ha
 obtain ⟨b1, b2⟩ := zac.1 hb
 by_cases hkn : k < ((b.X - a.X).natAbs : Int)
 ·rw [if_pos hkn]
  have C := zek (f0 := a.X) (f1 := a.Y) (t0 := b.X) (t1 := b.Y) (k := k) (lo := 0) (hi := m.H - 1) (by omega) (by omega) (by omega) ⟨hk.1, hkn⟩
  have m1 := mulB (a := b.Y - a.Y) (b := k) (x := 48) (y := 48) (by omega) (by omega)
  have m3 := mulB (a := a.Y) (b := ((b.X - a.X).natAbs : Int)) (x := 48) (y := 48) (by omega) (by omega)
  have hx := C.x
  have hw := C.w
  have hr := C.r
  have hu := C.u
  have eX := zgS (f0 := a.X) (t0 := b.X) (k := k) (by omega)
  have eY : a.Y * ((b.X - a.X).natAbs : Int) + (b.Y - a.Y) * k = crsY a.X a.Y b.X b.Y k := by unfold crsY; rw [Int.mul_comm (b.Y - a.Y) k]
  have o1 : onM m ⟨(crsX a.X b.X k), ((crsY a.X a.Y b.X b.Y k).tdiv ((b.X - a.X).natAbs : Int))⟩ = true := zac.2 (by dsimp only; omega)
  have d1 := (zaM hv o1).2
  have ok := zcB hv ha hb (k := k) ⟨hk.1, hkn⟩
  have mix := mix0 (m := m) (a := a) (b := b) (k := k)
  have en : (crs0 m a b k).n = ((b.X - a.X).natAbs : Int) := rfl
  have ekk : (crs0 m a b k).k = k := rfl
  have okh := ok.hi
  have m4 := mulB (a := grd m ⟨(crsX a.X b.X k), ((crsY a.X a.Y b.X b.Y k).tdiv ((b.X - a.X).natAbs : Int))⟩) (x := 4000) (y := 48) (by omega) (b := ((b.X - a.X).natAbs : Int)) (by omega)
  refine sA Tryz.func349 ?_
  refine ⟨i6, ⟨i6, ?_⟩⟩
  refine Split.no rfl ?_
  refine cP (zeL (b.X - a.X) (by omega)) rfl rfl ?_
  repeat first | apply sT | apply sF | refine Split.no rfl ?_
  apply sB <;> intro h1
  ·have : k < 1 := dT h1
   omega
  repeat first | apply sT | apply sF
  apply sB <;> intro h2
  ·have : ((b.X - a.X).natAbs : Int) <= k := dT h2
   omega
  refine Split.no rfl ?_
  apply sB <;> intro h3
  ·have h3 : b.X - a.X < 0 := dT h3
   have eX : a.X - k = crsX a.X b.X k := by rw [eX, if_neg (by omega)]
   refine ⟨i6, ?_⟩
   rw [eX]
   refine ⟨i6, ⟨i6, ⟨i6, ?_⟩⟩⟩
   rw [eY]
   refine ⟨⟨by omega, i6⟩, ⟨by omega, ?_⟩⟩
   refine oL (List.range 10) (FzOb.no ?_)
   refine oP (za4 (crsX a.X b.X k) ((crsY a.X a.Y b.X b.Y k).tdiv ((b.X - a.X).natAbs : Int))) rfl rfl ?_
   refine oP (zb6 m ⟨(crsX a.X b.X k), ((crsY a.X a.Y b.X b.Y k).tdiv ((b.X - a.X).natAbs : Int))⟩ hv o1) rfl rfl ?_
   refine ⟨i6, ?_⟩
   apply sB <;> intro h4
   ·have h4 : 0 < (crsY a.X a.Y b.X b.Y k).tmod ((b.X - a.X).natAbs : Int) := dT h4
    have hu1 := hu h4
    have o2 : onM m ⟨(crsX a.X b.X k), (((crsY a.X a.Y b.X b.Y k).tdiv ((b.X - a.X).natAbs : Int)) + 1)⟩ = true := zac.2 (by dsimp only; omega)
    have d2 := (zaM hv o2).2
    have m5 := mulB (a := grd m ⟨(crsX a.X b.X k), ((crsY a.X a.Y b.X b.Y k).tdiv ((b.X - a.X).natAbs : Int))⟩) (x := 4000) (y := 48) (by omega) (b := ((b.X - a.X).natAbs : Int) - (crsY a.X a.Y b.X b.Y k).tmod ((b.X - a.X).natAbs : Int)) (by omega)
    have m6 := mulB (a := grd m ⟨(crsX a.X b.X k), (((crsY a.X a.Y b.X b.Y k).tdiv ((b.X - a.X).natAbs : Int)) + 1)⟩) (x := 4000) (y := 48) (by omega) (b := (crsY a.X a.Y b.X b.Y k).tmod ((b.X - a.X).natAbs : Int)) (by omega)
    refine oL (List.range 23) (FzOb.no ?_)
    refine oP (za4 (crsX a.X b.X k) ((crsY a.X a.Y b.X b.Y k).tdiv ((b.X - a.X).natAbs : Int))) rfl rfl ?_
    refine oP (zb6 m ⟨(crsX a.X b.X k), ((crsY a.X a.Y b.X b.Y k).tdiv ((b.X - a.X).natAbs : Int))⟩ hv o1) rfl rfl ?_
    refine ⟨i6, ⟨i6, ⟨i6, ?_⟩⟩⟩
    refine oP (za4 (crsX a.X b.X k) ((crsY a.X a.Y b.X b.Y k).tdiv ((b.X - a.X).natAbs : Int) + 1)) rfl rfl ?_
    refine oP (zb6 m ⟨(crsX a.X b.X k), (((crsY a.X a.Y b.X b.Y k).tdiv ((b.X - a.X).natAbs : Int)) + 1)⟩ hv o2) rfl rfl ?_
    refine ⟨i6, ⟨i6, ?_⟩⟩
    rw [mix.1 h4]
    refine oL (List.range 10) (FzOb.no ?_)
    refine oP (zaj k ((b.X - a.X).natAbs : Int) (by omega) (by omega)) rfl rfl ?_
    refine oP (zaj (crs0 m a b k).hi ((b.X - a.X).natAbs : Int) (by omega) (by omega)) rfl rfl ?_
    exact ⟨rtC (a := 8) rfl rfl rfl rfl rfl rfl (zfX rfl rfl rfl rfl rfl rfl), rtB rfl rfl, trivial⟩
   ·have h4 : ¬ 0 < (crsY a.X a.Y b.X b.Y k).tmod ((b.X - a.X).natAbs : Int) := dF h4
    rw [mix.2 (by omega)]
    refine oL (List.range 10) (FzOb.no ?_)
    refine oP (zaj k ((b.X - a.X).natAbs : Int) (by omega) (by omega)) rfl rfl ?_
    refine oP (zaj (crs0 m a b k).hi ((b.X - a.X).natAbs : Int) (by omega) (by omega)) rfl rfl ?_
    exact ⟨rtC (a := 8) rfl rfl rfl rfl rfl rfl (zfX rfl rfl rfl rfl rfl rfl), rtB rfl rfl, trivial⟩
  ·have h3 : ¬ b.X - a.X < 0 := dF h3
   have eX : a.X + k = crsX a.X b.X k := by rw [eX, if_pos (by omega)]
   refine ⟨i6, ?_⟩
   rw [eX]
   refine ⟨i6, ⟨i6, ⟨i6, ?_⟩⟩⟩
   rw [eY]
   refine ⟨⟨by omega, i6⟩, ⟨by omega, ?_⟩⟩
   refine oL (List.range 10) (FzOb.no ?_)
   refine oP (za4 (crsX a.X b.X k) ((crsY a.X a.Y b.X b.Y k).tdiv ((b.X - a.X).natAbs : Int))) rfl rfl ?_
   refine oP (zb6 m ⟨(crsX a.X b.X k), ((crsY a.X a.Y b.X b.Y k).tdiv ((b.X - a.X).natAbs : Int))⟩ hv o1) rfl rfl ?_
   refine ⟨i6, ?_⟩
   apply sB <;> intro h4
   ·have h4 : 0 < (crsY a.X a.Y b.X b.Y k).tmod ((b.X - a.X).natAbs : Int) := dT h4
    have hu1 := hu h4
    have o2 : onM m ⟨(crsX a.X b.X k), (((crsY a.X a.Y b.X b.Y k).tdiv ((b.X - a.X).natAbs : Int)) + 1)⟩ = true := zac.2 (by dsimp only; omega)
    have d2 := (zaM hv o2).2
    have m5 := mulB (a := grd m ⟨(crsX a.X b.X k), ((crsY a.X a.Y b.X b.Y k).tdiv ((b.X - a.X).natAbs : Int))⟩) (x := 4000) (y := 48) (by omega) (b := ((b.X - a.X).natAbs : Int) - (crsY a.X a.Y b.X b.Y k).tmod ((b.X - a.X).natAbs : Int)) (by omega)
    have m6 := mulB (a := grd m ⟨(crsX a.X b.X k), (((crsY a.X a.Y b.X b.Y k).tdiv ((b.X - a.X).natAbs : Int)) + 1)⟩) (x := 4000) (y := 48) (by omega) (b := (crsY a.X a.Y b.X b.Y k).tmod ((b.X - a.X).natAbs : Int)) (by omega)
    refine oL (List.range 23) (FzOb.no ?_)
    refine oP (za4 (crsX a.X b.X k) ((crsY a.X a.Y b.X b.Y k).tdiv ((b.X - a.X).natAbs : Int))) rfl rfl ?_
    refine oP (zb6 m ⟨(crsX a.X b.X k), ((crsY a.X a.Y b.X b.Y k).tdiv ((b.X - a.X).natAbs : Int))⟩ hv o1) rfl rfl ?_
    refine ⟨i6, ⟨i6, ⟨i6, ?_⟩⟩⟩
    refine oP (za4 (crsX a.X b.X k) ((crsY a.X a.Y b.X b.Y k).tdiv ((b.X - a.X).natAbs : Int) + 1)) rfl rfl ?_
    refine oP (zb6 m ⟨(crsX a.X b.X k), (((crsY a.X a.Y b.X b.Y k).tdiv ((b.X - a.X).natAbs : Int)) + 1)⟩ hv o2) rfl rfl ?_
    refine ⟨i6, ⟨i6, ?_⟩⟩
    rw [mix.1 h4]
    refine oL (List.range 10) (FzOb.no ?_)
    refine oP (zaj k ((b.X - a.X).natAbs : Int) (by omega) (by omega)) rfl rfl ?_
    refine oP (zaj (crs0 m a b k).hi ((b.X - a.X).natAbs : Int) (by omega) (by omega)) rfl rfl ?_
    exact ⟨rtC (a := 8) rfl rfl rfl rfl rfl rfl (zfX rfl rfl rfl rfl rfl rfl), rtB rfl rfl, trivial⟩
   ·have h4 : ¬ 0 < (crsY a.X a.Y b.X b.Y k).tmod ((b.X - a.X).natAbs : Int) := dF h4
    rw [mix.2 (by omega)]
    refine oL (List.range 10) (FzOb.no ?_)
    refine oP (zaj k ((b.X - a.X).natAbs : Int) (by omega) (by omega)) rfl rfl ?_
    refine oP (zaj (crs0 m a b k).hi ((b.X - a.X).natAbs : Int) (by omega) (by omega)) rfl rfl ?_
    exact ⟨rtC (a := 8) rfl rfl rfl rfl rfl rfl (zfX rfl rfl rfl rfl rfl rfl), rtB rfl rfl, trivial⟩
 ·rw [if_neg hkn]
  refine sA Tryz.func349 ?_
  refine ⟨i6, ⟨i6, ?_⟩⟩
  refine Split.no rfl ?_
  refine cP (zeL (b.X - a.X) (by omega)) rfl rfl ?_
  repeat first | apply sT | apply sF | refine Split.no rfl ?_
  apply sB <;> intro h1
  ·have : k < 1 := dT h1
   omega
  repeat first | apply sT | apply sF
  apply sB <;> intro h2
  ·exact ⟨rtC (a := 8) rfl rfl rfl rfl rfl rfl (zaa _), rtB rfl rfl, trivial⟩
  ·have : ¬ ((b.X - a.X).natAbs : Int) <= k := dF h2
   omega
theorem mix1 {m : Mp} {a b : Place} {k : Int} : (0 < (crsY a.Y a.X b.Y b.X k).tmod ((b.Y - a.Y).natAbs : Int) -> grd m ⟨((crsY a.Y a.X b.Y b.X k).tdiv ((b.Y - a.Y).natAbs : Int)), (crsX a.Y b.Y k)⟩ * (((b.Y - a.Y).natAbs : Int) - (crsY a.Y a.X b.Y b.X k).tmod ((b.Y - a.Y).natAbs : Int)) + grd m ⟨(((crsY a.Y a.X b.Y b.X k).tdiv ((b.Y - a.Y).natAbs : Int)) + 1), (crsX a.Y b.Y k)⟩ * (crsY a.Y a.X b.Y b.X k).tmod ((b.Y - a.Y).natAbs : Int) = (crs1 m a b k).hi)
  /\ ((crsY a.Y a.X b.Y b.X k).tmod ((b.Y - a.Y).natAbs : Int) = 0 -> grd m ⟨((crsY a.Y a.X b.Y b.X k).tdiv ((b.Y - a.Y).natAbs : Int)), (crsX a.Y b.Y k)⟩ * ((b.Y - a.Y).natAbs : Int) = (crs1 m a b k).hi) := by
 unfold crs1 crsH
 dsimp only
 refine ⟨fun h => ?_, fun h => ?_⟩
 ·rw [if_pos h, Int.mul_comm (grd m ⟨((crsY a.Y a.X b.Y b.X k).tdiv ((b.Y - a.Y).natAbs : Int)), (crsX a.Y b.Y k)⟩), Int.mul_comm (grd m ⟨(((crsY a.Y a.X b.Y b.X k).tdiv ((b.Y - a.Y).natAbs : Int)) + 1), (crsX a.Y b.Y k)⟩)]
 ·rw [if_neg (by omega), h, Int.sub_zero, Int.mul_comm]
theorem zgw (m : Mp) (a b : Place) (k : Int) (hv : validM m = true) (ha : onM m a = true) (hb : onM m b = true) (hk : 1 <= k /\ k <= 48) : Spec PP 349 [m.v, a.v, b.v, .agg [I 1, I k]] (if k < ((b.Y - a.Y).natAbs : Int) then [(prfOf (crs1 m a b k)).v, B true] else [.agg [I 0, I 0, I 0, I 0, I 0, I 0], B false]) := by
 obtain ⟨w, h, -, -⟩ := zaf hv
 obtain ⟨a1, a2⟩ := zac.1 ha
 obtain ⟨b1, b2⟩ := zac.1 hb
 by_cases hkn : k < ((b.Y - a.Y).natAbs : Int)
 ·rw [if_pos hkn]
  have C := zek (f0 := a.Y) (f1 := a.X) (t0 := b.Y) (t1 := b.X) (k := k) (lo := 0) (hi := m.W - 1) (by omega) (by omega) (by omega) ⟨hk.1, hkn⟩
  have m1 := mulB (a := b.X - a.X) (b := k) (x := 48) (y := 48) (by omega) (by omega)
  have m3 := mulB (a := a.X) (b := ((b.Y - a.Y).natAbs : Int)) (x := 48) (y := 48) (by omega) (by omega)
  have hx := C.x
  have hw := C.w
  have hr := C.r
  have hu := C.u
  have eX := zgS (f0 := a.Y) (t0 := b.Y) (k := k) (by omega)
  have eY : a.X * ((b.Y - a.Y).natAbs : Int) + (b.X - a.X) * k = crsY a.Y a.X b.Y b.X k := by unfold crsY; rw [Int.mul_comm (b.X - a.X) k]
  have o1 : onM m ⟨((crsY a.Y a.X b.Y b.X k).tdiv ((b.Y - a.Y).natAbs : Int)), (crsX a.Y b.Y k)⟩ = true := zac.2 (by dsimp only; omega)
  have d1 := (zaM hv o1).2
  have ok := zcA hv ha hb (k := k) ⟨hk.1, hkn⟩
  have mix := mix1 (m := m) (a := a) (b := b) (k := k)
  have en : (crs1 m a b k).n = ((b.Y - a.Y).natAbs : Int) := rfl
  have ekk : (crs1 m a b k).k = k := rfl
  have okh := ok.hi
  have m4 := mulB (a := grd m ⟨((crsY a.Y a.X b.Y b.X k).tdiv ((b.Y - a.Y).natAbs : Int)), (crsX a.Y b.Y k)⟩) (x := 4000) (y := 48) (by omega) (b := ((b.Y - a.Y).natAbs : Int)) (by omega)
  refine sA Tryz.func349 ?_
  refine ⟨i6, ⟨i6, ?_⟩⟩
  refine Split.yes rfl ?_
  refine cP (zeL (b.Y - a.Y) (by omega)) rfl rfl ?_
  repeat first | apply sT | apply sF | refine Split.no rfl ?_
  apply sB <;> intro h1
  ·have : k < 1 := dT h1
   omega
  repeat first | apply sT | apply sF
  apply sB <;> intro h2
  ·have : ((b.Y - a.Y).natAbs : Int) <= k := dT h2
   omega
  refine Split.yes rfl ?_
  apply sB <;> intro h3
  ·have h3 : b.Y - a.Y < 0 := dT h3
   have eX : a.Y - k = crsX a.Y b.Y k := by rw [eX, if_neg (by omega)]
   refine ⟨i6, ?_⟩
   rw [eX]
   refine ⟨i6, ⟨i6, ⟨i6, ?_⟩⟩⟩
   rw [eY]
   refine ⟨⟨by omega, i6⟩, ⟨by omega, ?_⟩⟩
   refine oL (List.range 10) (FzOb.no ?_)
   refine oP (za3 (crsX a.Y b.Y k) ((crsY a.Y a.X b.Y b.X k).tdiv ((b.Y - a.Y).natAbs : Int))) rfl rfl ?_
   refine oP (zb6 m ⟨((crsY a.Y a.X b.Y b.X k).tdiv ((b.Y - a.Y).natAbs : Int)), (crsX a.Y b.Y k)⟩ hv o1) rfl rfl ?_
   refine ⟨i6, ?_⟩
   apply sB <;> intro h4
   ·have h4 : 0 < (crsY a.Y a.X b.Y b.X k).tmod ((b.Y - a.Y).natAbs : Int) := dT h4
    have hu1 := hu h4
    have o2 : onM m ⟨(((crsY a.Y a.X b.Y b.X k).tdiv ((b.Y - a.Y).natAbs : Int)) + 1), (crsX a.Y b.Y k)⟩ = true := zac.2 (by dsimp only; omega)
    have d2 := (zaM hv o2).2
    have m5 := mulB (a := grd m ⟨((crsY a.Y a.X b.Y b.X k).tdiv ((b.Y - a.Y).natAbs : Int)), (crsX a.Y b.Y k)⟩) (x := 4000) (y := 48) (by omega) (b := ((b.Y - a.Y).natAbs : Int) - (crsY a.Y a.X b.Y b.X k).tmod ((b.Y - a.Y).natAbs : Int)) (by omega)
    have m6 := mulB (a := grd m ⟨(((crsY a.Y a.X b.Y b.X k).tdiv ((b.Y - a.Y).natAbs : Int)) + 1), (crsX a.Y b.Y k)⟩) (x := 4000) (y := 48) (by omega) (b := (crsY a.Y a.X b.Y b.X k).tmod ((b.Y - a.Y).natAbs : Int)) (by omega)
    refine oL (List.range 23) (FzOb.no ?_)
    refine oP (za3 (crsX a.Y b.Y k) ((crsY a.Y a.X b.Y b.X k).tdiv ((b.Y - a.Y).natAbs : Int))) rfl rfl ?_
    refine oP (zb6 m ⟨((crsY a.Y a.X b.Y b.X k).tdiv ((b.Y - a.Y).natAbs : Int)), (crsX a.Y b.Y k)⟩ hv o1) rfl rfl ?_
    refine ⟨i6, ⟨i6, ⟨i6, ?_⟩⟩⟩
    refine oP (za3 (crsX a.Y b.Y k) ((crsY a.Y a.X b.Y b.X k).tdiv ((b.Y - a.Y).natAbs : Int) + 1)) rfl rfl ?_
    refine oP (zb6 m ⟨(((crsY a.Y a.X b.Y b.X k).tdiv ((b.Y - a.Y).natAbs : Int)) + 1), (crsX a.Y b.Y k)⟩ hv o2) rfl rfl ?_
    refine ⟨i6, ⟨i6, ?_⟩⟩
    rw [mix.1 h4]
    refine oL (List.range 10) (FzOb.no ?_)
    refine oP (zaj k ((b.Y - a.Y).natAbs : Int) (by omega) (by omega)) rfl rfl ?_
    refine oP (zaj (crs1 m a b k).hi ((b.Y - a.Y).natAbs : Int) (by omega) (by omega)) rfl rfl ?_
    exact ⟨rtC (a := 8) rfl rfl rfl rfl rfl rfl (zfX rfl rfl rfl rfl rfl rfl), rtB rfl rfl, trivial⟩
   ·have h4 : ¬ 0 < (crsY a.Y a.X b.Y b.X k).tmod ((b.Y - a.Y).natAbs : Int) := dF h4
    rw [mix.2 (by omega)]
    refine oL (List.range 10) (FzOb.no ?_)
    refine oP (zaj k ((b.Y - a.Y).natAbs : Int) (by omega) (by omega)) rfl rfl ?_
    refine oP (zaj (crs1 m a b k).hi ((b.Y - a.Y).natAbs : Int) (by omega) (by omega)) rfl rfl ?_
    exact ⟨rtC (a := 8) rfl rfl rfl rfl rfl rfl (zfX rfl rfl rfl rfl rfl rfl), rtB rfl rfl, trivial⟩
  ·have h3 : ¬ b.Y - a.Y < 0 := dF h3
   have eX : a.Y + k = crsX a.Y b.Y k := by rw [eX, if_pos (by omega)]
   refine ⟨i6, ?_⟩
   rw [eX]
   refine ⟨i6, ⟨i6, ⟨i6, ?_⟩⟩⟩
   rw [eY]
   refine ⟨⟨by omega, i6⟩, ⟨by omega, ?_⟩⟩
   refine oL (List.range 10) (FzOb.no ?_)
   refine oP (za3 (crsX a.Y b.Y k) ((crsY a.Y a.X b.Y b.X k).tdiv ((b.Y - a.Y).natAbs : Int))) rfl rfl ?_
   refine oP (zb6 m ⟨((crsY a.Y a.X b.Y b.X k).tdiv ((b.Y - a.Y).natAbs : Int)), (crsX a.Y b.Y k)⟩ hv o1) rfl rfl ?_
   refine ⟨i6, ?_⟩
   apply sB <;> intro h4
   ·have h4 : 0 < (crsY a.Y a.X b.Y b.X k).tmod ((b.Y - a.Y).natAbs : Int) := dT h4
    have hu1 := hu h4
    have o2 : onM m ⟨(((crsY a.Y a.X b.Y b.X k).tdiv ((b.Y - a.Y).natAbs : Int)) + 1), (crsX a.Y b.Y k)⟩ = true := zac.2 (by dsimp only; omega)
    have d2 := (zaM hv o2).2
    have m5 := mulB (a := grd m ⟨((crsY a.Y a.X b.Y b.X k).tdiv ((b.Y - a.Y).natAbs : Int)), (crsX a.Y b.Y k)⟩) (x := 4000) (y := 48) (by omega) (b := ((b.Y - a.Y).natAbs : Int) - (crsY a.Y a.X b.Y b.X k).tmod ((b.Y - a.Y).natAbs : Int)) (by omega)
    have m6 := mulB (a := grd m ⟨(((crsY a.Y a.X b.Y b.X k).tdiv ((b.Y - a.Y).natAbs : Int)) + 1), (crsX a.Y b.Y k)⟩) (x := 4000) (y := 48) (by omega) (b := (crsY a.Y a.X b.Y b.X k).tmod ((b.Y - a.Y).natAbs : Int)) (by omega)
    refine oL (List.range 23) (FzOb.no ?_)
    refine oP (za3 (crsX a.Y b.Y k) ((crsY a.Y a.X b.Y b.X k).tdiv ((b.Y - a.Y).natAbs : Int))) rfl rfl ?_
    refine oP (zb6 m ⟨((crsY a.Y a.X b.Y b.X k).tdiv ((b.Y - a.Y).natAbs : Int)), (crsX a.Y b.Y k)⟩ hv o1) rfl rfl ?_
    refine ⟨i6, ⟨i6, ⟨i6, ?_⟩⟩⟩
    refine oP (za3 (crsX a.Y b.Y k) ((crsY a.Y a.X b.Y b.X k).tdiv ((b.Y - a.Y).natAbs : Int) + 1)) rfl rfl ?_
    refine oP (zb6 m ⟨(((crsY a.Y a.X b.Y b.X k).tdiv ((b.Y - a.Y).natAbs : Int)) + 1), (crsX a.Y b.Y k)⟩ hv o2) rfl rfl ?_
    refine ⟨i6, ⟨i6, ?_⟩⟩
    rw [mix.1 h4]
    refine oL (List.range 10) (FzOb.no ?_)
    refine oP (zaj k ((b.Y - a.Y).natAbs : Int) (by omega) (by omega)) rfl rfl ?_
    refine oP (zaj (crs1 m a b k).hi ((b.Y - a.Y).natAbs : Int) (by omega) (by omega)) rfl rfl ?_
    exact ⟨rtC (a := 8) rfl rfl rfl rfl rfl rfl (zfX rfl rfl rfl rfl rfl rfl), rtB rfl rfl, trivial⟩
   ·have h4 : ¬ 0 < (crsY a.Y a.X b.Y b.X k).tmod ((b.Y - a.Y).natAbs : Int) := dF h4
    rw [mix.2 (by omega)]
    refine oL (List.range 10) (FzOb.no ?_)
    refine oP (zaj k ((b.Y - a.Y).natAbs : Int) (by omega) (by omega)) rfl rfl ?_
    refine oP (zaj (crs1 m a b k).hi ((b.Y - a.Y).natAbs : Int) (by omega) (by omega)) rfl rfl ?_
    exact ⟨rtC (a := 8) rfl rfl rfl rfl rfl rfl (zfX rfl rfl rfl rfl rfl rfl), rtB rfl rfl, trivial⟩
 ·rw [if_neg hkn]
  refine sA Tryz.func349 ?_
  refine ⟨i6, ⟨i6, ?_⟩⟩
  refine Split.yes rfl ?_
  refine cP (zeL (b.Y - a.Y) (by omega)) rfl rfl ?_
  repeat first | apply sT | apply sF | refine Split.no rfl ?_
  apply sB <;> intro h1
  ·have : k < 1 := dT h1
   omega
  repeat first | apply sT | apply sF
  apply sB <;> intro h2
  ·exact ⟨rtC (a := 8) rfl rfl rfl rfl rfl rfl (zaa _), rtB rfl rfl, trivial⟩
  ·have : ¬ ((b.Y - a.Y).natAbs : Int) <= k := dF h2
   omega
abbrev lPf (l : List Prf) : D := .slc 6 l.length fun i => (l.getD i default).at
abbrev rowPf (l : List Prf) : Nat -> Nat -> D := fun i => (l.getD i default).at
def posS (p : Prf) : List Prf -> Nat
 | [] => 0
 | a :: r => if posS p r = 0 /\ lsF p a = true then 0 else posS p r + 1
theorem zeP (p : Prf) : ∀ (L : List Prf) (k : Nat), k <= L.length -> (∀ j, k <= j -> j < L.length -> lsF p (L.getD j default) = true) -> (0 < k -> lsF p (L.getD (k - 1) default) = false) -> posS p L = k
 | [], k, h, _, _ => by simp at h; subst h; rfl
 | a :: r, 0, _, h1, _ => by
  have e := zeP p r 0 (Nat.zero_le _) (fun j _ hj => by simpa using h1 (j + 1) (by omega) (by simpa using hj)) (fun h => absurd h (Nat.lt_irrefl _))
  unfold posS
  rw [if_pos ⟨e, h1 0 (Nat.le_refl _) (by simp)⟩]
 | a :: r, k + 1, h, h1, h2 => by
  have e := zeP p r k (by simpa using h) (fun j hk hj => by simpa using h1 (j + 1) (by omega) (by simpa using hj)) (fun hk => by
   have := h2 (by omega)
   obtain ⟨d, rfl⟩ : ∃ d, k = d + 1 := ⟨k - 1, by omega⟩
   simpa using this)
  unfold posS
  rw [if_neg, e]
  rw [e]
  rintro ⟨rfl, h3⟩
  have := h2 (by omega)
  rw [show lsF p a = false from this] at h3
  cases h3
theorem zgC (p : Prf) : ∀ L : List Prf, posS p L <= L.length
 | [] => Nat.le_refl _
 | a :: r => by
  have := zgC p r
  unfold posS
  split
  ·simp
  ·simp; omega
def insF (L : List Prf) (p : Prf) : List Prf := L.take (posS p L) ++ p :: L.drop (posS p L)
theorem zhF (L : List Prf) (p : Prf) : (insF L p).length = L.length + 1 := by
 have := zgC p L
 unfold insF
 simp
 omega
theorem zl5 {L : List Prf} {p x : Prf} : x ∈ insF L p ↔ x ∈ L \/ x = p := by
 unfold insF
 rw [List.mem_append, List.mem_cons]
 constructor
 ·rintro (h | rfl | h)
  ·exact .inl (List.mem_of_mem_take h)
  ·exact .inr rfl
  ·exact .inl (List.mem_of_mem_drop h)
 ·rintro (h | rfl)
  ·rw [<- List.take_append_drop (posS p L) L] at h
   rcases List.mem_append.1 h with h | h
   ·exact .inl h
   ·exact .inr (.inr h)
  ·exact .inr (.inl rfl)
theorem zl6 (L : List Prf) (p : Prf) (m : Nat) : (insF L p).getD m default = if m < posS p L then L.getD m default else if m = posS p L then p else L.getD (m - 1) default := by
 have hl := zgC p L
 unfold insF
 rw [gdq]
 by_cases h1 : m < posS p L
 ·rw [if_pos h1, List.getElem?_append_left (by rw [List.length_take]; omega), List.getElem?_take, if_pos h1, <- gdq]
 ·rw [if_neg h1, List.getElem?_append_right (by rw [List.length_take]; omega), List.length_take]
  rw [show min (posS p L) L.length = posS p L by omega]
  by_cases h2 : m = posS p L
  ·rw [if_pos h2, h2, Nat.sub_self]; rfl
  ·rw [if_neg h2]
   obtain ⟨d, hd⟩ : ∃ d, m - posS p L = d + 1 := ⟨m - posS p L - 1, by omega⟩
   rw [hd, List.getElem?_cons_succ, List.getElem?_drop, show posS p L + d = m - 1 by omega, <- gdq]
def shL (L : List Prf) (p : Prf) (i m : Nat) : Prf := if m < i then L.getD m default else if m = i then (if i = L.length then p else L.getD i default) else L.getD (m - 1) default
def shR (L : List Prf) (p : Prf) (i : Nat) : Nat -> Nat -> D := fun m => (shL L p i m).at
theorem at6 {f : Nat -> D} {p : Prf} (h0 : f 0 = I p.ax) (h1 : f 1 = I p.k) (h2 : f 2 = I p.an) (h3 : f 3 = I p.ad) (h4 : f 4 = I p.gn) (h5 : f 5 = I p.gd) : ∀ j, j < 6 -> D.eqv (f j) (p.at j)
 | 0, _ => by rw [h0]; exact ⟨rfl, rfl⟩
 | 1, _ => by rw [h1]; exact ⟨rfl, rfl⟩
 | 2, _ => by rw [h2]; exact ⟨rfl, rfl⟩
 | 3, _ => by rw [h3]; exact ⟨rfl, rfl⟩
 | 4, _ => by rw [h4]; exact ⟨rfl, rfl⟩
 | 5, _ => by rw [h5]; exact ⟨rfl, rfl⟩
theorem zm4 {L : List Prf} {p : Prf} {g : Nat -> Nat -> D} (hg : ∀ j, j < 6 -> D.eqv (g 0 j) (p.at j)) : D.eqv (.slc 6 (L.length + 1) (appRow L.length (rowPf L) g)) (.slc 6 (L.length + 1) (shR L p L.length)) := by
 refine ⟨rfl, .inr ⟨rfl, fun m hm j hj => ?_⟩⟩
 show D.eqv (appRow L.length (rowPf L) g m j) (shR L p L.length m j)
 unfold appRow shR shL
 by_cases h : m < L.length
 ·rw [if_pos h, if_pos h]; exact dE _
 ·have e : m = L.length := by omega
  subst e
  rw [if_neg h, if_neg h, if_pos rfl, if_pos rfl, Nat.sub_self]
  exact hg j hj
def pntA (m : Mp) (a b : Place) (ax : Nat) (k : Int) : Pnt := if ax = 0 then crs0 m a b k else crs1 m a b k
def dAx (a b : Place) (ax : Nat) : Int := if ax = 0 then dX a b else dY a b
def linS (m : Mp) (a b : Place) (ax : Nat) (L : List Prf) : Nat -> List Prf
 | 0 => L
 | j + 1 => if ((j : Int) + 1) < dAx a b ax then insF (linS m a b ax L j) (prfOf (pntA m a b ax ((j : Int) + 1))) else linS m a b ax L j
def linU (m : Mp) (a b : Place) : Nat -> List Prf
 | 0 => []
 | i + 1 => linS m a b i (linU m a b i) 48
def linL (m : Mp) (a b : Place) : List Prf := linU m a b 2
theorem ze2 (m : Mp) (a b : Place) (ax : Nat) (L : List Prf) : ∀ j, (linS m a b ax L j).length <= L.length + j
 | 0 => Nat.le_refl _
 | j + 1 => by
  have := ze2 m a b ax L j
  unfold linS
  split
  ·rw [zhF]; omega
  ·omega
theorem ze1 (m : Mp) (a b : Place) : ∀ i, (linU m a b i).length <= i * 48
 | 0 => by simp [linU]
 | i + 1 => by
  have h1 := ze1 m a b i
  have h2 := ze2 m a b i (linU m a b i) 48
  unfold linU
  omega
theorem linS_mem {m : Mp} {a b : Place} {ax : Nat} {L : List Prf} {x : Prf} : ∀ {j}, x ∈ linS m a b ax L j ↔ x ∈ L \/ ∃ k : Nat, k < j /\ ((k : Int) + 1) < dAx a b ax /\ x = prfOf (pntA m a b ax ((k : Int) + 1))
 | 0 => by
  show x ∈ L ↔ _
  constructor
  ·exact .inl
  ·rintro (h | ⟨k, hk, _⟩)
   ·exact h
   ·exact absurd hk (Nat.not_lt_zero _)
 | j + 1 => by
  unfold linS
  split
  ·rename_i h
   rw [zl5, linS_mem]
   constructor
   ·rintro ((h1 | ⟨k, h1, h2⟩) | h1)
    ·exact .inl h1
    ·exact .inr ⟨k, by omega, h2⟩
    ·exact .inr ⟨j, by omega, h, h1⟩
   ·rintro (h1 | ⟨k, h1, h2, h3⟩)
    ·exact .inl (.inl h1)
    ·by_cases e : k = j
     ·subst e; exact .inr h3
     ·exact .inl (.inr ⟨k, by omega, h2, h3⟩)
  ·rename_i h
   rw [linS_mem]
   constructor
   ·rintro (h1 | ⟨k, h1, h2⟩)
    ·exact .inl h1
    ·exact .inr ⟨k, by omega, h2⟩
   ·rintro (h1 | ⟨k, h1, h2, h3⟩)
    ·exact .inl h1
    ·by_cases e : k = j
     ·subst e; exact absurd h2 h
     ·exact .inr ⟨k, by omega, h2, h3⟩
theorem zc2 {m : Mp} {a b : Place} {x : Prf} (hX : dX a b <= 48) (hY : dY a b <= 48) : x ∈ linL m a b ↔ (∃ k : Int, 1 <= k /\ k < dX a b /\ x = prfOf (crs0 m a b k)) \/ ∃ k : Int, 1 <= k /\ k < dY a b /\ x = prfOf (crs1 m a b k) := by
 unfold linL
 show x ∈ linS m a b 1 (linS m a b 0 [] 48) 48 ↔ _
 rw [linS_mem, linS_mem]
 constructor
 ·rintro ((h | ⟨k, h1, h2, h3⟩) | ⟨k, h1, h2, h3⟩)
  ·cases h
  ·exact .inl ⟨(k : Int) + 1, by omega, h2, h3⟩
  ·exact .inr ⟨(k : Int) + 1, by omega, h2, h3⟩
 ·rintro (⟨k, h1, h2, h3⟩ | ⟨k, h1, h2, h3⟩)
  ·refine .inl (.inr ⟨(k - 1).toNat, by omega, ?_, ?_⟩)
   ·rw [show (((k - 1).toNat : Nat) : Int) + 1 = k by omega]; exact h2
   ·rw [show (((k - 1).toNat : Nat) : Int) + 1 = k by omega]; exact h3
  ·refine .inr ⟨(k - 1).toNat, by omega, ?_, ?_⟩
   ·rw [show (((k - 1).toNat : Nat) : Int) + 1 = k by omega]; exact h2
   ·rw [show (((k - 1).toNat : Nat) : Int) + 1 = k by omega]; exact h3
theorem zeO {m : Mp} {a b : Place} {p : Pnt} : ∀ (n : Nat) (k0 k1 : Int), ptsN a b k0 k1 = n -> (p ∈ ptsF m a b n k0 k1 ↔ (∃ k : Int, k0 <= k /\ k < dX a b /\ p = crs0 m a b k) \/ ∃ k : Int, k1 <= k /\ k < dY a b /\ p = crs1 m a b k)
 | 0, k0, k1, hn => by
  unfold ptsN at hn
  constructor
  ·intro h; cases h
  ·rintro (⟨k, h1, h2, _⟩ | ⟨k, h1, h2, _⟩) <;> omega
 | n + 1, k0, k1, hn => by
  have hh : k0 < dX a b \/ k1 < dY a b := by unfold ptsN at hn; omega
  by_cases hc : dX a b <= k0 \/ (k1 < dY a b /\ k1 * dX a b < k0 * dY a b)
  ·have h1 : k1 < dY a b := by omega
   have e := zhm (a := a) (b := b) (k0 := k0) h1
   show p ∈ (if _ then (if _ then _ else _) else _) ↔ _
   rw [if_pos hh, if_pos hc, List.mem_cons, zeO n k0 (k1 + 1) (by omega)]
   constructor
   ·rintro (rfl | h | ⟨k, g1, g2, g3⟩)
    ·exact .inr ⟨k1, Int.le_refl _, h1, rfl⟩
    ·exact .inl h
    ·exact .inr ⟨k, by omega, g2, g3⟩
   ·rintro (h | ⟨k, g1, g2, g3⟩)
    ·exact .inr (.inl h)
    ·by_cases e : k = k1
     ·subst e; exact .inl g3
     ·exact .inr (.inr ⟨k, by omega, g2, g3⟩)
  ·have h0 : k0 < dX a b := by omega
   have e := zhn (a := a) (b := b) (k1 := k1) h0
   show p ∈ (if _ then (if _ then _ else _) else _) ↔ _
   rw [if_pos hh, if_neg hc, List.mem_cons, zeO n (k0 + 1) k1 (by omega)]
   constructor
   ·rintro (rfl | ⟨k, g1, g2, g3⟩ | h)
    ·exact .inl ⟨k0, Int.le_refl _, h0, rfl⟩
    ·exact .inl ⟨k, by omega, g2, g3⟩
    ·exact .inr h
   ·rintro (⟨k, g1, g2, g3⟩ | h)
    ·by_cases e : k = k0
     ·subst e; exact .inl g3
     ·exact .inr (.inl ⟨k, by omega, g2, g3⟩)
    ·exact .inr (.inr h)
theorem ptsL_mem {m : Mp} {a b : Place} {p : Pnt} : p ∈ ptsL m a b ↔ (∃ k : Int, 1 <= k /\ k < dX a b /\ p = crs0 m a b k) \/ ∃ k : Int, 1 <= k /\ k < dY a b /\ p = crs1 m a b k := zeO _ 1 1 rfl
theorem zlU {m : Mp} {a b : Place} {ta tb : Int} (hv : validM m = true) (ha : onM m a = true) (hb : onM m b = true) : ((linL m a b).any fun x => ovF x (grd m a + ta) (grd m b + tb)) = (ptsL m a b).any (ovrB m a ta b tb) := by
 have hd := zjC hv ha hb
 have hX : dX a b <= 48 := hd.2.2.1.2
 have hY : dY a b <= 48 := hd.2.2.2.2
 rw [Bool.eq_iff_iff, List.any_eq_true, List.any_eq_true]
 constructor
 ·rintro ⟨x, hx, ho⟩
  rcases (zc2 hX hY).1 hx with ⟨k, h1, h2, rfl⟩ | ⟨k, h1, h2, rfl⟩
  ·refine ⟨crs0 m a b k, ptsL_mem.2 (.inl ⟨k, h1, h2, rfl⟩), ?_⟩
   rw [zlF (zcB hv ha hb ⟨h1, h2⟩) (show 0 < dX a b by omega)] at ho; exact ho
  ·refine ⟨crs1 m a b k, ptsL_mem.2 (.inr ⟨k, h1, h2, rfl⟩), ?_⟩
   rw [zlF (zcA hv ha hb ⟨h1, h2⟩) (show 0 < dY a b by omega)] at ho; exact ho
 ·rintro ⟨p, hp, ho⟩
  rcases ptsL_mem.1 hp with ⟨k, h1, h2, rfl⟩ | ⟨k, h1, h2, rfl⟩
  ·refine ⟨prfOf (crs0 m a b k), (zc2 hX hY).2 (.inl ⟨k, h1, h2, rfl⟩), ?_⟩
   rw [zlF (zcB hv ha hb ⟨h1, h2⟩) (show 0 < dX a b by omega)]; exact ho
  ·refine ⟨prfOf (crs1 m a b k), (zc2 hX hY).2 (.inr ⟨k, h1, h2, rfl⟩), ?_⟩
   rw [zlF (zcA hv ha hb ⟨h1, h2⟩) (show 0 < dY a b by omega)]; exact ho
theorem zp3 {m : Mp} {a b : Place} (hv : validM m = true) (ha : onM m a = true) (hb : onM m b = true) : ∀ x ∈ linL m a b, PrfOk x := fun x hx => by
 have hd := zjC hv ha hb
 rcases (zc2 hd.2.2.1.2 hd.2.2.2.2).1 hx with ⟨k, h1, h2, rfl⟩ | ⟨k, h1, h2, rfl⟩
 ·exact zhp (zcB hv ha hb ⟨h1, h2⟩) (show 0 < dX a b by omega)
 ·exact zhp (zcA hv ha hb ⟨h1, h2⟩) (show 0 < dY a b by omega)
theorem zmU {L : List Prf} {Q : Prf} {kk q : Nat} (h : kk < q) (hq : q <= L.length) {z : Nat} (hz : z < 6) : getD' (shL L Q q ((q : Int) - 1).toNat).ds z = (L.getD (q - 1) default).at z := by
 have e : shL L Q q ((q : Int) - 1).toNat = L.getD (q - 1) default := by
  have e1 : ((q : Int) - 1).toNat = q - 1 := by omega
  rw [e1]
  unfold shL; rw [if_pos (by omega)]
 rw [e]
 have h6 : z = 0 \/ z = 1 \/ z = 2 \/ z = 3 \/ z = 4 \/ z = 5 := by omega
 rcases h6 with rfl | rfl | rfl | rfl | rfl | rfl <;> rfl
theorem zi3 {L : List Prf} {Q : Prf} {kk q : Nat} (h : kk < q) (hq : q <= L.length) {ys : List D} (hl : ys.length = 6) (hy : ∀ z, z < 6 -> getD' ys z = (L.getD (q - 1) default).at z) : D.eqv (.slc 6 (L.length + 1) (storeRow (shR L Q q) q 0 ys)) (.slc 6 (L.length + 1) (shR L Q (q - 1))) := by
 refine ⟨rfl, .inr ⟨rfl, fun n hn j hj => ?_⟩⟩
 show D.eqv (storeRow (shR L Q q) q 0 ys n j) (shR L Q (q - 1) n j)
 unfold storeRow
 by_cases h1 : n = q
 ·subst h1
  rw [if_pos ⟨rfl, Nat.zero_le _, by omega⟩, Nat.sub_zero, hy j hj]
  unfold shR shL
  rw [if_neg (by omega), if_neg (by omega)]
  exact dE _
 ·rw [if_neg fun hh => h1 hh.1]
  unfold shR shL
  by_cases h2 : n < q
  ·rw [if_pos h2]
   by_cases h3 : n < q - 1
   ·rw [if_pos h3]; exact dE _
   ·have e : n = q - 1 := by omega
    rw [if_neg h3, if_pos e, if_neg (by omega), e]; exact dE _
  ·rw [if_neg h2, if_neg h1, if_neg (by omega), if_neg (by omega)]; exact dE _
theorem zmV {L : List Prf} {Q : Prf} {q : Nat} (hp : posS Q L = q) {ys : List D} (hl : ys.length = 6) (hy : ∀ z, z < 6 -> D.eqv (getD' ys z) (Q.at z)) : D.eqv (.slc 6 (L.length + 1) (storeRow (shR L Q q) q 0 ys)) (.slc 6 (insF L Q).length (rowPf (insF L Q))) := by
 refine ⟨(zhF L Q).symm, .inr ⟨rfl, fun n hn j hj => ?_⟩⟩
 show D.eqv (storeRow (shR L Q q) q 0 ys n j) (((insF L Q).getD n default).at j)
 rw [zl6, hp]
 unfold storeRow
 by_cases h1 : n = q
 ·subst h1
  rw [if_pos ⟨rfl, Nat.zero_le _, by omega⟩, Nat.sub_zero, if_neg (Nat.lt_irrefl _), if_pos rfl]
  exact hy j hj
 ·rw [if_neg fun hh => h1 hh.1]
  unfold shR shL
  by_cases h2 : n < q
  ·rw [if_pos h2, if_pos h2]; exact dE _
  ·rw [if_neg h2, if_neg h1, if_neg h2, if_neg h1]; exact dE _
theorem zn7 (m : Mp) (a b : Place) (ax : Nat) (k : Int) (hv : validM m = true) (ha : onM m a = true) (hb : onM m b = true) (hax : ax < 2) (hk : 1 <= k /\ k <= 48) : Spec PP 349 [m.v, a.v, b.v, .agg [I ax, I k]] (if k < dAx a b ax then [(prfOf (pntA m a b ax k)).v, B true] else [.agg [I 0, I 0, I 0, I 0, I 0, I 0], B false]) := by
 have h : ax = 0 \/ ax = 1 := by omega
 rcases h with rfl | rfl
 ·exact zgx m a b k hv ha hb hk
 ·exact zgw m a b k hv ha hb hk
theorem zm7 {m : Mp} {a b : Place} {ax : Nat} {k : Int} (hv : validM m = true) (ha : onM m a = true) (hb : onM m b = true) (hax : ax < 2) (hk : 1 <= k /\ k < dAx a b ax) : PrfOk (prfOf (pntA m a b ax k)) := by
 have h : ax = 0 \/ ax = 1 := by omega
 rcases h with rfl | rfl
 ·have h2 : k < dX a b := hk.2
  exact zhp (zcB hv ha hb ⟨hk.1, h2⟩) (show 0 < dX a b by omega)
 ·have h2 : k < dY a b := hk.2
  exact zhp (zcA hv ha hb ⟨hk.1, h2⟩) (show 0 < dY a b by omega)
theorem zjT {m : Mp} {a b : Place} {i j : Nat} (hv : validM m = true) (ha : onM m a = true) (hb : onM m b = true) (hi : i < 2) (hU : ∀ x ∈ linU m a b i, PrfOk x) : ∀ x ∈ linS m a b i (linU m a b i) j, PrfOk x := fun x hx => by
 rcases linS_mem.1 hx with h | ⟨k, h1, h2, rfl⟩
 ·exact hU x h
 ·exact zm7 hv ha hb hi ⟨by omega, h2⟩
theorem zjS {m : Mp} {a b : Place} (hv : validM m = true) (ha : onM m a = true) (hb : onM m b = true) : ∀ i, i <= 2 -> ∀ x ∈ linU m a b i, PrfOk x
 | 0, _, x, hx => by cases hx
 | i + 1, hi, x, hx => zjT hv ha hb (by omega) (zjS hv ha hb i (by omega)) x hx
theorem zoa (m : Mp) (a b : Place) (hv : validM m = true) (ha : onM m a = true) (hb : onM m b = true) : Spec PP 345 [m.v, a.v, b.v] [.d (lPf (linL m a b))] := by
 refine sA Tryz.func345 ?_
 refine LoopOb.of (σ := Nat) (fun i => ([(3, .box 3 0), (4, .box 4 0), (5, .box 5 0), (7, .own 7), (8, .d (I i))], [(3, .box (m.ds.map AV.d)), (4, .box ([I a.X, I a.Y].map AV.d)), (5, .box ([I b.X, I b.Y].map AV.d)), (7, .row 430 6 (linU m a b i).length (rowPf (linU m a b i)))])) (fun i => i <= 2) (fun i => 2 - i) 0
  ⟨rfl, ⟨obD m.ds rfl, obD [I a.X, I a.Y] rfl, obD [I b.X, I b.Y] rfl, obR rfl ⟨rfl, .inl rfl⟩, trivial⟩, wq rfl⟩ (Nat.zero_le _) fun i hi => ?_
 apply sB <;> intro h0
 ·have h0 : i < 2 := by have : (i : Int) < 2 := dT h0; omega
  refine LoopOb.of (σ := Nat) (fun j => ([(3, .box 3 0), (4, .box 4 0), (5, .box 5 0), (7, .own 7), (8, .d (I i)), (9, .d (I ((j : Int) + 1)))], [(3, .box (m.ds.map AV.d)), (4, .box ([I a.X, I a.Y].map AV.d)), (5, .box ([I b.X, I b.Y].map AV.d)), (7, .row 430 6 (linS m a b i (linU m a b i) j).length (rowPf (linS m a b i (linU m a b i) j)))])) (fun j => j <= 48) (fun j => 48 - j) 0
   ⟨rfl, ⟨obD m.ds rfl, obD [I a.X, I a.Y] rfl, obD [I b.X, I b.Y] rfl, obR rfl (dE _), trivial⟩, wq rfl⟩ (Nat.zero_le _) fun j hj => ?_
  apply sB <;> intro h1
  ·have h1 : (j : Int) + 1 <= 48 := dT h1
   have hP := zn7 m a b i ((j : Int) + 1) hv ha hb h0 (by omega)
   by_cases hk : (j : Int) + 1 < dAx a b i
   ·rw [if_pos hk] at hP
    have eN : linS m a b i (linU m a b i) (j + 1) = insF (linS m a b i (linU m a b i) j) (prfOf (pntA m a b i ((j : Int) + 1))) := by
     show (if _ then _ else _) = _
     rw [if_pos hk]
    have hQ : PrfOk (prfOf (pntA m a b i ((j : Int) + 1))) := zm7 hv ha hb h0 ⟨by omega, hk⟩
    have hL := zjT (j := j) hv ha hb h0 (zjS hv ha hb i hi)
    refine cP hP rfl rfl ?_
    refine Split.no rfl ?_
    obtain ⟨Q, eQ⟩ : ∃ Q, Q = prfOf (pntA m a b i ((j : Int) + 1)) := ⟨_, rfl⟩
    rw [<- eQ] at hQ eN ⊢
    obtain ⟨L, eL⟩ : ∃ L, L = linS m a b i (linU m a b i) j := ⟨_, rfl⟩
    have L1 : L.length <= 1000 := by
     rw [eL]
     have a1 := ze2 m a b i (linU m a b i) j
     have a2 := ze1 m a b i
     omega
    rw [<- eL] at hL eN ⊢
    refine LoopOb.of (σ := Nat) (fun kk => ([(3, .box 3 0), (4, .box 4 0), (5, .box 5 0), (7, .own 7), (8, .d (I i)), (9, .d (I ((j : Int) + 1))), (10, .box 10 0), (12, .d (I kk))], [(3, .box (m.ds.map AV.d)), (4, .box ([I a.X, I a.Y].map AV.d)), (5, .box ([I b.X, I b.Y].map AV.d)), (10, .box (Q.ds.map AV.d)), (7, .row 430 6 L.length (rowPf L))])) (fun kk => kk <= L.length /\ ∀ z, kk <= z -> z < L.length -> lsF Q (L.getD z default) = true) (fun kk => kk) L.length
     ⟨rfl, ⟨obD m.ds rfl, obD [I a.X, I a.Y] rfl, obD [I b.X, I b.Y] rfl, obD Q.ds rfl, obR rfl (dE _), trivial⟩, wq rfl⟩ ⟨Nat.le_refl _, fun z h1 h2 => absurd h2 (by omega)⟩ fun kk hkk0 => ?_
    obtain ⟨hkk, hall⟩ := hkk0
    refine oL (List.range 13) (FzOb.no ?_)
    apply sB <;> intro h2
    ·have h2 : 0 < kk := by have := dT h2; omega
     refine ⟨i6, ⟨⟨by omega, by omega⟩, ?_⟩⟩
     have hm := gd1 (l := L) (i := kk - 1) (by omega) default
     have hz : ((kk : Int) - 1).toNat = kk - 1 := by omega
     refine ⟨by omega, ?_⟩
     rw [hz]
     refine oP (zob Q (L.getD (kk - 1) default) hQ (hL _ hm)) rfl rfl ?_
     refine sT ?_
     apply sB <;> intro h3
     ·have h3 : lsF Q (L.getD (kk - 1) default) = true := h3
      refine ⟨i6, ?_⟩
      refine ⟨kk - 1, ⟨rfl, ⟨obD m.ds rfl, obD [I a.X, I a.Y] rfl, obD [I b.X, I b.Y] rfl, obD Q.ds rfl, obR rfl (dE _), trivial⟩, avQ rfl, avQ rfl, avQ rfl, avQ rfl, avR _ rfl, avR _ rfl, avQ rfl, avI rfl (by omega), trivial⟩, ⟨by omega, fun z h4 h5 => ?_⟩, (show kk - 1 < kk by omega)⟩
      by_cases e : z = kk - 1
      ·subst e; exact h3
      ·exact hall z (by omega) h5
     ·have h3 : lsF Q (L.getD (kk - 1) default) = false := h3
      have hpos : posS Q L = kk := zeP Q L kk hkk hall fun _ => h3
      refine ⟨⟨.inr rfl, by simp only [maxLen]; omega, by dsimp only; omega⟩, ?_⟩
      refine ⟨i6, ?_⟩
      refine LoopOb.of (σ := Nat) (fun q => ([(3, .box 3 0), (4, .box 4 0), (5, .box 5 0), (7, .own 7), (8, .d (I i)), (9, .d (I ((j : Int) + 1))), (10, .box 10 0), (12, .d (I kk)), (13, .d (I q))], [(3, .box (m.ds.map AV.d)), (4, .box ([I a.X, I a.Y].map AV.d)), (5, .box ([I b.X, I b.Y].map AV.d)), (10, .box (Q.ds.map AV.d)), (7, .row 430 6 (L.length + 1) (shR L Q q))])) (fun q => kk <= q /\ q <= L.length) (fun q => q) L.length
       ⟨rfl, ⟨obD m.ds rfl, obD [I a.X, I a.Y] rfl, obD [I b.X, I b.Y] rfl, obD Q.ds rfl, obR rfl (zm4 (at6 rfl rfl rfl rfl rfl rfl)), trivial⟩, avQ rfl, avQ rfl, avQ rfl, avQ rfl, avR _ rfl, avR _ rfl, avQ rfl, avR _ rfl, avI rfl (by omega), trivial⟩ ⟨hkk, Nat.le_refl _⟩ fun q hq => ?_
      apply sB <;> intro h5
      ·have h5 : kk < q := by have := dT h5; omega
       refine ⟨i6, ⟨⟨by omega, by omega⟩, ⟨by omega, ⟨⟨by omega, by omega⟩, ⟨by omega, ?_⟩⟩⟩⟩⟩
       refine ⟨i6, ?_⟩
       exact ⟨q - 1, ⟨rfl, ⟨obD m.ds rfl, obD [I a.X, I a.Y] rfl, obD [I b.X, I b.Y] rfl, obD Q.ds rfl, obR rfl (zi3 h5 hq.2 rfl (fun z hz => zmU h5 hq.2 hz)), trivial⟩, avQ rfl, avQ rfl, avQ rfl, avQ rfl, avR _ rfl, avR _ rfl, avQ rfl, avR _ rfl, avI rfl (by omega), trivial⟩, (show kk <= q - 1 /\ q - 1 <= L.length by omega), (show q - 1 < q by omega)⟩
      ·have h5 : q = kk := by have := dF h5; omega
       subst h5
       refine ⟨⟨by omega, by omega⟩, ⟨by omega, ?_⟩⟩
       refine ⟨i6, ?_⟩
       exact ⟨j + 1, ⟨rfl, ⟨obD m.ds rfl, obD [I a.X, I a.Y] rfl, obD [I b.X, I b.Y] rfl, obR rfl (by rw [eN]; exact zmV hpos rfl (at6 rfl rfl rfl rfl rfl rfl)), trivial⟩, avQ rfl, avQ rfl, avQ rfl, avQ rfl, avR _ rfl, avI rfl (by omega), trivial⟩, (show j + 1 <= 48 by omega), (msr (by omega))⟩
    ·have h2 : kk = 0 := by have := dF h2; omega
     have hpos : posS Q L = kk := zeP Q L kk hkk hall fun h => by omega
     refine sF (sF ?_)
     refine ⟨⟨.inr rfl, by simp only [maxLen]; omega, by dsimp only; omega⟩, ?_⟩
     refine ⟨i6, ?_⟩
     refine LoopOb.of (σ := Nat) (fun q => ([(3, .box 3 0), (4, .box 4 0), (5, .box 5 0), (7, .own 7), (8, .d (I i)), (9, .d (I ((j : Int) + 1))), (10, .box 10 0), (12, .d (I kk)), (13, .d (I q))], [(3, .box (m.ds.map AV.d)), (4, .box ([I a.X, I a.Y].map AV.d)), (5, .box ([I b.X, I b.Y].map AV.d)), (10, .box (Q.ds.map AV.d)), (7, .row 430 6 (L.length + 1) (shR L Q q))])) (fun q => kk <= q /\ q <= L.length) (fun q => q) L.length
      ⟨rfl, ⟨obD m.ds rfl, obD [I a.X, I a.Y] rfl, obD [I b.X, I b.Y] rfl, obD Q.ds rfl, obR rfl (zm4 (at6 rfl rfl rfl rfl rfl rfl)), trivial⟩, avQ rfl, avQ rfl, avQ rfl, avQ rfl, avR _ rfl, avR _ rfl, avQ rfl, avR _ rfl, avI rfl (by omega), trivial⟩ ⟨hkk, Nat.le_refl _⟩ fun q hq => ?_
     apply sB <;> intro h5
     ·have h5 : kk < q := by have := dT h5; omega
      refine ⟨i6, ⟨⟨by omega, by omega⟩, ⟨by omega, ⟨⟨by omega, by omega⟩, ⟨by omega, ?_⟩⟩⟩⟩⟩
      refine ⟨i6, ?_⟩
      exact ⟨q - 1, ⟨rfl, ⟨obD m.ds rfl, obD [I a.X, I a.Y] rfl, obD [I b.X, I b.Y] rfl, obD Q.ds rfl, obR rfl (zi3 h5 hq.2 rfl (fun z hz => zmU h5 hq.2 hz)), trivial⟩, avQ rfl, avQ rfl, avQ rfl, avQ rfl, avR _ rfl, avR _ rfl, avQ rfl, avR _ rfl, avI rfl (by omega), trivial⟩, (show kk <= q - 1 /\ q - 1 <= L.length by omega), (show q - 1 < q by omega)⟩
     ·have h5 : q = kk := by have := dF h5; omega
      subst h5
      refine ⟨⟨by omega, by omega⟩, ⟨by omega, ?_⟩⟩
      refine ⟨i6, ?_⟩
      exact ⟨j + 1, ⟨rfl, ⟨obD m.ds rfl, obD [I a.X, I a.Y] rfl, obD [I b.X, I b.Y] rfl, obR rfl (by rw [eN]; exact zmV hpos rfl (at6 rfl rfl rfl rfl rfl rfl)), trivial⟩, avQ rfl, avQ rfl, avQ rfl, avQ rfl, avR _ rfl, avI rfl (by omega), trivial⟩, (show j + 1 <= 48 by omega), (msr (by omega))⟩
   ·rw [if_neg hk] at hP
    have eN : linS m a b i (linU m a b i) (j + 1) = linS m a b i (linU m a b i) j := by
     show (if _ then _ else _) = _
     rw [if_neg hk]
    refine cP hP rfl rfl ?_
    refine Split.yes rfl ?_
    refine ⟨i6, ?_⟩
    exact ⟨j + 1, ⟨rfl, ⟨obD m.ds rfl, obD [I a.X, I a.Y] rfl, obD [I b.X, I b.Y] rfl, obR rfl (by rw [eN]; exact dE _), trivial⟩, avQ rfl, avQ rfl, avQ rfl, avQ rfl, avR _ rfl, avI rfl (by omega), trivial⟩, (show j + 1 <= 48 by omega), (msr (by omega))⟩
  ·have h1 : j = 48 := by have : ¬ (j : Int) + 1 <= 48 := dF h1; omega
   subst h1
   refine ⟨i6, ?_⟩
   exact ⟨i + 1, ⟨rfl, ⟨obD m.ds rfl, obD [I a.X, I a.Y] rfl, obD [I b.X, I b.Y] rfl, obR rfl (dE _), trivial⟩, wq rfl⟩, (show i + 1 <= 2 by omega), (msr (by omega))⟩
 ·have h0 : i = 2 := by have : ¬ (i : Int) < 2 := dF h0; omega
  subst h0
  exact ⟨⟨_, _, _, _, rfl, dE _⟩, trivial⟩
def fstF (l : List Prf) (lo hi : Int) : (Int × Int) × Bool := if idxL (fun x => ovF x lo hi) l < 0 then ((0, 0), false) else (((l.getD (idxL (fun x => ovF x lo hi) l).toNat default).ax, (l.getD (idxL (fun x => ovF x lo hi) l).toNat default).k), true)
theorem zoJ (l : List Prf) (lo hi : Int) : (fstF l lo hi).2 = l.any fun x => ovF x lo hi := by
 unfold fstF
 have h := ze8 (fun x => ovF x lo hi) l default
 split
 ·rename_i h1
  symm
  refine Bool.eq_false_iff.2 fun h2 => ?_
  have := h.2 h2
  omega
 ·rename_i h1
  exact (h.1 (by omega)).symm
theorem zlA (m : Mp) (a b : Place) (up rise : Int) (hv : validM m = true) (ha : onM m a = true) (hb : onM m b = true) (hu : 0 <= up /\ up <= 1000) (hr : 0 <= rise /\ rise <= 1000) :
  Spec PP 341 [m.v, a.v, N up, b.v, N rise] [.agg [I (fstF (linL m a b) (grd m a + up) (grd m b + rise)).1.1, I (fstF (linL m a b) (grd m a + up) (grd m b + rise)).1.2], B (fstF (linL m a b) (grd m a + up) (grd m b + rise)).2] := by
 have hok := zp3 hv ha hb
 have ga := (zaM hv ha).2
 have gb := (zaM hv hb).2
 have hlen : (linL m a b).length <= 96 := ze1 m a b 2
 refine sA Tryz.func341 ?_
 refine CallSt.ro (zoa m a b hv ha hb) rfl rfl ?_
 generalize linL m a b = l at *
 refine LoopOb.of (σ := Nat) (fun i => ([(2, .d (I up)), (4, .d (I rise)), (5, .box 5 0), (6, .box 6 0), (8, .box 8 0), (10, .box 10 0), (12, .d (lPf l)), (13, .d (I i))], [(5, .box (m.ds.map AV.d)), (6, .box ([I a.X, I a.Y].map AV.d)), (8, .box ([I b.X, I b.Y].map AV.d)), (10, .box ([I 0, I 0].map AV.d))])) (fun i => i <= l.length /\ ∀ j, j < i -> ovF (l.getD j default) (grd m a + up) (grd m b + rise) = false) (fun i => l.length - i) 0
  ⟨rfl, ⟨obD m.ds rfl, obD [I a.X, I a.Y] rfl, obD [I b.X, I b.Y] rfl, obD [I 0, I 0] rfl, trivial⟩, wq rfl⟩ z0L fun i hi => ?_
 obtain ⟨hi, hall⟩ := hi
 apply sB <;> intro h1
 ·have h1 : i < l.length := by have := dT h1; omega
  refine oL (List.range 15) (FzOb.no ?_)
  refine ⟨⟨rfl, by omega, by omega⟩, ?_⟩
  refine oP (zb6 m a hv ha) rfl rfl ?_
  refine ⟨i6, ?_⟩
  refine oP (zb6 m b hv hb) rfl rfl ?_
  refine ⟨i6, ?_⟩
  refine oP (zn8 (l.getD i default) (grd m a + up) (grd m b + rise) (hok _ (gd1 h1 default)) (by omega) (by omega)) rfl rfl ?_
  apply sB <;> intro h2
  ·have e : idxL (fun x => ovF x (grd m a + up) (grd m b + rise)) l = (i : Int) := zao (p := fun x => ovF x (grd m a + up) (grd m b + rise)) default h1 h2 hall
   have e2 : fstF l (grd m a + up) (grd m b + rise) = (((l.getD i default).ax, (l.getD i default).k), true) := by unfold fstF; rw [e, if_neg (by omega)]; rfl
   rw [e2]
   refine ⟨⟨rfl, by omega, by omega⟩, ?_⟩
   exact ⟨rtC (a := 10) rfl rfl rfl rfl rfl rfl (zaa _), rtB rfl rfl, trivial⟩
  ·refine ⟨i6, ?_⟩
   refine ⟨i + 1, ⟨rfl, ⟨obD m.ds rfl, obD [I a.X, I a.Y] rfl, obD [I b.X, I b.Y] rfl, obD [I 0, I 0] rfl, trivial⟩, wq rfl⟩, ⟨h1, fun j hj => ?_⟩, (msr (by omega))⟩
   by_cases e : j = i
   ·subst e; exact h2
   ·exact hall j (by omega)
 ·have h1 : i = l.length := by have := dF h1; omega
  subst h1
  have e : idxL (fun x => ovF x (grd m a + up) (grd m b + rise)) l = -1 := zaz (p := fun x => ovF x (grd m a + up) (grd m b + rise)) default hall
  have e2 : fstF l (grd m a + up) (grd m b + rise) = ((0, 0), false) := by unfold fstF; rw [e]; rfl
  rw [e2]
  exact ⟨rtC (a := 10) rfl rfl rfl rfl rfl rfl (zaa _), rtB rfl rfl, trivial⟩
theorem zn6 (m : Mp) (t : Twr) (p : Place) (rise : Int) (hv : validM m = true) (ht : onM m t.At = true) (hp : onM m p = true) (hh : 0 <= t.H /\ t.H <= 200) (hr : 0 <= rise /\ rise <= 200) :
  Spec PP 332 [m.v, t.v, p.v, N rise] [B (freeB m t.At t.H p rise)] := by
 refine sA Tryz.func332 ?_
 refine cP (zlA m t.At p t.H rise hv ht hp (by omega) (by omega)) rfl rfl ?_
 refine r1B rfl ?_
 unfold freeB
 rw [zoJ, zlU hv ht hp]
theorem r4_in (c : Ctry) (t : Twr) (p : Place) (rise far : Int) (hv : validM c.M = true) (ht : TwrOk c t) (hp : onM c.M p = true) (hr : 0 <= rise /\ rise <= 200) (hf : 0 <= far /\ far <= 100) :
  Spec PP 328 [c.M.v, t.v, p.v, N rise, N far] [B (seesB c t p rise far)] := by
 refine sA Tryz.func328 ?_
 refine cP (zn9 t.At p far (zfC hv ht.on) (zfC hv hp) hf) rfl rfl ?_
 apply sB <;> intro h1
 ·have h1 : nearB t.At p far = true := h1
  refine cP (zn6 c.M t p rise hv ht.on hp ht.h hr) rfl rfl ?_
  refine sT ?_
  refine r1B rfl ?_
  unfold seesB; rw [h1]; rfl
 ·have h1 : nearB t.At p far = false := h1
  refine sF ?_
  refine r1B rfl ?_
  unfold seesB; rw [h1]; rfl
theorem zmR {T : List Twr} {i : Nat} (h : i < T.length) : towI T (T.getD i default).ID < i ↔ ((T.take i).any fun x => x.ID == (T.getD i default).ID) = true := by
 rcases idxL_cases (fun t : Twr => t.ID == (T.getD i default).ID) T default with ⟨_, h2⟩ | ⟨j, h1, h2, h3, h4⟩
 ·have := h2 i h
  simp at this
 ·unfold towI
  rw [h2, List.any_eq_true]
  constructor
  ·intro hj
   have hj : j < i := by omega
   refine ⟨T.getD j default, ?_, h3⟩
   have e : (T.take i).getD j default = T.getD j default := by
    rw [gdq, List.getElem?_take, if_pos hj, <- gdq]
   rw [<- e]
   exact gd1 (by rw [List.length_take]; omega) default
  ·rintro ⟨x, hx, hp⟩
   obtain ⟨q, hq, rfl⟩ := zbd default hx
   rw [List.length_take] at hq
   have e : (T.take i).getD q default = T.getD q default := by
    rw [gdq, List.getElem?_take, if_pos (by omega), <- gdq]
   rw [e] at hp
   rcases Nat.lt_or_ge q j with h5 | h5
   ·rw [h4 q h5] at hp; cases hp
   ·omega
theorem zcN {Z : List Hz} {j : Nat} (h : (Z.getD j default).From < 0 \/ (Z.getD j default).To < (Z.getD j default).From \/ 1048576 < (Z.getD j default).To \/ (Z.getD j default).From <= lastZ Z j \/ (Z.getD j default).Far < 0 \/ 100 < (Z.getD j default).Far) : hzE Z j = 1 := by
 unfold hzE
 refine if_pos (Classical.byContradiction fun h0 => ?_)
 simp only [Bool.or_eq_true, Bool.not_eq_true', not_or, Bool.not_eq_false, decide_eq_true_eq, zab] at h0
 omega
theorem zqc {Z : List Hz} {j : Nat} (h : ¬ ((Z.getD j default).From < 0 \/ (Z.getD j default).To < (Z.getD j default).From \/ 1048576 < (Z.getD j default).To \/ (Z.getD j default).From <= lastZ Z j \/ (Z.getD j default).Far < 0 \/ 100 < (Z.getD j default).Far)) : hzE Z j = 0 := by
 unfold hzE
 refine if_neg fun h0 => h ?_
 simp only [Bool.or_eq_true, Bool.not_eq_true', decide_eq_true_eq] at h0
 rcases h0 with ((h0 | h0) | h0) | h0
 ·have : ¬ (0 <= (Z.getD j default).From /\ (Z.getD j default).From <= (Z.getD j default).To) := fun hh => by rw [zab.2 hh] at h0; cases h0
  omega
 ·omega
 ·omega
 ·have : ¬ (0 <= (Z.getD j default).Far /\ (Z.getD j default).Far <= 100) := fun hh => by rw [zab.2 hh] at h0; cases h0
  omega
theorem zhk (c : Ctry) : Spec PP 190 [c.v] [.d (.int .i64 (ctryE c))] := by
 refine sA Tryz.func190 ?_
 refine cP (zlB c.M) rfl rfl ?_
 apply sB <;> intro h0
 ·have h0 : validM c.M = false := by
   have : (!validM c.M) = true := h0
   simpa using this
  refine r1I rfl ?_
  unfold ctryE; rw [if_pos h0]
 have h0 : validM c.M = true := by
  have : (!validM c.M) = false := h0
  simpa using this
 apply sB <;> intro h1
 ·have h1 : 12 < c.T.length := by have := dT h1; omega
  repeat first | apply sT | apply sF
  refine r1I rfl ?_
  unfold ctryE; rw [if_neg (by rw [h0]; decide), if_pos (.inl h1)]
 have h1 : ¬ 12 < c.T.length := by have := dF h1; omega
 repeat first | apply sT | apply sF
 apply sB <;> intro h2
 ·have h2 : 60 < c.Z.length := by have := dT h2; omega
  refine r1I rfl ?_
  unfold ctryE; rw [if_neg (by rw [h0]; decide), if_pos (.inr h2)]
 have h2 : ¬ 60 < c.Z.length := by have := dF h2; omega
 have e0 : ctryE c = if err1 (towE c) c.T.length ≠ 0 then err1 (towE c) c.T.length else err1 (hzE c.Z) c.Z.length := by unfold ctryE; rw [if_neg (by rw [h0]; decide), if_neg (by omega)]
 refine LoopOb.of (σ := Nat) (fun i => ([(1, .box 1 0), (3, .d (I i))], [(1, bxCt c)])) (fun i => i <= c.T.length /\ ∀ j, j < i -> towE c j = 0) (fun i => c.T.length - i) 0
  ⟨rfl, ⟨obCt rfl, trivial⟩, wq rfl⟩ z0L fun i hi => ?_
 obtain ⟨hi, ha⟩ := hi
 apply sB <;> intro h3
 ·have h3 : i < c.T.length := by have := dT h3; omega
  have bad : towE c i ≠ 0 -> ctryE c = towE c i := fun h => by
   have := zak ha h h3
   rw [e0, if_pos (by rw [this]; exact h), this]
  have bad1 : (!within (c.T.getD i default).ID 1 1099511627776 || !onM c.M (c.T.getD i default).At || !within (c.T.getD i default).H 0 200) = true -> ctryE c = 1 := fun h => by
   have : towE c i = 1 := by unfold towE; rw [if_pos h]
   rw [bad (by rw [this]; decide), this]
  refine ⟨⟨rfl, by omega, by omega⟩, ?_⟩
  apply sB <;> intro k1
  ·have k1 : (c.T.getD i default).ID < 1 := dT k1
   repeat first | apply sT | apply sF
   refine r1I rfl ?_
   rw [bad1 (by unfold within; rw [decide_eq_false (show ¬ 1 <= (c.T.getD i default).ID by omega)]; rfl)]
  have k1 : ¬ (c.T.getD i default).ID < 1 := dF k1
  repeat first | apply sT | apply sF
  apply sB <;> intro k2
  ·have k2 : 1099511627776 < (c.T.getD i default).ID := dT k2
   repeat first | apply sT | apply sF
   refine r1I rfl ?_
   rw [bad1 (by unfold within; rw [decide_eq_false (show ¬ (c.T.getD i default).ID <= 1099511627776 by omega), Bool.and_false]; rfl)]
  have k2 : ¬ 1099511627776 < (c.T.getD i default).ID := dF k2
  have w1 : within (c.T.getD i default).ID 1 1099511627776 = true := zab.2 (by omega)
  repeat first | apply sT | apply sF
  refine cP (zpK c.M (c.T.getD i default).At) rfl rfl ?_
  repeat first | apply sT | apply sF
  apply sB <;> intro k3
  ·have k3 : (!onM c.M (c.T.getD i default).At) = true := k3
   repeat first | apply sT | apply sF
   refine r1I rfl ?_
   rw [bad1 (by rw [k3, Bool.or_true]; rfl)]
  have k3 : (!onM c.M (c.T.getD i default).At) = false := k3
  repeat first | apply sT | apply sF
  refine cP (zjr (c.T.getD i default).H) rfl rfl ?_
  repeat first | apply sT | apply sF
  apply sB <;> intro k4
  ·have k4 : (!within (c.T.getD i default).H 0 200) = true := k4
   refine r1I rfl ?_
   rw [bad1 (by rw [k4, Bool.or_true])]
  have k4 : (!within (c.T.getD i default).H 0 200) = false := k4
  have eT : towE c i = if ((c.T.take i).any fun x => x.ID == (c.T.getD i default).ID) = true then 6 else 0 := by
   unfold towE; rw [if_neg (by rw [w1, k3, k4]; decide)]
  refine cP (zeb c (c.T.getD i default).ID (by omega)) rfl rfl ?_
  apply sB <;> intro k5
  ·have k5 : towI c.T (c.T.getD i default).ID < i := dT k5
   have e : towE c i = 6 := by rw [eT, if_pos ((zmR h3).1 k5)]
   refine r1I rfl ?_
   rw [bad (by rw [e]; decide), e]
  ·have k5 : ¬ towI c.T (c.T.getD i default).ID < i := dF k5
   have e : towE c i = 0 := by rw [eT, if_neg fun h => k5 ((zmR h3).2 h)]
   refine ⟨i6, ?_⟩
   refine ⟨i + 1, ⟨rfl, ⟨obCt rfl, trivial⟩, wq rfl⟩, ⟨h3, fun j hj => ?_⟩, (msr (by omega))⟩
   by_cases q : j = i
   ·subst q; exact e
   ·exact ha j (by omega)
 have h3 : i = c.T.length := by have := dF h3; omega
 subst h3
 have e1 : ctryE c = err1 (hzE c.Z) c.Z.length := by rw [e0, zaG ha]; rfl
 clear ha
 refine LoopOb.of (σ := Nat) (fun i => ([(1, .box 1 0), (5, .d (I i))], [(1, bxCt c)])) (fun i => i <= c.Z.length /\ ∀ j, j < i -> hzE c.Z j = 0) (fun i => c.Z.length - i) 0
  ⟨rfl, ⟨obCt rfl, trivial⟩, wq rfl⟩ z0L fun i hi => ?_
 obtain ⟨hi, ha⟩ := hi
 apply sB <;> intro h3
 ·have h3 : i < c.Z.length := by have := dT h3; omega
  have bad1 : hzE c.Z i = 1 -> ctryE c = 1 := fun h => by rw [e1, zak ha (by rw [h]; decide) h3, h]
  refine ⟨⟨rfl, by omega, by omega⟩, ?_⟩
  refine oL (List.range 41) (FzOb.no ?_)
  apply sB <;> intro k1
  ·have k1 : (c.Z.getD i default).From < 0 := dT k1
   repeat first | apply sT | apply sF
   refine r1I rfl ?_
   rw [bad1 (zcN (.inl k1))]
  have k1 : ¬ (c.Z.getD i default).From < 0 := dF k1
  repeat first | apply sT | apply sF
  apply sB <;> intro k2
  ·have k2 : (c.Z.getD i default).To < (c.Z.getD i default).From := dT k2
   repeat first | apply sT | apply sF
   refine r1I rfl ?_
   rw [bad1 (zcN (.inr (.inl k2)))]
  have k2 : ¬ (c.Z.getD i default).To < (c.Z.getD i default).From := dF k2
  repeat first | apply sT | apply sF
  apply sB <;> intro k3
  ·have k3 : 1048576 < (c.Z.getD i default).To := dT k3
   repeat first | apply sT | apply sF
   refine r1I rfl ?_
   rw [bad1 (zcN (.inr (.inr (.inl k3))))]
  have k3 : ¬ 1048576 < (c.Z.getD i default).To := dF k3
  repeat first | apply sT | apply sF
  apply sB <;> intro k4
  ·have k4 : 0 < i := by have : (0 : Int) < i := dT k4; omega
   have eL : lastZ c.Z i = (c.Z.getD (i - 1) default).To := by
    obtain ⟨d, rfl⟩ : ∃ d, i = d + 1 := ⟨i - 1, by omega⟩
    rfl
   have hz : ((i : Int) - 1).toNat = i - 1 := by omega
   refine ⟨i6, ⟨⟨rfl, by omega, by omega⟩, ?_⟩⟩
   rw [hz]
   refine sT ?_
   refine sF ?_
   apply sB <;> intro k5
   ·have k5 : (c.Z.getD i default).From <= (c.Z.getD (i - 1) default).To := dT k5
    repeat first | apply sT | apply sF
    refine r1I rfl ?_
    rw [bad1 (zcN (.inr (.inr (.inr (.inl (by rw [eL]; exact k5))))))]
   have k5 : ¬ (c.Z.getD i default).From <= (c.Z.getD (i - 1) default).To := dF k5
   repeat first | apply sT | apply sF
   apply sB <;> intro k6
   ·have k6 : (c.Z.getD i default).Far < 0 := dT k6
    repeat first | apply sT | apply sF
    refine r1I rfl ?_
    rw [bad1 (zcN (.inr (.inr (.inr (.inr (.inl k6))))))]
   have k6 : ¬ (c.Z.getD i default).Far < 0 := dF k6
   repeat first | apply sT | apply sF
   apply sB <;> intro k7
   ·have k7 : 100 < (c.Z.getD i default).Far := dT k7
    refine r1I rfl ?_
    rw [bad1 (zcN (.inr (.inr (.inr (.inr (.inr k7))))))]
   have k7 : ¬ 100 < (c.Z.getD i default).Far := dF k7
   have e : hzE c.Z i = 0 := zqc (by rw [eL]; omega)
   refine ⟨i6, ?_⟩
   refine ⟨i + 1, ⟨rfl, ⟨obCt rfl, trivial⟩, wq rfl⟩, ⟨h3, fun j hj => ?_⟩, (msr (by omega))⟩
   by_cases q : j = i
   ·subst q; exact e
   ·exact ha j (by omega)
  have k4 : i = 0 := by have : ¬ (0 : Int) < i := dF k4; omega
  subst k4
  repeat first | apply sT | apply sF
  apply sB <;> intro k6
  ·have k6 : (c.Z.getD 0 default).Far < 0 := dT k6
   repeat first | apply sT | apply sF
   refine r1I rfl ?_
   rw [bad1 (zcN (.inr (.inr (.inr (.inr (.inl k6))))))]
  have k6 : ¬ (c.Z.getD 0 default).Far < 0 := dF k6
  repeat first | apply sT | apply sF
  apply sB <;> intro k7
  ·have k7 : 100 < (c.Z.getD 0 default).Far := dT k7
   refine r1I rfl ?_
   rw [bad1 (zcN (.inr (.inr (.inr (.inr (.inr k7))))))]
  have k7 : ¬ 100 < (c.Z.getD 0 default).Far := dF k7
  have e : hzE c.Z 0 = 0 := zqc (by show ¬ (_ \/ _ \/ _ \/ _ <= (-1 : Int) \/ _ \/ _); omega)
  refine ⟨i6, ?_⟩
  refine ⟨0 + 1, ⟨rfl, ⟨obCt rfl, trivial⟩, wq rfl⟩, ⟨h3, fun j hj => ?_⟩, (msr (by omega))⟩
  obtain rfl : j = 0 := by omega
  exact e
 have h3 : i = c.Z.length := by have := dF h3; omega
 subst h3
 refine r1I rfl ?_
 rw [e1, zaG ha]
theorem zoc (c : Ctry) (id : Int) (p : Place) (h t : Int) : Spec PP 316 [c.v, N id, p.v, N h, N t] [B (seesE c id p h t).1, .d (.int .i64 (seesE c id p h t).2)] := by
 refine sA Tryz.func316 ?_
 refine cP (zhk c) rfl rfl ?_
 apply sB <;> intro h0
 ·have e : seesE c id p h t = (false, ctryE c) := by unfold seesE; rw [if_pos (by simpa using h0)]
  rw [e]; exact r2BI rfl rfl rfl rfl
 have h0 : ctryE c = 0 := by simpa using h0
 have ok := zdD h0
 refine cP (zeb c id (by have := ok.t; omega)) rfl rfl ?_
 apply sB <;> intro h1
 ·have h1 : towI c.T id < 0 := dT h1
  have e1 : (towG c.T id).2 = false := by unfold towG; rw [if_pos h1]
  have e : seesE c id p h t = (false, 5) := by unfold seesE; rw [if_neg (fun hh => hh h0), if_pos e1]
  rw [e]; exact r2BI rfl rfl rfl rfl
 have h1 : ¬ towI c.T id < 0 := dF h1
 have eG : towG c.T id = (c.T.getD (towI c.T id).toNat default, true) := by unfold towG; rw [if_neg h1]
 have e0 : seesE c id p h t = if (!onM c.M p || !within h 0 200 || !within t 0 1048576) = true then (false, 1) else (seesB c (c.T.getD (towI c.T id).toNat default) p h (farZ t c.Z), 0) := by unfold seesE; rw [if_neg (fun hh => hh h0), if_neg (by rw [eG]; exact fun hh => by cases hh), eG]
 refine cP (zpK c.M p) rfl rfl ?_
 apply sB <;> intro h2
 ·have h2 : (!onM c.M p) = true := h2
  repeat first | apply sT | apply sF
  rw [e0, if_pos (by rw [h2]; rfl)]; exact r2BI rfl rfl rfl rfl
 have h2 : (!onM c.M p) = false := h2
 refine cP (zjr h) rfl rfl ?_
 repeat first | apply sT | apply sF
 apply sB <;> intro h3
 ·have h3 : (!within h 0 200) = true := h3
  repeat first | apply sT | apply sF
  rw [e0, if_pos (by rw [h3, Bool.or_true]; rfl)]; exact r2BI rfl rfl rfl rfl
 have h3 : (!within h 0 200) = false := h3
 refine cP (zjs t) rfl rfl ?_
 repeat first | apply sT | apply sF
 apply sB <;> intro h4
 ·have h4 : (!within t 0 1048576) = true := h4
  rw [e0, if_pos (by rw [h4, Bool.or_true])]; exact r2BI rfl rfl rfl rfl
 have h4 : (!within t 0 1048576) = false := h4
 rw [e0, if_neg (by rw [h2, h3, h4]; decide)]
 have hp : onM c.M p = true := by simpa using h2
 have hh : within h 0 200 = true := by simpa using h3
 have hw := ziO ok (id := id) (by rw [eG])
 rw [eG] at hw
 have ht : within t 0 1048576 = true := by simpa using h4
 have hlt : (towI c.T id).toNat < c.T.length := by
  rcases idxL_cases (fun x : Twr => x.ID == id) c.T default with ⟨g1, _⟩ | ⟨i, g1, g2, _⟩
  ·exact absurd (show towI c.T id < 0 by unfold towI; rw [g1]; decide) h1
  ·unfold towI; rw [g2]; exact g1
 refine oL (List.range 15) (FzOb.no ?_)
 refine ⟨⟨rfl, by omega, by omega⟩, ?_⟩
 refine oP (zpJ c t (by have := ok.z; omega)) rfl rfl ?_
 refine oP (r4_in c (c.T.getD (towI c.T id).toNat default) p h (farZ t c.Z) ok.m hw hp (zab.1 hh) (zgM ok.f)) rfl rfl ?_
 exact r2BI rfl rfl rfl rfl
theorem avBl {s : St} {ob : Nat -> Option Ob} {v : AV} {a b : Bool} (h : v = .d (.bool a)) (e : a = b) : AVle s ob v (.d (.bool b)) := by subst h; subst e; exact dE _
theorem zd9 (s : Svc) (id : Int) (hn : s.c.T.length <= 1000000) : Spec PP 122 [s.v, N id] [N (towI s.c.T id)] := by
 refine sA Tryz.func122 ?_
 refine LoopOb.of (σ := Nat) (fun i => ([(1, .d (I id)), (2, .box 2 0), (5, .d (I i))], [(2, .box (s.ds.map AV.d))])) (fun i => i <= s.c.T.length /\ ∀ j, j < i -> ((s.c.T.getD j default).ID == id) = false) (fun i => s.c.T.length - i) 0
  ⟨rfl, ⟨obD s.ds rfl, trivial⟩, wq rfl⟩ z0L fun i hi => ?_
 obtain ⟨hi, ha⟩ := hi
 apply sB <;> intro h1
 ·have h1 : i < s.c.T.length := by have := dT h1; omega
  refine ⟨⟨rfl, by omega, by omega⟩, ?_⟩
  apply sB <;> intro h2
  ·refine r1I rfl ?_
   exact (zao (p := fun t : Twr => t.ID == id) default h1 h2 ha).symm
  ·refine ⟨i6, ?_⟩
   refine ⟨i + 1, ⟨rfl, ⟨obD s.ds rfl, trivial⟩, wq rfl⟩, ⟨h1, fun j hj => ?_⟩, (msr (by omega))⟩
   by_cases e : j = i
   ·subst e; exact h2
   ·exact ha j (by omega)
 have h1 : i = s.c.T.length := by have := dF h1; omega
 subst h1
 refine r1I rfl ?_
 exact (zaz (p := fun t : Twr => t.ID == id) default ha).symm
theorem zgr (s : Svc) (id : Int) (hn : s.k.C.length <= 1000000) : Spec PP 258 [s.v, N id] [N (cirI s.k id)] := by
 refine sA Tryz.func258 ?_
 refine LoopOb.of (σ := Nat) (fun i => ([(1, .d (I id)), (2, .box 2 0), (5, .d (I i))], [(2, .box (s.ds.map AV.d))])) (fun i => i <= s.k.C.length /\ ∀ j, j < i -> ((s.k.C.getD j default).ID == id) = false) (fun i => s.k.C.length - i) 0
  ⟨rfl, ⟨obD s.ds rfl, trivial⟩, wq rfl⟩ z0L fun i hi => ?_
 obtain ⟨hi, ha⟩ := hi
 apply sB <;> intro h1
 ·have h1 : i < s.k.C.length := by have := dT h1; omega
  refine ⟨⟨rfl, by omega, by omega⟩, ?_⟩
  apply sB <;> intro h2
  ·refine r1I rfl ?_
   exact (zao (p := fun t : Cir => t.ID == id) default h1 h2 ha).symm
  ·refine ⟨i6, ?_⟩
   refine ⟨i + 1, ⟨rfl, ⟨obD s.ds rfl, trivial⟩, wq rfl⟩, ⟨h1, fun j hj => ?_⟩, (msr (by omega))⟩
   by_cases e : j = i
   ·subst e; exact h2
   ·exact ha j (by omega)
 have h1 : i = s.k.C.length := by have := dF h1; omega
 subst h1
 refine r1I rfl ?_
 exact (zaz (p := fun t : Cir => t.ID == id) default ha).symm
theorem tm36 (n : Int) : (n.tmod 3600 + 3600).tmod 3600 = n % 3600 := by
 have h1 := Int.tmod_lt_of_pos n (show (0 : Int) < 3600 by decide)
 have h2 := Int.tmod_lt_of_pos (-n) (show (0 : Int) < 3600 by decide)
 rw [Int.neg_tmod] at h2
 rw [Int.tmod_eq_emod_of_nonneg (by omega)]
 rw [Int.tmod_eq_emod]
 split
 ·show (n % 3600 - 0 + 3600) % 3600 = n % 3600
  omega
 ·show (n % 3600 - 3600 + 3600) % 3600 = n % 3600
  omega
theorem zc0 (n : Int) (hn : -1000000000000 <= n /\ n <= 1000000000000) : Spec PP 118 [N n] [N (n % 3600)] := by
 have h1 := Int.tmod_lt_of_pos n (show (0 : Int) < 3600 by decide)
 have h2 := Int.tmod_lt_of_pos (-n) (show (0 : Int) < 3600 by decide)
 rw [Int.neg_tmod] at h2
 refine sA Tryz.func118 ?_
 refine ⟨by decide, ⟨i6, ⟨by decide, ?_⟩⟩⟩
 exact r1I rfl (tm36 n)
theorem zmG {α : Type} {p : α -> Bool} {l : List α} {j : Nat} (h : j < l.length) (d : α) : (l.take (j + 1)).any p = ((l.take j).any p || p (l.getD j d)) := by
 rw [zaB h d, List.any_append, List.any_cons, List.any_nil, Bool.or_false]
theorem zlv (s : Svc) : Spec PP 113 [s.v] [.d (.int .i64 (svcE s))] := by
 refine sA Tryz.func113 ?_
 refine cP (zhk s.c) rfl rfl ?_
 apply sB <;> intro h0
 ·have h0 : ctryE s.c ≠ 0 := by simpa using h0
  refine r1I rfl ?_
  unfold svcE; rw [if_pos h0]
 have h0 : ctryE s.c = 0 := by simpa using h0
 have ok0 := zdD h0
 refine cP (zeK s.k) rfl rfl ?_
 apply sB <;> intro h1
 ·have h1 : cirsE s.k ≠ 0 := by simpa using h1
  refine r1I rfl ?_
  unfold svcE; rw [if_neg (fun hh => hh h0), if_pos h1]
 have h1 : cirsE s.k = 0 := by simpa using h1
 have ok1 := zbx h1
 have e0 : svcE s = err1 (svc1E s) s.k.C.length := by unfold svcE; rw [if_neg (fun hh => hh h0), if_neg (fun hh => hh h1)]
 have hn := ok1.n
 have ht := ok0.t
 refine LoopOb.of (σ := Nat) (fun i => ([(1, .box 1 0), (4, .d (I i))], [(1, .box (s.ds.map AV.d))])) (fun i => i <= s.k.C.length /\ ∀ j, j < i -> svc1E s j = 0) (fun i => s.k.C.length - i) 0
  ⟨rfl, ⟨obD s.ds rfl, trivial⟩, wq rfl⟩ z0L fun i hi => ?_
 obtain ⟨hi, ha⟩ := hi
 apply sB <;> intro h3
 ·have h3 : i < s.k.C.length := by have := dT h3; omega
  refine LoopOb.of (σ := Nat) (fun j => ([(1, .box 1 0), (4, .d (I i)), (5, .d (.bool ((s.c.T.take j).any fun w => decide (w.At = (s.k.C.getD i default).At)))), (6, .d (I j))], [(1, .box (s.ds.map AV.d))])) (fun j => j <= s.c.T.length) (fun j => s.c.T.length - j) 0
   ⟨rfl, ⟨obD s.ds rfl, trivial⟩, wq rfl⟩ (Nat.zero_le _) fun j hj => ?_
  have hj : j <= s.c.T.length := hj
  apply sB <;> intro h4
  ·have h4 : j < s.c.T.length := by have := dT h4; omega
   have eA := zmG (p := fun w : Twr => decide (w.At = (s.k.C.getD i default).At)) h4 default
   refine oL (List.range 19) (FzOb.no ?_)
   apply sB <;> intro h5
   ·have h5 : ((s.c.T.take j).any fun w => decide (w.At = (s.k.C.getD i default).At)) = true := h5
    repeat first | apply sT | apply sF
    refine ⟨i6, ?_⟩
    exact ⟨j + 1, ⟨rfl, ⟨obD s.ds rfl, trivial⟩, avQ rfl, avR _ rfl, avBl rfl (by rw [eA, h5]; rfl), avI rfl rfl, trivial⟩, h4, (msr (by omega))⟩
   ·have h5 : ((s.c.T.take j).any fun w => decide (w.At = (s.k.C.getD i default).At)) = false := h5
    refine ⟨⟨rfl, by omega, by omega⟩, ⟨⟨rfl, by omega, by omega⟩, ?_⟩⟩
    repeat first | apply sT | apply sF
    refine ⟨i6, ?_⟩
    exact ⟨j + 1, ⟨rfl, ⟨obD s.ds rfl, trivial⟩, avQ rfl, avR _ rfl, avBl rfl (by rw [eA, h5, Bool.false_or]; exact eqPW _ _), avI rfl rfl, trivial⟩, h4, (msr (by omega))⟩
  ·have h4 : j = s.c.T.length := by have := dF h4; omega
   subst h4
   rw [List.take_length]
   apply sB <;> intro h5
   ·have h5 : (s.c.T.any fun w => decide (w.At = (s.k.C.getD i default).At)) = false := by simpa using h5
    have e : svc1E s i = 5 := by unfold svc1E; rw [if_neg (by rw [h5]; decide)]
    refine r1I rfl ?_
    rw [e0, zak ha (by rw [e]; decide) h3, e]
   ·have h5 : (s.c.T.any fun w => decide (w.At = (s.k.C.getD i default).At)) = true := by simpa using h5
    have e : svc1E s i = 0 := by unfold svc1E; rw [if_pos h5]
    refine ⟨i6, ?_⟩
    refine ⟨i + 1, ⟨rfl, ⟨obD s.ds rfl, trivial⟩, wq rfl⟩, ⟨h3, fun j hj => ?_⟩, (msr (by omega))⟩
    by_cases q : j = i
    ·subst q; exact e
    ·exact ha j (by omega)
 ·have h3 : i = s.k.C.length := by have := dF h3; omega
  subst h3
  refine r1I rfl ?_
  rw [e0, zaG ha]
theorem zhJ {r : Rpt} (h : frmC r = true) : frmB r = false := by unfold frmB; rw [h]; rfl
theorem zqj {r : Rpt} (h : within r.Kind 1 2 = false) : frmB r = false := by
 have h1 : r.Kind ≠ 1 := fun e => by
  have : within r.Kind 1 2 = true := zab.2 (by omega)
  rw [this] at h; cases h
 have h2 : r.Kind ≠ 2 := fun e => by
  have : within r.Kind 1 2 = true := zab.2 (by omega)
  rw [this] at h; cases h
 unfold frmB; rw [if_neg h1, if_neg h2, Bool.and_false]
theorem zjh (r : Rpt) : Spec PP 257 [r.v] [B (frmB r)] := by
 refine sA Tryz.func257 ?_
 refine cP (zcS r.ID 1 1099511627776) rfl rfl ?_
 apply sB <;> intro k0
 ·have k0 : (!within r.ID 1 1099511627776) = true := k0
  repeat first | apply sT | apply sF
  exact r1B rfl (zhJ (by unfold frmC; rw [k0]; rfl)).symm
 have k0 : (!within r.ID 1 1099511627776) = false := k0
 refine cP (zcS r.Kind 1 2) rfl rfl ?_
 repeat first | apply sT | apply sF
 apply sB <;> intro k1
 ·have k1 : (!within r.Kind 1 2) = true := k1
  repeat first | apply sT | apply sF
  exact r1B rfl (zqj (by simpa using k1)).symm
 have k1 : (!within r.Kind 1 2) = false := k1
 refine cP (zcS r.Tick 0 1048576) rfl rfl ?_
 repeat first | apply sT | apply sF
 apply sB <;> intro k2
 ·have k2 : (!within r.Tick 0 1048576) = true := k2
  repeat first | apply sT | apply sF
  exact r1B rfl (zhJ (by unfold frmC; rw [k0, k2]; rfl)).symm
 have k2 : (!within r.Tick 0 1048576) = false := k2
 refine cP (zcS r.From 0 3599) rfl rfl ?_
 repeat first | apply sT | apply sF
 apply sB <;> intro k3
 ·have k3 : (!within r.From 0 3599) = true := k3
  repeat first | apply sT | apply sF
  exact r1B rfl (zhJ (by unfold frmC; rw [k0, k2, k3]; rfl)).symm
 have k3 : (!within r.From 0 3599) = false := k3
 refine cP (zcS r.Slack 1 100) rfl rfl ?_
 repeat first | apply sT | apply sF
 apply sB <;> intro k4
 ·have k4 : (!within r.Slack 1 100) = true := k4
  repeat first | apply sT | apply sF
  exact r1B rfl (zhJ (by unfold frmC; rw [k0, k2, k3, k4]; rfl)).symm
 have k4 : (!within r.Slack 1 100) = false := k4
 have e0 : frmB r = if r.Kind = 1 then decide (r.To = 0) else if r.Kind = 2 then within r.To 0 3599 && decide ((r.To - r.From) % 3600 <= 900) else false := by
  unfold frmB frmC; rw [k0, k2, k3, k4]; rfl
 have hk := zab.1 (show within r.Kind 1 2 = true by simpa using k1)
 have hf := zab.1 (show within r.From 0 3599 = true by simpa using k3)
 apply sB <;> intro h1
 ·have h1 : r.Kind = 1 := by simpa using h1
  refine r1B rfl ?_
  rw [e0, if_pos h1, Bool.eq_iff_iff]; simp
 have h1 : r.Kind ≠ 1 := by simpa using h1
 rw [if_neg h1, if_pos (show r.Kind = 2 by omega)] at e0
 refine cP (zcS r.To 0 3599) rfl rfl ?_
 apply sB <;> intro h3
 ·have h4 := zab.1 h3
  refine ⟨i6, ?_⟩
  refine cP (zc0 (r.To - r.From) (by omega)) rfl rfl ?_
  repeat first | apply sT | apply sF
  refine r1B rfl ?_
  rw [e0, h3]; rfl
 ·repeat first | apply sT | apply sF
  refine r1B rfl ?_
  rw [e0, h3]; rfl
theorem zib (b : Brn) : Spec PP 114 [b.v] [B (brnB b)] := by
 refine sA Tryz.func114 ?_
 refine cP (zcS b.From 0 1048576) rfl rfl ?_
 apply sB <;> intro h1
 ·have h1' := zab.1 h1
  refine cP (zcS b.To b.From 1048576) rfl rfl ?_
  repeat first | apply sT | apply sF
  apply sB <;> intro h2
  ·have h2' := zab.1 h2
   refine cP (zcS b.Rise 0 200) rfl rfl ?_
   repeat first | apply sT | apply sF
   refine r1B rfl ?_
   unfold brnB; rw [decide_eq_true (by omega), decide_eq_true (by omega), decide_eq_true (by omega)]; rfl
  ·have h2' : ¬ (b.From <= b.To /\ b.To <= 1048576) := fun hh => by rw [zab.2 hh] at h2; cases h2
   repeat first | apply sT | apply sF
   refine r1B rfl ?_
   unfold brnB
   by_cases h3 : b.From <= b.To
   ·rw [decide_eq_false (p := b.To <= 1048576) (fun h4 => h2' ⟨h3, h4⟩), Bool.and_false]; rfl
   ·rw [decide_eq_false h3, Bool.and_false]; rfl
 ·have h1' : ¬ (0 <= b.From /\ b.From <= 1048576) := fun hh => by rw [zab.2 hh] at h1; cases h1
  repeat first | apply sT | apply sF
  refine r1B rfl ?_
  unfold brnB
  by_cases h3 : 0 <= b.From
  ·by_cases h4 : b.From <= b.To
   ·rw [decide_eq_false (p := b.To <= 1048576) (by omega), Bool.and_false]; rfl
   ·rw [decide_eq_false h4, Bool.and_false]; rfl
  ·rw [decide_eq_false h3]; rfl
theorem zg9 {T : List Twr} {id : Int} (h : ¬ towI T id < 0) : towG T id = (T.getD (towI T id).toNat default, true) := by unfold towG; rw [if_neg h]
theorem r6_at (s : Svc) (r : Rpt) (hn : s.c.T.length <= 1000000) (h : ¬ towI s.c.T r.Tower < 0) : Spec PP 53 [s.v, r.v] [(towG s.c.T r.Tower).1.At.v] := by
 have h1 := zc9 h
 refine sA Tryz.func53 ?_
 refine oL (List.range 12) (FzOb.no ?_)
 refine oP (zd9 s r.Tower hn) rfl rfl ?_
 refine ⟨⟨rfl, by show 0 <= max 0 (towI s.c.T r.Tower); omega, by show max 0 (towI s.c.T r.Tower) < s.c.T.length; omega⟩, ?_⟩
 have e : s.c.T.getD (max 0 (towI s.c.T r.Tower)).toNat default = (towG s.c.T r.Tower).1 := by rw [zg9 h, show max 0 (towI s.c.T r.Tower) = towI s.c.T r.Tower by omega]
 exact r1C rfl rfl rfl rfl rfl rfl (zbc (congrArg (fun t : Twr => t.At.X) e) (congrArg (fun t : Twr => t.At.Y) e))
theorem zji (s : Svc) (b : Brn) (r : Rpt) (p : Place) : Spec PP 294 [s.v, b.v, r.v, p.v] [B (lookB s b r p)] := by
 refine sA Tryz.func294 ?_
 refine cP (zcS r.Tick b.From b.To) rfl rfl ?_
 apply sB <;> intro h1
 ·have h1 : within r.Tick b.From b.To = false := by simpa using h1
  refine r1B rfl ?_
  unfold lookB; rw [h1, Bool.and_false]
 have h1 : within r.Tick b.From b.To = true := by simpa using h1
 refine cP (zoc s.c r.Tower p b.Rise r.Tick) rfl rfl ?_
 apply sB <;> intro h2
 ·have h2 : (seesE s.c r.Tower p b.Rise r.Tick).2 = 0 := by simpa using h2
  repeat first | apply sT | apply sF
  refine r1B rfl ?_
  unfold lookB; rw [h1, decide_eq_true h2, Bool.and_true]; rfl
 ·have h2 : (seesE s.c r.Tower p b.Rise r.Tick).2 ≠ 0 := by simpa using h2
  repeat first | apply sT | apply sF
  refine r1B rfl ?_
  unfold lookB; rw [decide_eq_false h2]; rfl
theorem zjk (s : Svc) (r : Rpt) (hT : s.c.T.length <= 1000000) (hC : s.k.C.length <= 1000000) : Spec PP 192 [s.v, r.v] [.d (.int .i64 (rptE s r))] := by
 refine sA Tryz.func192 ?_
 refine cP (zjh r) rfl rfl ?_
 apply sB <;> intro h1
 ·refine r1I rfl ?_
  unfold rptE; rw [if_pos (by simpa using h1)]
 have h1 : frmB r = true := by simpa using h1
 refine cP (zd9 s r.Tower hT) rfl rfl ?_
 refine cP (zgr s r.C hC) rfl rfl ?_
 apply sB <;> intro h2
 ·have h2 : towI s.c.T r.Tower < 0 := dT h2
  repeat first | apply sT | apply sF
  refine r1I rfl ?_
  have h3 : (towG s.c.T r.Tower).2 = false := by unfold towG; rw [if_pos h2]
  unfold rptE; rw [if_neg (by rw [h1]; decide), if_pos (.inl h3)]
 have h2 : ¬ towI s.c.T r.Tower < 0 := dF h2
 repeat first | apply sT | apply sF
 apply sB <;> intro h3
 ·have h3 : cirI s.k r.C < 0 := dT h3
  refine r1I rfl ?_
  unfold rptE; rw [if_neg (by rw [h1]; decide), if_pos (.inr h3)]
 have h3 : ¬ cirI s.k r.C < 0 := dF h3
 obtain ⟨h4, h5⟩ := zaH h3
 obtain ⟨g4, g5⟩ := zc9 h2
 have eT := zg9 h2
 have e0 : rptE s r = if (s.k.C.getD (cirI s.k r.C).toNat default).At ≠ (s.c.T.getD (towI s.c.T r.Tower).toNat default).At then 1 else if (zerR s.k r.C r.Tick).2 ≠ 0 then (zerR s.k r.C r.Tick).2 else if r.Kind = 1 then (wdgR s.k (rdgO r)).2 else 0 := by
  unfold rptE; rw [if_neg (by rw [h1]; decide), if_neg (by rw [eT]; simp; omega), eT]
 refine oL (List.range 15) (FzOb.no ?_)
 refine ⟨⟨rfl, by show 0 <= towI s.c.T r.Tower; omega, by show towI s.c.T r.Tower < s.c.T.length; omega⟩, ⟨⟨rfl, by show 0 <= cirI s.k r.C; omega, by show cirI s.k r.C < s.k.C.length; omega⟩, ?_⟩⟩
 apply sB <;> intro h6
 ·have h6 : (s.k.C.getD (cirI s.k r.C).toNat default).At ≠ (s.c.T.getD (towI s.c.T r.Tower).toNat default).At := by
   have := (congrArg (!·) (eqPW (s.c.T.getD (towI s.c.T r.Tower).toNat default).At (s.k.C.getD (cirI s.k r.C).toNat default).At)).symm.trans h6
   have h7 : ¬ (s.c.T.getD (towI s.c.T r.Tower).toNat default).At = (s.k.C.getD (cirI s.k r.C).toNat default).At := by simpa using this
   exact fun e => h7 e.symm
  refine r1I rfl ?_
  rw [e0, if_pos h6]
 have h6 : (s.k.C.getD (cirI s.k r.C).toNat default).At = (s.c.T.getD (towI s.c.T r.Tower).toNat default).At := by
  have := (congrArg (!·) (eqPW (s.c.T.getD (towI s.c.T r.Tower).toNat default).At (s.k.C.getD (cirI s.k r.C).toNat default).At)).symm.trans h6
  have h7 : (s.c.T.getD (towI s.c.T r.Tower).toNat default).At = (s.k.C.getD (cirI s.k r.C).toNat default).At := by simpa using this
  exact h7.symm
 refine cP (zgu s.k r.C r.Tick) rfl rfl ?_
 apply sB <;> intro h7
 ·have h7 : (zerR s.k r.C r.Tick).2 ≠ 0 := by simpa using h7
  repeat first | apply sT | apply sF
  refine r1I rfl ?_
  rw [e0, if_neg (fun hh => hh h6), if_pos h7]
 have h7 : (zerR s.k r.C r.Tick).2 = 0 := by simpa using h7
 repeat first | apply sT | apply sF
 apply sB <;> intro h8
 ·have h8 : r.Kind = 2 := by simpa using h8
  refine r1I rfl ?_
  rw [e0, if_neg (fun hh => hh h6), if_neg (fun hh => hh h7), if_neg (by omega)]; exact h7
 ·have h8 : r.Kind ≠ 2 := by simpa using h8
  have h9 : r.Kind = 1 := by
   refine Classical.byContradiction fun h10 => ?_
   have := zqj (r := r) (by
    cases hw : within r.Kind 1 2 with
    | false => rfl
    | true => have := zab.1 hw; omega)
   rw [h1] at this; cases this
  refine cP (zhj s.k (rdgO r)) rfl rfl ?_
  refine r1I rfl ?_
  rw [e0, if_neg (fun hh => hh h6), if_neg (fun hh => hh h7), if_pos h9]
structure RptOk (s : Svc) (r : Rpt) : Prop where
  f : frmB r = true
  t : ¬ towI s.c.T r.Tower < 0
  w : r.Kind = 1 -> (wdgR s.k (rdgO r)).2 = 0
theorem zpC {s : Svc} {r : Rpt} (h : rptE s r = 0) : RptOk s r := by
 unfold rptE at h
 split at h
 ·cases h
 rename_i h1
 split at h
 ·cases h
 rename_i h2
 split at h
 ·cases h
 split at h
 ·rename_i h4; exact absurd h h4
 refine ⟨by simpa using h1, fun h3 => h2 (.inl (by unfold towG; rw [if_pos h3])), fun hk => ?_⟩
 rw [if_pos hk] at h; exact h
theorem zjj (s : Svc) (r : Rpt) (h : RptOk s r) : Spec PP 51 [s.v, r.v] [(secR s r).1.v, B (secR s r).2] := by
 refine sA Tryz.func51 ?_
 apply sB <;> intro h1
 ·have h1 : r.Kind = 1 := by simpa using h1
  have e : secR s r = ((wdgR s.k (rdgO r)).1, true) := by unfold secR; rw [if_pos h1, decide_eq_true (h.w h1)]
  refine cP (zhj s.k (rdgO r)) rfl rfl ?_
  rw [e]
  exact ⟨rtC (a := 4) rfl rfl rfl rfl rfl rfl (zaa _), rtB rfl rfl, trivial⟩
 have h1 : r.Kind ≠ 1 := by simpa using h1
 have e0 : secR s r = blkR s r := by unfold secR; rw [if_neg h1]
 rw [e0]
 obtain ⟨b1, b2, b3⟩ := zmf h.f h1
 have zb := zew s.k r.C r.Tick
 refine cP (zgu s.k r.C r.Tick) rfl rfl ?_
 refine oL (List.range 16) (FzOb.no ?_)
 refine ⟨i6, ?_⟩
 refine oP (zc0 (r.To - r.From) (by omega)) rfl rfl ?_
 refine ⟨i6, ⟨i6, ⟨i6, ?_⟩⟩⟩
 apply sB <;> intro h2
 ·have e : blkR s r = (⟨0, 0⟩, false) := by unfold blkR; rw [if_pos (dT h2)]
  rw [e]
  exact ⟨rtC (a := 4) rfl rfl rfl rfl rfl rfl (zaa _), rtB rfl rfl, trivial⟩
 have e : blkR s r = (⟨(r.From + r.Slack - (zerR s.k r.C r.Tick).1.Lo) % 3600, (r.To - r.Slack - (zerR s.k r.C r.Tick).1.Hi) % 3600⟩, true) := by unfold blkR; rw [if_neg (dF h2)]
 rw [e]
 refine oL (List.range 21) (FzOb.no ?_)
 refine ⟨i6, ⟨i6, ?_⟩⟩
 refine oP (zc0 (r.From + r.Slack - (zerR s.k r.C r.Tick).1.Lo) (by omega)) rfl rfl ?_
 refine ⟨i6, ⟨i6, ?_⟩⟩
 refine oP (zc0 (r.To - r.Slack - (zerR s.k r.C r.Tick).1.Hi) (by omega)) rfl rfl ?_
 exact ⟨rtC (a := 4) rfl rfl rfl rfl rfl rfl (zaa _), rtB rfl rfl, trivial⟩
abbrev madD (s : Svc) (r : Rpt) : List D := [I r.ID, I r.Kind, I r.Tower, I r.C, I r.Tick, I r.From, I r.To, I r.Slack, I (secR s r).1.F, I (secR s r).1.T, .bool (secR s r).2, I (towG s.c.T r.Tower).1.At.X, I (towG s.c.T r.Tower).1.At.Y]
theorem zn2 (s : Svc) (r : Rpt) (hn : s.c.T.length <= 1000000) (h : RptOk s r) : Spec PP 234 [s.v, r.v] [.agg (madD s r)] := by
 refine sA Tryz.func234 ?_
 refine cP (zjj s r h) rfl rfl ?_
 refine oL (List.range 8) (FzOb.no ?_)
 refine oP (r6_at s r hn h.t) rfl rfl ?_
 exact r1C rfl rfl rfl rfl rfl rfl (zaa _)
theorem zjm (s : Svc) (b : Brn) (r : Rpt) (p : Place) : Spec PP 235 [s.v, b.v, .agg (madD s r), p.v] [B (allB s b r p)] := by
 have e4 : seenB s b r p = ((secR s r).2 && liesW (secR s r).1 (towG s.c.T r.Tower).1.At p && lookB s b r p) := rfl
 refine sA Tryz.func235 ?_
 have tail : ∀ (v : Bool), v = ((secR s r).2 && liesW (secR s r).1 (towG s.c.T r.Tower).1.At p) -> seenB s b r p = (v && lookB s b r p) := fun v hv => by rw [hv, e4]
 apply sB <;> intro h1
 ·have h1 : (secR s r).2 = true := h1
  refine cP (zn5 (secR s r).1 (towG s.c.T r.Tower).1.At p) rfl rfl ?_
  repeat first | apply sT | apply sF
  apply sB <;> intro hk
  ·have hk : r.Kind = 1 := by simpa using hk
   have e : allB s b r p = seenB s b r p := by unfold allB; rw [if_pos hk]
   apply sB <;> intro h2
   ·have h2 : liesW (secR s r).1 (towG s.c.T r.Tower).1.At p = true := h2
    refine cP (zji s b r p) rfl rfl ?_
    repeat first | apply sT | apply sF
    refine r1B rfl ?_
    rw [e, tail true (by rw [h1, h2]; rfl)]; rfl
   ·have h2 : liesW (secR s r).1 (towG s.c.T r.Tower).1.At p = false := h2
    repeat first | apply sT | apply sF
    refine r1B rfl ?_
    rw [e, tail false (by rw [h1, h2]; rfl)]; rfl
  ·have hk : r.Kind ≠ 1 := by simpa using hk
   have e : allB s b r p = !seenB s b r p := by unfold allB; rw [if_neg hk]
   apply sB <;> intro h2
   ·have h2 : liesW (secR s r).1 (towG s.c.T r.Tower).1.At p = false := by simpa using h2
    repeat first | apply sT | apply sF
    refine r1B rfl ?_
    rw [e, tail false (by rw [h1, h2]; rfl)]; rfl
   ·have h2 : liesW (secR s r).1 (towG s.c.T r.Tower).1.At p = true := by simpa using h2
    refine cP (zji s b r p) rfl rfl ?_
    repeat first | apply sT | apply sF
    refine r1B rfl ?_
    rw [e, tail true (by rw [h1, h2]; rfl)]; rfl
 ·have h1 : (secR s r).2 = false := h1
  repeat first | apply sT | apply sF
  apply sB <;> intro hk
  ·have hk : r.Kind = 1 := by simpa using hk
   have e : allB s b r p = seenB s b r p := by unfold allB; rw [if_pos hk]
   repeat first | apply sT | apply sF
   refine r1B rfl ?_
   rw [e, tail false (by rw [h1]; rfl)]; rfl
  ·have hk : r.Kind ≠ 1 := by simpa using hk
   have e : allB s b r p = !seenB s b r p := by unfold allB; rw [if_neg hk]
   repeat first | apply sT | apply sF
   refine r1B rfl ?_
   rw [e, tail false (by rw [h1]; rfl)]; rfl
end Go.Pg
