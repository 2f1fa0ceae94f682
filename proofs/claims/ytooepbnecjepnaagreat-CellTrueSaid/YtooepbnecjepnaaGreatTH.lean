/- Texts joined and shortened by program. -/
import Derived.Test.YtooepbnecjepnaaGreatTG
import Derived.Test.YtooepbnecjepnaaGreatT8
import Derived.Test.YtooepbnecjepnaaGreatTC
import Derived.Test.YtooepbnecjepnaaGreatTE
import Derived.Test.YtooepbnecjepnaaGreatTA
import Derived.Test.YtooepbnecjepnaaGreatT5
import Derived.Test.YtooepbnecjepnaaGreatTF
import Derived.Test.YtooepbnecjepnaaGreatTD
import Derived.Test.YtooepbnecjepnaaGreatT4
import Derived.Shelf.SlLaysE0
import Derived.Shelf.RegionOpenPlain
import Derived.WalkKit
import Derived.Deep.LoopGhost
import Derived.Deep.RegionLaw
import Derived.Lib.Walk
import Derived.Sort.WalkB12
import Derived.Lib.SliceRun
import Derived.Lib.SlicesDelete
set_option maxHeartbeats 4000000
set_option linter.all false
set_option maxRecDepth 100000
namespace Go.Pg
open Go.Proofs Go.RowKit
theorem zhQ (s : Svc) (b : Brn) (l : List Rpt) : (plcR s b l).2 = givE s b l := by
 unfold plcR
 split
 ·rfl
 ·rename_i h; exact (Classical.byContradiction h).symm
structure Sn where
  w : Wdg
  a : Place
  deriving DecidableEq, Inhabited
def Sn.at (x : Sn) : Nat -> D
 | 0 => I x.w.F
 | 1 => I x.w.T
 | 2 => I x.a.X
 | _ => I x.a.Y
theorem zcW {w : Wdg} {a : Place} (h : halvesB w a = true) : validW w = true /\ 1 <= openW w /\ on a = true := by
 unfold halvesB at h
 simp only [Bool.and_eq_true, decide_eq_true_iff] at h
 exact ⟨h.1.1, h.1.2, h.2⟩
theorem znC {w : Wdg} {a : Place} (h : halvesB w a = true) : fit (hvA w a) = true /\ fit (hvB w a) = true := by
 obtain ⟨h1, h2, h3⟩ := zcW h
 obtain ⟨v1, v2, -, -⟩ := zbP h1
 obtain ⟨a1, a2⟩ := zaR.1 h3
 obtain ⟨u1, u2, u3⟩ := zhf v1
 obtain ⟨z1, z2, z3⟩ := zhf v2
 unfold hvA hvB fit slope
 generalize vecP w.F = u at *
 generalize vecP w.T = z at *
 have m1 := mulB (b := a.X) (y := 48) u2 (by omega)
 have m2 := mulB (b := a.Y) (y := 48) u1 (by omega)
 have m3 := mulB (b := a.Y) (y := 48) z1 (by omega)
 have m4 := mulB (b := a.X) (y := 48) z2 (by omega)
 simp only [Bool.and_eq_true, Bool.or_eq_true, zab, bne_iff_ne, ne_eq]
 omega
theorem zqs {w : Wdg} {a p : Place} (hh : halvesB w a = true) (hp : on p = true) : (ef (hvA w a) ⟨p.X, p.Y, 1⟩ <= 0 /\ ef (hvB w a) ⟨p.X, p.Y, 1⟩ <= 0) ↔ (decide (p = a) || liesW w a p) = true := by
 obtain ⟨h1, h2, h3⟩ := zcW hh
 obtain ⟨v1, v2, v3, v4⟩ := zbP h1
 have e1 : ef (hvA w a) ⟨p.X, p.Y, 1⟩ = -((vecP w.F).X * (p.Y - a.Y) - (vecP w.F).Y * (p.X - a.X)) := by unfold ef hvA; grind
 have e2 : ef (hvB w a) ⟨p.X, p.Y, 1⟩ = (vecP w.T).X * (p.Y - a.Y) - (vecP w.T).Y * (p.X - a.X) := by unfold ef hvB; grind
 rw [e1, e2, Bool.or_eq_true, decide_eq_true_iff]
 by_cases e : p = a
 ·subst e
  simp
 have ne : a ≠ p := fun h => e h.symm
 obtain ⟨hs, hd⟩ := zd0 (ze3 ne)
 have hb := zbB h3 hp ne
 rw [v3] at h2 v4
 have w1 := ziW hs hd v1 v2 v4 h2
 have el : liesW w a p = true ↔ ((bearP (p.X - a.X) (p.Y - a.Y)).1 - w.F * (bearP (p.X - a.X) (p.Y - a.Y)).2) % (3600 * (bearP (p.X - a.X) (p.Y - a.Y)).2) <= (w.T - w.F) % 3600 * (bearP (p.X - a.X) (p.Y - a.Y)).2 := by
  unfold liesW
  rw [h1, h3, hp, decide_eq_false ne, v3]
  unfold bear
  dsimp only
  simp only [Bool.and_self, Bool.not_false, Bool.true_and, decide_eq_true_iff]
  rw [Int.sub_emod, Int.emod_emod, <- Int.sub_emod]
 rw [el, <- w1]
 constructor
 ·intro h; exact .inr (by omega)
 ·rintro (h | h)
  ·exact absurd h e
  ·omega
theorem zot {S : List Half} (h1 : checkL S = 0) (h0 : cornersL S = []) {x y : Nat} : inP (allL S) x y = false := by
 rw [Bool.eq_false_iff]
 intro h
 unfold inP at h
 rw [beq_iff_eq, zaJ] at h
 exact (znt h1).1 h0 _ ⟨by show (0 : Int) < 1; decide, h⟩
theorem zeF {S : List Half} {f : Form} (h1 : checkL S = 0) (hb : (bestE S f).2 = 0) {x y : Nat} (h : inP (allL S) x y = true) : slope f.X f.Y = true /\ ((1 <= (bestE S f).1.V.Den /\ (bestE S f).1.V.Den <= 2097152)) /\ ¬ (bestE S f).1.V.Num < (f.X * x + f.Y * y) * (bestE S f).1.V.Den := by
 have hf : slope f.X f.Y = true := by
  by_cases hf : slope f.X f.Y = true
  ·exact hf
  ·rw [zcE h1 (by simpa using hf)] at hb; cases hb
 have h0 : cornersL S ≠ [] := fun h0 => by rw [zot h1 h0] at h; cases h
 obtain ⟨b, eb, ev⟩ := zh8 h1 h0 hf
 obtain ⟨_, _, n3⟩ := zaO h1
 unfold inP at h
 rw [beq_iff_eq, zaJ] at h
 have hv := zh9 h1 hf (q := ⟨x, y, 1⟩) ⟨by show (0 : Int) < 1; decide, h⟩
 have hq := ((zcM n3 _).1 (zcO f h0)).va
 obtain ⟨fr, g, hg, e1, e2⟩ := zbg hf hq
 rw [eb]
 dsimp only
 rw [ev]
 unfold fraction at fr
 simp only [Bool.and_eq_true, zab] at fr
 refine ⟨hf, fr.1.1, ?_⟩
 unfold vle at hv
 rw [e1, e2] at hv
 unfold fv at hv
 dsimp only at hv
 generalize (value f (bestAt f (cornersL S))).Num = N at *
 generalize (value f (bestAt f (cornersL S))).Den = Q at *
 generalize f.X * (x : Int) + f.Y * (y : Int) = v at *
 intro hlt
 have := Int.mul_lt_mul_of_pos_left hlt hg
 rw [show v * (g * Q) = g * (v * Q) by grind] at hv
 omega
theorem zn3 {r : Place} (h : on r = true) : ∀ x ∈ sidesL, ef x (co r) <= 0 := fun x hx => by
 have b := on_bd h
 unfold sidesL at hx
 simp only [List.mem_cons, List.not_mem_nil, or_false] at hx
 rcases hx with rfl | rfl | rfl | rfl <;> (unfold ef co; simp; omega)
theorem zb2 {s : Svc} {b : Brn} {l : List Rpt} {q : Place} (hq : q ∈ (plcR s b l).1) : givE s b l = 0 /\ on q = true /\ onM s.c.M q = true /\ ∀ r ∈ l, allB s b r q = true := by
 have h1 := zjR (s := s) (b := b) (l := l) q hq
 unfold plcR at hq
 split at hq
 ·cases hq
 ·rename_i h
  have h := Classical.byContradiction h
  have ok := zcz h
  refine ⟨h, h1, znp ok.s.c.m q hq, fun r hr => ?_⟩
  unfold plsL plsK at hq
  obtain ⟨n, hn, rfl⟩ := List.mem_map.1 hq
  have hp := (List.mem_filter.1 hn).2
  unfold metP at hp
  have := List.all_eq_true.1 hp _ (List.mem_map.2 ⟨r, hr, rfl⟩)
  have e : alwP s b r n = (decide (n < s.n) && allB s b r (plc s.c.M n)) := rfl
  rw [e, Bool.and_eq_true] at this
  exact this.2
theorem zjq {r : Rpt} (h : frmB r = true) : 1 <= r.Slack := by
 unfold frmB at h
 simp only [Bool.and_eq_true, Bool.not_eq_true'] at h
 have h2 := h.1
 unfold frmC at h2
 simp only [Bool.or_eq_false_iff, Bool.not_eq_false'] at h2
 exact (zab.1 h2.2).1
theorem zhm {s : Svc} {b : Brn} {r : Rpt} {q : Place} (h : rptE s r = 0) (hk : r.Kind = 1) (hq : allB s b r q = true) : halvesB (wdgR s.k (rdgO r)).1 (towG s.c.T r.Tower).1.At = true /\ liesW (wdgR s.k (rdgO r)).1 (towG s.c.T r.Tower).1.At q = true := by
 have hl : liesW (wdgR s.k (rdgO r)).1 (towG s.c.T r.Tower).1.At q = true := by
  unfold allB at hq
  rw [if_pos hk] at hq
  unfold seenB secR at hq
  rw [if_pos hk] at hq
  simp only [Bool.and_eq_true] at hq
  exact hq.1.2
 refine ⟨?_, hl⟩
 obtain ⟨f1, f2, f3, f4⟩ := zbE h
 have hw := zp4 h hk
 have hs := zjq f1
 have hz := znK f4
 have h2 := hl
 unfold liesW at h2
 simp only [Bool.and_eq_true] at h2
 have hv := h2.1.1.1
 have ha := h2.1.1.2.1
 unfold halvesB
 rw [hv, ha, Bool.true_and, Bool.and_true, decide_eq_true_iff]
 have e : (wdgR s.k (rdgO r)).1 = wdg (r.From - r.Slack - (zerR s.k r.C r.Tick).1.Hi) (2 * r.Slack + (zerR s.k r.C r.Tick).1.Hi - (zerR s.k r.C r.Tick).1.Lo) /\ 2 * r.Slack + (zerR s.k r.C r.Tick).1.Hi - (zerR s.k r.C r.Tick).1.Lo <= 900 := by
  unfold wdgR at hw ⊢
  split at hw
  ·rename_i g; exact absurd hw g
  rename_i g1
  split at hw
  ·rename_i g; exact absurd hw g
  rename_i g2
  split at hw
  ·cases hw
  rename_i g3
  rw [if_neg g1, if_neg g2, if_neg g3]
  refine ⟨rfl, ?_⟩
  have g3 : ¬ 900 < 2 * r.Slack + (zerR s.k r.C r.Tick).1.Hi - (zerR s.k r.C r.Tick).1.Lo := g3
  omega
 rw [e.1, zdz (by unfold wdg; dsimp only; omega) (by unfold wdg; dsimp only; omega)]
 have := e.2
 unfold wdg; dsimp only; omega
theorem zkq {s : Svc} {l : List Rpt} {h : Half} : h ∈ hvL s l ↔ ∃ r ∈ l, r.Kind = 1 /\ (h = (hvO s r).1 \/ h = (hvO s r).2) := by
 unfold hvL isSg
 simp only [List.mem_flatMap, List.mem_filter, beq_iff_eq, List.mem_cons, List.not_mem_nil, or_false]
 constructor
 ·rintro ⟨r, ⟨h1, h2⟩, h3⟩; exact ⟨r, h1, h2, h3⟩
 ·rintro ⟨r, h1, h2, h3⟩; exact ⟨r, ⟨h1, h2⟩, h3⟩
theorem znz {s : Svc} {r : Rpt} (h : halvesB (wdgR s.k (rdgO r)).1 (towG s.c.T r.Tower).1.At = true) : hvO s r = (hvA (wdgR s.k (rdgO r)).1 (towG s.c.T r.Tower).1.At, hvB (wdgR s.k (rdgO r)).1 (towG s.c.T r.Tower).1.At) := by
 unfold hvO halvesW; rw [if_pos h]
theorem znA {s : Svc} {b : Brn} {l : List Rpt} {q : Place} (hq : q ∈ (plcR s b l).1) (hn : l.length <= 20) : checkL (hvL s l) = 0 := by
 obtain ⟨h0, h1, _, h2⟩ := zb2 hq
 have hr := (zku.1 h0).2.2.2.1
 unfold checkL
 rw [if_neg (by have := zgO s l; omega), if_pos]
 rw [List.all_eq_true]
 intro h hh
 obtain ⟨r, m1, m2, m3⟩ := zkq.1 hh
 obtain ⟨k1, _⟩ := zhm (hr r m1) m2 (h2 r m1)
 rw [znz k1] at m3
 rcases m3 with rfl | rfl
 ·exact (znC k1).1
 ·exact (znC k1).2
theorem zkr {s : Svc} {b : Brn} {l : List Rpt} {q : Place} (hq : q ∈ (plcR s b l).1) : Fe (hsL (hvL s l)) (co q) := fun h hh => by
 obtain ⟨h0, h1, _, h2⟩ := zb2 hq
 have hr := (zku.1 h0).2.2.2.1
 rcases List.mem_append.1 hh with hh | hh
 ·obtain ⟨r, m1, m2, m3⟩ := zkq.1 hh
  obtain ⟨k1, k2⟩ := zhm (hr r m1) m2 (h2 r m1)
  rw [znz k1] at m3
  have := (zqs k1 h1).2 (by rw [k2, Bool.or_true])
  rcases m3 with rfl | rfl
  ·exact this.1
  ·exact this.2
 ·exact zn3 h1 h hh
theorem bst_mem {fx fy : Int} : ∀ (l : List Place) (p : Place), bstP fx fy l p = p \/ bstP fx fy l p ∈ l
 | [], p => .inl rfl
 | x :: r, p => by
  show bstP fx fy r (if valP fx fy p < valP fx fy x then x else p) = p \/ bstP fx fy r (if valP fx fy p < valP fx fy x then x else p) ∈ x :: r
  rcases bst_mem (fx := fx) (fy := fy) r (if valP fx fy p < valP fx fy x then x else p) with h | h
  ·rw [h]
   split
   ·exact .inr (by simp)
   ·exact .inl rfl
  ·exact .inr (List.mem_cons_of_mem _ h)
theorem znu {s : Svc} {b : Brn} {l : List Rpt} {fx fy : Int} {q : Place} (hq : q ∈ (plcR s b l).1) : (slope fx fy = false -> (mstR s b l fx fy).2.2 = 1) /\ (slope fx fy = true -> (mstR s b l fx fy).2.2 = 0 /\ (mstR s b l fx fy).2.1 ∈ (plcR s b l).1 /\ (mstR s b l fx fy).1 = valP fx fy (mstR s b l fx fy).2.1) := by
 obtain ⟨h0, -⟩ := zb2 hq
 have eg := zhQ s b l
 rw [h0] at eg
 have sl : slope fx fy = (within fx (-1000) 1000 && within fy (-1000) 1000) := by unfold slope; rfl
 have ne : (plcR s b l).1.length ≠ 0 := fun h => by rw [List.length_eq_zero_iff.1 h] at hq; cases hq
 have m0 : (plcR s b l).1.getD 0 default ∈ (plcR s b l).1 := gd1 (by omega) default
 rw [sl]
 constructor
 ·intro h
  unfold mstR
  rw [if_neg (fun hh => hh eg), if_pos h]
 ·intro h
  have e : mstR s b l fx fy = (valP fx fy (bstP fx fy (plcR s b l).1 ((plcR s b l).1.getD 0 default)), bstP fx fy (plcR s b l).1 ((plcR s b l).1.getD 0 default), 0) := by
   unfold mstR; rw [if_neg (fun hh => hh eg), if_neg (by rw [h]; decide), if_neg ne]
  rw [e]
  refine ⟨rfl, ?_, rfl⟩
  dsimp only
  rcases bst_mem (fx := fx) (fy := fy) (plcR s b l).1 ((plcR s b l).1.getD 0 default) with g | g
  ·rw [g]; exact m0
  ·exact g
theorem zny {s : Svc} {b : Brn} {l : List Rpt} (h0 : givE s b l = 0) (hn : l.length <= 20) : hvsR s b l = ((hvL s l, hvI l), 0) := by
 have := zgO s l
 unfold hvsR
 rw [if_neg (fun hh => hh h0), if_neg (by omega)]
theorem zm2 {s : Svc} {b : Brn} {l : List Rpt} {fx fy : Int} {q : Place} (hq : q ∈ (plcR s b l).1) (hn : l.length <= 20) : (mstR s b l fx fy).2.2 = (bndR s b l ⟨fx, fy⟩).2 /\ ((bndR s b l ⟨fx, fy⟩).2 = 0 -> (mstR s b l fx fy).2.1 ∈ (plcR s b l).1 /\ (1 <= (bndR s b l ⟨fx, fy⟩).1.V.Den /\ (bndR s b l ⟨fx, fy⟩).1.V.Den <= 2097152) /\ (-96000 <= (mstR s b l fx fy).1 /\ (mstR s b l fx fy).1 <= 96000) /\ (mstR s b l fx fy).1 * (bndR s b l ⟨fx, fy⟩).1.V.Den <= (bndR s b l ⟨fx, fy⟩).1.V.Num /\ cbE (hvL s l) ⟨fx, fy⟩ (bndR s b l ⟨fx, fy⟩).1 = 0) := by
 obtain ⟨h0, -⟩ := zb2 hq
 have e := zny h0 hn
 have ck := znA hq hn
 have eb : bndR s b l ⟨fx, fy⟩ = bestE (hvL s l) ⟨fx, fy⟩ := by unfold bndR; rw [e, if_neg (fun hh => hh rfl)]
 obtain ⟨m1, m2⟩ := znu (fx := fx) (fy := fy) hq
 rw [eb]
 have c0 : cornersL (hvL s l) ≠ [] := fun h => (znt ck).1 h (co q) ⟨Int.zero_lt_one, zkr hq⟩
 by_cases hs : slope fx fy = true
 ·obtain ⟨b0, b1⟩ := m2 hs
  obtain ⟨v, ev, _⟩ := zh8 ck c0 (f := ⟨fx, fy⟩) hs
  have z : (bestE (hvL s l) ⟨fx, fy⟩).2 = 0 := by rw [ev]
  refine ⟨by rw [b0, z], fun _ => ?_⟩
  obtain ⟨q1, q2⟩ := b1
  obtain ⟨_, p1, _, _⟩ := zb2 q1
  obtain ⟨px, py⟩ := zaR.1 p1
  generalize hP : (mstR s b l fx fy).2.1 = P at *
  have hin : inP (allL (hvL s l)) P.X.toNat P.Y.toNat = true := by
   unfold inP
   rw [beq_iff_eq, zaJ]
   have e1 : (⟨((P.X.toNat : Nat) : Int), ((P.Y.toNat : Nat) : Int), 1⟩ : Corner) = co P := by
    unfold co
    rw [show ((P.X.toNat : Nat) : Int) = P.X by omega, show ((P.Y.toNat : Nat) : Int) = P.Y by omega]
   rw [e1]
   exact zkr q1
  obtain ⟨s1, s2, s3⟩ := zeF (f := ⟨fx, fy⟩) ck z hin
  rw [show ((P.X.toNat : Nat) : Int) = P.X by omega, show ((P.Y.toNat : Nat) : Int) = P.Y by omega] at s3
  have bx := hs
  unfold slope at bx
  simp only [Bool.and_eq_true, zab] at bx
  have m1 := mulB (a := fx) (b := P.X) (x := 1000) (y := 48) (by omega) (by omega)
  have m2 := mulB (a := fy) (b := P.Y) (x := 1000) (y := 48) (by omega) (by omega)
  refine ⟨q1, s2, ?_, ?_, zpr z⟩
  ·rw [q2]; unfold valP; omega
  ·rw [q2]; unfold valP; exact Int.not_lt.1 s3
 ·have hs : slope fx fy = false := by simpa using hs
  refine ⟨by rw [m1 hs, zcE ck hs], fun h => ?_⟩
  rw [zcE ck (f := ⟨fx, fy⟩) hs] at h
  cases h
theorem zq2 {c : Cirs} (h0 : cirsE c = 0) {j : Nat} (hj : j < c.K.length) (h : (alnR c (c.K.getD j default).ID).2 = 0) : (alnR c (c.K.getD j default).ID).1 = alo (chkO c (c.K.getD j default)) (c.K.getD j default) := by
 have ok := zbf h0
 have a1 := ok.ki j hj
 have a2 := zgZ hj
 have e : alnK c (c.K.getD j default).ID = c.K.getD j default := by unfold alnK; rw [show (chkI c (c.K.getD j default).ID).toNat = j by omega]
 unfold alnR at h ⊢
 rw [if_neg (fun hh => hh h0)] at h ⊢
 split at h
 ·cases h
 rename_i g1
 rw [if_neg g1, e] at *
 split at h
 ·cases h
 rename_i g2
 rw [if_neg g2]
theorem znJ {x : Cir} {l : List Thg} (hx : 0 <= x.Drift) {z t : Int} (hz : -300 <= z /\ z <= 300) (h : ∀ g ∈ l, g.s.Lo <= z /\ z <= g.s.Hi) : (zer x l t).lo <= z /\ z <= (zer x l t).hi := by
 unfold zer
 refine ⟨(ziR x t l _ _).2 ⟨hz.1, fun g hg => ?_⟩, (zhc x t l _ _).2 ⟨hz.2, fun g hg => ?_⟩⟩
 ·have := (h g hg).1
  have := zeB hx g.k.Tick t
  omega
 ·have := (h g hg).2
  have := zeB hx g.k.Tick t
  omega
theorem zlX {s : Svc} {x : Rl} {id t : Int} (hp : posB s x = true) (h : (zerR s.k id t).2 = 0) : ((zerR s.k id t).1.Lo <= zroR s x id /\ zroR s x id <= (zerR s.k id t).1.Hi) /\ (-300 <= zroR s x id /\ zroR s x id <= 300) := by
 unfold zerR at h ⊢
 split at h
 ·rename_i h1; exact absurd h h1
 rename_i h1
 rw [if_neg h1]
 have h1 : (atR s.k id t).2.2 = 0 := Classical.byContradiction h1
 have h0 := zm7 h1
 obtain ⟨k1, k2, k3, k4, k5⟩ := zkl h0
 have ok := zbf k1
 obtain ⟨i1, i2⟩ := za9 k2
 have hx := ok.cs _ i1
 have e1 : (atR s.k id t).1 = s.k.C.getD (cirI s.k id).toNat default := k4
 have e2 : (atR s.k id t).2.1 = thsL s.k (s.k.C.getD (cirI s.k id).toNat default) := k5
 have ez : zroR s x id = x.Z.getD (cirI s.k id).toNat 0 := by
  have : zroI s x id = cirI s.k id := rfl
  unfold zroR; rw [this, if_neg k2]
 unfold posB at hp
 rw [Bool.and_eq_true, List.all_eq_true] at hp
 have pc := hp.2 _ (List.mem_range.2 i1)
 unfold posC at pc
 simp only [Bool.and_eq_true, Bool.not_eq_true', decide_eq_false_iff_not, List.all_eq_true] at pc
 obtain ⟨⟨p1, p2⟩, p3⟩ := pc
 have hz := hx.z
 rw [ez, e1, e2]
 refine ⟨znJ hx.d.1 (by omega) fun g hg => ?_, by omega⟩
 have hg : g ∈ thsR s.k (s.k.C.getD (cirI s.k id).toNat default) s.k.K.length := by unfold thsL at hg; exact List.mem_mergeSort.1 hg
 rcases List.mem_cons.1 hg with rfl | hg
 ·unfold thg0; dsimp only; omega
 ·obtain ⟨k, hk, rfl⟩ := List.mem_map.1 hg
  obtain ⟨hk, he⟩ := List.mem_filter.1 hk
  obtain ⟨j, hj, rfl⟩ := zaX default (List.mem_of_mem_take hk)
  have he : (s.k.K.getD j default).C = (s.k.C.getD (cirI s.k id).toNat default).ID := by simpa using he
  have e : chkO s.k (s.k.K.getD j default) = s.k.C.getD (cirI s.k id).toNat default := by unfold chkO; rw [he, zgY k2]
  have q := p3 _ (gd1 hj default)
  unfold posK at q
  rw [he] at q
  simp only [bne_self_eq_false, Bool.false_or, Bool.and_eq_true, Bool.not_eq_true', decide_eq_false_iff_not, decide_eq_true_eq] at q
  obtain ⟨⟨q1, q2⟩, q3⟩ := q
  rw [zq2 k1 hj q1, e] at q2 q3
  dsimp only
  omega
theorem zhK {v m : Int} {a p : Place} (hm : 0 <= m /\ m <= 900) (ha : on a = true) (hp : on p = true) (hne : a ≠ p) : liesW (wdg v m) a p = decide (((bear a p).1 - v * (bear a p).2) % (3600 * (bear a p).2) <= m * (bear a p).2) := by
 have o1 : openW (wdg v m) = m := by
  rw [zdz (by unfold wdg; dsimp only; omega) (by unfold wdg; dsimp only; omega)]
  unfold wdg; dsimp only; omega
 unfold liesW
 have hv : validW (wdg v m) = true := by unfold validW; rw [o1]; exact zab.2 hm
 rw [hv, ha, hp, decide_eq_false hne, o1]
 generalize (bear a p).1 = n
 generalize (bear a p).2 = d
 have e1 : (n - (wdg v m).F * d) % (3600 * d) = (n - v * d) % (3600 * d) := by
  have : (wdg v m).F = v - 3600 * (v / 3600) := by unfold wdg; dsimp only; omega
  rw [this]
  have e : n - (v - 3600 * (v / 3600)) * d = (n - v * d) + v / 3600 * (3600 * d) := by grind
  rw [e, Int.add_mul_emod_self_right]
 rw [e1]; simp
theorem zkX {m d : Int} (hd : 0 < d) : m <= -(-m / d) * d := by
 have h := Int.ediv_mul_le (-m) (show d ≠ 0 by omega)
 rw [Int.neg_mul]; omega
theorem zpj {m d : Int} (hd : 0 < d) : -(-m / d) * d < m + d := by
 have h := Int.lt_ediv_add_one_mul_self (-m) hd
 rw [Int.add_mul] at h
 rw [Int.neg_mul]; omega
theorem ziB {m d : Int} (hd : 0 < d) : m / d * d <= m := Int.ediv_mul_le m (show d ≠ 0 by omega)
theorem zmE {m d : Int} (hd : 0 < d) : m < m / d * d + d := by
 have h := Int.lt_ediv_add_one_mul_self m hd
 rw [Int.add_mul] at h; omega
theorem zhn {a p : Place} {z sl : Int} (h : shwB a p z sl = true) : (on a = true /\ on p = true /\ a ≠ p) /\ (1 <= sl /\ sl <= 100) /\
  ((bear a p).1 + (z - sl) * (bear a p).2 <= (shwS a p z sl).Lo * (bear a p).2 /\ (shwS a p z sl).Hi * (bear a p).2 <= (bear a p).1 + (z + sl) * (bear a p).2) /\ (shwS a p z sl).Lo <= (shwS a p z sl).Hi := by
 have e : shwS a p z sl = ⟨-(-((bear a p).1 + (z - sl) * (bear a p).2) / (bear a p).2), ((bear a p).1 + (z + sl) * (bear a p).2) / (bear a p).2⟩ := by unfold shwS; rw [if_pos h]
 unfold shwB at h
 simp only [Bool.and_eq_true, Bool.not_eq_true', decide_eq_false_iff_not, zab] at h
 obtain ⟨⟨⟨⟨h1, h2⟩, h3⟩, h4⟩, h5⟩ := h
 obtain ⟨⟨d1, d2⟩, n1, n2⟩ := zbB h1 h2 h3
 rw [e]
 dsimp only
 generalize (bear a p).1 = n at *
 generalize (bear a p).2 = d at *
 have u1 := zkX (m := n + (z - sl) * d) d1
 have u2 := zpj (m := n + (z - sl) * d) d1
 have u3 := ziB (m := n + (z + sl) * d) d1
 have u4 := zmE (m := n + (z + sl) * d) d1
 refine ⟨⟨h1, h2, h3⟩, h5, ⟨u1, u3⟩, ?_⟩
 generalize -(-(n + (z - sl) * d) / d) = A at *
 generalize (n + (z + sl) * d) / d = B at *
 refine Int.not_lt.1 fun g => ?_
 have g2 := Int.mul_le_mul_of_nonneg_right (show B + 1 <= A by omega) (Int.le_of_lt d1)
 have g3 := Int.mul_le_mul_of_nonneg_right (show 1 <= sl by omega) (Int.le_of_lt d1)
 rw [Int.add_mul] at g2
 rw [Int.sub_mul] at u2
 rw [Int.add_mul] at u4
 omega
theorem zii {a p : Place} {z sl f : Int} (h : shwB a p z sl = true) (hf : (f - (shwS a p z sl).Lo) % 3600 <= (shwS a p z sl).Hi - (shwS a p z sl).Lo) : liesW (wdg (f - sl - z) (2 * sl)) a p = true := by
 obtain ⟨⟨h1, h2, h3⟩, h4, ⟨h5, h6⟩, h7⟩ := zhn h
 obtain ⟨⟨d1, d2⟩, n1, n2⟩ := zbB h1 h2 h3
 rw [zhK (by omega) h1 h2 h3, decide_eq_true_iff]
 generalize (shwS a p z sl).Lo = L at *
 generalize (shwS a p z sl).Hi = H at *
 generalize (bear a p).1 = n at *
 generalize (bear a p).2 = d at *
 obtain ⟨q, hq⟩ : ∃ q : Int, f - 3600 * q = L + (f - L) % 3600 := ⟨(f - L) / 3600, by omega⟩
 have e0 := Int.emod_nonneg (f - L) (show (3600 : Int) ≠ 0 by decide)
 have l1 : L <= f - 3600 * q := by omega
 have l2 : f - 3600 * q <= H := by omega
 have m1 := Int.mul_le_mul_of_nonneg_right l1 (Int.le_of_lt d1)
 have m2 := Int.mul_le_mul_of_nonneg_right l2 (Int.le_of_lt d1)
 have w0 : 0 <= n - (f - 3600 * q - sl - z) * d := by grind
 have w1 : n - (f - 3600 * q - sl - z) * d <= 2 * sl * d := by grind
 have w2 : 2 * sl * d < 3600 * d := Int.mul_lt_mul_of_pos_right (by omega) d1
 have e : n - (f - sl - z) * d = (n - (f - 3600 * q - sl - z) * d) + -q * (3600 * d) := by grind
 rw [e, Int.add_mul_emod_self_right, Int.emod_eq_of_lt w0 (by omega)]
 exact w1
theorem zm3 {a p : Place} {z sl f t zl zh : Int} (h : shwB a p z sl = true) (hz : zl <= z /\ z <= zh) (hl : ((bear a p).1 - (f + sl - zl) * (bear a p).2) % (3600 * (bear a p).2) <= ((t - f) % 3600 - (2 * sl + zh - zl)) * (bear a p).2) :
  ((shwS a p z sl).Lo - f) % 3600 + (shwS a p z sl).Hi - (shwS a p z sl).Lo <= (t - f) % 3600 := by
 obtain ⟨⟨h1, h2, h3⟩, h4, ⟨h5, h6⟩, h7⟩ := zhn h
 obtain ⟨⟨d1, d2⟩, n1, n2⟩ := zbB h1 h2 h3
 have w0 := Int.emod_nonneg (t - f) (show (3600 : Int) ≠ 0 by decide)
 have w1 := Int.emod_lt_of_pos (t - f) (show (0 : Int) < 3600 by decide)
 generalize (t - f) % 3600 = W at *
 generalize (shwS a p z sl).Lo = L at *
 generalize (shwS a p z sl).Hi = H at *
 generalize (bear a p).1 = n at *
 generalize (bear a p).2 = d at *
 have e0 := Int.emod_nonneg (n - (f + sl - zl) * d) (show 3600 * d ≠ 0 by omega)
 have e1 := Int.emod_add_mul_ediv (n - (f + sl - zl) * d) (3600 * d)
 generalize (n - (f + sl - zl) * d) % (3600 * d) = e at *
 generalize (n - (f + sl - zl) * d) / (3600 * d) = K at *
 have x1 := Int.mul_le_mul_of_nonneg_right hz.1 (Int.le_of_lt d1)
 have x2 := Int.mul_le_mul_of_nonneg_right hz.2 (Int.le_of_lt d1)
 have a1 : (f + 3600 * K) * d <= L * d := by grind
 have a2 : H * d <= (f + 3600 * K + W) * d := by grind
 have b1 := Int.le_of_mul_le_mul_right a1 d1
 have b2 := Int.le_of_mul_le_mul_right a2 d1
 omega
theorem zgj {s : Svc} {b : Brn} {p : Place} {z : Int} {r : Rpt} (hr : rptE s r = 0) (hz : (zerR s.k r.C r.Tick).1.Lo <= z /\ z <= (zerR s.k r.C r.Tick).1.Hi) (z3 : -300 <= z /\ z <= 300) (ht : tolB s b p z r = true) : allB s b r p = true := by
 obtain ⟨f1, f2, f3, f4⟩ := zbE hr
 obtain ⟨z1, z2⟩ := hz
 have hs := zjq f1
 by_cases hk : r.Kind = 1
 ·unfold tolB at ht
  rw [if_pos hk] at ht
  simp only [Bool.and_eq_true, decide_eq_true_eq] at ht
  obtain ⟨⟨t1, t2⟩, t3⟩ := ht
  have hl := zii t2 t3
  have hw := zp4 hr hk
  unfold allB
  rw [if_pos hk]
  unfold seenB secR
  rw [if_pos hk]
  rw [decide_eq_true hw, t1, Bool.true_and, Bool.and_true]
  unfold wdgR at hw ⊢
  split at hw
  ·rename_i g; exact absurd hw g
  rename_i g1
  split at hw
  ·rename_i g; exact absurd hw g
  rename_i g2
  split at hw
  ·cases hw
  rename_i g3
  rw [if_neg g1, if_neg g2, if_neg g3]
  have g3 : ¬ 900 < 2 * r.Slack + (zerR s.k r.C r.Tick).1.Hi - (zerR s.k r.C r.Tick).1.Lo := g3
  have W := zkd (u := r.From - r.Slack - (zerR s.k r.C r.Tick).1.Hi) (t := (zerR s.k r.C r.Tick).1.Hi - z) (T := (zerR s.k r.C r.Tick).1.Hi - (zerR s.k r.C r.Tick).1.Lo) (m := 2 * r.Slack) (a := (towG s.c.T r.Tower).1.At) (p := p) (by omega) (by omega) (by omega)
   (by rw [show r.From - r.Slack - (zerR s.k r.C r.Tick).1.Hi + ((zerR s.k r.C r.Tick).1.Hi - z) = r.From - r.Slack - z by omega]; exact hl)
  rw [show (zerR s.k r.C r.Tick).1.Hi - (zerR s.k r.C r.Tick).1.Lo + 2 * r.Slack = 2 * r.Slack + (zerR s.k r.C r.Tick).1.Hi - (zerR s.k r.C r.Tick).1.Lo by omega] at W
  exact W
 ·have fb := zkB f1 hk
  obtain ⟨b1, b2, b3⟩ := fb
  unfold tolB at ht
  rw [if_neg hk] at ht
  unfold allB
  rw [if_neg hk]
  rw [Bool.not_eq_true', Bool.eq_false_iff]
  intro hsn
  unfold seenB secR at hsn
  rw [if_neg hk] at hsn
  simp only [Bool.and_eq_true] at hsn
  obtain ⟨⟨s1, s2⟩, s3⟩ := hsn
  rw [s3] at ht
  unfold blkR at s1 s2
  split at s1
  ·cases s1
  rename_i g
  rw [if_neg g] at s2
  have w1 := Int.emod_lt_of_pos (r.To - r.From) (show (0 : Int) < 3600 by decide)
  have ew : (⟨(r.From + r.Slack - (zerR s.k r.C r.Tick).1.Lo) % 3600, (r.To - r.Slack - (zerR s.k r.C r.Tick).1.Hi) % 3600⟩ : Wdg) = wdg (r.From + r.Slack - (zerR s.k r.C r.Tick).1.Lo) ((r.To - r.From) % 3600 - (2 * r.Slack + (zerR s.k r.C r.Tick).1.Hi - (zerR s.k r.C r.Tick).1.Lo)) := by
   unfold wdg
   rw [Wdg.mk.injEq]
   exact ⟨rfl, by omega⟩
  dsimp only at s2
  rw [ew] at s2
  have s4 := s2
  unfold liesW at s4
  simp only [Bool.and_eq_true, Bool.not_eq_true', decide_eq_false_iff_not] at s4
  obtain ⟨⟨⟨q1, q2, q3⟩, q4⟩, -⟩ := s4
  have o1 : openW (wdg (r.From + r.Slack - (zerR s.k r.C r.Tick).1.Lo) ((r.To - r.From) % 3600 - (2 * r.Slack + (zerR s.k r.C r.Tick).1.Hi - (zerR s.k r.C r.Tick).1.Lo))) = (r.To - r.From) % 3600 - (2 * r.Slack + (zerR s.k r.C r.Tick).1.Hi - (zerR s.k r.C r.Tick).1.Lo) := by
   rw [zdz (by unfold wdg; dsimp only; omega) (by unfold wdg; dsimp only; omega)]
   unfold wdg; dsimp only; omega
  unfold validW at q1
  rw [o1] at q1
  have q1 := zab.1 q1
  rw [zhK q1 q2 q3 q4, decide_eq_true_iff] at s2
  have sh : shwB (towG s.c.T r.Tower).1.At p z r.Slack = true := by
   unfold shwB; rw [q2, q3, decide_eq_false q4, zab.2 z3, zab.2 b3]; rfl
  have := zm3 (t := r.To) sh ⟨z1, z2⟩ s2
  rw [sh] at ht
  have ht : decide ((r.To - r.From) % 3600 < ((shwS (towG s.c.T r.Tower).1.At p z r.Slack).Lo - r.From) % 3600 + (shwS (towG s.c.T r.Tower).1.At p z r.Slack).Hi - (shwS (towG s.c.T r.Tower).1.At p z r.Slack).Lo) = true := ht
  have ht := of_decide_eq_true ht
  omega
theorem zgi {s : Svc} {b : Brn} {x : Rl} {r : Rpt} (hp : posB s x = true) (hr : rptE s r = 0) (ht : truB s b x r = true) : allB s b r x.At = true := by
 obtain ⟨f1, f2, f3, f4⟩ := zbE hr
 obtain ⟨hz, z3⟩ := zlX hp f4
 exact zgj hr hz z3 ht
end Go.Pg
namespace Go.Pg
open Go.Proofs Go.Shelf Go.RowKit Go.Lib Go.Sort
variable {P : Program} {ρ : Ren}
theorem zil (w : World) (t e ty : TypeId) (z : Value) (ht : P.underlying t = some (.slice e)) (hv : ∀ w, (zeroValue e).run P w = .ok z w) (b o n c : Nat) (zs : List Value) (hzs : (Builtin.zeroCells z.cells n).toList = zs) (ho : ∀ v ∈ zs, v.oneCell' = true) (hn : 0 < n)
  (hc : ∀ j, j < zs.length -> (w.cell? ⟨b, o + j, none⟩).isSome = true) (hf : ∀ j, j < zs.length -> w.frozen? ⟨b, o + j, none⟩ = false) :
  (Builtin.clear_ #[t] ty #[.slice (some ⟨b, o, none⟩) n c]).run P w = .ok (.tuple #[]) (w.setCells b o zs) := by
 have hst := run_storeCells_cells (P := P) b o zs 0 w (by simpa using hc) (by simpa using hf) ho
 simp only [Nat.add_zero] at hst
 obtain ⟨m, rfl⟩ : ∃ m, n = m + 1 := ⟨n - 1, by omega⟩
 simp [Builtin.clear_, run_underlying ht, hv, hzs, hst]
theorem zmh (d : Array Value) (i j : Nat) (t : List Value) (hij : i <= j) (hj : j <= d.size) (ht : t.length = j - i) :
  lay (lay d i (d.toList.drop j)) (i + (d.size - j)) t = (d.toList.take i ++ d.toList.drop j ++ t).toArray := by
 apply Array.ext_getElem?
 intro u
 have l1 : (d.toList.take i).length = i := by simp; omega
 have l2 : (d.toList.drop j).length = d.size - j := by simp
 rw [lay_get? _ _ _ _ (by rw [lay_size]; omega), lay_get? _ _ _ _ (by rw [l2]; omega), show (d.toList.take i ++ d.toList.drop j ++ t).toArray[u]? = (d.toList.take i ++ d.toList.drop j ++ t)[u]? from by simp]
 simp only [l2, ht]
 by_cases c1 : u < i
 ·rw [if_neg (by omega), if_neg (by omega), List.getElem?_append_left (by simp; omega), List.getElem?_append_left (by omega), List.getElem?_take, if_pos c1, Array.getElem?_toList]
 ·by_cases c2 : u < i + (d.size - j)
  ·rw [if_neg (by omega), if_pos (by omega), List.getElem?_append_left (by simp; omega), List.getElem?_append_right (by omega), l1]
  ·rw [List.getElem?_append_right (by simp; omega)]
   simp only [List.length_append, l1, l2]
   by_cases c3 : u < d.size
   ·rw [if_pos (by omega)]
   ·rw [if_neg (by omega), if_neg (by omega), Array.getElem?_eq_none (by omega), List.getElem?_eq_none (by omega)]
set_option maxRecDepth 1000000 in
theorem zmM (L : SlLaysE0.n45 P ρ) {k : Nat} (hk : 0 < k) (a23 : ∀ w, (isAgg (ρ.t 23)).run P w = .ok true w) (z23 : ∀ w, (Go.sizeOf (ρ.t 23)).run P w = .ok k w) (i0 : TypeInfo) (hi0 : P.info? (ρ.t 23) = some i0) (hz1 : i0.size = k)
  (z : Value) (v23 : ∀ w, (zeroValue (ρ.t 23)).run P w = .ok z w) (zs : List Value) (blk off cap i j n : Nat) (hzs : (Builtin.zeroCells z.cells (j - i)).toList = zs) (hzl : zs.length = (j - i) * k) (hzo : ∀ v ∈ zs, v.oneCell' = true)
  (D : Array Value) (hD : D.size = n * k) (hDo : ∀ v ∈ D.toList, v.oneCell' = true) (w : World) (hH : Go.Sort.Holds id w blk off D) (hcap : n <= cap) (hm : cap <= 9223372036854775807) (hij : i < j) (hj : j <= n) :
  Calls P (ρ.f 45) #[.slice (some ⟨blk, off, none⟩) n cap, .int .i64 i, .int .i64 j] w fun e w' => e = .returned (.slice (some ⟨blk, off, none⟩) (n - (j - i)) cap) /\ ∃ q, w' = putRow id (Sort.ahead w q) blk off (D.toList.take (i * k) ++ D.toList.drop (j * k) ++ zs).toArray := by
 have mixed := L.mixed; have t0 := L.t0; have a0 := L.a0; have z0 := L.z0; have v0 := L.v0; have t3 := L.t3; have a3 := L.a3; have z3 := L.z3; have v3 := L.v3; have t4 := L.t4; have a4 := L.a4; have z4 := L.z4; have v4 := L.v4; have t22 := L.t22; have a22 := L.a22; have z22 := L.z22; have v22 := L.v22
 have b1 : i * k <= j * k := Nat.mul_le_mul_right k (by omega)
 have b2 : j * k <= n * k := Nat.mul_le_mul_right k hj
 have b3 : (n - j) * k = n * k - j * k := Nat.sub_mul n j k
 have b4 : (j - i) * k = j * k - i * k := Nat.sub_mul j i k
 have b5' : (i + (n - j)) * k = i * k + (n * k - j * k) := by rw [Nat.add_mul, b3]
 have b5 : Hid ((i + (n - j)) * k = i * k + (n * k - j * k)) := b5'
 obtain ⟨news, hnews⟩ : ∃ news, news = D.toList.drop (j * k) := ⟨_, rfl⟩
 have hlen : news.length = (n - j) * k := by rw [hnews, List.length_drop, Array.length_toList, hD, b3]
 have hget : ∀ t, t < (n - j) * k -> news[t]? = some D[j * k + t]! := by
  intro t ht
  rw [hnews, List.getElem?_drop, Array.getElem?_toList, getElem!_pos D (j * k + t) (by omega), Array.getElem?_eq_getElem (by omega)]
 obtain ⟨A, hA, hsrc⟩ : ∃ A : Addr, (if cap = j then some (⟨blk, off, none⟩ : Addr) else some ⟨blk, off + j * k, none⟩) = some A /\ Hid (∀ t u, news[t]? = some u -> w.drew.cell? (A.add t) = some u) := by
  by_cases h : cap = j
  ·refine ⟨⟨blk, off, none⟩, by simp [h], fun t u hu => ?_⟩
   have h0 : news.length = 0 := by rw [hlen, show n - j = 0 by omega, Nat.zero_mul]
   rw [List.length_eq_zero_iff.1 h0] at hu
   simp at hu
  ·refine ⟨⟨blk, off + j * k, none⟩, by simp [h], fun t u hu => ?_⟩
   have ht : t < (n - j) * k := by
    have := (List.getElem?_eq_some_iff.1 hu).1
    rwa [hlen] at this
   rw [hget t ht] at hu
   rw [Addr.add_lit, show off + j * k + t = off + (j * k + t) by omega]
   exact (hH (j * k + t) (by omega)).1.trans hu
 have s1 : Hid (news.length = (n - j) * k) := hlen
 have s2 : Hid (∀ u ∈ news, u.oneCell' = true) := by
  intro u hu
  rw [hnews] at hu
  exact hDo u (List.mem_of_mem_drop hu)
 have s3 : Hid (∀ t, t < news.length -> (w.drew.cell? ⟨blk, off + i * k + t, none⟩).isSome = true /\ w.drew.frozen? ⟨blk, off + i * k + t, none⟩ = false) := by
  intro t ht
  rw [hlen, b3] at ht
  rw [Nat.add_assoc]
  exact ⟨by show (w.cell? _).isSome = true; rw [(hH (i * k + t) (by omega)).1]; rfl, (hH (i * k + t) (by omega)).2⟩
 obtain ⟨W1, hW1⟩ : ∃ W1, W1 = w.drew.setCells blk (off + i * k) news := ⟨_, rfl⟩
 have hW1' : W1 = putRow id (Sort.ahead w 1) blk off (lay D (i * k) (D.toList.drop (j * k))) := by
  have e := putRow_setCells id (Sort.ahead w 1) blk off (D.toList.drop (j * k)) D (i * k) (by simp; omega)
  rw [List.map_id, putRow_self id (Sort.ahead w 1) blk off D (holds_ahead id w 1 blk off D hH)] at e
  rw [hW1, hnews, <- e]
  rfl
 have hH1 : Go.Sort.Holds id W1 blk off (lay D (i * k) (D.toList.drop (j * k))) := by rw [hW1']; exact holds_putRow id _ blk off D _ (holds_ahead id w 1 blk off D hH) (lay_size _ _ _)
 have hcl : ∀ ty, (Builtin.clear_ #[ρ.t 22] ty #[.slice (some ⟨blk, off + (i + (n - j)) * k, none⟩) (n - (i + (n - j))) (cap - (i + (n - j)))]).run P W1 = .ok (.tuple #[]) (W1.setCells blk (off + (i + (n - j)) * k) zs) :=
  fun ty => zil W1 _ _ ty z t22 v23 blk (off + (i + (n - j)) * k) _ _ zs (by rw [show n - (i + (n - j)) = j - i by omega]; exact hzs) hzo (by omega)
   (fun t ht => by have := b5.out; rw [Nat.add_assoc, (hH1 _ (by rw [lay_size]; omega)).1]; rfl) (fun t ht => by have := b5.out; rw [Nat.add_assoc]; exact (hH1 _ (by rw [lay_size]; omega)).2)
 have X : Aside (W1 = putRow id (Sort.ahead w 1) blk off (lay D (i * k) (D.toList.drop (j * k)))) := hW1'
 have hW : Hid (W1 = w.drew.setCells blk (off + i * k) news) := hW1
 have hic : i <= cap := by omega
 have hjc : j <= cap := by omega
 clear hW1 hW1' hH1 hH hget hnews hlen b1 b2 b3 b4 b5' hzs hzo hDo hm
 obtain ⟨_, _, FG⟩ := L.f45
 go_enter FG, SlBodyN.n45_ntmps ρ
 go_wp2_with fail
 go_region_law_o (refine step_append_room rfl (.tmp 22) (.tmp 25) (ρ.t 22) rfl (ρ.t 23) i0 k t22 hi0 hz1 blk off i cap (by simp [Act.eval, Act.put]) A (n - j) (cap - j) news (by simp [Act.eval, Act.put]) s1.out hsrc.out s2.out (by omega) s3.out ?_; rw [<- hW.out])
 go_wp2
 go_ret
 refine ⟨by rw [show n - (j - i) = i + (n - j) by omega]; rfl, 1, ?_⟩
 have b1 : i * k <= j * k := Nat.mul_le_mul_right k (by omega)
 have b2 : j * k <= n * k := Nat.mul_le_mul_right k hj
 have b4 : (j - i) * k = j * k - i * k := Nat.sub_mul j i k
 have e := putRow_setCells id (Sort.ahead w 1) blk off zs (lay D (i * k) (D.toList.drop (j * k))) ((i + (n - j)) * k) (by have := b5.out; rw [lay_size]; omega)
 rw [List.map_id] at e
 rw [X.out, e, b5.out, <- hD, zmh D (i * k) (j * k) zs b1 (by omega) (by omega)]
theorem zeT (L : SlLaysE0.n45 P ρ) (hent : Ent P (ρ.f 45)) {k : Nat} (hk : 0 < k) (a23 : ∀ w, (isAgg (ρ.t 23)).run P w = .ok true w) (z23 : ∀ w, (Go.sizeOf (ρ.t 23)).run P w = .ok k w) (i0 : TypeInfo) (hi0 : P.info? (ρ.t 23) = some i0) (hz1 : i0.size = k)
  (z : Value) (v23 : ∀ w, (zeroValue (ρ.t 23)).run P w = .ok z w) (hzk : z.cells.size = k) (hzo : ∀ v ∈ z.cells.toList, v.oneCell' = true) (e : TypeId) (n i : Nat) (f : Nat -> Nat -> D) (hf : ∀ m j, m < n -> j < k -> (f m j).flat = true) (hi : i < n) :
  SpecT P (ρ.f 45) [] [.d (.int .i64 i), .d (.int .i64 ((i + 1 : Nat) : Int))] e k n f (n - 1) (fun m => if m < i then f m else f (m + 1)) := by
 refine ⟨hent, fun w ok vs us v xs hok h1 h2 hr => ?_⟩
 cases h1
 cases h2 with
 | cons h2 h3 =>
 cases h3 with
 | cons h3 h4 =>
 cases h4
 rename_i a b
 have ha : a = .int .i64 i := h2
 have hb : b = .int .i64 ((i + 1 : Nat) : Int) := h3
 subst ha; subst hb
 have hxl := hr.own.1
 rcases hr.own.2 with ⟨h4, h5⟩ | ⟨q, cap, cur, rfl, _, hh, hnc, hcap, hcs, htk⟩
 ·omega
 ·have b1 : i * k <= (i + 1) * k := Nat.mul_le_mul_right k (by omega)
  have b2 : (i + 1) * k <= n * k := Nat.mul_le_mul_right k hi
  have b3 : (i + 1) * k = i * k + k := by rw [Nat.add_mul, Nat.one_mul]
  have b4 : (n - 1) * k = n * k - k := by rw [Nat.sub_mul, Nat.one_mul]
  have hck : n * k <= cap * k := Nat.mul_le_mul_right k hnc
  have hxc : ∀ t, t < n * k -> cur[t]? = xs[t]? := fun t ht => by
   rw [<- htk, List.getElem?_take, if_pos ht, Array.getElem?_toList]
  have hH : Go.Sort.Holds id w q 0 xs.toArray := fun t ht => by
   have ht : t < n * k := by simpa [hxl] using ht
   have hx : xs[t]? = some xs.toArray[t]! := by
    rw [getElem!_pos xs.toArray t (by simpa [hxl] using ht), gqe (by omega)]; rfl
   refine ⟨?_, ?_⟩
   ·simp only [World.cell?, hh, id_eq, Nat.zero_add]
    rw [hxc t ht, hx]; rfl
   ·simp [World.frozen?, hh]
  obtain ⟨zs, hzs⟩ : ∃ zs, (Builtin.zeroCells z.cells (i + 1 - i)).toList = zs := ⟨_, rfl⟩
  have hzl : zs.length = (i + 1 - i) * k := by rw [<- hzs, zcg, hzk]
  have hzo' : ∀ v ∈ zs, v.oneCell' = true := fun v hv => by
   obtain ⟨t, ht⟩ := List.getElem?_of_mem hv
   have htl : t < (i + 1 - i) * k := by have := (List.getElem?_eq_some_iff.1 ht).1; omega
   rw [<- hzs, zch _ _ _ (by rw [hzk]; exact htl)] at ht
   exact hzo v (List.mem_of_getElem? ht)
  have hrun := zmM L hk a23 z23 i0 hi0 hz1 z v23 zs q 0 cap i (i + 1) n hzs hzl hzo' xs.toArray (by simp [hxl]) (by simpa using hr.one) w hH hnc (by unfold maxLen at hcap; omega) (by omega) (by omega)
  refine hrun.mono ?_
  rintro en w' ⟨rfl, m, rfl⟩
  obtain ⟨R, hR⟩ : ∃ R, R = xs.take (i * k) ++ xs.drop ((i + 1) * k) ++ zs := ⟨_, rfl⟩
  have hzl' : zs.length = k := by rw [hzl, Nat.add_sub_cancel_left, Nat.one_mul]
  have hRl : R.length = n * k := by rw [hR, List.length_append, List.length_append, List.length_take, List.length_drop, hzl', hxl]; omega
  have hRg : ∀ t, t < (n - 1) * k -> R[t]? = if t < i * k then xs[t]? else xs[t + k]? := fun t ht => by
   rw [hR, List.getElem?_append_left (by rw [List.length_append, List.length_take, List.length_drop, hxl]; omega)]
   split
   ·rename_i h1; rw [List.getElem?_append_left (by rw [List.length_take, hxl]; omega), List.getElem?_take, if_pos h1]
   ·rename_i h1
    rw [List.getElem?_append_right (by rw [List.length_take, hxl]; omega), List.getElem?_drop, List.length_take, hxl]
    congr 1; omega
  have eR : (xs.toArray.toList.take (i * k) ++ xs.toArray.toList.drop ((i + 1) * k) ++ zs).toArray = R.toArray := by rw [hR]
  rw [eR]
  have hg : q < w.heap.size := (Array.getElem?_eq_some_iff.1 hh).1
  have hheap : ∀ i, i < w.heap.size -> (putRow id (Sort.ahead w m) q 0 R.toArray).heap[i]? = if i = q then some (.cells (putCells id 0 R.toArray cur) e (0, 0)) else w.heap[i]? := fun i hi => by
   simp only [putRow, mapBlock, Sort.ahead]
   rw [Array.getElem?_modify]
   by_cases e' : q = i
   ·subst e'; simp [hh, onCells]
   ·rw [if_neg e', if_neg (fun e'' => e' e''.symm)]
  have hsz : (putCells id 0 R.toArray cur).size = cap * k := by simp [putCells, hcs]
  have hsz' : (putCells id 0 R.toArray cur).toList.length = cap * k := (Array.length_toList).trans hsz
  have hget : ∀ t, t < n * k -> (putCells id 0 R.toArray cur).toList[t]? = R[t]? := fun t ht => by
   have hlt : t < cur.size := by omega
   rw [Array.getElem?_toList, putCells, Array.getElem?_mapIdx, Array.getElem?_eq_getElem hlt]
   simp only [Option.map_some, Nat.zero_le, true_and, Nat.zero_add, List.size_toArray, hRl, if_pos ht, Nat.sub_zero, id_eq]
   rw [getElem!_pos R.toArray t (by simpa [hRl] using ht), gqe (by omega)]; rfl
  rw [show n - (i + 1 - i) = n - 1 by omega]
  refine ⟨_, rfl, ⟨rfl, rfl, rfl, by simp [putRow, mapBlock, Sort.ahead], fun i hi hne => ?_⟩, fun b hb => .inl hb, (putCells id 0 R.toArray cur).toList.take ((n - 1) * k), ⟨by rw [List.length_take, hsz']; omega, .inr ⟨q, cap, _, rfl, Nat.zero_le _, by rw [hheap q hg, if_pos rfl], by omega, hcap, hsz, rfl⟩⟩, fun u hu => ?_, fun m' hm' j hj => ?_⟩
  ·rw [hheap i hi, if_neg fun e' => hne (by rw [e']; rfl)]
  ·obtain ⟨t, ht⟩ := List.getElem?_of_mem hu
   rw [List.getElem?_take] at ht
   split at ht
   ·rename_i hlt
    rw [hget t (by omega), hRg t hlt] at ht
    split at ht
    ·exact hr.one u (List.mem_of_getElem? ht)
    ·exact hr.one u (List.mem_of_getElem? ht)
   ·cases ht
  ·have hlt : m' * k + j < (n - 1) * k := by
    have : (m' + 1) * k <= (n - 1) * k := Nat.mul_le_mul_right k hm'
    rw [Nat.add_mul] at this; omega
   rw [List.getElem?_take, if_pos hlt, hget _ (by omega), hRg _ hlt]
   by_cases hmi : m' < i
   ·have h6 : (m' + 1) * k <= i * k := Nat.mul_le_mul_right k hmi
    rw [Nat.add_mul] at h6
    rw [if_pos (by omega)]
    obtain ⟨u, hu, hrep⟩ := hr.rep m' (by omega) j hj
    refine ⟨u, hu, ?_⟩
    show Rep _ _ ((if m' < i then f m' else f (m' + 1)) j) u
    rw [if_pos hmi]
    exact Rep.flat (hf m' j (by omega) hj) hrep
   ·have h6 : i * k <= m' * k := Nat.mul_le_mul_right k (by omega)
    rw [if_neg (by omega)]
    obtain ⟨u, hu, hrep⟩ := hr.rep (m' + 1) (by omega) j hj
    refine ⟨u, ?_, ?_⟩
    ·rw [<- hu]; congr 1; rw [Nat.add_mul]; omega
    ·show Rep _ _ ((if m' < i then f m' else f (m' + 1)) j) u
     rw [if_neg hmi]
     exact Rep.flat (hf (m' + 1) j (by omega) hj) hrep
theorem zli {e : Nat} {ei : TI} (h : TTab e = some ei) (ha : ei.agg = true) : ∃ i0 z, PP.info? e = some i0 /\ i0.size = ei.size /\ (∀ w, (isAgg e).run PP w = .ok true w) /\ (∀ w, (Go.sizeOf e).run PP w = .ok ei.size w) /\ (∀ w, (zeroValue e).run PP w = .ok z w) /\ z.cells.toList = ei.zero := by
 obtain ⟨info, d, z, h1, h2, h3, h4, h5, h6, h7, h8⟩ := zad (hT e ei h)
 refine ⟨info, z, h1, h4, fun w => ?_, fun w => ?_, fun w => ?_, h7⟩
 ·rw [ha] at h6
  cases d <;> simp [TK.isAgg] at h6 <;> simp [isAgg, run_underlying h2]
 ·simp [Go.sizeOf, typeInfo, h1, h4]
 ·simp [zeroValue, typeInfo, h1, h3]
theorem SpecT.congr {P : Program} {f : FuncId} {pre post : List V1} {e k n n' n2 : Nat} {g g' g2 : Nat -> Nat -> D} (h : SpecT P f pre post e k n g n' g') (hn : n' = n2) (hg : ∀ m, m < n2 -> ∀ j, j < k -> g' m j = g2 m j) : SpecT P f pre post e k n g n2 g2 := by
 subst hn
 refine ⟨h.1, fun w ok vs us v xs h1 h2 h3 h4 => (h.2 w ok vs us v xs h1 h2 h3 h4).mono ?_⟩
 rintro en w' ⟨v', e1, e2, e3, xs', e4, e5, e6⟩
 exact ⟨v', e1, e2, e3, xs', e4, e5, fun m hm j hj => by rw [<- hg m hm j hj]; exact e6 m hm j hj⟩
theorem zqD (L : List (Nat -> Bool)) (m j : Nat) (hj : j < 38) : (rowB L m j).flat = true := by
 show (bAt (L.getD m default) j).flat = true
 rcases i38 hj with rfl | rfl | rfl | rfl | rfl | rfl | rfl | rfl | rfl | rfl | rfl | rfl | rfl | rfl | rfl | rfl | rfl | rfl | rfl | rfl | rfl | rfl | rfl | rfl | rfl | rfl | rfl | rfl | rfl | rfl | rfl | rfl | rfl | rfl | rfl | rfl | rfl | rfl <;> rfl
theorem zl8 (L : List (Nat -> Bool)) (hn : L.length <= 1000000) : SpecO PP 165 [.d (lB L)] 168 38 L.length (rowB L) := by
 refine zc8 Tryz.func165 rfl (by kernel_rfl) rfl ?_
 refine fun b hb => ?_
 apply bY <;> intro h1
 ·have h0 := hb h1
  refine ⟨rfl, rfl, h0.symm, fun i hi => ?_⟩
  omega
 ·refine ⟨⟨.inr rfl, by unfold maxLen; omega, by show (0 + L.length) * 304 <= 140737488355328; omega⟩, ?_⟩
  refine ⟨rfl, rfl, Nat.zero_add _, fun i hi j hj => ?_⟩
  exact dE _
theorem zpM (L : List (Nat -> Bool)) (i : Nat) (hi : i < L.length) : SpecT PP 164 [] [.d (.int .i64 i), .d (.int .i64 ((i + 1 : Nat) : Int))] 168 38 L.length (rowB L) (rmB L i).length (rowB (rmB L i)) := by
 obtain ⟨i0, z, h1, h2, h3, h4, h5, h6⟩ := zli (e := 168) (ei := ⟨38, true, 304, List.replicate 38 (.int .u64 0), .array 38 166⟩) (by kernel_rfl) rfl
 have h := zeT Tryz.delB ⟨_, Tryz.func164, by kernel_rfl, by kernel_rfl⟩ (k := 38) (by decide) h3 h4 i0 h1 h2 z h5 (by rw [<- Array.length_toList, h6]; rfl) (by rw [h6]; intro v hv; rw [List.eq_of_mem_replicate hv]; rfl) 168 L.length i (rowB L) (fun m j _ hj => zqD L m j hj) hi
 refine h.congr (zjG hi).symm fun m hm j hj => ?_
 have e : (rmB L i).getD m default = if m < i then L.getD m default else L.getD (m + 1) default := by
  rw [gdq, zoi hi]
  split <;> rfl
 show (if m < i then rowB L m else rowB L (m + 1)) j = bAt ((rmB L i).getD m default) j
 rw [e]
 split <;> rfl
theorem ziv (L : List (Nat -> Bool)) (i : Nat) (hi : i < L.length) (hn : L.length <= 1000000) : Spec PP 78 [.d (lB L), N i] [.d (lB (rmB L i))] := by
 refine sA Tryz.func78 ?_
 refine CallSt.own (zl8 L hn) rfl rfl (fun m j _ hj => zqD L m j hj) ?_
 refine ⟨i6, ?_⟩
 refine CallSt.tk rfl (zpM L i hi) ⟨⟨[], .tmp 6, [.tmp 7, .tmp 9], [], rfl, rfl, rfl, rfl, rfl, rfl, rfl⟩⟩ rfl ?_
 exact ⟨⟨_, _, _, _, rfl, dE _⟩, trivial⟩
theorem zov {s : Svc} {L : List (Nat -> Bool)} {c k : Nat} : ∀ j ∈ ovrI s L c k, 0 <= j /\ j < k := fun j hj => by
 obtain ⟨i, hi, -, rfl⟩ := zl1.1 hj
 omega
theorem ziw (s : Svc) (b : Brn) (l : List Rpt) : Spec PP 29 [s.v, b.v, .d (lR l)] [.d (lI (susR s b l).1), .d (.int .i64 (susR s b l).2)] := by
 refine sA Tryz.func29 ?_
 refine CallSt.ro (zmm s b l) rfl rfl ?_
 by_cases h0 : givE s b l = 0
 ·have e : allR s b l = (l.map (alwP s b), 0) := by unfold allR; rw [if_neg (fun hh => hh h0)]
  have e1 : susR s b l = if 0 < cntP s (metP (l.map (alwP s b))) then ([], 0) else (idsL l (ovrI s (l.map (alwP s b)) 0 l.length), 0) := by unfold susR; rw [if_neg (fun hh => hh h0)]
  have ok := zcz h0
  have hn := ok.n
  have hL : (l.map (alwP s b)).length = l.length := List.length_map _
  rw [e, e1]
  generalize l.map (alwP s b) = L at hL
  refine sF ?_
  refine oL (List.range 5) (FzOb.no ?_)
  refine oP (zew L (by omega)) rfl rfl ?_
  refine oP (ze9 s (metP L) ok.s.c.m) rfl rfl ?_
  apply bY <;> intro h1
  ·have h1 : 0 < cntP s (metP L) := by
    have : (0 : Int) < ((plsL s.c.M (metP L)).length : Int) := dT h1
    unfold cntP; omega
   rw [if_pos h1]
   exact ⟨⟨_, _, _, _, rfl, rfl, .inl rfl⟩, rtI rfl rfl, trivial⟩
  have h1 : ¬ 0 < cntP s (metP L) := by
   have : ¬ (0 : Int) < ((plsL s.c.M (metP L)).length : Int) := dF h1
   unfold cntP; omega
  rw [if_neg h1]
  refine LoopOb.of (σ := Nat) (fun i => ([(2, .d (lR l)), (3, .box 3 0), (8, .d (lB L)), (10, .own 10), (28, .d (I l.length)), (29, .d (I i))], [(3, .box (s.ds.map AV.d)), (10, .row 3 1 (ovrI s L 0 i).length (rowI (ovrI s L 0 i)))])) (fun i => i <= l.length) (fun i => l.length - i) 0
   ⟨rfl, ⟨obX rfl, obR rfl ⟨rfl, .inl rfl⟩, trivial⟩, wq rfl⟩ (Nat.zero_le _) fun i hi => ?_
  have hi : i <= l.length := hi
  have hol := zl2 s L 0 i
  apply bY <;> intro h2
  ·have h2 : i < l.length := by have := dT h2; omega
   have hrl := zjG (L := L) (i := i) (by omega)
   refine oL (List.range 7) (FzOb.no ?_)
   refine CallOb.ro (ziv L i (by omega) (by omega)) rfl rfl ?_
   refine oP (zew (rmB L i) (by omega)) rfl rfl ?_
   refine oP (ze9 s (metP (rmB L i)) ok.s.c.m) rfl rfl ?_
   apply bY <;> intro h3
   ·have h3 : 0 < cntP s (metP (rmB L i)) := by
     have : (0 : Int) < ((plsL s.c.M (metP (rmB L i))).length : Int) := dT h3
     unfold cntP; omega
    refine ⟨⟨.inr rfl, by unfold maxLen; omega, by show ((ovrI s L 0 i).length + 1) * 8 <= 140737488355328; omega⟩, ?_⟩
    refine ⟨i6, ?_⟩
    refine ⟨i + 1, ⟨rfl, ⟨obX rfl, obR rfl ?_, trivial⟩, wq rfl⟩, h2, (msr (by omega))⟩
    rw [zl0 h3]
    exact zlT rfl
   ·have h3 : ¬ 0 < cntP s (metP (rmB L i)) := by
     have : ¬ (0 : Int) < ((plsL s.c.M (metP (rmB L i))).length : Int) := dF h3
     unfold cntP; omega
    refine ⟨i6, ?_⟩
    refine ⟨i + 1, ⟨rfl, ⟨obX rfl, obR rfl ?_, trivial⟩, wq rfl⟩, h2, (msr (by omega))⟩
    rw [zow h3]
    exact dE _
  ·have h2 : i = l.length := by have := dF h2; omega
   subst h2
   refine CallSt.fz [10] (zqm l (ovrI s L 0 l.length) zov (by omega)) rfl rfl ?_
   exact ⟨dE _, rtI rfl rfl, trivial⟩
 ·have e : allR s b l = ([], givE s b l) := by unfold allR; rw [if_pos h0]
  have e1 : susR s b l = ([], givE s b l) := by unfold susR; rw [if_pos h0]
  rw [e, e1]
  refine Split.yes (by simpa using h0) ?_
  exact ⟨⟨_, _, _, _, rfl, rfl, .inl rfl⟩, rtI rfl rfl, trivial⟩
abbrev rowRp (l : List Rpt) : Nat -> Nat -> D := fun i => (l.getD i default).at
theorem pushR {vs : List Rpt} {p : Rpt} {g : Nat -> Nat -> D} (hg : ∀ j, j < 8 -> D.eqv (g 0 j) (p.at j)) : D.eqv (.slc 8 (vs.length + 1) (appRow vs.length (rowRp vs) g)) (.slc 8 (vs ++ [p]).length (rowRp (vs ++ [p]))) := by
 refine ⟨by simp, .inr ⟨rfl, fun i hi j hj => ?_⟩⟩
 show D.eqv (appRow vs.length (rowRp vs) g i j) (((vs ++ [p]).getD i default).at j)
 unfold appRow
 by_cases h : i < vs.length
 ·rw [if_pos h, gdq, List.getElem?_append_left h, <- gdq]
  exact dE _
 ·have e : i = vs.length := by omega
  subst e
  rw [if_neg h, Nat.sub_self, gdq, List.getElem?_append_right (Nat.le_refl _), Nat.sub_self]
  exact hg j hj
theorem w_has (l : List Place) (p : Place) (hn : l.length <= 1000000) : Spec PP 27 [.d (lP l), p.v] [B (l.contains p)] := by
 refine sA Tryz.func27 ?_
 refine LoopOb.of (σ := Nat) (fun i => ([(3, .box 3 0), (7, .d (lP l)), (8, .d (I l.length)), (9, .d (I i))], [(3, .box ([I p.X, I p.Y].map AV.d))])) (fun i => i <= l.length /\ ∀ j, j < i -> l.getD j default ≠ p) (fun i => l.length - i) 0
  ⟨rfl, ⟨obD [I p.X, I p.Y] rfl, trivial⟩, wq rfl⟩ z0L fun i hi => ?_
 obtain ⟨hi, ha⟩ := hi
 apply bY <;> intro h1
 ·have h1 : i < l.length := by have := dT h1; omega
  refine ⟨⟨rfl, by omega, by omega⟩, ?_⟩
  apply bY <;> intro h2
  ·have h2 : l.getD i default = p := of_decide_eq_true ((eqPW _ _).symm.trans h2)
   refine r1B rfl ?_
   refine (List.contains_iff_mem.2 ?_).symm
   rw [<- h2]; exact gd1 h1 default
  ·have h2 : l.getD i default ≠ p := of_decide_eq_false ((eqPW _ _).symm.trans h2)
   refine ⟨i6, ?_⟩
   refine ⟨i + 1, ⟨rfl, ⟨obD [I p.X, I p.Y] rfl, trivial⟩, wq rfl⟩, ⟨h1, fun j hj => ?_⟩, (msr (by omega))⟩
   by_cases e : j = i
   ·subst e; exact h2
   ·exact ha j (by omega)
 ·have h1 : i = l.length := by have := dF h1; omega
  subst h1
  refine r1B rfl ?_
  cases hc : l.contains p with
  | false => rfl
  | true =>
   obtain ⟨j, hj, e⟩ := zaX default (List.contains_iff_mem.1 hc)
   exact absurd e.symm (ha j hj)
theorem zg0 {s : Svc} {b : Brn} {S : List Rpt} {p : Place} (hon : onM s.c.M p = true) (h : ∀ r ∈ S, allB s b r p = true) : ∃ n, n < s.n /\ plc s.c.M n = p /\ ∀ r ∈ S, alwP s b r n = true := by
 obtain ⟨⟨x1, x2⟩, y1, y2⟩ := zaf.1 hon
 have ew : (s.c.M.w : Int) = s.c.M.W := by show ((s.c.M.W.toNat : Nat) : Int) = s.c.M.W; omega
 have eh : (s.c.M.h : Int) = s.c.M.H := by show ((s.c.M.H.toNat : Nat) : Int) = s.c.M.H; omega
 have hx : p.X.toNat < s.c.M.w := by omega
 have hy : p.Y.toNat < s.c.M.h := by omega
 have ep : plc s.c.M (p.Y.toNat * s.c.M.w + p.X.toNat) = p := by
  rw [zqb hx]
  cases p with
  | mk X Y => rw [Place.mk.injEq]; dsimp only at *; omega
 have hn : p.Y.toNat * s.c.M.w + p.X.toNat < s.n := by
  have := Nat.mul_le_mul_right s.c.M.w (show p.Y.toNat + 1 <= s.c.M.h from hy)
  rw [Nat.succ_mul] at this
  show _ < s.c.M.w * s.c.M.h
  rw [Nat.mul_comm s.c.M.w]; omega
 refine ⟨_, hn, ep, fun r hr => ?_⟩
 show (decide (_ < s.n) && allB s b r (plc s.c.M _)) = true
 rw [decide_eq_true hn, ep, h r hr]; rfl
theorem zmW {s : Svc} {b : Brn} {S : List Rpt} {p : Place} (h0 : givE s b S = 0) (hon : onM s.c.M p = true) (h : ∀ r ∈ S, allB s b r p = true) : p ∈ (plcR s b S).1 := by
 obtain ⟨n, h1, h2, h3⟩ := zg0 hon h
 unfold plcR
 rw [if_neg (fun hh => hh h0)]
 unfold plsL plsK
 refine List.mem_map.2 ⟨n, List.mem_filter.2 ⟨List.mem_range.2 h1, ?_⟩, h2⟩
 unfold metP
 rw [List.all_eq_true]
 intro P hP
 obtain ⟨r, hr, rfl⟩ := List.mem_map.1 hP
 exact h3 r hr
theorem zkR {s : Svc} {b : Brn} {S : List Rpt} {p : Place} (h0 : givE s b S = 0) (hon : onM s.c.M p = true) (h : ∀ r ∈ S, allB s b r p = true) : corR s b S = ([], 5) := by
 obtain ⟨n, h1, h2, h3⟩ := zg0 hon h
 have : agrB s (S.map (alwP s b)) (ordL S) = true := zpx.2 ⟨n, h1, fun j hj => by
  obtain ⟨j1, j2⟩ := zhF j hj
  have hl : j.toNat < S.length := by omega
  rw [gdq, List.getElem?_map, gqe hl]
  exact h3 _ (List.getElem_mem hl)⟩
 unfold corR
 rw [if_neg (fun hh => hh h0), if_pos this]
theorem zjf {s : Svc} {b : Brn} {S : List Rpt} {p : Place} (h0 : givE s b S = 0) (hon : onM s.c.M p = true) (h : ∀ r ∈ S, allB s b r p = true) : susR s b S = ([], 0) := by
 obtain ⟨n, h1, h2, h3⟩ := zg0 hon h
 have : 0 < cntP s (metP (S.map (alwP s b))) := zjQ.2 ⟨n, h1, by
  unfold metP
  rw [List.all_eq_true]
  intro P hP
  obtain ⟨r, hr, rfl⟩ := List.mem_map.1 hP
  exact h3 r hr⟩
 unfold susR
 rw [if_neg (fun hh => hh h0), if_pos this]
theorem zlb {fx fy : Int} : ∀ (l : List Place) (p : Place), valP fx fy p <= valP fx fy (bstP fx fy l p) /\ ∀ q ∈ l, valP fx fy q <= valP fx fy (bstP fx fy l p)
 | [], p => ⟨Int.le_refl _, fun q hq => by cases hq⟩
 | x :: r, p => by
  have e : bstP fx fy (x :: r) p = bstP fx fy r (if valP fx fy p < valP fx fy x then x else p) := rfl
  obtain ⟨h1, h2⟩ := zlb (fx := fx) (fy := fy) r (if valP fx fy p < valP fx fy x then x else p)
  rw [e]
  have h3 : valP fx fy p <= valP fx fy (if valP fx fy p < valP fx fy x then x else p) /\ valP fx fy x <= valP fx fy (if valP fx fy p < valP fx fy x then x else p) := by split <;> omega
  refine ⟨by omega, fun q hq => ?_⟩
  rcases List.mem_cons.1 hq with rfl | hq
  ·omega
  ·exact h2 q hq
theorem zoH {s : Svc} {b : Brn} {l : List Rpt} {fx fy : Int} {q : Place} (hq : q ∈ (plcR s b l).1) (h : (mstR s b l fx fy).2.2 = 0) : valP fx fy q <= (mstR s b l fx fy).1 := by
 unfold mstR at h ⊢
 split at h
 ·rename_i g; exact absurd h g
 rename_i g1
 split at h
 ·cases h
 rename_i g2
 split at h
 ·cases h
 rename_i g3
 rw [if_neg g1, if_neg g2, if_neg g3]
 exact (zlb _ _).2 q hq
theorem zpq {s : Svc} {b : Brn} {l : List Rpt} {f : Form} {q : Place} (hq : q ∈ (plcR s b l).1) (hn : l.length <= 20) (h : (bndR s b l f).2 = 0) : ¬ (bndR s b l f).1.V.Num < valP f.X f.Y q * (bndR s b l f).1.V.Den := by
 obtain ⟨h0, p1, _, _⟩ := zb2 hq
 have e := zny h0 hn
 have ck := znA hq hn
 have eb : bndR s b l f = bestE (hvL s l) f := by unfold bndR; rw [e, if_neg (fun hh => hh rfl)]
 rw [eb] at h ⊢
 obtain ⟨px, py⟩ := zaR.1 p1
 have hin : inP (allL (hvL s l)) q.X.toNat q.Y.toNat = true := by
  unfold inP
  rw [beq_iff_eq, zaJ]
  have e1 : (⟨((q.X.toNat : Nat) : Int), ((q.Y.toNat : Nat) : Int), 1⟩ : Corner) = co q := by
   unfold co
   rw [show ((q.X.toNat : Nat) : Int) = q.X by omega, show ((q.Y.toNat : Nat) : Int) = q.Y by omega]
  rw [e1]
  exact zkr hq
 obtain ⟨s1, s2, s3⟩ := zeF (f := f) ck h hin
 rw [show ((q.X.toNat : Nat) : Int) = q.X by omega, show ((q.Y.toNat : Nat) : Int) = q.Y by omega] at s3
 exact s3
def okT (s : Svc) (b : Brn) (x : Rl) (r : Rpt) : Bool := decide (crpE s r = 0) && truB s b x r
def smT (s : Svc) (b : Brn) (x : Rl) (l : List Rpt) : List Rpt := l.filter (okT s b x)
theorem zn2 {s : Svc} {b : Brn} {x : Rl} {l : List Rpt} {i : Nat} (h : i < l.length) (h1 : okT s b x (l.getD i default) = true) : smT s b x (l.take (i + 1)) = smT s b x (l.take i) ++ [l.getD i default] := by
 unfold smT
 rw [zaD h default, List.filter_append, List.filter_cons_of_pos h1]; rfl
theorem zni {s : Svc} {b : Brn} {x : Rl} {l : List Rpt} {i : Nat} (h : i < l.length) (h1 : okT s b x (l.getD i default) = false) : smT s b x (l.take (i + 1)) = smT s b x (l.take i) := by
 unfold smT
 rw [zaD h default, List.filter_append, List.filter_cons_of_neg (by rw [h1]; decide)]; simp
theorem zjp (s : Svc) (b : Brn) (x : Rl) (l : List Rpt) : (smT s b x l).length <= l.length := List.length_filter_le _ _
theorem s_CellTrue (s : Svc) (b : Brn) (x : Rl) (l : List Rpt) (f : Form) : Spec PP 5 [s.v, b.v, x.v, .d (lR l), f.v] [B true] := by
 refine sA Tryz.func5 ?_
 refine cP (znO s) rfl rfl ?_
 apply bY <;> intro h1
 ·repeat first | apply sT | apply sF
  refine cP zbb rfl rfl ?_
  exact r1B rfl rfl
 repeat first | apply sT | apply sF
 apply bY <;> intro h2
 ·repeat first | apply sT | apply sF
  refine cP zbb rfl rfl ?_
  exact r1B rfl rfl
 have hl : l.length <= 10 := by have := dF h2; omega
 repeat first | apply sT | apply sF
 refine cP (zgL s) rfl rfl ?_
 repeat first | apply sT | apply sF
 apply bY <;> intro h3
 ·repeat first | apply sT | apply sF
  refine cP zbb rfl rfl ?_
  exact r1B rfl rfl
 have h3r := h3
 have h3 : svcE s = 0 := by simpa using h3
 have ok := zfw h3
 have okn := ok.k.n
 have okm := ok.k.m
 repeat first | apply sT | apply sF
 refine cP (zid s x (by omega) (by omega)) rfl rfl ?_
 repeat first | apply sT | apply sF
 apply bY <;> intro h4
 ·repeat first | apply sT | apply sF
  refine cP zbb rfl rfl ?_
  exact r1B rfl rfl
 have h4r := h4
 have h4 : posB s x = true := by simpa using h4
 have hz : x.Z.length = s.k.C.length := by
  unfold posB at h4
  rw [Bool.and_eq_true] at h4
  exact of_decide_eq_true h4.1
 repeat first | apply sT | apply sF
 refine cP (g_On s.c.M x.At ok.c.m) rfl rfl ?_
 repeat first | apply sT | apply sF
 apply bY <;> intro h5
 ·repeat first | apply sT | apply sF
  refine cP zbb rfl rfl ?_
  exact r1B rfl rfl
 have h5 : onM s.c.M x.At = true := by simpa using h5
 have hon := zhG ok.c.m h5
 refine LoopOb.of (σ := Nat) (fun i => ([(3, .d (lR l)), (5, .box 5 0), (6, .box 6 0), (7, .box 7 0), (9, .box 9 0), (11, .own 11), (54, .d (lR l)), (55, .d (I l.length)), (56, .d (I i))], [(5, .box (s.ds.map AV.d)), (6, .box (b.ds.map AV.d)), (7, .box (x.ds.map AV.d)), (9, .box ([I f.X, I f.Y].map AV.d)), (11, .row 83 8 (smT s b x (l.take i)).length (rowRp (smT s b x (l.take i))))])) (fun i => i <= l.length) (fun i => l.length - i) 0
  ⟨rfl, ⟨obD s.ds rfl, obD b.ds rfl, obD x.ds rfl, obD [I f.X, I f.Y] rfl, obR rfl ⟨rfl, .inl rfl⟩, trivial⟩, wq rfl⟩ (Nat.zero_le _) fun i hi => ?_
 have hi : i <= l.length := hi
 apply bY <;> intro g1
 ·have g1 : i < l.length := by have := dT g1; omega
  refine ⟨⟨rfl, by omega, by omega⟩, ?_⟩
  refine cP (zcu s (l.getD i default)) rfl rfl ?_
  apply bY <;> intro g2
  ·have g2 : crpE s (l.getD i default) = 0 := by simpa using g2
   repeat first | apply sT | apply sF
   refine cP (zpD s b x (l.getD i default) g2 hz) rfl rfl ?_
   repeat first | apply sT | apply sF
   apply bY <;> intro g3
   ·have g3 : truB s b x (l.getD i default) = true := g3
    have e : okT s b x (l.getD i default) = true := by unfold okT; rw [decide_eq_true g2, g3]; rfl
    have b1 := zjp s b x (l.take i)
    rw [List.length_take] at b1
    refine ⟨⟨.inr rfl, by unfold maxLen; omega, by show ((smT s b x (l.take i)).length + 1) * 64 <= 140737488355328; omega⟩, ?_⟩
    refine ⟨i6, ?_⟩
    refine ⟨i + 1, ⟨rfl, ⟨obD s.ds rfl, obD b.ds rfl, obD x.ds rfl, obD [I f.X, I f.Y] rfl, obR rfl ?_, trivial⟩, wq rfl⟩, g1, msr g1⟩
    rw [zn2 g1 e]
    exact pushR fun j hj => by
     match j, hj with
     | 0, _ => exact dE _
     | 1, _ => exact dE _
     | 2, _ => exact dE _
     | 3, _ => exact dE _
     | 4, _ => exact dE _
     | 5, _ => exact dE _
     | 6, _ => exact dE _
     | 7, _ => exact dE _
   ·have g3 : truB s b x (l.getD i default) = false := g3
    have e : okT s b x (l.getD i default) = false := by unfold okT; rw [g3, Bool.and_false]
    refine ⟨i6, ?_⟩
    refine ⟨i + 1, ⟨rfl, ⟨obD s.ds rfl, obD b.ds rfl, obD x.ds rfl, obD [I f.X, I f.Y] rfl, obR rfl ?_, trivial⟩, wq rfl⟩, g1, msr g1⟩
    rw [zni g1 e]; exact dE _
  ·have g2 : crpE s (l.getD i default) ≠ 0 := by simpa using g2
   have e : okT s b x (l.getD i default) = false := by unfold okT; rw [decide_eq_false g2]; rfl
   repeat first | apply sT | apply sF
   refine ⟨i6, ?_⟩
   refine ⟨i + 1, ⟨rfl, ⟨obD s.ds rfl, obD b.ds rfl, obD x.ds rfl, obD [I f.X, I f.Y] rfl, obR rfl ?_, trivial⟩, wq rfl⟩, g1, msr g1⟩
   rw [zni g1 e]; exact dE _
 have g1 : i = l.length := by have := dF g1; omega
 subst g1
 rw [List.take_length]
 have hS := zjp s b x l
 have hall : ∀ r ∈ smT s b x l, allB s b r x.At = true := fun r hr => by
  have := (List.mem_filter.1 hr).2
  unfold okT at this
  rw [Bool.and_eq_true, decide_eq_true_eq] at this
  exact zgi h4 (zpd this.1).2.1 this.2
 generalize smT s b x l = S at *
 refine CallSt.fz [11] (zdb s b S) rfl rfl ?_
 have eg := zhQ s b S
 apply bY <;> intro k1
 ·refine cP zbb rfl rfl ?_
  exact r1B rfl rfl
 have h0 : givE s b S = 0 := by rw [<- eg]; simpa using k1
 have hm := zmW h0 h5 hall
 have ch := w_has (plcR s b S).1 x.At (by have := zhB s b S; omega)
 rw [List.contains_iff_mem.2 hm] at ch
 refine cP ch rfl rfl ?_
 repeat first | apply sT | apply sF
 have cC := znw s b S
 have cU := ziw s b S
 rw [zkR h0 h5 hall] at cC
 rw [zjf h0 h5 hall] at cU
 refine CallSt.ro cC rfl rfl ?_
 refine CallSt.ro cU rfl rfl ?_
 repeat first | apply sT | apply sF
 have key := zm2 (fx := f.X) (fy := f.Y) hm (show S.length <= 20 by omega)
 rw [show (⟨f.X, f.Y⟩ : Form) = f from rfl] at key
 obtain ⟨be, bo⟩ := key
 refine CallSt.ro (znv s b S f.X f.Y) rfl rfl ?_
 refine CallSt.ro (zoO s b S f) rfl rfl ?_
 obtain ⟨m1, m2⟩ := znu (fx := f.X) (fy := f.Y) hm
 by_cases g : (bndR s b S f).2 = 0
 ·have gm : (mstR s b S f.X f.Y).2.2 = 0 := by rw [be, g]
  obtain ⟨k1, k2, k3, k4, k5⟩ := bo g
  have hs : slope f.X f.Y = true := by
   cases hh : slope f.X f.Y with
   | true => rfl
   | false => have := m1 hh; omega
  have bx := hs
  unfold slope at bx
  simp only [Bool.and_eq_true, zab] at bx
  obtain ⟨px, py⟩ := zaR.1 hon
  have n1 := mulB (a := f.X) (b := x.At.X) (x := 1000) (y := 48) (by omega) (by omega)
  have n2 := mulB (a := f.Y) (b := x.At.Y) (x := 1000) (y := 48) (by omega) (by omega)
  have n3 := mulB (a := f.X * x.At.X + f.Y * x.At.Y) (b := (bndR s b S f).1.V.Den) (x := 96000) (y := 2097152) (by omega) (by omega)
  have q1 := zoH hm gm
  have q2 := zpq hm (show S.length <= 20 by omega) g
  unfold valP at q1 q2
  refine Split.yes (by rw [gm]; rfl) ?_
  repeat first | apply sT | apply sF
  refine ⟨i6, ⟨i6, ⟨i6, ?_⟩⟩⟩
  repeat first | apply sT | apply sF
  refine Split.no (decide_eq_false (show ¬ (mstR s b S f.X f.Y).1 < f.X * x.At.X + f.Y * x.At.Y by omega)) ?_
  repeat first | apply sT | apply sF
  refine Split.yes (by rw [g]; rfl) ?_
  repeat first | apply sT | apply sF
  refine ⟨i6, ⟨i6, ⟨i6, ⟨i6, ?_⟩⟩⟩⟩
  repeat first | apply sT | apply sF
  refine Split.no (decide_eq_false q2) ?_
  repeat first | apply sT | apply sF
  refine Split.no (by rw [g]; rfl) ?_
  refine cP zbb rfl rfl ?_
  exact r1B rfl rfl
 ·have g1 : (bndR s b S f).2 = 1 := by
   rw [<- be] at g ⊢
   cases hh : slope f.X f.Y with
   | true => exact absurd (m2 hh).1 g
   | false => exact m1 hh
  refine Split.no (by rw [be, g1]; rfl) ?_
  repeat first | apply sT | apply sF
  refine Split.no (by rw [g1]; rfl) ?_
  repeat first | apply sT | apply sF
  refine Split.no (by rw [g1]; rfl) ?_
  refine cP zbb rfl rfl ?_
  exact r1B rfl rfl
abbrev shRl : List Sh := [.int .i64, .int .i64, shI 1]
theorem rep_Rl {w : World} {ok : Nat -> Prop} {xs : List D} {v : Value} (hr : Rep1 w ok (.agg xs) v) (h : All2 Fits shRl xs) : ∃ x : Rl, Rep1 w ok x.v v := by
 obtain ⟨vs, e, hv⟩ := hr
 cases h with | cons h0 h =>
 cases h with | cons h1 h =>
 cases h with | cons h2 h =>
 cases h
 obtain ⟨n0, -, rfl⟩ := h0
 obtain ⟨n1, -, rfl⟩ := h1
 obtain ⟨l2, e2⟩ := fitI (α := Int) (at_ := fun a _ => I a) (fun g => g 0) (fun g j hj => by
  match j, hj with
  | 0, _ => rfl) h2
 exact ⟨⟨⟨n0, n1⟩, l2⟩, vs, e, ze1 hv ⟨⟨rfl, rfl⟩, ⟨rfl, rfl⟩, e2, trivial⟩⟩
end Go.Pg
