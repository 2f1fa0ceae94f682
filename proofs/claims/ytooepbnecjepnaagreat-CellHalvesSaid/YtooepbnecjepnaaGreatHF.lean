/- Texts joined and shortened by program. -/
import Derived.Test.YtooepbnecjepnaaGreatHE
import Derived.Test.YtooepbnecjepnaaGreatHD
import Derived.Test.YtooepbnecjepnaaGreatHB
import Derived.Test.YtooepbnecjepnaaGreatHC
import Derived.Test.YtooepbnecjepnaaGreatHA
set_option maxHeartbeats 4000000
set_option linter.all false
set_option maxRecDepth 100000
namespace Go.Pg
open Go.Proofs Go.RowKit
theorem r2CB {T : TT} {s : St} {a t i u : Nat} {ti : TI} {cs : List AV} {xs ys : List D} (h1 : s.sl a = .box i 0) (h2 : T t = some ti) (h3 : s.ob i = some (.box cs)) (h4 : Nat.beq cs.length ti.size = true) (h5 : ti.agg = true) (h6 : allD cs = some xs) {b c : Bool} (h7 : s.sl u = .d (.bool b)) (he : eqvs xs ys) (e : b = c) :
  RetAll T s [.cell a t, .tmp u] [.agg ys, .d (.bool c)] := ⟨rtC (a := a) h1 h2 h3 h4 h5 h6 he, rtB h7 e, trivial⟩
theorem zoN (n : Int) : Spec PP 266 [N n] [N (ord n 0)] := by
 refine sA Tryz.func266 ?_
 apply sB <;> intro h1
 ·have h1 : n < 0 := dT h1
  refine r1I rfl ?_
  unfold ord; rw [if_pos h1]
 have h1 : ¬ n < 0 := dF h1
 apply sB <;> intro h2
 ·have h2 : 0 < n := dT h2
  refine r1I rfl ?_
  unfold ord; rw [if_neg h1, if_pos h2]
 ·have h2 : ¬ 0 < n := dF h2
  refine r1I rfl ?_
  unfold ord; rw [if_neg h1, if_neg h2]
theorem zkY (a b : Int) : ord (a - b) 0 = ord a b := by unfold ord; split <;> split <;> (try split) <;> (try split) <;> omega
theorem zkG (p q : Corner) : Spec PP 207 [p.v, q.v] [N (cmpC p q)] := by
 refine sA Tryz.func207 ?_
 refine cP (zhe p) rfl rfl ?_
 refine cP (zhe q) rfl rfl ?_
 apply sB <;> intro h1
 ·have h1 : ¬ valid p = true := by simpa using h1
  refine sT (sT (r1I rfl ?_))
  unfold cmpC; rw [if_neg fun h => h1 h.1]
 have hp : valid p = true := by simpa using h1
 refine sF ?_
 apply sB <;> intro h2
 ·have h2 : ¬ valid q = true := by simpa using h2
  refine r1I rfl ?_
  unfold cmpC; rw [if_neg fun h => h2 h.2]
 have hq : valid q = true := by simpa using h2
 have gp := zax hp
 have gq := zax hq
 have h1 := mulB gp.x (b := q.Den) (y := 2097152) (by have := gq.d; omega)
 have h2 := mulB gq.x (b := p.Den) (y := 2097152) (by have := gp.d; omega)
 have h3 := mulB gp.y (b := q.Den) (y := 2097152) (by have := gq.d; omega)
 have h4 := mulB gq.y (b := p.Den) (y := 2097152) (by have := gp.d; omega)
 refine ⟨i6, ⟨i6, ?_⟩⟩
 have e : cmpC p q = orL [ord (p.X * q.Den) (q.X * p.Den), ord (p.Y * q.Den) (q.Y * p.Den)] := by unfold cmpC; rw [if_pos ⟨hp, hq⟩]
 apply sB <;> intro h5
 ·have h5 : p.X * q.Den ≠ q.X * p.Den := by simpa using h5
  refine ⟨i6, ⟨i6, ⟨i6, ?_⟩⟩⟩
  refine cP (zoN _) rfl rfl ?_
  refine r1I rfl ?_
  rw [e, zkY]
  simp only [orL]
  rw [if_neg]
  rcases ord_spec (p.X * q.Den) (q.X * p.Den) with h | h | h <;> omega
 ·have h5 : p.X * q.Den = q.X * p.Den := by simpa using h5
  refine ⟨i6, ⟨i6, ⟨i6, ?_⟩⟩⟩
  refine cP (zoN _) rfl rfl ?_
  refine r1I rfl ?_
  rw [e, zkY]
  have e0 : ord (p.X * q.Den) (q.X * p.Den) = 0 := by
   rcases ord_spec (p.X * q.Den) (q.X * p.Den) with h | h | h <;> omega
  simp only [orL, e0, if_true]
  split
  ·rename_i h; rw [h]
  ·rfl
theorem zeH (f : Frac) : Spec PP 209 [f.v] [B (fraction f)] := by
 refine sA Tryz.func209 ?_
 repeat' first
  | refine sT ?_
  | refine sF ?_
  | refine sB (fun _ => ?_) (fun _ => ?_)
  | refine cP (r_in _ _ _) rfl rfl ?_
  | refine cP (za0 f.Num f.Den ?_ ?_) rfl rfl ?_
  | refine r1B rfl ?_
 ·simp only [zab] at *; omega
 ·simp only [zab] at *; omega
 all_goals (unfold fraction; simp_all [gcdL])
theorem zrA (a b : Frac) : Spec PP 130 [a.v, b.v] [N (less a b)] := by
 refine sA Tryz.func130 ?_
 refine cP (zeH a) rfl rfl ?_
 refine cP (zeH b) rfl rfl ?_
 apply sB <;> intro h1
 ·have h1 : ¬ fraction a = true := by simpa using h1
  refine sT (sT (sT (sT (r1I rfl ?_))))
  unfold less; rw [if_neg fun h => h1 h.1]
 have hp : fraction a = true := by simpa using h1
 refine sF ?_
 apply sB <;> intro h2
 ·have h2 : ¬ fraction b = true := by simpa using h2
  refine sT (sT (r1I rfl ?_))
  unfold less; rw [if_neg fun h => h2 h.2]
 have hq : fraction b = true := by simpa using h2
 have ga := zaI hp
 have gb := zaI hq
 have h1 := mulB ga.2 (b := b.Den) (y := 2097152) (by omega)
 have h2 := mulB gb.2 (b := a.Den) (y := 2097152) (by omega)
 refine ⟨i6, ⟨i6, ?_⟩⟩
 have e : less a b = ord (a.Num * b.Den) (b.Num * a.Den) := by unfold less; rw [if_pos ⟨hp, hq⟩]
 refine sF ?_
 apply sB <;> intro h3
 ·have h3 : a.Num * b.Den = b.Num * a.Den := by simpa using h3
  refine r1I rfl ?_
  rw [e, h3]; unfold ord; simp
 have h3 : a.Num * b.Den ≠ b.Num * a.Den := by simpa using h3
 refine ⟨i6, ⟨i6, ?_⟩⟩
 apply sB <;> intro h4
 ·have h4 : a.Num * b.Den < b.Num * a.Den := dT h4
  refine r1I rfl ?_
  rw [e]; unfold ord; rw [if_pos h4]
 ·have h4 : ¬ a.Num * b.Den < b.Num * a.Den := dF h4
  refine r1I rfl ?_
  rw [e]; unfold ord; rw [if_neg h4, if_pos (by omega)]
theorem zlF (a b c : Nat) : Nat.gcd (Nat.gcd a c) b = Nat.gcd (Nat.gcd a b) c := by rw [Nat.gcd_assoc, Nat.gcd_assoc, Nat.gcd_comm c b]
theorem zeQ {x y d : Int} (hd : 0 < d) : lowest x y d = ⟨x.tdiv (Nat.gcd (Nat.gcd x.natAbs d.natAbs) y.natAbs), y.tdiv (Nat.gcd (Nat.gcd x.natAbs d.natAbs) y.natAbs), d.tdiv (Nat.gcd (Nat.gcd x.natAbs d.natAbs) y.natAbs)⟩ := by
 unfold lowest
 rw [if_neg (by omega), gcd3, zlF x.natAbs y.natAbs d.natAbs]
theorem zjp {x y d : Int} (hd : d < 0) : lowest x y d = lowest (-x) (-y) (-d) := by
 unfold lowest
 rw [if_pos hd, if_neg (by omega), gcd3, gcd3, Int.natAbs_neg, Int.natAbs_neg, Int.natAbs_neg]
 simp only [Int.tdiv_neg, Int.neg_tdiv]
theorem zpT (g h : Half) (hg : okH g) (hh : okH h) : Spec PP 205 [g.v, h.v] [(if det g h = 0 then (⟨0, 0, 0⟩ : Corner) else crossing g h).v, B (decide (det g h ≠ 0))] := by
 have m1 := mulB hg.a hh.b
 have m2 := mulB hh.a hg.b
 have m3 := mulB hg.c hh.b
 have m4 := mulB hh.c hg.b
 have m5 := mulB hg.a hh.c
 have m6 := mulB hh.a hg.c
 have ed : det g h = g.A * h.B - h.A * g.B := zag g h
 have ec : crossing g h = lowest (g.C * h.B - h.C * g.B) (g.A * h.C - h.A * g.C) (g.A * h.B - h.A * g.B) := by unfold crossing; rw [ed]
 refine sA Tryz.func205 ?_
 refine ⟨i6, ⟨i6, ⟨i6, ?_⟩⟩⟩
 apply sB <;> intro h1
 ·have h1 : g.A * h.B - h.A * g.B = 0 := by simpa using h1
  have h2 : det g h = 0 := by rw [ed]; exact h1
  rw [if_pos h2]
  exact r2CB rfl rfl rfl rfl rfl rfl rfl (zhD rfl rfl rfl) (by simp [h2])
 have h1 : g.A * h.B - h.A * g.B ≠ 0 := by simpa using h1
 have h2 : det g h ≠ 0 := by rw [ed]; exact h1
 have hdec : decide (det g h ≠ 0) = true := decide_eq_true h2
 rw [if_neg h2, hdec, ec]
 refine ⟨i6, ⟨i6, ⟨i6, ?_⟩⟩⟩
 refine ⟨i6, ⟨i6, ⟨i6, ?_⟩⟩⟩
 generalize hx : g.C * h.B - h.C * g.B = x at *
 generalize hy : g.A * h.C - h.A * g.C = y at *
 generalize hd : g.A * h.B - h.A * g.B = d at *
 apply sB <;> intro h3
 ·have h3 : d < 0 := dT h3
  have gp : 0 < Nat.gcd (Nat.gcd (-x).natAbs (-d).natAbs) (-y).natAbs := Nat.gcd_pos_of_pos_left _ (Nat.gcd_pos_of_pos_right _ (by omega))
  have gl : Nat.gcd (-x).natAbs (-d).natAbs <= (-d).natAbs := Nat.gcd_le_right _ (by omega)
  refine ⟨i6, ?_⟩
  refine ⟨i6, ?_⟩
  refine ⟨i6, ?_⟩
  refine cP (za0 (-x) (-d) (by omega) (by omega)) rfl rfl ?_
  refine cP (za0 (Nat.gcd (-x).natAbs (-d).natAbs) (-y) (by omega) (by omega)) rfl rfl ?_
  have b1 := fun g => zaW (g := g) (a := -x) (b := 1073741824) (by omega)
  have b2 := fun g => zaW (g := g) (a := -y) (b := 1073741824) (by omega)
  have b3 := fun g => zaW (g := g) (a := -d) (b := 1073741824) (by omega)
  rw [zjp h3, zeQ (by omega)]
  rw [Int.natAbs_natCast]
  refine oL (List.range 12) (FzOb.no ?_)
  refine ⟨⟨by omega, zcA (b1 _)⟩, ⟨⟨by omega, zcA (b2 _)⟩, ⟨⟨by omega, zcA (b3 _)⟩, ?_⟩⟩⟩
  exact r2CB rfl rfl rfl rfl rfl rfl rfl (zhD rfl rfl rfl) rfl
 ·have h3 : ¬ d < 0 := dF h3
  have gp : 0 < Nat.gcd (Nat.gcd x.natAbs d.natAbs) y.natAbs := Nat.gcd_pos_of_pos_left _ (Nat.gcd_pos_of_pos_right _ (by omega))
  have gl : Nat.gcd x.natAbs d.natAbs <= d.natAbs := Nat.gcd_le_right _ (by omega)
  refine cP (za0 x d (by omega) (by omega)) rfl rfl ?_
  refine cP (za0 (Nat.gcd x.natAbs d.natAbs) y (by omega) (by omega)) rfl rfl ?_
  have b1 := fun g => zaW (g := g) (a := x) (b := 1073741824) (by omega)
  have b2 := fun g => zaW (g := g) (a := y) (b := 1073741824) (by omega)
  have b3 := fun g => zaW (g := g) (a := d) (b := 1073741824) (by omega)
  rw [zeQ (by omega)]
  rw [Int.natAbs_natCast]
  refine oL (List.range 12) (FzOb.no ?_)
  refine ⟨⟨by omega, zcA (b1 _)⟩, ⟨⟨by omega, zcA (b2 _)⟩, ⟨⟨by omega, zcA (b3 _)⟩, ?_⟩⟩⟩
  exact r2CB rfl rfl rfl rfl rfl rfl rfl (zhD rfl rfl rfl) rfl
theorem zoO (f : Form) : Spec PP 57 [f.v] [B (slope f.X f.Y)] := by
 refine sA Tryz.func57 ?_
 repeat' first
  | refine sT ?_
  | refine sF ?_
  | refine sB (fun _ => ?_) (fun _ => ?_)
  | refine cP (r_in _ _ _) rfl rfl ?_
  | refine r1B rfl ?_
 all_goals (unfold slope; simp_all)
theorem zhc (f : Form) (p : Corner) (hf : okF f) (hp : okC p) : Spec PP 129 [f.v, p.v] [(value f p).v] := by
 have h1 := mulB hf.x hp.x
 have h2 := mulB hf.y hp.y
 have hd := hp.d
 have hg : 0 < Nat.gcd (f.X * p.X + f.Y * p.Y).natAbs p.Den.natAbs := Nat.gcd_pos_of_pos_right _ (by omega)
 have b1 := fun g => zaW (g := g) (a := f.X * p.X + f.Y * p.Y) (b := 2147483648000) (by omega)
 have b2 := fun g => zaW (g := g) (a := p.Den) (b := 1073741824) (by omega)
 have e : value f p = ⟨(f.X * p.X + f.Y * p.Y).tdiv (Nat.gcd (f.X * p.X + f.Y * p.Y).natAbs p.Den.natAbs), p.Den.tdiv (Nat.gcd (f.X * p.X + f.Y * p.Y).natAbs p.Den.natAbs)⟩ := by
  unfold value
  simp only [gcdL, List.foldl_cons, List.foldl_nil, Nat.gcd_zero_left]
 refine sA Tryz.func129 ?_
 refine ⟨i6, ⟨i6, ⟨i6, ?_⟩⟩⟩
 refine cP (za0 (f.X * p.X + f.Y * p.Y) p.Den (by omega) (by omega)) rfl rfl ?_
 refine oL (List.range 9) (FzOb.no ?_)
 refine ⟨⟨by omega, zai (by have := b1 (Nat.gcd (f.X * p.X + f.Y * p.Y).natAbs p.Den.natAbs); omega) (by have := b1 (Nat.gcd (f.X * p.X + f.Y * p.Y).natAbs p.Den.natAbs); omega)⟩, ⟨⟨by omega, zcA (b2 _)⟩, ?_⟩⟩
 rw [e]
 exact r1C rfl rfl rfl rfl rfl rfl (zbl rfl rfl)
theorem zrz (hs : List Half) (p : Corner) (hh : ∀ h ∈ hs, okH h) (hp : okC p) (hn : hs.length <= 1000000) : Spec PP 206 [slH hs, p.v] [B (hs.all fun h => lies h p)] := by
 refine sA Tryz.func206 ?_
 refine LoopOb.of (σ := Nat) (fun i => ([(0, avOf (slH hs)), (3, .box 3 0), (5, .d (I i))], [(3, .box [.d (I p.X), .d (I p.Y), .d (I p.Den)])])) (fun i => i <= hs.length /\ (hs.take i).all (fun h => lies h p) = true) (fun i => hs.length - i) 0
  ⟨rfl, ⟨obD [I p.X, I p.Y, I p.Den] rfl, trivial⟩, wq rfl⟩ ⟨Nat.zero_le _, rfl⟩ fun i hi => ?_
 obtain ⟨i1, i2⟩ := hi
 apply sB <;> intro h1
 ·have h1 : i < hs.length := by simpa using h1
  refine oL (List.range 7) (FzOb.no ?_)
  refine ⟨⟨rfl, by omega, by omega⟩, ?_⟩
  refine oP (zkE (hs.getD i default) p (hh _ (gd1 h1 default)) hp) rfl rfl ?_
  apply sB <;> intro h2
  ·have h2 : lies (hs.getD i default) p = false := by simpa using h2
   refine r1B rfl ?_
   refine (List.all_eq_false.2 ⟨_, gd1 h1 default, ?_⟩).symm
   rw [h2]; decide
  ·have h2 : lies (hs.getD i default) p = true := by simpa using h2
   refine ⟨i6, ?_⟩
   refine ⟨i + 1, ⟨rfl, ⟨obD [I p.X, I p.Y, I p.Den] rfl, trivial⟩, wq rfl⟩, ⟨h1, ?_⟩, ?_⟩
   ·rw [zas h1 default, List.all_append, i2]; simp only [List.all_cons, h2]; rfl
   ·show hs.length - (i + 1) < hs.length - i
    omega
 ·have h1 : i = hs.length := by
   have : ¬ i < hs.length := by simpa using h1
   omega
  refine r1B rfl ?_
  rw [h1, List.take_length] at i2
  exact i2.symm
def ptR (hs : List Half) (i k : Nat) : Option Corner := if det (hs.getD i default) (hs.getD k default) = 0 then none else if hs.all (fun h => lies h (crossing (hs.getD i default) (hs.getD k default))) = true then some (crossing (hs.getD i default) (hs.getD k default)) else none
@[irreducible] def rowR (hs : List Half) (i k : Nat) : List Corner := (List.range k).filterMap (ptR hs i)
@[irreducible] def upR (hs : List Half) (i : Nat) : List Corner := (List.range i).flatMap fun i => rowR hs i i
theorem zky (hs : List Half) (i : Nat) : rowR hs i 0 = [] := by unfold rowR; rfl
theorem zkz {hs : List Half} {i k : Nat} (h : ptR hs i k = none) : rowR hs i (k + 1) = rowR hs i k := by
 unfold rowR
 rw [List.range_succ, List.filterMap_append, List.filterMap_cons_none h]; simp
theorem zmO {hs : List Half} {i k : Nat} {p : Corner} (h : ptR hs i k = some p) : rowR hs i (k + 1) = rowR hs i k ++ [p] := by
 unfold rowR
 rw [List.range_succ, List.filterMap_append, List.filterMap_cons_some h]; simp
theorem zh1 (hs : List Half) : upR hs 0 = [] := by unfold upR; rfl
theorem zh2 (hs : List Half) (i : Nat) : upR hs (i + 1) = upR hs i ++ rowR hs i i := by
 unfold upR
 rw [List.range_succ, List.flatMap_append]; simp
theorem zic (hs : List Half) (i k : Nat) : (rowR hs i k).length <= k := by
 unfold rowR
 exact Nat.le_trans (List.length_filterMap_le _ _) (by simp)
theorem zjY (hs : List Half) (m : Nat) : ∀ i, i <= m -> (upR hs i).length <= m * i
 | 0, _ => by rw [zh1]; simp
 | i + 1, h => by
  rw [zh2, List.length_append, Nat.mul_succ]
  have := zjY hs m i (by omega)
  have := zic hs i i
  omega
theorem zhx (a b out : List Corner) : insL (a ++ b) out = insL b (insL a out) := by unfold insL; rw [List.foldl_append]
theorem ziG (p : Corner) : ∀ out : List Corner, (insC p out).length <= out.length + 1
 | [] => by simp [insC]
 | q :: r => by
  simp only [insC]
  split
  ·have := ziG p r; simp only [List.length_cons]; omega
  ·split <;> simp
theorem zfI : ∀ (l out : List Corner), (insL l out).length <= out.length + l.length
 | [], out => by simp [insL]
 | p :: l, out => by
  have h1 := zfI l (insC p out)
  have h2 := ziG p out
  show (insL l (insC p out)).length <= _
  simp only [List.length_cons]; omega
theorem znK (p : Corner) (out : List Corner) : insL [p] out = insC p out := rfl
theorem zlt {p : Corner} : ∀ {out : List Corner} {n : Nat}, n <= out.length -> (∀ m, m < n -> cmpC (out.getD m default) p < 0) -> (n < out.length -> ¬ cmpC (out.getD n default) p < 0) ->
  insC p out = if n < out.length /\ out.getD n default = p then out else out.take n ++ [p] ++ out.drop n
 | [], n, h1, h2, h3 => by
  obtain rfl : n = 0 := by simpa using h1
  simp [insC]
 | q :: r, 0, h1, h2, h3 => by
  have h3 : ¬ cmpC q p < 0 := h3 (by simp)
  simp only [insC, if_neg h3]
  by_cases hq : q = p
  ·rw [if_pos hq, if_pos ⟨by simp, hq⟩]
  ·rw [if_neg hq, if_neg fun h => hq h.2]
   rfl
 | q :: r, n + 1, h1, h2, h3 => by
  have h0 : cmpC q p < 0 := h2 0 (by omega)
  have ih := zlt (p := p) (out := r) (n := n) (by simpa using h1) (fun m hm => h2 (m + 1) (by omega)) (fun h => h3 (by simpa using h))
  simp only [insC, if_pos h0, ih]
  have e : (q :: r).getD (n + 1) default = r.getD n default := rfl
  rw [e]
  by_cases hc : n < r.length /\ r.getD n default = p
  ·rw [if_pos hc, if_pos ⟨by simpa using hc.1, hc.2⟩]
  ·rw [if_neg hc, if_neg fun h => hc ⟨by simpa using h.1, h.2⟩]
   rfl
theorem zms {hs : List Half} {p : Corner} : hs.all (fun h => lies h p) = true ↔ Fe hs p := by
 rw [List.all_eq_true]
 unfold Fe
 exact forall_congr' fun h => forall_congr' fun _ => zht h p
theorem zfa {hs : List Half} {i : Nat} {p : Corner} : p ∈ upR hs i ↔ ∃ a, a < i /\ ∃ b, b < a /\ ptR hs a b = some p := by
 unfold upR rowR
 simp only [List.mem_flatMap, List.mem_filterMap, List.mem_range]
theorem znf {hs : List Half} {a b : Nat} {p : Corner} (h : ptR hs a b = some p) : det (hs.getD a default) (hs.getD b default) ≠ 0 /\ Fe hs p /\ p = crossing (hs.getD a default) (hs.getD b default) := by
 unfold ptR at h
 split at h
 ·cases h
 ·rename_i hd
  split at h
  ·rename_i ha
   cases h
   exact ⟨hd, zms.1 ha, rfl⟩
  ·cases h
theorem zoC {l : List Half} (hl : ∀ x ∈ l, okH x) (p : Corner) : p ∈ upR (hsL l) (hsL l).length ↔ Vt (hsL l) p := by
 have hok := ziH hl
 rw [zfa]
 constructor
 ·rintro ⟨a, ha, b, hb, h⟩
  obtain ⟨h1, h2, rfl⟩ := znf h
  have ma := gd1 ha (default : Half)
  have mb := gd1 (show b < (hsL l).length by omega) (default : Half)
  obtain ⟨t1, t2⟩ := zam h1
  exact ⟨h2, zah (hok _ ma) (hok _ mb) h1, _, ma, _, mb, h1, t1, t2⟩
 ·rintro ⟨h1, h2, g, hg, h, hh, hd, t1, t2⟩
  have hv := zah (hok g hg) (hok h hh) hd
  obtain ⟨c1, c2⟩ := zam hd
  have e : crossing g h = p := zbg hv h2 hd c1 c2 t1 t2
  obtain ⟨a, ha, rfl⟩ := List.getElem_of_mem hg
  obtain ⟨b, hb, rfl⟩ := List.getElem_of_mem hh
  rw [<- gdI ha default, <- gdI hb default] at hd e
  rcases Nat.lt_trichotomy a b with q | q | q
  ·refine ⟨b, hb, a, q, ?_⟩
   have hd' : det ((hsL l).getD b default) ((hsL l).getD a default) ≠ 0 := by rw [zb4]; omega
   have e' : crossing ((hsL l).getD b default) ((hsL l).getD a default) = p := by rw [zcF (hok _ (gd1 ha default)) (hok _ (gd1 hb default)) hd, e]
   unfold ptR
   rw [if_neg hd', e', if_pos (zms.2 h1)]
  ·subst q
   exact absurd (show det ((hsL l).getD a default) ((hsL l).getD a default) = 0 by rw [zag]; grind) hd
  ·refine ⟨a, ha, b, q, ?_⟩
   unfold ptR
   rw [if_neg hd, e, if_pos (zms.2 h1)]
theorem zf1 {l : List Half} (hl : ∀ x ∈ l, okH x) : ∀ p ∈ upR (hsL l) (hsL l).length, valid p = true := fun p hp => ((zoC hl p).1 hp).va
theorem zpo {l : List Half} (hl : ∀ x ∈ l, okH x) : insL (upR (hsL l) (hsL l).length) [] = crsL l := by
 have h := zcO (upR (hsL l) (hsL l).length) [] (zf1 hl) (fun q hq => by cases hq) List.Pairwise.nil
 refine zbx h.1 (zci hl) fun q => ?_
 rw [h.2 q, zbP hl, <- zoC hl]
 simp
theorem zoa {l : List Half} (hl : ∀ x ∈ l, okH x) (hn : l.length <= 60) : (crsL l).length <= 4096 := by
 have h := zfI (ptsLh l) []
 have h2 : (ptsLh l).length <= (pairsL (allL l)).length := by unfold ptsLh; exact List.length_filterMap_le _ _
 have h3 := zcL (allL l)
 have h4 := zcb l
 have h5 : (allL l).length * (allL l).length <= 64 * 64 := Nat.mul_le_mul (by omega) (by omega)
 unfold crsL
 simp only [List.length_nil] at h
 omega
theorem zcn {out : List Corner} {p : Corner} {n : Nat} (hn : n <= out.length) : D.eqv (.slc 3 (0 + n + 1 + (out.length - n)) (appRow (0 + n + 1) (appRow (0 + n) (appRow 0 (fun _ _ => dflt) (rowC out)) (rowOf 3 [I p.X, I p.Y, I p.Den])) (fun i => rowC out (n + i)))) (.slc 3 (out.take n ++ [p] ++ out.drop n).length (rowC (out.take n ++ [p] ++ out.drop n))) := by
 refine zmp (a := out.take n ++ [p]) (b := out.drop n) (at_ := Corner.at) (by simp; omega) (by simp) (fun i hi j hj => ?_) (fun i hi j hj => ?_)
 ·unfold appRow
  by_cases h : i < n
  ·rw [if_pos (by omega), if_neg (Nat.not_lt_zero _), gdq, List.getElem?_append_left (by simp; omega), List.getElem?_take, if_pos h, <- gdq]
   exact dE _
  ·obtain rfl : i = n := by omega
   rw [if_neg (by omega), gdq, List.getElem?_append_right (by simp; omega)]
   have e : i - (out.take i).length = 0 := by simp; omega
   have e2 : i - (0 + i) = 0 := by omega
   rw [e, e2]
   exact eqAt p j hj
 ·show D.eqv ((out.getD (n + i) default).at j) (((out.drop n).getD i default).at j)
  rw [gdq, gdq, List.getElem?_drop]
  exact dE _
theorem zhd (l : List Half) (hl : ∀ x ∈ l, okH x) (hn : l.length <= 60) : Spec PP 128 [slH l] [slC (crsL l)] := by
 have hok := ziH hl
 have hlen : (hsL l).length = l.length + 4 := by simp [hsL, sidesL]
 have hval := zf1 hl
 have hsub : ∀ i, i <= (hsL l).length -> ∀ p ∈ upR (hsL l) i, valid p = true := fun i hi p hp => by
  obtain ⟨a, ha, b, hb, h⟩ := zfa.1 hp
  exact hval p (zfa.2 ⟨a, by omega, b, hb, h⟩)
 have hrow : ∀ i k, i < (hsL l).length -> k <= i -> ∀ p ∈ rowR (hsL l) i k, valid p = true := fun i k hi hk p hp => by
  unfold rowR at hp
  obtain ⟨b, hb, h⟩ := List.mem_filterMap.1 hp
  have hb := List.mem_range.1 hb
  exact hval p (zfa.2 ⟨i, hi, b, by omega, h⟩)
 refine sA Tryz.func128 ?_
 refine CallSt.ro (zrB l (by omega)) rfl rfl ?_
 refine LoopOb.of (σ := Nat) (fun i => ([(3, avOf (slH (hsL l))), (4, avOf (slC (insL (upR (hsL l) i) []))), (5, .d (I i))], [])) (fun i => i <= (hsL l).length) (fun i => (hsL l).length - i) 0
  ⟨rfl, trivial, avR _ rfl, avOw rfl rfl rfl ⟨by rw [zh1]; rfl, .inl rfl⟩, avR _ rfl, trivial⟩ (Nat.zero_le _) fun i hi => ?_
 apply sB <;> intro h1
 ·have h1 : i < (hsL l).length := by have := dT h1; omega
  refine LoopOb.of (σ := Nat) (fun k => ([(3, avOf (slH (hsL l))), (4, avOf (slC (insL (upR (hsL l) i ++ rowR (hsL l) i k) []))), (5, .d (I i)), (6, .d (I k))], [])) (fun k => k <= i) (fun k => i - k) 0
   ⟨rfl, trivial, avR _ rfl, avE rfl (by rw [zky, List.append_nil]; exact dE _), wq rfl⟩ (Nat.zero_le _) fun k hk => ?_
  have hol := zfI (upR (hsL l) i ++ rowR (hsL l) i k) []
  have hul := zjY (hsL l) 64 i (by omega)
  have hrl := zic (hsL l) i k
  have h64 : 64 * i <= 64 * 64 := Nat.mul_le_mul_left 64 (by omega)
  rw [List.length_append, List.length_nil] at hol
  apply sB <;> intro h2
  ·have h2 : k < i := by have := dT h2; omega
   have mi := gd1 h1 (default : Half)
   have mk := gd1 (show k < (hsL l).length by omega) (default : Half)
   have oi := hok _ mi
   have ok := hok _ mk
   have c := zpT _ _ oi ok
   refine oL (List.range 15) (FzOb.no ?_)
   refine ⟨⟨rfl, by omega, by omega⟩, ⟨⟨rfl, by omega, by omega⟩, ?_⟩⟩
   by_cases hd : det ((hsL l).getD i default) ((hsL l).getD k default) = 0
   ·have hp : ptR (hsL l) i k = none := by unfold ptR; rw [if_pos hd]
    rw [if_pos hd, decide_eq_false (by simpa using hd)] at c
    refine oP c rfl rfl ?_
    refine sT ?_
    refine sT ?_
    refine sT ?_
    refine ⟨i6, ?_⟩
    refine ⟨k + 1, ⟨rfl, trivial, avR _ rfl, avE rfl (by rw [zkz hp]; exact dE _), wq rfl⟩, h2, ?_⟩
    show i - (k + 1) < i - k
    omega
   rw [if_neg hd, decide_eq_true hd] at c
   have hv := zah oi ok hd
   generalize hP : crossing ((hsL l).getD i default) ((hsL l).getD k default) = P at *
   refine oP c rfl rfl ?_
   refine sF ?_
   refine cP (zrz (hsL l) P hok (zax hv) (by omega)) rfl rfl ?_
   refine sF ?_
   apply sB <;> intro h3
   ·have h3 : (hsL l).all (fun h => lies h P) = false := by simpa using h3
    have hp : ptR (hsL l) i k = none := by unfold ptR; rw [if_neg hd, hP, if_neg (by rw [h3]; decide)]
    refine ⟨i6, ?_⟩
    refine ⟨k + 1, ⟨rfl, trivial, avR _ rfl, avE rfl (by rw [zkz hp]; exact dE _), wq rfl⟩, h2, ?_⟩
    show i - (k + 1) < i - k
    omega
   have h3 : (hsL l).all (fun h => lies h P) = true := by simpa using h3
   have hp : ptR (hsL l) i k = some P := by unfold ptR; rw [if_neg hd, hP, if_pos h3]
   have hnew : insL (upR (hsL l) i ++ rowR (hsL l) i (k + 1)) [] = insC P (insL (upR (hsL l) i ++ rowR (hsL l) i k) []) := by
    rw [zmO hp, <- List.append_assoc, zhx _ [P], znK]
   have hov : ∀ q ∈ insL (upR (hsL l) i ++ rowR (hsL l) i k) [], valid q = true := fun q hq => by
    have := (zcO (upR (hsL l) i ++ rowR (hsL l) i k) [] (fun q hq => by
     rcases List.mem_append.1 hq with hq | hq
     ·exact hsub i (by omega) q hq
     ·exact hrow i k h1 (by omega) q hq) (fun q hq => by cases hq) List.Pairwise.nil).2 q
    rcases this.1 hq with hq | hq
    ·rcases List.mem_append.1 hq with hq | hq
     ·exact hsub i (by omega) q hq
     ·exact hrow i k h1 (by omega) q hq
    ·cases hq
   generalize hO : insL (upR (hsL l) i ++ rowR (hsL l) i k) [] = O at *
   refine LoopOb.of (σ := Nat) (fun n => ([(3, avOf (slH (hsL l))), (4, avOf (slC O)), (5, .d (I i)), (6, .d (I k)), (7, .box 7 0), (9, .d (I n))], [(7, .box [.d (I P.X), .d (I P.Y), .d (I P.Den)])])) (fun n => n <= O.length /\ ∀ m, m < n -> cmpC (O.getD m default) P < 0) (fun n => O.length - n) 0
    ⟨rfl, ⟨obD [I P.X, I P.Y, I P.Den] rfl, trivial⟩, wq rfl⟩ z0L fun n hx => ?_
   obtain ⟨x1, x2⟩ := hx
   refine oL (List.range 13) (FzOb.no ?_)
   have fin : (n < O.length -> ¬ cmpC (O.getD n default) P < 0) -> insL (upR (hsL l) i ++ rowR (hsL l) i (k + 1)) [] = if n < O.length /\ O.getD n default = P then O else O.take n ++ [P] ++ O.drop n := fun h => by
    rw [hnew]; exact zlt x1 x2 h
   apply sB <;> intro g1
   ·have g1 : n < O.length := by have := dT g1; omega
    refine ⟨⟨rfl, by omega, by omega⟩, ?_⟩
    refine oP (zkG (O.getD n default) P) rfl rfl ?_
    refine sT ?_
    apply sB <;> intro g2
    ·have g2 : cmpC (O.getD n default) P < 0 := dT g2
     refine ⟨i6, ?_⟩
     refine ⟨n + 1, ⟨rfl, ⟨obD [I P.X, I P.Y, I P.Den] rfl, trivial⟩, wq rfl⟩, ⟨g1, fun m hm => ?_⟩, ?_⟩
     ·rcases Nat.lt_or_ge m n with h | h
      ·exact x2 m h
      ·obtain rfl : m = n := by omega
       exact g2
     ·show O.length - (n + 1) < O.length - n
      omega
    ·have g2 : ¬ cmpC (O.getD n default) P < 0 := dF g2
     have fin := fin fun _ => g2
     refine oL (List.range 12) (FzOb.no ?_)
     refine Split.yes (decide_eq_true (by omega)) ?_
     refine ⟨⟨rfl, by omega, by omega⟩, ?_⟩
     refine sT ?_
     apply sB <;> intro g3
     ·have g3 : O.getD n default = P := by
       have g3 : ((O.getD n default).X == P.X && ((O.getD n default).Y == P.Y && ((O.getD n default).Den == P.Den && (true)))) = true := g3
       rw [eqCs] at g3
       simpa using g3
      rw [if_pos ⟨g1, g3⟩] at fin
      refine ⟨i6, ?_⟩
      refine ⟨k + 1, ⟨rfl, trivial, avR _ rfl, avE rfl (by rw [fin]; exact dE _), wq rfl⟩, h2, ?_⟩
      show i - (k + 1) < i - k
      omega
     have g3 : ¬ O.getD n default = P := by
      have g3 : ((O.getD n default).X == P.X && ((O.getD n default).Y == P.Y && ((O.getD n default).Den == P.Den && (true)))) = false := g3
      rw [eqCs] at g3
      simpa using g3
     rw [if_neg fun h => g3 h.2] at fin
     refine ⟨⟨.inr rfl, by omega, by omega⟩, ?_⟩
     refine ⟨⟨.inr rfl, by unfold maxLen; show 0 + (n : Int).toNat <= _; omega, by show (0 + (n : Int).toNat) * 24 <= 140737488355328; omega⟩, ?_⟩
     refine ⟨⟨.inr rfl, by unfold maxLen; show 0 + (n : Int).toNat + 1 <= _; omega, by show (0 + (n : Int).toNat + 1) * 24 <= 140737488355328; omega⟩, ?_⟩
     refine ⟨⟨.inr rfl, by omega, by omega⟩, ?_⟩
     refine ⟨⟨.inr rfl, by unfold maxLen; show 0 + (n : Int).toNat + 1 + (O.length - (n : Int).toNat) <= _; omega, by show (0 + (n : Int).toNat + 1 + (O.length - (n : Int).toNat)) * 24 <= 140737488355328; omega⟩, ?_⟩
     refine ⟨i6, ?_⟩
     refine ⟨k + 1, ⟨rfl, trivial, avR _ rfl, avOw rfl rfl rfl (by rw [fin]; exact zcn x1), wq rfl⟩, h2, ?_⟩
     show i - (k + 1) < i - k
     omega
   ·have g1 : n = O.length := by have := dF g1; omega
    have fin := fin fun h => absurd h (by omega)
    refine sF ?_
    refine sF ?_
    refine oL (List.range 12) (FzOb.no ?_)
    refine Split.no (decide_eq_false (by omega)) ?_
    refine sF ?_
    refine sF ?_
    rw [if_neg fun h => absurd h.1 (by omega)] at fin
    refine ⟨⟨.inr rfl, by omega, by omega⟩, ?_⟩
    refine ⟨⟨.inr rfl, by unfold maxLen; show 0 + (n : Int).toNat <= _; omega, by show (0 + (n : Int).toNat) * 24 <= 140737488355328; omega⟩, ?_⟩
    refine ⟨⟨.inr rfl, by unfold maxLen; show 0 + (n : Int).toNat + 1 <= _; omega, by show (0 + (n : Int).toNat + 1) * 24 <= 140737488355328; omega⟩, ?_⟩
    refine ⟨⟨.inr rfl, by omega, by omega⟩, ?_⟩
    refine ⟨⟨.inr rfl, by unfold maxLen; show 0 + (n : Int).toNat + 1 + (O.length - (n : Int).toNat) <= _; omega, by show (0 + (n : Int).toNat + 1 + (O.length - (n : Int).toNat)) * 24 <= 140737488355328; omega⟩, ?_⟩
    refine ⟨i6, ?_⟩
    refine ⟨k + 1, ⟨rfl, trivial, avR _ rfl, avOw rfl rfl rfl (by rw [fin]; exact zcn x1), wq rfl⟩, h2, ?_⟩
    show i - (k + 1) < i - k
    omega
  ·have h2 : k = i := by have := dF h2; omega
   subst h2
   refine ⟨i6, ?_⟩
   refine ⟨k + 1, ⟨rfl, trivial, avR _ rfl, avE rfl (by rw [zh2]; exact dE _), avI rfl rfl, trivial⟩, h1, ?_⟩
   show (hsL l).length - (k + 1) < (hsL l).length - k
   omega
 ·have h1 : i = (hsL l).length := by have := dF h1; omega
  subst h1
  have e := zpo hl
  rw [<- e]
  exact ⟨dE _, trivial⟩
theorem zli {α : Type} {l : List α} : ((l.length : Int) == 0) = true ↔ l = [] := by
 rw [beq_iff_eq]
 constructor
 ·intro h; exact List.length_eq_zero_iff.1 (by omega)
 ·rintro rfl; rfl
theorem zlZ {l : List Half} (hl : ∀ x ∈ l, okH x) : ∀ q ∈ crsL l, okC q := fun q hq => zax ((zbP hl q).1 hq).va
def numE (l : List Half) (n : Int) : Half × Bool := if -4 <= n /\ n < l.length then (useH l n, true) else (⟨0, 0, 0⟩, false)
theorem zeG (l : List Half) (n : Int) (hn : l.length <= 1000000) (hb : -9223372036854775808 <= n /\ n <= 9223372036854775807) : Spec PP 212 [slH l, N n] [(numE l n).1.v, B (numE l n).2] := by
 refine sA Tryz.func212 ?_
 refine ⟨i6, ?_⟩
 refine cP (r_in n 0 ((l.length : Int) - 1)) rfl rfl ?_
 apply sB <;> intro h1
 ·have h1 : within n 0 ((l.length : Int) - 1) = true := h1
  rw [zab] at h1
  have e : numE l n = (l.getD n.toNat default, true) := by unfold numE useH; rw [if_pos (by omega), if_neg (by omega)]
  rw [e]
  refine ⟨⟨rfl, by omega, by omega⟩, ?_⟩
  exact zkB rfl rfl rfl rfl rfl rfl rfl (zaa _) rfl
 have h1 : within n 0 ((l.length : Int) - 1) = false := h1
 have h1 : ¬ (0 <= n /\ n <= (l.length : Int) - 1) := fun h => by rw [zab.2 h] at h1; cases h1
 refine cP (r_in n (-4) (-1)) rfl rfl ?_
 apply sB <;> intro h2
 ·have h2 : within n (-4) (-1) = true := h2
  rw [zab] at h2
  have e : numE l n = (sidesL.getD (-1 - n).toNat default, true) := by unfold numE useH; rw [if_pos (by omega), if_pos (by omega)]
  rw [e]
  refine CallSt.ro zkF rfl rfl ?_
  refine ⟨i6, ?_⟩
  refine ⟨⟨rfl, by omega, (show -1 - n < (4 : Int) by omega)⟩, ?_⟩
  exact zkB rfl rfl rfl rfl rfl rfl rfl (zaa _) rfl
 ·have h2 : within n (-4) (-1) = false := h2
  have h2 : ¬ (-4 <= n /\ n <= -1) := fun h => by rw [zab.2 h] at h2; cases h2
  have e : numE l n = (⟨0, 0, 0⟩, false) := by unfold numE; rw [if_neg (by omega)]
  rw [e]
  exact zkB rfl rfl rfl rfl rfl rfl rfl (zaa _) rfl
def UB (Uh : List Use) : Prop := ∀ u ∈ Uh, (-9223372036854775808 <= u.H /\ u.H <= 9223372036854775807) /\ (-9223372036854775808 <= u.T /\ u.T <= 9223372036854775807)
theorem ziE {Uh : List Use} {i : Nat} (hi : i <= Uh.length) {x : Int} : x ∈ keysTo Uh i ↔ ∃ k, k < i /\ (Uh.getD k default).H = x := by
 unfold keysTo
 rw [List.mem_map]
 constructor
 ·rintro ⟨u, hu, rfl⟩
  obtain ⟨k, hk, rfl⟩ := List.getElem_of_mem hu
  rw [List.length_take] at hk
  exact ⟨k, by omega, by rw [List.getElem_take, gdI (by omega)]⟩
 ·rintro ⟨k, hk, rfl⟩
  refine ⟨Uh.getD k default, ?_, rfl⟩
  rw [gdI (show k < Uh.length by omega)]
  exact List.mem_take_iff_getElem.2 ⟨k, by omega, rfl⟩
theorem zm2 (l : List Half) (Uh : List Use) (hU : UB Uh) (hn : l.length <= 1000000) : Spec PP 134 [slH l, slU Uh] [B (formedL l.length Uh)] := by
 refine sA Tryz.func134 ?_
 apply sB <;> intro h1
 ·have h1 : 4 < Uh.length := by have := dT h1; omega
  refine r1B rfl ?_
  unfold formedL
  rw [decide_eq_false (by omega)]; rfl
 have h1 : Uh.length <= 4 := by have := dF h1; omega
 have bad : ∀ i, i < Uh.length -> useOk l.length (Uh.getD i default) (keysTo Uh i) = false -> false = formedL l.length Uh := fun i hi h => by
  unfold formedL; rw [zqb hi h, Bool.and_false]
 refine LoopOb.of (σ := Nat) (fun i => ([(0, avOf (slH l)), (1, avOf (slU Uh)), (5, .d (I i))], [])) (fun i => i <= Uh.length /\ okTo l.length Uh i = true) (fun i => Uh.length - i) 0
  ⟨rfl, trivial, wq rfl⟩ ⟨Nat.zero_le _, zdL _ _⟩ fun i hi => ?_
 obtain ⟨i1, i2⟩ := hi
 apply sB <;> intro g1
 ·have g1 : i < Uh.length := by have := dT g1; omega
  obtain ⟨hb1, hb2⟩ := hU _ (gd1 g1 default)
  refine ⟨⟨rfl, by omega, by omega⟩, ?_⟩
  have cN := zeG l (Uh.getD i default).H hn hb1
  refine cP cN rfl rfl ?_
  by_cases g2 : -4 <= (Uh.getD i default).H /\ (Uh.getD i default).H < l.length
  case neg =>
   have e : (numE l (Uh.getD i default).H).2 = false := by unfold numE; rw [if_neg g2]
   refine Split.yes (by rw [e]; rfl) ?_
   refine sT ?_
   refine sT ?_
   refine r1B rfl (bad i g1 ?_)
   unfold useOk
   rw [show within (Uh.getD i default).H (-4) ((l.length : Int) - 1) = false by rw [Bool.eq_false_iff, ne_eq, zab]; omega]; rfl
  have e : (numE l (Uh.getD i default).H).2 = true := by unfold numE; rw [if_pos g2]
  refine Split.no (by rw [e]; rfl) ?_
  refine ⟨⟨rfl, by omega, by omega⟩, ?_⟩
  refine cP (r_in (Uh.getD i default).T 1 2097152) rfl rfl ?_
  refine sF ?_
  apply sB <;> intro g3
  ·have g3 : within (Uh.getD i default).T 1 2097152 = false := by simpa using g3
   refine r1B rfl (bad i g1 ?_)
   unfold useOk; rw [g3, Bool.and_false]
  have g3 : within (Uh.getD i default).T 1 2097152 = true := by simpa using g3
  refine LoopOb.of (σ := Nat) (fun k => ([(0, avOf (slH l)), (1, avOf (slU Uh)), (5, .d (I i)), (8, .d (I k))], [])) (fun k => k <= i /\ ∀ j, j < k -> (Uh.getD j default).H ≠ (Uh.getD i default).H) (fun k => i - k) 0
   ⟨rfl, trivial, wq rfl⟩ z0L fun k hk => ?_
  obtain ⟨k1, k2⟩ := hk
  apply sB <;> intro g4
  ·have g4 : k < i := by have := dT g4; omega
   refine oL (List.range 11) (FzOb.no ?_)
   refine ⟨⟨rfl, by omega, by omega⟩, ⟨⟨rfl, by omega, by omega⟩, ?_⟩⟩
   apply sB <;> intro g5
   ·have g5 : (Uh.getD k default).H = (Uh.getD i default).H := by
     have g5 : ((Uh.getD k default).H == (Uh.getD i default).H) = true := g5
     simpa using g5
    refine r1B rfl (bad i g1 ?_)
    unfold useOk
    rw [show (keysTo Uh i).contains (Uh.getD i default).H = true by
     have := (ziE (Uh := Uh) (i := i) (by omega)).2 ⟨k, g4, g5⟩
     simpa using this]
    simp
   ·have g5 : (Uh.getD k default).H ≠ (Uh.getD i default).H := by
     have g5 : ((Uh.getD k default).H == (Uh.getD i default).H) = false := g5
     simpa using g5
    refine ⟨i6, ?_⟩
    refine ⟨k + 1, ⟨rfl, trivial, wq rfl⟩, ⟨g4, fun j hj => ?_⟩, (msr (by omega))⟩
    rcases Nat.lt_or_ge j k with h | h
    ·exact k2 j h
    ·obtain rfl : j = k := by omega
     exact g5
  ·have g4 : k = i := by have := dF g4; omega
   subst g4
   refine ⟨i6, ?_⟩
   refine ⟨k + 1, ⟨rfl, trivial, wq rfl⟩, ⟨g1, ?_⟩, (msr (by omega))⟩
   rw [zcu, i2, Bool.true_and]
   unfold useOk
   rw [zab.2 (show -4 <= (Uh.getD k default).H /\ (Uh.getD k default).H <= (l.length : Int) - 1 by omega), g3, show (keysTo Uh k).contains (Uh.getD k default).H = false by
    rw [Bool.eq_false_iff]
    intro hc
    have hc : (Uh.getD k default).H ∈ keysTo Uh k := by simpa using hc
    obtain ⟨j, hj, e⟩ := (ziE (Uh := Uh) (i := k) (by omega)).1 hc
    exact k2 j hj e]
   rfl
 ·have g1 : i = Uh.length := by have := dF g1; omega
  subst g1
  refine r1B rfl ?_
  unfold formedL
  rw [i2, decide_eq_true h1]; rfl
theorem r_sum (l : List Half) (Uh : List Use) (hl : ∀ x ∈ l, okH x) (hn : l.length <= 1000000) (hf : formedL l.length Uh = true) : Spec PP 135 [slH l, slU Uh] [(sumU l Uh).v] := by
 unfold formedL at hf
 rw [Bool.and_eq_true, decide_eq_true_iff] at hf
 obtain ⟨h1, h2⟩ := hf
 have okp : ∀ i, i <= Uh.length -> okTo l.length Uh i = true := fun i hi => by
  unfold okTo at h2 ⊢
  exact List.all_eq_true.2 fun j hj => List.all_eq_true.1 h2 j (List.mem_range.2 (by have := List.mem_range.1 hj; omega))
 have uok : ∀ i, i < Uh.length -> useOk l.length (Uh.getD i default) (keysTo Uh i) = true := fun i hi => by
  have := okp (i + 1) hi
  rw [zcu, Bool.and_eq_true] at this
  exact this.2
 refine sA Tryz.func135 ?_
 refine LoopOb.of (σ := Nat) (fun i => ([(0, avOf (slH l)), (1, avOf (slU Uh)), (4, .box 4 0), (5, .box 5 0), (6, .d (I i))], [(4, bxHs ⟨0, 0, 0⟩), (5, bxHs (sumAt l Uh i))])) (fun i => i <= Uh.length) (fun i => Uh.length - i) 0
  ⟨rfl, ⟨obHs rfl rfl, obHs rfl (by rw [zet]), trivial⟩, wq rfl⟩ (Nat.zero_le _) fun i hi => ?_
 apply sB <;> intro g1
 ·have g1 : i < Uh.length := by have := dT g1; omega
  obtain ⟨p1, p2, p3⟩ := zcf (uok i g1)
  have hk := zjX hl p1
  have sm := zdy hl i hi (okp i hi)
  obtain ⟨r1, r2, r3, r4, r5, r6⟩ := zng (by omega) sm p3 hk
  have es := zeu l Uh g1
  have cN := zeG l (Uh.getD i default).H hn (by omega)
  rw [show numE l (Uh.getD i default).H = (useH l (Uh.getD i default).H, true) by unfold numE; rw [if_pos p1]] at cN
  refine ⟨⟨rfl, by omega, by omega⟩, ?_⟩
  refine cP cN rfl rfl ?_
  refine oL (List.range 13) (FzOb.no ?_)
  refine ⟨⟨rfl, by omega, by omega⟩, ⟨r1, ⟨r2, ?_⟩⟩⟩
  refine oL (List.range 13) (FzOb.no ?_)
  refine ⟨⟨rfl, by omega, by omega⟩, ⟨r3, ⟨r4, ?_⟩⟩⟩
  refine oL (List.range 13) (FzOb.no ?_)
  refine ⟨⟨rfl, by omega, by omega⟩, ⟨r5, ⟨r6, ?_⟩⟩⟩
  refine ⟨i6, ?_⟩
  exact ⟨i + 1, ⟨rfl, ⟨obHs rfl rfl, obHs rfl (by rw [es]; rfl), trivial⟩, wq rfl⟩, g1, (msr (by omega))⟩
 ·have g1 : i = Uh.length := by have := dF g1; omega
  subst g1
  rw [<- zf3]
  exact r1C rfl rfl rfl rfl rfl rfl (zaa _)
structure Bst (l : List Half) (f : Form) (b : Bound) : Prop where
  sm : (sumE l b.Uses).2 = true
  sc : within b.Scale 1 2097152 = true
  fr : fraction b.V = true
  va : valid b.At = true
  A : (sumE l b.Uses).1.A = b.Scale * f.X
  B : (sumE l b.Uses).1.B = b.Scale * f.Y
  C : (sumE l b.Uses).1.C * b.V.Den = b.Scale * b.V.Num
  inn : outsideL (allL l) b.At = -5
  at_ : value f b.At = b.V
theorem zqU (l : List Half) (f : Form) (b : Bound) : Bst l f b ↔ ((sumE l b.Uses).2 = true /\ within b.Scale 1 2097152 = true /\ fraction b.V = true /\ valid b.At = true /\ (sumE l b.Uses).1.A = b.Scale * f.X /\ (sumE l b.Uses).1.B = b.Scale * f.Y /\ (sumE l b.Uses).1.C * b.V.Den = b.Scale * b.V.Num /\ outsideL (allL l) b.At = -5 /\ value f b.At = b.V) :=
 ⟨fun h => ⟨h.sm, h.sc, h.fr, h.va, h.A, h.B, h.C, h.inn, h.at_⟩, fun ⟨a, b, c, d, e, f, g, h, i⟩ => ⟨a, b, c, d, e, f, g, h, i⟩⟩
noncomputable instance (l : List Half) (f : Form) (b : Bound) : Decidable (Bst l f b) := decidable_of_iff' _ (zqU l f b)
@[irreducible] noncomputable def cbE (l : List Half) (f : Form) (b : Bound) : Int := if checkL l = 0 then if slope f.X f.Y = true then if Bst l f b then 0 else 8 else 1 else checkL l
theorem zrh {l : List Half} {Uh : List Use} (hl : ∀ x ∈ l, okH x) : (-8388608000 <= (sumE l Uh).1.A /\ (sumE l Uh).1.A <= 8388608000) /\ (-8388608000 <= (sumE l Uh).1.B /\ (sumE l Uh).1.B <= 8388608000) /\ (-2199023255552 <= (sumE l Uh).1.C /\ (sumE l Uh).1.C <= 2199023255552) := by
 unfold sumE
 split
 ·rename_i h
  unfold formedL at h
  rw [Bool.and_eq_true, decide_eq_true_iff] at h
  have s := zdy hl Uh.length (Nat.le_refl _) h.2
  rw [zf3] at s
  have := s.a; have := s.b; have := s.c
  have hl := h.1
  show (-8388608000 <= (sumU l Uh).A /\ (sumU l Uh).A <= 8388608000) /\ (-8388608000 <= (sumU l Uh).B /\ (sumU l Uh).B <= 8388608000) /\ (-2199023255552 <= (sumU l Uh).C /\ (sumU l Uh).C <= 2199023255552)
  omega
 ·exact ⟨⟨by decide, by decide⟩, ⟨by decide, by decide⟩, ⟨by decide, by decide⟩⟩
theorem zon {l : List Half} {f : Form} (h1 : checkL l = 0) (h0 : cornersL l ≠ []) (hf : slope f.X f.Y = true) : ∃ b, bestE l f = (b, 0) /\ b.V = value f (bestAt f (cornersL l)) := by
 unfold bestE
 rw [if_pos h1, if_pos hf, if_neg h0]
 split
 ·exact ⟨_, rfl, rfl⟩
 ·split
  ·exact ⟨_, rfl, rfl⟩
  ·exact ⟨_, rfl, rfl⟩
theorem zca {l : List Corner} (f : Form) (h0 : l ≠ []) : bestAt f l ∈ l := by
 unfold bestAt
 exact zbv f l (List.length_pos_iff.2 h0) l.length (Nat.le_refl _)
theorem zgR {l : List Half} {f : Form} (h1 : checkL l = 0) (hf : slope f.X f.Y = false) : bestE l f = (noBound, 1) := by
 unfold bestE
 rw [if_pos h1, if_neg (by rw [hf]; decide)]
def fv (f : Form) (p : Corner) : Int := f.X * p.X + f.Y * p.Y
theorem zaV {f : Form} {p : Corner} (hf : slope f.X f.Y = true) (hp : valid p = true) : fraction (value f p) = true /\ ∃ g : Int, 0 < g /\ fv f p = g * (value f p).Num /\ p.Den = g * (value f p).Den := by
 have oF := zdM hf
 have oC := zax hp
 have b1 := mulB oF.x oC.x
 have b2 := mulB oF.y oC.y
 have d := oC.d
 have e : value f p = ⟨(fv f p).tdiv (Nat.gcd (fv f p).natAbs p.Den.natAbs), p.Den.tdiv (Nat.gcd (fv f p).natAbs p.Den.natAbs)⟩ := by
  unfold value fv
  simp only [gcdL, List.foldl_cons, List.foldl_nil, Nat.gcd_zero_left]
 have nb : -2199023255552 <= fv f p /\ fv f p <= 2199023255552 := by unfold fv; omega
 have hg : 0 < Nat.gcd (fv f p).natAbs p.Den.natAbs := Nat.gcd_pos_of_pos_right _ (by omega)
 rw [e]
 generalize fv f p = n at *
 generalize hG : Nat.gcd n.natAbs p.Den.natAbs = G at *
 obtain ⟨a, ha⟩ : (G : Int) ∣ n := Int.ofNat_dvd_left.2 (by rw [<- hG]; exact Nat.gcd_dvd_left _ _)
 obtain ⟨b, hb⟩ : (G : Int) ∣ p.Den := Int.ofNat_dvd_left.2 (by rw [<- hG]; exact Nat.gcd_dvd_right _ _)
 have gpos : (0 : Int) < G := by omega
 have e1 : n.tdiv G = a := by rw [ha]; exact Int.mul_tdiv_cancel_left _ (by omega)
 have e2 : p.Den.tdiv G = b := by rw [hb]; exact Int.mul_tdiv_cancel_left _ (by omega)
 have hbpos : 0 < b := by
  have : 0 < (G : Int) * b := by omega
  exact Int.pos_of_mul_pos_right this (by omega) |> fun h => h
 have hle : b <= (G : Int) * b := by
  have := Int.mul_le_mul_of_nonneg_right (show (1 : Int) <= G by omega) (show 0 <= b by omega)
  omega
 have hna : a.natAbs <= n.natAbs := by
  rw [ha, Int.natAbs_mul, Int.natAbs_natCast]
  exact Nat.le_mul_of_pos_left _ hg
 have hone : Nat.gcd a.natAbs b.natAbs = 1 := by
  have : G * Nat.gcd a.natAbs b.natAbs = G := by
   rw [<- Nat.gcd_mul_left]
   have q1 : G * a.natAbs = n.natAbs := by rw [ha, Int.natAbs_mul, Int.natAbs_natCast]
   have q2 : G * b.natAbs = p.Den.natAbs := by rw [hb, Int.natAbs_mul, Int.natAbs_natCast]
   rw [q1, q2, hG]
  exact Nat.eq_of_mul_eq_mul_left hg (by omega)
 refine ⟨?_, G, gpos, by rw [e1]; exact ha, by rw [e2]; exact hb⟩
 unfold fraction
 rw [e1, e2]
 simp only [Bool.and_eq_true, zab, beq_iff_eq, gcdL, List.foldl_cons, List.foldl_nil, Nat.gcd_zero_left, hone]
 exact ⟨⟨⟨by omega, by omega⟩, by omega, by omega⟩, rfl⟩
def vle (f : Form) (p q : Corner) : Prop := fv f p * q.Den <= fv f q * p.Den
theorem ze9 (f : Form) (p : Corner) : vle f p p := Int.le_refl _
theorem zdu {f : Form} {p q r : Corner} (hp : 0 < p.Den) (hq : 0 < q.Den) (hr : 0 < r.Den) (h1 : vle f p q) (h2 : vle f q r) : vle f p r := by
 unfold vle at *
 have a1 := Int.mul_le_mul_of_nonneg_right h1 (Int.le_of_lt hr)
 have a2 := Int.mul_le_mul_of_nonneg_right h2 (Int.le_of_lt hp)
 have e1 : fv f q * p.Den * r.Den = fv f q * r.Den * p.Den := by grind
 have e2 : fv f p * q.Den * r.Den = q.Den * (fv f p * r.Den) := by grind
 have e3 : fv f r * q.Den * p.Den = q.Den * (fv f r * p.Den) := by grind
 have : q.Den * (fv f p * r.Den) <= q.Den * (fv f r * p.Den) := by omega
 exact Int.le_of_mul_le_mul_left this hq
theorem zfC {f : Form} {p q : Corner} (hf : slope f.X f.Y = true) (hp : valid p = true) (hq : valid q = true) : ¬ less (value f p) (value f q) < 0 ↔ vle f q p := by
 obtain ⟨f1, g1, p1, n1, d1⟩ := zaV hf hp
 obtain ⟨f2, g2, p2, n2, d2⟩ := zaV hf hq
 unfold less
 rw [if_pos ⟨f1, f2⟩]
 unfold vle
 rw [n1, n2, d1, d2]
 have e1 : g2 * (value f q).Num * (g1 * (value f p).Den) = g1 * g2 * ((value f q).Num * (value f p).Den) := by grind
 have e2 : g1 * (value f p).Num * (g2 * (value f q).Den) = g1 * g2 * ((value f p).Num * (value f q).Den) := by grind
 rw [e1, e2]
 have gp := Int.mul_pos p1 p2
 unfold ord
 constructor
 ·intro h
  refine Int.mul_le_mul_of_nonneg_left ?_ (Int.le_of_lt gp)
  refine Classical.byContradiction fun hh => h ?_
  rw [if_pos (by omega)]; decide
 ·intro h
  have := Int.le_of_mul_le_mul_left h gp
  rw [if_neg (by omega)]
  split <;> decide
theorem zbw {f : Form} {l : List Corner} (hf : slope f.X f.Y = true) (hl : ∀ q ∈ l, valid q = true) (h0 : 0 < l.length) : ∀ i, i <= l.length -> ∀ j, j < i \/ j = 0 -> vle f (l.getD j default) (bestTo f l i)
 | 0, _, j, hj => by
  obtain rfl : j = 0 := by omega
  rw [zbI]; exact ze9 f _
 | i + 1, hi, j, hj => by
  have vi := hl _ (gd1 (show i < l.length by omega) default)
  have vb := hl _ (zbv f l h0 i (by omega))
  have den := fun (q : Corner) (h : valid q = true) => (zax h).d
  have vj : valid (l.getD j default) = true := hl _ (gd1 (by omega) default)
  rw [zaL f l (by omega)]
  unfold stepB
  by_cases hc : less (value f (bestTo f l i)) (value f (l.getD i default)) < 0
  ·rw [if_pos hc]
   have hle : vle f (bestTo f l i) (l.getD i default) := by
    unfold vle
    have : ¬ vle f (l.getD i default) (bestTo f l i) := fun h => ((zfC hf vb vi).2 h) hc
    unfold vle at this
    omega
   rcases Nat.lt_or_ge j i with h | h
   ·exact zdu (by have := den _ vj; omega) (by have := den _ vb; omega) (by have := den _ vi; omega) (zbw hf hl h0 i (by omega) j (.inl h)) hle
   ·by_cases hj0 : j = 0
    ·exact zdu (by have := den _ vj; omega) (by have := den _ vb; omega) (by have := den _ vi; omega) (zbw hf hl h0 i (by omega) j (.inr hj0)) hle
    ·obtain rfl : j = i := by omega
     exact ze9 f _
  ·rw [if_neg hc]
   rcases Nat.lt_or_ge j i with h | h
   ·exact zbw hf hl h0 i (by omega) j (.inl h)
   ·by_cases hj0 : j = 0
    ·exact zbw hf hl h0 i (by omega) j (.inr hj0)
    ·obtain rfl : j = i := by omega
     exact (zfC hf vb vi).1 hc
theorem zcU {f : Form} {l : List Corner} (hf : slope f.X f.Y = true) (hl : ∀ q ∈ l, valid q = true) {q : Corner} (hq : q ∈ l) : vle f q (bestAt f l) := by
 obtain ⟨j, hj, rfl⟩ := List.getElem_of_mem hq
 have := zbw hf hl (by omega) l.length (Nat.le_refl _) j (.inl hj)
 unfold bestAt
 rwa [gdI hj] at this
theorem zop {l : List Half} {f : Form} (h1 : checkL l = 0) (hf : slope f.X f.Y = true) {q : Corner} (hq : Pt l q) : vle f q (bestAt f (cornersL l)) := by
 obtain ⟨_, _, n3⟩ := za3 h1
 obtain ⟨p, hV, _, hmax⟩ := zq5 (zoV h1) (f := f) (zdM hf).to4 hq.1 hq.2
 have hp := (zd4 n3 p).2 hV
 have hb := zca f (l := cornersL l) (fun e => by rw [e] at hp; cases hp)
 have vb := ((zd4 n3 _).1 hb).va
 have d1 := (zax hV.va).d
 have d2 := (zax vb).d
 refine zdu hq.1 (by omega) (by omega) (hmax q hq.1 hq.2) (zcU hf (zcj n3) hp)
theorem zfb (h : Half) (q : Corner) : tight h q = true ↔ ef h q = 0 := by
 unfold tight ef
 rw [beq_iff_eq]; omega
theorem zgC {n m : Int} (h : n ≠ 0) : flip (-n) (-m) = flip n m := by unfold flip; split <;> split <;> omega
theorem zfK {n : Int} (h : n ≠ 0) : 0 < flip n n := by unfold flip; split <;> omega
theorem zb2 (n a b : Int) : flip n (a * b) = flip n a * b := by
 unfold flip
 split
 ·rw [Int.neg_mul]
 ·rfl
theorem ziL (n a b : Int) : flip n (a + b) = flip n a + flip n b := by unfold flip; split <;> omega
theorem zhB {n m b : Int} (h : -b <= m /\ m <= b) : flip n m <= b := by unfold flip; split <;> omega
def Cn (f : Form) (g h : Half) : Prop := 0 <= flip (det g h) (fx f h) /\ 0 <= flip (det g h) (-fx f g)
theorem Cn.symm {f : Form} {g h : Half} (hd : det g h ≠ 0) (c : Cn f g h) : Cn f h g := by
 unfold Cn at *
 have e : det h g = -det g h := by rw [zb4]
 have e1 := zgC (n := det g h) (m := -fx f g) hd
 have e2 := zgC (n := det g h) (m := fx f h) hd
 rw [Int.neg_neg] at e1
 rw [e, e1, e2]
 exact ⟨c.2, c.1⟩
theorem zfZ {f : Form} {a : Corner} {x : Num × Num} (h1 : ef x.1.h a = 0) (h2 : ef x.2.h a = 0) (c : Cn f x.1.h x.2.h) : usesB f a x ≠ none := by
 unfold usesB
 have e : f.Y * x.1.h.A - f.X * x.1.h.B = -fx f x.1.h := by unfold fx; omega
 have c2 : 0 <= flip (det x.1.h x.2.h) (f.Y * x.1.h.A - f.X * x.1.h.B) := by rw [e]; exact c.2
 rw [if_pos ⟨⟨(zfb _ _).2 h1, (zfb _ _).2 h2⟩, c.1, c2⟩]
 exact fun e => by cases e
theorem zdK {l : List Half} {f : Form} {a : Corner} {g h : Half} (hg : g ∈ hsL l) (hh : h ∈ hsL l) (hd : det g h ≠ 0) (h1 : ef g a = 0) (h2 : ef h a = 0) (c : Cn f g h) : ∃ x ∈ pairsL (allL l), usesB f a x ≠ none := by
 rw [<- zef] at hg hh
 obtain ⟨x, hx, rfl⟩ := List.mem_map.1 hg
 obtain ⟨y, hy, rfl⟩ := List.mem_map.1 hh
 rcases pairs_of hx hy hd with hp | hp
 ·exact ⟨_, hp, zfZ h1 h2 c⟩
 ·exact ⟨_, hp, zfZ h2 h1 (c.symm hd)⟩
theorem zo8 {f : Form} {h j : Half} (hd : det h j ≠ 0) (h0 : fx f h = 0) (hp : 0 <= f.X * h.A + f.Y * h.B) : Cn f h j := by
 have hz : h.A ≠ 0 \/ h.B ≠ 0 := by
  refine Classical.not_not.1 fun hn => hd ?_
  have e1 : h.A = 0 := by omega
  have e2 : h.B = 0 := by omega
  rw [zag, e1, e2]; simp
 have sq := zf4 hz
 have e : (h.A * h.A + h.B * h.B) * fx f j = (f.X * h.A + f.Y * h.B) * det h j := by
  unfold fx at h0 ⊢
  rw [zag]
  have h0' : f.X * h.B = f.Y * h.A := by omega
  grind
 unfold Cn
 rw [h0]
 refine ⟨?_, by unfold flip; split <;> omega⟩
 unfold flip
 split
 ·rename_i hn
  have : (f.X * h.A + f.Y * h.B) * det h j <= 0 := Int.mul_nonpos_of_nonneg_of_nonpos hp (by omega)
  rcases Int.lt_or_le 0 (fx f j) with g | g
  ·have := Int.mul_pos sq g; omega
  ·omega
 ·have : 0 <= (f.X * h.A + f.Y * h.B) * det h j := Int.mul_nonneg hp (by omega)
  rcases Int.lt_or_le (fx f j) 0 with g | g
  ·have := Int.mul_neg_of_pos_of_neg sq g; omega
  ·omega
theorem other_edge {h g1 g2 : Half} (hz : h.A ≠ 0 \/ h.B ≠ 0) (hd : det g1 g2 ≠ 0) : det h g1 ≠ 0 \/ det h g2 ≠ 0 := by
 refine Classical.not_not.1 fun hn => hd ?_
 have e1 : det h g1 = 0 := by omega
 have e2 : det h g2 = 0 := by omega
 rw [zag] at e1 e2 ⊢
 rcases hz with hz | hz
 ·have : h.A * (g1.A * g2.B - g2.A * g1.B) = 0 := by
   have q1 : h.A * g1.B = g1.A * h.B := by omega
   have q2 : h.A * g2.B = g2.A * h.B := by omega
   grind
  rcases Int.mul_eq_zero.1 this with e | e
  ·exact absurd e hz
  ·exact e
 ·have : h.B * (g1.A * g2.B - g2.A * g1.B) = 0 := by
   have q1 : h.A * g1.B = g1.A * h.B := by omega
   have q2 : h.A * g2.B = g2.A * h.B := by omega
   grind
  rcases Int.mul_eq_zero.1 this with e | e
  ·exact absurd e hz
  ·exact e
theorem zir {l : List Half} {f : Form} {a : Corner} (V : Vt (hsL l) a) {h : Half} (hh : h ∈ hsL l) (hz : h.A ≠ 0 \/ h.B ≠ 0) (ht : ef h a = 0) (h0 : fx f h = 0) (hp : 0 <= f.X * h.A + f.Y * h.B) : ∃ x ∈ pairsL (allL l), usesB f a x ≠ none := by
 obtain ⟨g1, m1, g2, m2, hd, t1, t2⟩ := V.ti
 rcases other_edge hz hd with e | e
 ·exact zdK hh m1 e ht t1 (zo8 e h0 hp)
 ·exact zdK hh m2 e ht t2 (zo8 e h0 hp)
theorem zjG {l : List Half} {f : Form} {a : Corner} (h1 : checkL l = 0) (hf : slope f.X f.Y = true) (h0 : f ≠ ⟨0, 0⟩) (V : Vt (hsL l) a) (hmax : ∀ q, Pt l q -> vle f q a) : ∃ x ∈ pairsL (allL l), usesB f a x ≠ none := by
 have S := zoV h1
 have aD : 0 < a.Den := by have := (zax V.va).d; omega
 rcases lp S (f := f) (zdM hf).to4 with c | ⟨g, hg, h, hh, D, hV⟩
 ·exact (zl5 c aD V.fe).elim
 ·have pD : 0 < (crossing g h).Den := by have := (zax hV.va).d; omega
  have dp := D.d
  obtain ⟨t1, t2⟩ := zam (g := g) (h := h) (by omega)
  have slack : ∀ q : Corner, det g h * fv f q - num f g h * q.Den = fx f h * ef g q - fx f g * ef h q := fun q => by
   unfold num fx ef fv
   simp only [zag]
   grind
  have sp := slack (crossing g h)
  rw [t1, t2, Int.mul_zero, Int.mul_zero] at sp
  have sa := slack a
  have hm := hmax (crossing g h) ⟨pD, hV.fe⟩
  unfold vle at hm
  have k1 := Int.mul_le_mul_of_nonneg_left hm (Int.le_of_lt dp)
  have e1 : det g h * (fv f (crossing g h) * a.Den) = (num f g h * (crossing g h).Den) * a.Den := by
   have : det g h * fv f (crossing g h) = num f g h * (crossing g h).Den := by omega
   rw [<- Int.mul_assoc, this]
  have e2 : num f g h * (crossing g h).Den * a.Den = (crossing g h).Den * (num f g h * a.Den) := by grind
  have e3 : det g h * (fv f a * (crossing g h).Den) = (crossing g h).Den * (det g h * fv f a) := by grind
  have k2 : num f g h * a.Den <= det g h * fv f a := Int.le_of_mul_le_mul_left (by omega) pD
  have ga := V.fe g hg
  have ha := V.fe h hh
  have u1 : fx f h * ef g a <= 0 := Int.mul_nonpos_of_nonneg_of_nonpos D.s ga
  have u2 : 0 <= fx f g * ef h a := Int.mul_nonneg_of_nonpos_of_nonpos D.t ha
  have z1 : fx f h * ef g a = 0 := by omega
  have z2 : fx f g * ef h a = 0 := by omega
  have gz := S.nz g hg
  have hz := S.nz h hh
  by_cases c1 : fx f h = 0
  ·-- the form lies along h's normal
   have hp : 0 <= f.X * h.A + f.Y * h.B := by
    have e : (h.A * h.A + h.B * h.B) * fx f g = -((f.X * h.A + f.Y * h.B) * det g h) := by
     unfold fx at c1 ⊢
     rw [zag]
     have c1' : f.X * h.B = f.Y * h.A := by omega
     grind
    have hs := Int.mul_nonpos_of_nonneg_of_nonpos (Int.le_of_lt (zf4 hz)) D.t
    rcases Int.lt_or_le (f.X * h.A + f.Y * h.B) 0 with q | q
    ·have := Int.mul_neg_of_neg_of_pos q dp; omega
    ·exact q
   by_cases c2 : fx f g = 0
   ·exfalso
    apply h0
    have q1 : det g h * f.X = 0 := by
     have : det g h * f.X = fx f h * g.A - fx f g * h.A := by unfold fx; rw [zag]; grind
     rw [this, c1, c2]; simp
    have q2 : det g h * f.Y = 0 := by
     have : det g h * f.Y = fx f h * g.B - fx f g * h.B := by unfold fx; rw [zag]; grind
     rw [this, c1, c2]; simp
    have r1 : f.X = 0 := by rcases Int.mul_eq_zero.1 q1 with e | e <;> omega
    have r2 : f.Y = 0 := by rcases Int.mul_eq_zero.1 q2 with e | e <;> omega
    cases f; simp at r1 r2; rw [r1, r2]
   ·have th : ef h a = 0 := by rcases Int.mul_eq_zero.1 z2 with e | e; exact absurd e c2; exact e
    exact zir V hh hz th c1 hp
  ·have tg : ef g a = 0 := by rcases Int.mul_eq_zero.1 z1 with e | e; exact absurd e c1; exact e
   by_cases c2 : fx f g = 0
   ·have hp : 0 <= f.X * g.A + f.Y * g.B := by
     have e : (g.A * g.A + g.B * g.B) * fx f h = (f.X * g.A + f.Y * g.B) * det g h := by
      unfold fx at c2 ⊢
      rw [zag]
      have c2' : f.X * g.B = f.Y * g.A := by omega
      grind
     have hs := Int.mul_nonneg (Int.le_of_lt (zf4 gz)) D.s
     rcases Int.lt_or_le (f.X * g.A + f.Y * g.B) 0 with q | q
     ·have := Int.mul_neg_of_neg_of_pos q dp; omega
     ·exact q
    exact zir V hg gz tg c2 hp
   ·have th : ef h a = 0 := by rcases Int.mul_eq_zero.1 z2 with e | e; exact absurd e c2; exact e
    refine zdK hg hh (by omega) tg th ⟨?_, ?_⟩
    ·unfold flip; rw [if_neg (by omega)]; exact D.s
    ·unfold flip; rw [if_neg (by omega)]; have := D.t; omega
theorem zh0 (u v : Use) : usedL [u, v] = (if u.T = 0 then [] else [u]) ++ (if v.T = 0 then [] else [v]) := by
 have e : usedL [u, v] = filtP unused [u, v] 2 := by unfold usedL; rfl
 rw [e, za9, za9, zeV, List.nil_append]
 have e1 : unused ([u, v].getD 0 default) = (u.T == 0) := rfl
 have e2 : unused ([u, v].getD 1 default) = (v.T == 0) := rfl
 rw [e1, e2]
 simp only [beq_iff_eq]
 rfl
theorem zpA (l : List Half) (u v : Use) : sumU l (usedL [u, v]) = ⟨u.T * (useH l u.H).A + v.T * (useH l v.H).A, u.T * (useH l u.H).B + v.T * (useH l v.H).B, u.T * (useH l u.H).C + v.T * (useH l v.H).C⟩ := by
 rw [zh0]
 split
 ·rename_i h1
  split
  ·rename_i h2; simp [sumU, h1, h2]
  ·simp [sumU, plusH, h1]
 ·split
  ·rename_i h2; simp [sumU, plusH, h2]
  ·simp [sumU, plusH]
theorem znV {l : List Half} {f : Form} {a : Corner} (h1 : checkL l = 0) (hf : slope f.X f.Y = true) (V : Vt (hsL l) a) {x : Num × Num} (hx : x ∈ pairsL (allL l)) {d : Int} {u : List Use} (hu : usesB f a x = some (d, u)) : Bst l f ⟨value f a, a, d, u⟩ := by
 obtain ⟨_, _, n3⟩ := za3 h1
 obtain ⟨m1, m2, m3⟩ := zbq hx
 have a1 := zdr m1
 have a2 := zdr m2
 have o1 := zcl n3 _ m1
 have o2 := zcl n3 _ m2
 have oF := zdM hf
 unfold usesB at hu
 split at hu
 case isFalse => cases hu
 rename_i hc
 obtain ⟨⟨t1, t2⟩, c1, c2⟩ := hc
 rw [zfb] at t1 t2
 simp only [Option.some.injEq, Prod.mk.injEq] at hu
 obtain ⟨rfl, rfl⟩ := hu
 generalize hs : flip (det x.1.h x.2.h) (f.X * x.2.h.B - f.Y * x.2.h.A) = s at *
 generalize ht : flip (det x.1.h x.2.h) (f.Y * x.1.h.A - f.X * x.1.h.B) = t at *
 have bs : s <= 2000000 := by
  rw [<- hs]
  have b1 := mulB oF.x o2.b
  have b2 := mulB oF.y o2.a
  exact zhB (by omega)
 have bt : t <= 2000000 := by
  rw [<- ht]
  have b1 := mulB oF.y o1.a
  have b2 := mulB oF.x o1.b
  exact zhB (by omega)
 have dp := zfK m3
 have db : flip (det x.1.h x.2.h) (det x.1.h x.2.h) <= 2000000 := zhB (zqB o1 o2)
 have hne : x.1.n ≠ x.2.n := zqc m1 m2 fun e => m3 (by rw [e, zn3])
 have fm : formedL l.length (usedL [⟨x.1.n, s⟩, ⟨x.2.n, t⟩]) = true := by
  unfold formedL
  rw [Bool.and_eq_true, decide_eq_true_iff, zh0]
  refine ⟨?_, zk2 (fun u hu => ?_) ?_ _ (Nat.le_refl _)⟩
  ·split <;> split <;> simp
  ·rcases List.mem_append.1 hu with hu | hu
   ·split at hu
    ·cases hu
    ·rename_i h0
     obtain rfl := List.mem_singleton.1 hu
     exact ⟨a1.2, (by show 1 <= s; have : s ≠ 0 := h0; omega), (by show s <= 2097152; omega)⟩
   ·split at hu
    ·cases hu
    ·rename_i h0
     obtain rfl := List.mem_singleton.1 hu
     exact ⟨a2.2, (by show 1 <= t; have : t ≠ 0 := h0; omega), (by show t <= 2097152; omega)⟩
  ·split <;> split <;> simp [hne]
 have es : sumE l (usedL [⟨x.1.n, s⟩, ⟨x.2.n, t⟩]) = (⟨s * x.1.h.A + t * x.2.h.A, s * x.1.h.B + t * x.2.h.B, s * x.1.h.C + t * x.2.h.C⟩, true) := by
  unfold sumE
  rw [if_pos fm, zpA, <- a1.1, <- a2.1]
 have idA : s * x.1.h.A + t * x.2.h.A = flip (det x.1.h x.2.h) (det x.1.h x.2.h) * f.X := by
  rw [<- hs, <- ht, <- zb2, <- zb2, <- ziL, <- zb2]
  congr 1
  rw [zag]; grind
 have idB : s * x.1.h.B + t * x.2.h.B = flip (det x.1.h x.2.h) (det x.1.h x.2.h) * f.Y := by
  rw [<- hs, <- ht, <- zb2, <- zb2, <- ziL, <- zb2]
  congr 1
  rw [zag]; grind
 obtain ⟨vf, g, gp, vn, vd⟩ := zaV hf V.va
 refine ⟨by rw [es], ?_, vf, V.va, by rw [es]; exact idA, by rw [es]; exact idB, ?_, (zbX l a).2 V.fe, rfl⟩
 ·rw [zab]
  show 1 <= flip (det x.1.h x.2.h) (det x.1.h x.2.h) /\ flip (det x.1.h x.2.h) (det x.1.h x.2.h) <= 2097152
  omega
 ·rw [es]
  show (s * x.1.h.C + t * x.2.h.C) * (value f a).Den = flip (det x.1.h x.2.h) (det x.1.h x.2.h) * (value f a).Num
  generalize flip (det x.1.h x.2.h) (det x.1.h x.2.h) = d at *
  unfold ef at t1 t2
  unfold fv at vn
  have e1 : (s * x.1.h.C + t * x.2.h.C) * a.Den = d * (f.X * a.X + f.Y * a.Y) := by
   have q1 : x.1.h.C * a.Den = x.1.h.A * a.X + x.1.h.B * a.Y := by omega
   have q2 : x.2.h.C * a.Den = x.2.h.A * a.X + x.2.h.B * a.Y := by omega
   grind
  rw [vn, vd] at e1
  have e2 : g * ((s * x.1.h.C + t * x.2.h.C) * (value f a).Den) = g * (d * (value f a).Num) := by grind
  exact Int.eq_of_mul_eq_mul_left (by omega) e2
theorem zqW {l : List Half} {f : Form} (e : (bestE l f).2 = 0) : cbE l f (bestE l f).1 = 0 := by
 by_cases h1 : checkL l = 0
 case neg => unfold bestE at e; rw [if_neg h1] at e; exact absurd e h1
 by_cases hf : slope f.X f.Y = true
 case neg => rw [zgR h1 (by simpa using hf)] at e; cases e
 by_cases h0 : cornersL l = []
 ·rw [show bestE l f = (noBound, 9) by unfold bestE; rw [if_pos h1, if_pos hf, if_pos h0]] at e; cases e
 obtain ⟨n1, n2, n3⟩ := za3 h1
 have V := (zd4 n3 _).1 (zca f h0)
 have B : Bst l f (bestE l f).1 := by
  unfold bestE
  rw [if_pos h1, if_pos hf, if_neg h0]
  by_cases hz : f = ⟨0, 0⟩
  ·rw [if_pos hz]
   obtain ⟨vf, g, gp, vn, vd⟩ := zaV hf V.va
   have fm : formedL l.length [] = true := by
    unfold formedL
    rw [Bool.and_eq_true, decide_eq_true_iff]
    exact ⟨by simp, zdL _ _⟩
   have es : sumE l [] = (⟨0, 0, 0⟩, true) := by unfold sumE; rw [if_pos fm]; rfl
   refine ⟨by rw [es], zab.2 (show (1 : Int) <= 1 /\ (1 : Int) <= 2097152 by decide), vf, V.va, ?_, ?_, ?_, (zbX l _).2 V.fe, rfl⟩
   ·rw [es, hz]; rfl
   ·rw [es, hz]; rfl
   ·rw [es]
    show 0 * _ = 1 * (value f (bestAt f (cornersL l))).Num
    have : fv f (bestAt f (cornersL l)) = 0 := by unfold fv; rw [hz]; simp
    rw [this] at vn
    rcases Int.mul_eq_zero.1 vn.symm with q | q
    ·omega
    ·rw [q]; simp
  ·rw [if_neg hz]
   obtain ⟨x, hx, hn⟩ := zjG h1 hf hz V fun q hq => zop h1 hf hq
   cases hfs : (pairsL (allL l)).findSome? (usesB f (bestAt f (cornersL l))) with
   | none =>
    exfalso
    have := List.findSome?_eq_none_iff.1 hfs x hx
    exact hn this
   | some p =>
    obtain ⟨d, u⟩ := p
    obtain ⟨y, hy, hyu⟩ := List.exists_of_findSome?_eq_some hfs
    exact znV h1 hf V hy hyu
 unfold cbE
 rw [if_pos h1, if_pos hf, if_pos B]
theorem zlK {a b : Frac} (ha : fraction a = true) (hb : fraction b = true) (h : a.Num * b.Den = b.Num * a.Den) : a = b := by
 have da := (zaI ha).1
 have db := (zaI hb).1
 have ga : Nat.gcd a.Num.natAbs a.Den.natAbs = 1 := by
  unfold fraction at ha
  simp only [Bool.and_eq_true, beq_iff_eq, gcdL, List.foldl_cons, List.foldl_nil, Nat.gcd_zero_left] at ha
  have := ha.2
  omega
 have gb : Nat.gcd b.Num.natAbs b.Den.natAbs = 1 := by
  unfold fraction at hb
  simp only [Bool.and_eq_true, beq_iff_eq, gcdL, List.foldl_cons, List.foldl_nil, Nat.gcd_zero_left] at hb
  have := hb.2
  omega
 have hn : a.Num.natAbs * b.Den.natAbs = b.Num.natAbs * a.Den.natAbs := by rw [<- Int.natAbs_mul, <- Int.natAbs_mul, h]
 have c1 : a.Den.natAbs ∣ b.Den.natAbs := by
  refine Nat.Coprime.dvd_of_dvd_mul_left (k := a.Den.natAbs) (m := a.Num.natAbs) ?_ ⟨b.Num.natAbs, by rw [hn, Nat.mul_comm]⟩
  unfold Nat.Coprime; rw [Nat.gcd_comm]; exact ga
 have c2 : b.Den.natAbs ∣ a.Den.natAbs := by
  refine Nat.Coprime.dvd_of_dvd_mul_left (k := b.Den.natAbs) (m := b.Num.natAbs) ?_ ⟨a.Num.natAbs, by rw [<- hn, Nat.mul_comm]⟩
  unfold Nat.Coprime; rw [Nat.gcd_comm]; exact gb
 have e := Nat.dvd_antisymm c1 c2
 have e1 : a.Den = b.Den := by omega
 have e2 : a.Num = b.Num := by
  rw [e1] at h
  exact Int.eq_of_mul_eq_mul_right (by omega) h
 cases a; cases b; simp at e1 e2; rw [e1, e2]
theorem zmz {f : Form} {p q : Corner} (hf : slope f.X f.Y = true) (hp : valid p = true) (hq : valid q = true) (h1 : vle f p q) (h2 : vle f q p) : value f p = value f q := by
 obtain ⟨f1, g1, p1, n1, d1⟩ := zaV hf hp
 obtain ⟨f2, g2, p2, n2, d2⟩ := zaV hf hq
 refine zlK f1 f2 ?_
 have h : fv f p * q.Den = fv f q * p.Den := Int.le_antisymm h1 h2
 rw [n1, n2, d1, d2] at h
 have e1 : g2 * (value f q).Num * (g1 * (value f p).Den) = g1 * g2 * ((value f q).Num * (value f p).Den) := by grind
 have e2 : g1 * (value f p).Num * (g2 * (value f q).Den) = g1 * g2 * ((value f p).Num * (value f q).Den) := by grind
 rw [e1, e2] at h
 have gp := Int.mul_pos p1 p2
 exact Int.eq_of_mul_eq_mul_left (by omega) h
theorem zoo {l : List Half} {f : Form} (hl : ∀ x ∈ l, okH x) (hf : slope f.X f.Y = true) (h0 : cornersL l ≠ []) : value f (bestAt f (crsL l)) = value f (bestAt f (cornersL l)) := by
 have h1 : crsL l ≠ [] := fun e => h0 ((zhG hl).2 e)
 have m1 := zca f h1
 have m2 := zca f h0
 have v1 := (zbP hl _).1 m1
 have v2 := (zd4 hl _).1 m2
 refine zmz hf v1.va v2.va ?_ ?_
 ·exact zcU hf (zcj hl) ((zd4 hl _).2 v1)
 ·exact zcU hf (fun q hq => ((zbP hl q).1 hq).va) ((zbP hl _).2 v2)
theorem zjH (f : Form) {l : List Corner} (h0 : 0 < l.length) (hf : slope f.X f.Y = true) (hv : valid (l.getD 0 default) = true) : bestTo f l 1 = l.getD 0 default := by
 rw [zaL f l h0, zbI]
 unfold stepB
 rw [if_neg]
 exact (zfC hf hv hv).2 (ze9 f _)
@[irreducible] noncomputable def mostE (l : List Half) (f : Form) : Frac × Int := if checkL l = 0 then if slope f.X f.Y = true then if cornersL l = [] then (⟨0, 0⟩, 9) else (value f (bestAt f (cornersL l)), 0) else (⟨0, 0⟩, 1) else (⟨0, 0⟩, checkL l)
abbrev vMost (x : Frac × Int) : V1 := .agg [I x.1.Num, I x.1.Den, I x.2]
theorem zje (l : List Half) (f : Form) : Spec PP 55 [slH l, f.v] [vMost (mostE l f)] := by
 refine zdB Tryz.func55 rfl (by kernel_rfl) rfl ?_
 refine cP (zhg l) rfl rfl ?_
 refine sB (fun h1 => ?_) (fun h1 => ?_)
 ·have h1 : checkL l ≠ 0 := by simpa using h1
  have e : mostE l f = (⟨0, 0⟩, checkL l) := by unfold mostE; rw [if_neg h1]
  rw [e]
  exact r1C rfl rfl rfl rfl rfl rfl (zaa _)
 have h1 : checkL l = 0 := by simpa using h1
 obtain ⟨n1, n2, n3⟩ := za3 h1
 refine cP (zoO f) rfl rfl ?_
 refine sB (fun h2 => ?_) (fun h2 => ?_)
 ·have h2 : slope f.X f.Y = false := by simpa using h2
  have e : mostE l f = (⟨0, 0⟩, 1) := by unfold mostE; rw [if_pos h1, if_neg (by rw [h2]; decide)]
  rw [e]
  exact r1C rfl rfl rfl rfl rfl rfl (zaa _)
 have h2 : slope f.X f.Y = true := by simpa using h2
 have oF := zdM h2
 refine CallSt.ro (zhd l n3 (by omega)) rfl rfl ?_
 refine sB (fun h3 => ?_) (fun h3 => ?_)
 ·have h3 : crsL l = [] := zli.1 h3
  have e : mostE l f = (⟨0, 0⟩, 9) := by unfold mostE; rw [if_pos h1, if_pos h2, if_pos ((zhG n3).2 h3)]
  rw [e]
  exact r1C rfl rfl rfl rfl rfl rfl (zaa _)
 have h3 : crsL l ≠ [] := fun h => by rw [zli.2 h] at h3; cases h3
 have hc : cornersL l ≠ [] := fun h => h3 ((zhG n3).1 h)
 have e : mostE l f = (value f (bestAt f (crsL l)), 0) := by unfold mostE; rw [if_pos h1, if_pos h2, if_neg hc, zoo n3 h2 hc]
 have hlen := zoa n3 (by omega)
 have hpos : 0 < (crsL l).length := List.length_pos_iff.2 h3
 have hok := zlZ n3
 have hva : ∀ q ∈ crsL l, valid q = true := fun q hq => ((zbP n3 q).1 hq).va
 refine Exists.intro (List.range 7) (And.intro (by kernel_rfl) (FzOb.no ?_))
 refine ⟨⟨rfl, by omega, by omega⟩, ?_⟩
 refine oP (zhc f ((crsL l).getD 0 default) oF (hok _ (gd1 hpos default))) rfl rfl ?_
 refine LoopOb.of (σ := Nat) (fun i => ([(3, .box 3 0), (4, .box 4 0), (7, avOf (slC (crsL l))), (8, .box 8 0), (9, .d (I i))], [(3, .box [.d (I f.X), .d (I f.Y)]), (4, .box [.d (I 0), .d (I 0), .d (I 0)]), (8, .box [.d (I (value f (bestTo f (crsL l) i)).Num), .d (I (value f (bestTo f (crsL l) i)).Den)])])) (fun i => 1 <= i /\ i <= (crsL l).length) (fun i => (crsL l).length - i) 1
  ⟨rfl, ⟨obXh rfl, obXh rfl, obXh (by rw [zjH f hpos h2 (hva _ (gd1 hpos default))]; rfl), trivial⟩, avQ rfl, avQ rfl, avR _ rfl, avQ rfl, avR _ rfl, trivial⟩ ⟨Nat.le_refl _, hpos⟩ fun i hi => ?_
 obtain ⟨i0, i1⟩ := hi
 have mb := zbv f (crsL l) hpos i i1
 refine sB (fun g1 => ?_) (fun g1 => ?_)
 ·have g1 : i < (crsL l).length := by have := dT g1; omega
  have hm := gd1 g1 (default : Corner)
  refine Exists.intro (List.range 8) (And.intro (by kernel_rfl) (FzOb.no ?_))
  refine ⟨⟨rfl, by omega, by omega⟩, ?_⟩
  refine oP (zhc f ((crsL l).getD i default) oF (hok _ hm)) rfl rfl ?_
  refine cP (zrA (value f (bestTo f (crsL l) i)) (value f ((crsL l).getD i default))) rfl rfl ?_
  refine sB (fun g2 => ?_) (fun g2 => ?_)
  ·have g2 : less (value f (bestTo f (crsL l) i)) (value f ((crsL l).getD i default)) < 0 := dT g2
   refine ⟨i6, ?_⟩
   refine ⟨i + 1, ⟨rfl, ⟨obXh rfl, obXh rfl, obXh (by rw [zaL f _ g1]; unfold stepB; rw [if_pos g2]; rfl), trivial⟩, avQ rfl, avQ rfl, avR _ rfl, avQ rfl, avI rfl rfl, trivial⟩, (show 1 <= i + 1 /\ i + 1 <= (crsL l).length by omega), (show (crsL l).length - (i + 1) < (crsL l).length - i by omega)⟩
  ·have g2 : ¬ less (value f (bestTo f (crsL l) i)) (value f ((crsL l).getD i default)) < 0 := dF g2
   refine ⟨i6, ?_⟩
   refine ⟨i + 1, ⟨rfl, ⟨obXh rfl, obXh rfl, obXh (by rw [zaL f _ g1]; unfold stepB; rw [if_neg g2]; rfl), trivial⟩, avQ rfl, avQ rfl, avR _ rfl, avQ rfl, avI rfl rfl, trivial⟩, (show 1 <= i + 1 /\ i + 1 <= (crsL l).length by omega), (show (crsL l).length - (i + 1) < (crsL l).length - i by omega)⟩
 ·have g1 : i = (crsL l).length := by have := dF g1; omega
  subst g1
  rw [e]
  have eb : bestAt f (crsL l) = bestTo f (crsL l) (crsL l).length := by unfold bestAt; rfl
  rw [eb]
  exact r1C rfl rfl rfl rfl rfl rfl (zaa _)
theorem zm1 (l : List Half) (f : Form) (b : Bound) (h1 : checkL l = 0) (hs : slope f.X f.Y = true) (hU : UB b.Uses) : Spec PP 58 [slH l, f.v, b.v] [B (decide (Bst l f b))] := by
 obtain ⟨n1, n2, n3⟩ := za3 h1
 have oF := zdM hs
 refine zdB Tryz.func58 rfl (by kernel_rfl) rfl ?_
 refine cP (zm3 l b.At) rfl rfl ?_
 refine cP (zm2 l b.Uses hU (by omega)) rfl rfl ?_
 refine Exists.intro (List.range 21) (And.intro (by kernel_rfl) (FzOb.no ?_))
 have bad : ¬ Bst l f b -> false = decide (Bst l f b) := fun h => (decide_eq_false h).symm
 have smOf : formedL l.length b.Uses = true -> sumE l b.Uses = (sumU l b.Uses, true) := fun h => by unfold sumE; rw [if_pos h]
 refine sB (fun g1 => ?_) (fun g1 => ?_)
 ·have g1 : (allowsE l b.At).2 = false := by simpa using g1
  repeat refine sT ?_
  refine r1B rfl (bad fun h => ?_)
  have e : allowsE l b.At = (outsideL (allL l) b.At, outsideL (allL l) b.At == -5) := by unfold allowsE; rw [if_pos ⟨h1, h.va⟩]
  rw [e, h.inn] at g1
  cases g1
 have g1 : (allowsE l b.At).2 = true := by simpa using g1
 have gva : valid b.At = true := by
  refine Classical.byContradiction fun h => ?_
  have e : allowsE l b.At = (-5, false) := by unfold allowsE; rw [if_neg fun hh => h hh.2]
  rw [e] at g1; cases g1
 have gin : outsideL (allL l) b.At = -5 := by
  have e : allowsE l b.At = (outsideL (allL l) b.At, outsideL (allL l) b.At == -5) := by unfold allowsE; rw [if_pos ⟨h1, gva⟩]
  rw [e] at g1; simpa using g1
 repeat refine sF ?_
 refine sB (fun g2 => ?_) (fun g2 => ?_)
 ·have g2 : formedL l.length b.Uses = false := by simpa using g2
  repeat refine sT ?_
  refine r1B rfl (bad fun h => ?_)
  have := h.sm
  unfold sumE at this
  rw [g2] at this
  cases this
 have g2 : formedL l.length b.Uses = true := by simpa using g2
 have es := smOf g2
 repeat refine sF ?_
 refine oP (r_in b.Scale 1 2097152) rfl rfl ?_
 repeat refine sF ?_
 refine sB (fun g3 => ?_) (fun g3 => ?_)
 ·have g3 : within b.Scale 1 2097152 = false := by simpa using g3
  repeat refine sT ?_
  refine r1B rfl (bad fun h => ?_)
  rw [h.sc] at g3; cases g3
 have g3 : within b.Scale 1 2097152 = true := by simpa using g3
 repeat refine sF ?_
 refine oP (zhc f b.At oF (zax gva)) rfl rfl ?_
 repeat refine sF ?_
 refine sB (fun g9 => ?_) (fun g9 => ?_)
 ·have g9 : value f b.At ≠ b.V := fun e => by
   have g9 : (!(b.V.Num == (value f b.At).Num && (b.V.Den == (value f b.At).Den && true))) = true := g9
   rw [e] at g9; simp at g9
  exact r1B rfl (bad fun h => g9 h.at_)
 have g9 : value f b.At = b.V := by
  have g9 : (!(b.V.Num == (value f b.At).Num && (b.V.Den == (value f b.At).Den && true))) = false := g9
  simp only [Bool.not_eq_false', Bool.and_eq_true, beq_iff_eq, and_true] at g9
  cases hv : value f b.At; cases hb : b.V; rw [hv, hb] at g9; simp at g9; rw [g9.1, g9.2]
 have gfr : fraction b.V = true := by rw [<- g9]; exact (zaV hs gva).1
 obtain ⟨vd, vn⟩ := zaI gfr
 obtain ⟨sA, sB, sC⟩ := zrh (Uh := b.Uses) n3
 rw [es] at sA sB sC
 have sA : -8388608000 <= (sumU l b.Uses).A /\ (sumU l b.Uses).A <= 8388608000 := sA
 have sB : -8388608000 <= (sumU l b.Uses).B /\ (sumU l b.Uses).B <= 8388608000 := sB
 have sC : -2199023255552 <= (sumU l b.Uses).C /\ (sumU l b.Uses).C <= 2199023255552 := sC
 have sc := zab.1 g3
 have q : -2097152 <= b.Scale /\ b.Scale <= 2097152 := by omega
 have m1 := mulB q oF.x
 have m2 := mulB q oF.y
 refine cP (r_sum l b.Uses n3 (by omega) g2) rfl rfl ?_
 have m3 := mulB sC (b := b.V.Den) (y := 2097152) (by omega)
 have m4 := mulB q (b := b.V.Num) (y := 2199023255552) (by omega)
 have sA' : (sumE l b.Uses).1.A = (sumU l b.Uses).A := by rw [es]
 have sB' : (sumE l b.Uses).1.B = (sumU l b.Uses).B := by rw [es]
 have sC' : (sumE l b.Uses).1.C = (sumU l b.Uses).C := by rw [es]
 refine ⟨i6, ?_⟩
 refine Split.by (fun g5 => ?_) (fun g5 => ?_)
 case refine_2 =>
  have g5 : (sumU l b.Uses).A ≠ b.Scale * f.X := by simpa using g5
  repeat refine sF ?_
  exact r1B rfl (bad fun h => g5 (by rw [<- sA']; exact h.A))
 have g5 : (sumU l b.Uses).A = b.Scale * f.X := by simpa using g5
 refine ⟨i6, ?_⟩
 repeat refine sT ?_
 refine Split.by (fun g6 => ?_) (fun g6 => ?_)
 case refine_2 =>
  have g6 : (sumU l b.Uses).B ≠ b.Scale * f.Y := by simpa using g6
  repeat refine sF ?_
  exact r1B rfl (bad fun h => g6 (by rw [<- sB']; exact h.B))
 have g6 : (sumU l b.Uses).B = b.Scale * f.Y := by simpa using g6
 refine ⟨i6, ?_⟩
 repeat refine sT ?_
 refine ⟨i6, ?_⟩
 repeat refine sT ?_
 refine r1B rfl ?_
 have b2 : Bst l f b ↔ (sumU l b.Uses).C * b.V.Den = b.Scale * b.V.Num := by
  constructor
  ·intro h; rw [<- sC']; exact h.C
  ·intro h; exact ⟨by rw [es], g3, gfr, gva, by rw [sA', g5], by rw [sB', g6], by rw [sC', h], gin, g9⟩
 show ((sumU l b.Uses).C * b.V.Den == b.Scale * b.V.Num) = decide (Bst l f b)
 by_cases c : (sumU l b.Uses).C * b.V.Den = b.Scale * b.V.Num
 ·rw [decide_eq_true (b2.2 c)]; simpa using c
 ·rw [decide_eq_false fun h => c (b2.1 h)]; simpa using c
theorem zhf (l : List Half) (f : Form) (b : Bound) (hU : UB b.Uses) : Spec PP 20 [slH l, f.v, b.v] [N (cbE l f b)] := by
 refine zdB Tryz.func20 rfl (by kernel_rfl) rfl ?_
 refine cP (zhg l) rfl rfl ?_
 refine sB (fun h1 => ?_) (fun h1 => ?_)
 ·have h1 : checkL l ≠ 0 := by simpa using h1
  exact r1I rfl (by unfold cbE; rw [if_neg h1])
 have h1 : checkL l = 0 := by simpa using h1
 refine cP (zoO f) rfl rfl ?_
 refine sB (fun h2 => ?_) (fun h2 => ?_)
 ·have h2 : slope f.X f.Y = false := by simpa using h2
  exact r1I rfl (by unfold cbE; rw [if_pos h1, if_neg (by rw [h2]; decide)])
 have h2 : slope f.X f.Y = true := by simpa using h2
 refine cP (zm1 l f b h1 h2 hU) rfl rfl ?_
 refine sB (fun h3 => ?_) (fun h3 => ?_)
 ·have h3 : ¬ Bst l f b := by simpa using h3
  exact r1I rfl (by unfold cbE; rw [if_pos h1, if_pos h2, if_neg h3])
 ·have h3 : Bst l f b := by simpa using h3
  exact r1I rfl (by unfold cbE; rw [if_pos h1, if_pos h2, if_pos h3])
theorem zsr {l : List Half} {f : Form} {b : Bound} (h : Bst l f b) (hn : l.length <= 1000000) : UB b.Uses := fun u hu => by
 have hs := h.sm
 unfold sumE at hs
 split at hs
 case isFalse => cases hs
 rename_i hf
 unfold formedL at hf
 rw [Bool.and_eq_true, decide_eq_true_iff] at hf
 obtain ⟨k, hk, rfl⟩ := List.getElem_of_mem hu
 have h2 := hf.2
 unfold okTo at h2
 have := List.all_eq_true.1 h2 k (List.mem_range.2 hk)
 obtain ⟨p1, p2, p3⟩ := zcf this
 rw [gdI hk] at p1 p2 p3
 omega
theorem zso {l : List Half} {f : Form} {b : Bound} (h : cbE l f b = 0) : checkL l = 0 /\ slope f.X f.Y = true /\ Bst l f b := by
 unfold cbE at h
 split at h
 ·rename_i h1
  split at h
  ·rename_i h2
   split at h
   ·rename_i h3; exact ⟨h1, h2, h3⟩
   ·cases h
  ·cases h
 ·rename_i h1; exact absurd h h1
theorem znw (l : List Half) (f : Form) : (mostE l f).2 = (bestE l f).2 := by
 unfold mostE bestE
 split
 ·split
  ·split
   ·rfl
   ·split
    ·rfl
    ·split <;> rfl
  ·rfl
 ·rfl
theorem znv {l : List Half} {f : Form} (h : (bestE l f).2 = 0) : (mostE l f).1 = (bestE l f).1.V := by
 by_cases h1 : checkL l = 0
 case neg => unfold bestE at h; rw [if_neg h1] at h; exact absurd h h1
 by_cases h2 : slope f.X f.Y = true
 case neg => rw [zgR h1 (by simpa using h2)] at h; cases h
 by_cases h3 : cornersL l = []
 ·rw [show bestE l f = (noBound, 9) by unfold bestE; rw [if_pos h1, if_pos h2, if_pos h3]] at h; cases h
 obtain ⟨b, e, eb⟩ := zon h1 h3 h2
 rw [e, eb]
 unfold mostE
 rw [if_pos h1, if_pos h2, if_neg h3]
theorem zgg (d : Int) (h : 0 <= d /\ d < 3600) : Spec PP 121 [N d] [(vecP d).v] := by
 have v : vecP d = if d <= 450 then ⟨450, d⟩ else if d <= 1350 then ⟨900 - d, 450⟩ else if d <= 2250 then ⟨-450, 1800 - d⟩ else if d <= 3150 then ⟨d - 2700, -450⟩ else ⟨450, d - 3600⟩ := by
  unfold vecP
  repeat' split
  all_goals first | omega | rfl | (simp only [Place.mk.injEq]; omega)
 refine sA Tryz.func121 ?_
 refine cP (zfq d (by omega)) rfl rfl ?_
 have e : d % 3600 = d := Int.emod_eq_of_lt h.1 h.2
 rw [e]
 apply sB <;> intro h1
 ·rw [v, if_pos (dT h1)]
  exact r1C rfl rfl rfl rfl rfl rfl (zaa _)
 rw [if_neg (dF h1)] at v
 apply sB <;> intro h2
 ·rw [v, if_pos (dT h2)]
  refine ⟨i6, ?_⟩
  exact r1C rfl rfl rfl rfl rfl rfl (zaa _)
 rw [if_neg (dF h2)] at v
 apply sB <;> intro h3
 ·rw [v, if_pos (dT h3)]
  refine ⟨i6, ?_⟩
  exact r1C rfl rfl rfl rfl rfl rfl (zaa _)
 rw [if_neg (dF h3)] at v
 apply sB <;> intro h4
 ·rw [v, if_pos (dT h4)]
  refine ⟨i6, ?_⟩
  exact r1C rfl rfl rfl rfl rfl rfl (zaa _)
 rw [v, if_neg (dF h4)]
 refine ⟨i6, ?_⟩
 exact r1C rfl rfl rfl rfl rfl rfl (zaa _)
theorem zkP (w : Wdg) (a : Place) : Spec PP 52 [w.v, a.v] [vHv (halvesW w a), B (halvesB w a)] := by
 refine sA Tryz.func52 ?_
 have e : halvesB w a = (validW w && decide (1 <= openW w) && on a) := by unfold halvesB; rfl
 have no : halvesB w a = false -> halvesW w a = (⟨0, 0, 0⟩, ⟨0, 0, 0⟩) := fun h => by unfold halvesW; rw [h]; rfl
 refine cP (zm8 w) rfl rfl ?_
 refine cP (zkO a) rfl rfl ?_
 apply sB <;> intro h1
 ·have h1 : validW w = false := by simpa using h1
  rw [h1] at e
  rw [no e, e]
  repeat first | apply sT | apply sF
  exact ⟨rtC (a := 4) rfl rfl rfl rfl rfl rfl (zaa _), rtB rfl rfl, trivial⟩
 have h1 : validW w = true := by simpa using h1
 repeat first | apply sT | apply sF
 apply sB <;> intro h3
 ·have h3 : on a = false := by simpa using h3
  rw [h1, h3, Bool.and_false] at e
  rw [no e, e]
  repeat first | apply sT | apply sF
  exact ⟨rtC (a := 4) rfl rfl rfl rfl rfl rfl (zaa _), rtB rfl rfl, trivial⟩
 have h3 : on a = true := by simpa using h3
 have hv : 0 <= openW w /\ openW w <= 900 := zab.1 (by unfold validW at h1; exact h1)
 have hw : (within w.F 0 3599 = true /\ within w.T 0 3599 = true) /\ openW w = (w.T - w.F) % 3600 := by
  unfold openW at hv ⊢
  split at hv
  ·rename_i hh; rw [if_pos hh]; exact ⟨hh, rfl⟩
  ·omega
 obtain ⟨⟨w1, w2⟩, w3⟩ := hw
 have w1 := zab.1 w1
 have w2 := zab.1 w2
 repeat first | apply sT | apply sF
 apply sB <;> intro h2
 ·have h2 : w.F = w.T := by simpa using h2
  have : ¬ 1 <= openW w := by rw [w3, h2, Int.sub_self]; decide
  rw [h1, decide_eq_false this] at e
  rw [no e, e]
  repeat first | apply sT | apply sF
  exact ⟨rtC (a := 4) rfl rfl rfl rfl rfl rfl (zaa _), rtB rfl rfl, trivial⟩
 have h2 : w.F ≠ w.T := by simpa using h2
 have h4 : 1 <= openW w := by rw [w3]; omega
 rw [h1, h3, decide_eq_true h4] at e
 have e : halvesB w a = true := e
 have yes : halvesW w a = (hvA w a, hvB w a) := by unfold halvesW; rw [if_pos e]
 rw [yes, e]
 obtain ⟨p1, p2⟩ := za4.1 h3
 obtain ⟨v1, v2, -⟩ := zhY (d := w.F) (by omega)
 obtain ⟨u1, u2, -⟩ := zhY (d := w.T) (by omega)
 have m1 := mulB (a := (vecP w.F).Y) (b := a.X) (x := 450) (y := 48) (by omega) (by omega)
 have m2 := mulB (a := (vecP w.F).X) (b := a.Y) (x := 450) (y := 48) (by omega) (by omega)
 have m3 := mulB (a := (vecP w.T).X) (b := a.Y) (x := 450) (y := 48) (by omega) (by omega)
 have m4 := mulB (a := (vecP w.T).Y) (b := a.X) (x := 450) (y := 48) (by omega) (by omega)
 repeat first | apply sT | apply sF
 refine cP (zgg w.F (by omega)) rfl rfl ?_
 refine cP (zgg w.T (by omega)) rfl rfl ?_
 refine ⟨i6, ⟨i6, ⟨i6, ⟨i6, ⟨i6, ⟨i6, ⟨i6, ⟨i6, ?_⟩⟩⟩⟩⟩⟩⟩⟩
 exact ⟨rtC (a := 4) rfl rfl rfl rfl rfl rfl (zaa _), rtB rfl rfl, trivial⟩
def obHv (s : Svc) (l : List Rpt) (k : Nat) : List (Nat × Ob) := [(3, .box (s.ds.map AV.d)), (6, .box [.nilsl, .nilsl, .d (I 0)]), (8, .box [.own 61, .own 76, .d (I 0)]), (61, .row 123 3 (hvL s (l.take k)).length (rowH (hvL s (l.take k)))), (76, .row 3 1 (hvI (l.take k)).length (fun i _ => I ((hvI (l.take k)).getD i 0)))]
abbrev vPn (x : (List Half × List Int) × Int) : V1 := .agg [.slc 3 x.1.1.length (rowH x.1.1), lI x.1.2, I x.2]
theorem zgf (s : Svc) (b : Brn) (l : List Rpt) : Spec PP 16 [s.v, b.v, .d (lR l)] [vPn (hvsR s b l)] := by
 refine zh9 [15] Tryz.func16 rfl (by kernel_rfl) rfl ?_
 refine cP (zjg s b l) rfl rfl ?_
 apply sB <;> intro h0
 ·have h0 : givE s b l ≠ 0 := by simpa using h0
  have e : hvsR s b l = (([], []), givE s b l) := by unfold hvsR; rw [if_pos h0]
  rw [e]
  exact r1C rfl rfl rfl rfl rfl rfl ⟨rfl, rfl, ⟨rfl, rfl⟩, trivial⟩
 have h0 : givE s b l = 0 := by simpa using h0
 have ok := zc4 h0
 have hn := ok.n
 refine LoopOb.of (σ := Nat) (fun k => ([(2, .d (lR l)), (3, .box 3 0), (6, .box 6 0), (8, .box 8 0), (9, .d (I k))], obHv s l k)) (fun k => k <= l.length) (fun k => l.length - k) 0
  ⟨rfl, ⟨obD s.ds rfl, obX rfl, ⟨avNl rfl rfl rfl, avNl rfl rfl rfl, dE _, trivial⟩, obZ rfl rfl, obZ rfl rfl, trivial⟩, wq rfl⟩ (Nat.zero_le _) fun k hk => ?_
 have hk : k <= l.length := hk
 apply sB <;> intro h1
 ·have h1 : k < l.length := by have := dT h1; omega
  have rok := zrx (ok.r k h1).2
  refine ⟨⟨rfl, by omega, by omega⟩, ?_⟩
  apply sB <;> intro h2
  ·have h2 : isSg (l.getD k default) = false := by
    unfold isSg
    have : (l.getD k default).Kind ≠ 1 := by simpa using h2
    simpa using this
   refine ⟨i6, ?_⟩
   refine ⟨k + 1, ⟨rfl, ⟨obD s.ds rfl, obX rfl, ⟨rfl, rfl, dE _, trivial⟩, obR rfl ?_, obR rfl ?_, trivial⟩, wq rfl⟩, h1, msr h1⟩
   ·rw [zo1 h1 h2]; exact dE _
   ·rw [zo2 h1 h2]; exact dE _
  have hk1 : (l.getD k default).Kind = 1 := by simpa using h2
  have h2 : isSg (l.getD k default) = true := by unfold isSg; simpa using hk1
  have b1 := zhy s (l.take k)
  have b2 := zhz (l.take k)
  rw [List.length_take] at b1 b2
  have e2 : secR s (l.getD k default) = ((wdgR s.k (rdgO (l.getD k default))).1, decide ((wdgR s.k (rdgO (l.getD k default))).2 = 0)) := by unfold secR; rw [if_pos hk1]
  have hs := zkI s (l.getD k default) rok
  rw [e2] at hs
  have hT : s.c.T.length <= 1000000 := by have := ok.s.c.t; omega
  refine oL (List.range 12) (FzOb.no ?_)
  refine ⟨⟨rfl, by omega, by omega⟩, ?_⟩
  refine oP hs rfl rfl ?_
  refine oL (List.range 14) (FzOb.no ?_)
  refine ⟨⟨rfl, by omega, by omega⟩, ?_⟩
  refine oP (r6_at s (l.getD k default) hT rok.t) rfl rfl ?_
  refine oP (zkP (wdgR s.k (rdgO (l.getD k default))).1 (towG s.c.T (l.getD k default).Tower).1.At) rfl rfl ?_
  refine ⟨⟨by decide, by decide⟩, ⟨⟨by decide, by decide⟩, ?_⟩⟩
  refine ⟨⟨.inr rfl, by unfold maxLen; omega, by show ((hvL s (l.take k)).length + 2) * 24 <= 140737488355328; omega⟩, ?_⟩
  refine oL (List.range 16) (FzOb.no ?_)
  refine ⟨⟨rfl, by omega, by omega⟩, ⟨⟨rfl, by omega, by omega⟩, ?_⟩⟩
  refine ⟨⟨.inr rfl, by unfold maxLen; omega, by show ((hvI (l.take k)).length + 2) * 8 <= 140737488355328; omega⟩, ?_⟩
  refine ⟨i6, ?_⟩
  refine ⟨k + 1, ⟨rfl, ⟨obD s.ds rfl, obX rfl, ⟨rfl, rfl, dE _, trivial⟩, obR rfl ?_, obR rfl ?_, trivial⟩, wq rfl⟩, h1, msr h1⟩
  ·rw [zlx h1 h2]
   exact znc (f := Half.at) (fun j hj => by
    match j, hj with
    | 0, _ => exact dE _
    | 1, _ => exact dE _
    | 2, _ => exact dE _) (fun j hj => by
    match j, hj with
    | 0, _ => exact dE _
    | 1, _ => exact dE _
    | 2, _ => exact dE _)
  ·rw [zly h1 h2]
   exact znc (f := fun (a : Int) _ => I a) (fun j hj => by
    match j, hj with
    | 0, _ => exact dE _) (fun j hj => by
    match j, hj with
    | 0, _ => exact dE _)
 ·have h1 : k = l.length := by have := dF h1; omega
  subst h1
  have ht : l.take l.length = l := List.take_length
  have e0 : hvsR s b l = if 40 < (hvL s l).length then (([], []), 2) else ((hvL s l, hvI l), 0) := by unfold hvsR; rw [if_neg (fun h => h h0)]
  apply sB <;> intro h2
  ·have h2 : 40 < (hvL s l).length := by have := dT h2; rw [ht] at this; omega
   rw [e0, if_pos h2]
   exact r1C rfl rfl rfl rfl rfl rfl ⟨rfl, rfl, ⟨rfl, rfl⟩, trivial⟩
  ·have h2 : ¬ 40 < (hvL s l).length := by have := dF h2; rw [ht] at this; omega
   rw [e0, if_neg h2]
   refine CutOb.at [(6, .box 6 0), (8, .box 8 0)] [(6, .box [.nilsl, .nilsl, .d (I 0)]), (8, .box [.d (.slc 3 (hvL s l).length (rowH (hvL s l))), .d (lI (hvI l)), .d (I 0)])] ⟨rfl, ⟨obX rfl, ⟨avOw rfl rfl rfl (by rw [ht]; exact dE _), avOw rfl rfl rfl (by rw [ht]; exact dE _), dE _, trivial⟩, trivial⟩, wq rfl⟩ ?_
   exact r1C rfl rfl rfl rfl rfl rfl (zaa _)
noncomputable def bndM (s : Svc) (b : Brn) (l : List Rpt) (f : Form) : Frac × Int := if (hvsR s b l).2 ≠ 0 then (⟨0, 0⟩, (hvsR s b l).2) else mostE (hvsR s b l).1.1 f
theorem zm5 (s : Svc) (b : Brn) (l : List Rpt) (f : Form) : Spec PP 19 [s.v, b.v, .d (lR l), f.v] [vMost (bndM s b l f)] := by
 refine sA Tryz.func19 ?_
 refine CallSt.ro (zgf s b l) rfl rfl ?_
 apply sB <;> intro h0
 ·have e : bndM s b l f = (⟨0, 0⟩, (hvsR s b l).2) := by unfold bndM; rw [if_pos (by simpa using h0)]
  rw [e]
  exact r1C rfl rfl rfl rfl rfl rfl (zaa _)
 have h0 : (hvsR s b l).2 = 0 := by simpa using h0
 have e : bndM s b l f = mostE (hvsR s b l).1.1 f := by unfold bndM; rw [if_neg (fun h => h h0)]
 rw [e]
 refine CallSt.ro (zje (hvsR s b l).1.1 f) rfl rfl ?_
 exact r1C rfl rfl rfl rfl rfl rfl (zaa _)
end Go.Pg
