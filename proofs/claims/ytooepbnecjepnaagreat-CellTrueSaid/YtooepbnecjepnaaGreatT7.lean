/- Texts joined and shortened by program. -/
import Derived.Test.YtooepbnecjepnaaGreatT5
import Derived.Test.YtooepbnecjepnaaGreatT6
import Derived.Shelf.Sort.Plain
import Derived.Shelf.Slices.In.SortNone
import Derived.Test.YtooepbnecjepnaaGreatT4
set_option maxHeartbeats 4000000
set_option linter.all false
namespace Go.Pg
open Go
def ofB (f : Nat -> Bool) : Nat -> Nat
 | 0 => 0
 | n + 1 => 2 ^ n * (if f n = true then 1 else 0) + ofB f n
theorem zj1 (f : Nat -> Bool) : ∀ n : Nat, ofB f n < 2 ^ n
 | 0 => by simp [ofB]
 | n + 1 => by
  have := zj1 f n
  rw [Nat.pow_succ]
  unfold ofB
  split <;> omega
theorem zj2 (f : Nat -> Bool) : ∀ (n j : Nat), (ofB f n).testBit j = (decide (j < n) && f j)
 | 0, j => by simp [ofB]
 | n + 1, j => by
  have hl := zj1 f n
  unfold ofB
  rw [Nat.testBit_two_pow_mul_add _ hl, zj2 f n j]
  by_cases h : j < n
  ·rw [if_pos h, decide_eq_true h, decide_eq_true (show j < n + 1 by omega)]
  ·rw [if_neg h]
   by_cases e : j = n
   ·subst e
    rw [Nat.sub_self, decide_eq_true (show j < j + 1 by omega)]
    cases hf : f j <;> simp
   ·rw [decide_eq_false (show ¬ j < n + 1 by omega)]
    have : ∀ b : Bool, ((if b = true then 1 else 0 : Nat)).testBit (j - n) = false := fun b => by
     obtain ⟨d, hd⟩ : ∃ d, j - n = d + 1 := ⟨j - n - 1, by omega⟩
     rw [hd, Nat.testBit_succ]
     cases b <;> simp
    rw [this]; rfl
def wd (P : Nat -> Bool) (i : Nat) : Nat := ofB (fun j => P (64 * i + j)) 64
theorem zgh (P : Nat -> Bool) (i : Nat) : wd P i < 18446744073709551616 := zj1 _ 64
theorem zeb (P : Nat -> Bool) (i j : Nat) (hj : j < 64) : (wd P i).testBit j = P (64 * i + j) := by
 unfold wd; rw [zj2]; simp [hj]
theorem zfq {n : Nat} {P : Nat -> Bool} {i : Nat} (hn : n < 18446744073709551616) (h : ∀ j, j < 64 -> n.testBit j = P (64 * i + j)) : n = wd P i := by
 refine Nat.eq_of_testBit_eq fun j => ?_
 by_cases hj : j < 64
 ·rw [h j hj, zeb P i j hj]
 ·have hp : (18446744073709551616 : Nat) <= 2 ^ j := by
   have : 2 ^ 64 <= 2 ^ j := Nat.pow_le_pow_right (by omega) (by omega)
   omega
  rw [Nat.testBit_lt_two_pow (by omega), Nat.testBit_lt_two_pow (by have := zgh P i; omega)]
theorem zln {P Q : Nat -> Bool} {i : Nat} (h : ∀ j, j < 64 -> P (64 * i + j) = Q (64 * i + j)) : wd P i = wd Q i :=
 zfq (zgh P i) fun j hj => by rw [zeb P i j hj]; exact h j hj
theorem zl6 (x : Nat) (hx : x < 18446744073709551616) : (BitVec.ofInt 64 (x : Int)).toNat = x := by
 rw [BitVec.ofInt_natCast, BitVec.toNat_ofNat]; exact Nat.mod_eq_of_lt hx
theorem znL (x : Nat) (hx : x < 18446744073709551616) : IntKind.wrap .u64 (x : Int) = (x : Int) := by
 unfold IntKind.wrap
 show (if (false && _) = true then _ else (x : Int) % (2 ^ 64 : Int)) = _
 rw [if_neg (by simp)]
 exact Int.emod_eq_of_lt (by omega) (by omega)
theorem andU (x y : Nat) (hx : x < 18446744073709551616) (hy : y < 18446744073709551616) : IntKind.wrap .u64 ((BitVec.ofInt 64 (x : Int) &&& BitVec.ofInt 64 (y : Int)).toNat : Int) = ((x &&& y : Nat) : Int) := by
 rw [BitVec.toNat_and, zl6 x hx, zl6 y hy, znL _ (Nat.lt_of_le_of_lt Nat.and_le_left hx)]
theorem orU (x y : Nat) (hx : x < 18446744073709551616) (hy : y < 18446744073709551616) : IntKind.wrap .u64 ((BitVec.ofInt 64 (x : Int) ||| BitVec.ofInt 64 (y : Int)).toNat : Int) = ((x ||| y : Nat) : Int) := by
 rw [BitVec.toNat_or, zl6 x hx, zl6 y hy, znL _ (Nat.or_lt_two_pow (n := 64) hx hy)]
theorem divN (n : Nat) : (n : Int).tdiv 64 = ((n / 64 : Nat) : Int) := by
 rw [Int.tdiv_eq_ediv_of_nonneg (by omega)]; rfl
theorem modN (n : Nat) : (n : Int).tmod 64 = ((n % 64 : Nat) : Int) := by
 rw [Int.tmod_eq_emod_of_nonneg (by omega)]; rfl
theorem shrU (x j : Nat) (hj : j < 64) : (x : Int).fdiv (2 ^ (min (j : Int).toNat 64)) = ((x / 2 ^ j : Nat) : Int) := by
 have e : min (j : Int).toNat 64 = j := by omega
 rw [e, Int.fdiv_eq_ediv_of_nonneg _ (by exact Int.le_of_lt (Int.pow_pos (by omega)))]
 have : (2 ^ j : Int) = ((2 ^ j : Nat) : Int) := by simp
 rw [this]; rfl
theorem shlU (j : Nat) (hj : j < 64) : IntKind.wrap .u64 (1 * 2 ^ (min (j : Int).toNat 64)) = ((2 ^ j : Nat) : Int) := by
 have e : min (j : Int).toNat 64 = j := by omega
 have h : (2 ^ j : Nat) < 18446744073709551616 := Nat.pow_lt_pow_right (a := 2) (n := 64) (by omega) hj
 have : (1 * 2 ^ j : Int) = ((2 ^ j : Nat) : Int) := by simp
 rw [e, this, znL _ h]
attribute [irreducible] wd
theorem zoT (P : Nat -> Bool) (n : Nat) : ((IntKind.wrap .u64 ((BitVec.ofInt 64 (((wd P (n / 64) : Nat) : Int).fdiv (2 ^ (min ((n : Int).tmod 64).toNat 64))) &&& BitVec.ofInt 64 1).toNat : Int)) == 1) = P n := by
 have hj : n % 64 < 64 := Nat.mod_lt _ (by omega)
 have hw := zgh P (n / 64)
 rw [modN, shrU _ _ hj]
 have h1 : wd P (n / 64) / 2 ^ (n % 64) < 18446744073709551616 := Nat.lt_of_le_of_lt (Nat.div_le_self _ _) hw
 have := andU (wd P (n / 64) / 2 ^ (n % 64)) 1 h1 (by omega)
 rw [show ((1 : Nat) : Int) = 1 from rfl] at this
 rw [this, Nat.and_one_is_mod]
 have hb := zeb P (n / 64) (n % 64) hj
 rw [Nat.div_add_mod, Nat.testBit_eq_decide_div_mod_eq] at hb
 rw [<- hb, Bool.eq_iff_iff]
 simp only [beq_iff_eq, decide_eq_true_eq]
 omega
def addP (P : Nat -> Bool) (n : Nat) : Nat -> Bool := fun k => P k || k == n
theorem or_lt {x y : Nat} (hx : x < 18446744073709551616) (hy : y < 18446744073709551616) : x ||| y < 18446744073709551616 := Nat.or_lt_two_pow (n := 64) hx hy
theorem zom (P : Nat -> Bool) (n : Nat) : IntKind.wrap .u64 ((BitVec.ofInt 64 ((wd P (n / 64) : Nat) : Int) ||| BitVec.ofInt 64 (IntKind.wrap .u64 (1 * 2 ^ (min ((n : Int).tmod 64).toNat 64)))).toNat : Int) = ((wd (addP P n) (n / 64) : Nat) : Int) := by
 have hj : n % 64 < 64 := Nat.mod_lt _ (by omega)
 have hw := zgh P (n / 64)
 have h : 2 ^ (n % 64) < 18446744073709551616 := Nat.pow_lt_pow_right (a := 2) (n := 64) (by omega) hj
 rw [modN, shlU _ hj, orU _ _ hw h]
 refine congrArg (fun m : Nat => (m : Int)) (zfq (or_lt hw h) fun j hj' => ?_)
 rw [Nat.testBit_or, zeb P _ _ hj', Nat.testBit_two_pow]
 unfold addP
 refine congrArg (P _ || ·) ?_
 rw [Bool.eq_iff_iff]
 simp only [beq_iff_eq, decide_eq_true_eq]
 omega
theorem zjK (P : Nat -> Bool) (n i : Nat) (h : i ≠ n / 64) : wd (addP P n) i = wd P i := zln fun j hj => by
 unfold addP
 have : (64 * i + j == n) = false := by
  rw [beq_eq_false_iff_ne]; omega
 rw [this, Bool.or_false]
theorem zpu (P Q : Nat -> Bool) (i : Nat) : IntKind.wrap .u64 ((BitVec.ofInt 64 ((wd P i : Nat) : Int) &&& BitVec.ofInt 64 ((wd Q i : Nat) : Int)).toNat : Int) = ((wd (fun k => P k && Q k) i : Nat) : Int) := by
 rw [andU _ _ (zgh P i) (zgh Q i)]
 refine congrArg (fun m : Nat => (m : Int)) (zfq (Nat.lt_of_le_of_lt Nat.and_le_left (zgh P i)) fun j hj => ?_)
 rw [Nat.testBit_and, zeb P _ _ hj, zeb Q _ _ hj]
theorem zpB (i : Nat) : wd (fun _ => true) i = 18446744073709551615 := by
 refine (zfq (by omega) fun j hj => ?_).symm
 have := Nat.testBit_two_pow_sub_one 64 j
 rw [show (2 ^ 64 - 1 : Nat) = 18446744073709551615 from rfl] at this
 rw [this]; exact decide_eq_true hj
theorem znN (i : Nat) : wd (fun _ => false) i = 0 := by
 refine (zfq (by omega) fun j hj => ?_).symm
 exact Nat.zero_testBit j
end Go.Pg
set_option maxRecDepth 100000
namespace Go.Pg
open Go.Proofs Go.RowKit
theorem zgg {s : St} {ob : Nat -> Option Ob} : ∀ cs : List AV, avles s ob cs cs
 | [] => trivial
 | c :: cs => ⟨zas s ob c, zgg cs⟩
theorem obX {s : St} {ob : Nat -> Option Ob} {cs : List AV} {o : Option Ob} (h : o = some (.box cs)) : Oble s ob o (.box cs) := by subst h; exact zgg cs
abbrev U (n : Nat) : D := .int .u64 n
abbrev bD (P : Nat -> Bool) : List D := (List.range 38).map fun j => U (wd P j)
theorem i38 {i : Nat} (h : i < 38) : i = 0 \/ i = 1 \/ i = 2 \/ i = 3 \/ i = 4 \/ i = 5 \/ i = 6 \/ i = 7 \/ i = 8 \/ i = 9 \/ i = 10 \/ i = 11 \/ i = 12 \/ i = 13 \/ i = 14 \/ i = 15 \/ i = 16 \/ i = 17 \/ i = 18 \/ i = 19 \/ i = 20 \/ i = 21 \/ i = 22 \/ i = 23 \/ i = 24 \/ i = 25 \/ i = 26 \/ i = 27 \/ i = 28 \/ i = 29 \/ i = 30 \/ i = 31 \/ i = 32 \/ i = 33 \/ i = 34 \/ i = 35 \/ i = 36 \/ i = 37 := by omega
abbrev bV (f : Nat -> Nat) (i : Nat) (v : Int) : List AV := (List.range 38).map fun j => AV.d (.int .u64 (if j = i then v else f j))
theorem zqS {f g : Nat -> Nat} {i : Nat} {v : Int} (h1 : ((g i : Nat) : Int) = v) (h2 : ∀ j, j < 38 -> j ≠ i -> g j = f j) : ((List.range 38).map fun j => U (g j)).map AV.d = bV f i v := by
 rw [List.map_map]
 refine List.map_congr_left fun j hj => ?_
 have hj := List.mem_range.1 hj
 show AV.d (U (g j)) = _
 by_cases e : j = i
 ·subst e; rw [if_pos rfl, <- h1]
 ·rw [if_neg e, h2 j hj e]
theorem zqn (P : Nat -> Bool) (n : Nat) (hn : n < 2432) : Spec PP 158 [.agg (bD P), N n] [B (P n)] := by
 have hq := divN n
 have hv := zoT P n
 have hm := modN n
 obtain ⟨i, hi⟩ : ∃ i, n / 64 = i := ⟨_, rfl⟩
 rw [hi] at hq hv
 have hi2 : i < 38 := by omega
 refine sA Tryz.func158 ?_
 refine ⟨⟨by decide, zah (by rw [hq]; omega) (by rw [hq]; omega)⟩, ?_⟩
 rw [hq]
 refine ⟨⟨by omega, by omega⟩, ?_⟩
 rcases i38 hi2 with rfl | rfl | rfl | rfl | rfl | rfl | rfl | rfl | rfl | rfl | rfl | rfl | rfl | rfl | rfl | rfl | rfl | rfl | rfl | rfl | rfl | rfl | rfl | rfl | rfl | rfl | rfl | rfl | rfl | rfl | rfl | rfl | rfl | rfl | rfl | rfl | rfl | rfl <;>
 ·refine ⟨by decide, ⟨by rw [hm]; omega, ?_⟩⟩
  exact r1B rfl hv
section
variable {s : St} {o : Oper} {fo : Operand} {f : FuncId} {K : St -> Prop} {E : Env}
structure BoxArgsP (s : St) (fo : Operand) (args : List Operand) (f : FuncId) (i : Nat) (post : List V1) : Prop where
  out : ∃ a0 a2 ex, args = a0 :: a2 /\ callee (ev s fo) = some (f, ex) /\ (ev s a0).asPtr = .box i 0 /\ toV1s s (a2.map (ev s) ++ ex) = some post /\ (a2.map (ev s) ++ ex).all (fun v => !v.isOwn) = true
theorem CallSt.bxP (hdr : E.dr = false) {args : Array Operand} {at' : Array TypeId} (hop : o.op = .call { callee := .value fo, args, argTypes := at' }) {post res : List V1} {i : Nat} {cs cs' : List D} (h : SpecX PP f post cs cs' res)
    (ha : BoxArgsP s fo args.toList f i post) (hi : s.ob i = some (.box (cs.map AV.d))) (hk : K ((s.setOb i (some (.box (cs'.map AV.d)))).putO o.dst (resAV res))) : CallSt E PP s o fo args.toList K := by
  rw [zag]
  refine .inr (.inr (.inl ⟨_, ⟨fun cx a w hD hd hR => ?_⟩, hk⟩))
  obtain ⟨γ, hg⟩ := hR
  obtain ⟨a0, a2, ex, h1, h2, h3, h4, h6⟩ := ha.out
  obtain ⟨caps, hf, hc⟩ := zaZ h2 (ev_m hg fo).1
  have h0 := zfl (ev_m hg a0).1
  rw [h3] at h0
  obtain ⟨b, e1, e2⟩ := h0
  have m2 := (zbC hg h4 ((zcA hg a2).append hc)).2 h6
  obtain ⟨b', vs, T, o1, o0, o2, o3⟩ := hg.objs i _ hi
  rw [e1] at o1
  obtain rfl : b = b' := by simpa using o1
  have hrep : All2 (Rep w (okOf cx s γ w)) cs vs := by
    have : allD (cs.map AV.d) = some cs := by
      have : ∀ cs : List D, allD (cs.map AV.d) = some cs := fun cs => by
        induction cs with
        | nil => rfl
        | cons x r ih => simp only [List.map_cons, allD, avD, ih]
      exact this cs
    exact zcF this o3
  refine .enter (zaW hop hf h.1) ?_
  rw [h1]
  simp only [List.map_cons, List.cons_append, e2]
  refine (h.2 w _ _ b vs T (fun b hb => zal hg hb) m2 o2 hrep (fun hb => zc1 hg hb hi (by rw [e1]; rfl))).mono fun en w' ⟨r, he, hgr, hres, ys, T2, y1, y2⟩ => ⟨r, he, γ, ?_⟩
  refine (hg.change (i := i) (o' := .box (cs'.map AV.d)) hi (by rw [e1]; exact hgr) (fun e => by have := hD e; rw [hdr] at this; cases this) (fun ok hok => ⟨b, ys, T2, e1, o0, y1, zfp (fun b hb => hb.elim) y2⟩) (fun cs2 e c hc j hj => ?_)).putO hd (zbT (.inl fun b hb => hb.elim) hres) (fun j hj => by rw [za1] at hj; cases hj)
  cases e
  obtain ⟨x, _, rfl⟩ := List.mem_map.1 hc
  cases hj
end
theorem bX_eq {f g : Nat -> Nat} {i : Nat} {v : Int} (h1 : ((g i : Nat) : Int) = v) (h2 : ∀ j, j < 38 -> j ≠ i -> g j = f j) : ((List.range 38).map fun j => U (g j)) = (List.range 38).map fun j => D.int .u64 (if j = i then v else f j) := by
 refine List.map_congr_left fun j hj => ?_
 have hj := List.mem_range.1 hj
 by_cases e : j = i
 ·subst e; rw [if_pos rfl, <- h1]
 ·rw [if_neg e, h2 j hj e]
theorem zps (P : Nat -> Bool) : (bD P).all D.flat = true := by
 rw [List.all_eq_true]
 intro x hx
 obtain ⟨j, _, rfl⟩ := List.mem_map.1 hx
 rfl
theorem l_put (P : Nat -> Bool) (n : Nat) (hn : n < 2432) : SpecX PP 227 [N n] (bD P) (bD (addP P n)) [] := by
 have hq := divN n
 have hv := zom P n
 have ho := zjK P n
 have hm := modN n
 obtain ⟨i, hi⟩ : ∃ i, n / 64 = i := ⟨_, rfl⟩
 rw [hi] at hq hv ho
 have hi2 : i < 38 := by omega
 have fl := zps (addP P n)
 have e : bD (addP P n) = (List.range 38).map fun j => D.int .u64 (if j = i then _ else wd P j) := bX_eq (f := wd P) (g := wd (addP P n)) (i := i) hv.symm fun j _ hj => ho j hj
 rw [e] at fl ⊢
 refine zly Tryz.func227 rfl (by kernel_rfl) fl rfl rfl fun b => ?_
 refine oL (List.range 13) (FzOb.no ?_)
 refine ⟨⟨by decide, zah (by rw [hq]; omega) (by rw [hq]; omega)⟩, ?_⟩
 rw [hq]
 refine ⟨⟨by omega, by omega⟩, ?_⟩
 rcases i38 hi2 with rfl | rfl | rfl | rfl | rfl | rfl | rfl | rfl | rfl | rfl | rfl | rfl | rfl | rfl | rfl | rfl | rfl | rfl | rfl | rfl | rfl | rfl | rfl | rfl | rfl | rfl | rfl | rfl | rfl | rfl | rfl | rfl | rfl | rfl | rfl | rfl | rfl | rfl <;>
 ·refine ⟨by decide, ⟨by rw [hm]; omega, ⟨⟨by decide, by decide⟩, ?_⟩⟩⟩
  exact ⟨trivial, rfl, _, rfl, _, rfl, zaa _⟩
abbrev Mp.w (m : Mp) : Nat := m.W.toNat
abbrev Mp.h (m : Mp) : Nat := m.H.toNat
def spL (m : Mp) : List (Nat × Nat) := (List.range (m.w * m.h)).map fun n => (n / m.w, n % m.w)
theorem zdr (m : Mp) : (spL m).length = m.w * m.h := by unfold spL; simp
theorem zpP {m : Mp} {y x : Nat} (hy : y < m.h) (hx : x < m.w) : (spL m)[y * m.w + x]? = some (y, x) := by
 have h1 : y * m.w + x < m.w * m.h := by
  have : (y + 1) * m.w <= m.h * m.w := Nat.mul_le_mul_right _ hy
  rw [Nat.add_mul] at this
  rw [Nat.mul_comm m.w m.h]
  omega
 have h2 : (y * m.w + x) / m.w = y := by rw [Nat.mul_comm, Nat.mul_add_div (by omega), Nat.div_eq_of_lt hx]; rfl
 have h3 : (y * m.w + x) % m.w = x := by rw [Nat.mul_comm, Nat.mul_add_mod, Nat.mod_eq_of_lt hx]
 unfold spL
 rw [List.getElem?_map, List.getElem?_range h1]
 simp only [Option.map_some, h2, h3]
def spEnc (m : Mp) (p : Nat × Nat) : List V1 := [.d (I (p.1 * m.W + p.2)), .agg [I p.2, I p.1]]
def spVal (m : Mp) (p : Nat × Nat) : List Value := [.int .i64 (p.1 * m.W + p.2), .agg #[.int .i64 p.2, .int .i64 p.1]]
theorem zi0 (m : Mp) (p : Nat × Nat) (w : World) (ok : Nat -> Prop) : All2 (Rep1 w ok) (spEnc m p) (spVal m p) := .cons rfl (.cons ⟨_, rfl, .cons rfl (.cons rfl .nil)⟩ .nil)
abbrev spClo (m : Mp) : D := .clo 228 1 (fun _ => capB m.ds)
theorem zgJ (m : Mp) : Spec PP 157 [m.v] [.d (spClo m)] := by
 refine sA Tryz.func157 ?_
 refine ⟨⟨rfl, rfl, fun j hj => ?_⟩, trivial⟩
 match j, hj with
 | 0, _ => exact ⟨_, rfl, rfl, _, _, rfl, rfl, rfl, fun j hj => dE _⟩
theorem ze8 (m : Mp) (hv : validM m = true) : SeqC PP 228 1 (fun _ => capB m.ds) (spVal m) (spL m) := by
 obtain ⟨bw, bh, -, -⟩ := zaj hv
 have hw : ((m.w : Nat) : Int) = m.W := by show ((m.W.toNat : Nat) : Int) = m.W; omega
 have hh : ((m.h : Nat) : Int) = m.H := by show ((m.H.toNat : Nat) : Int) = m.H; omega
 refine zgr Tryz.func228 rfl (by kernel_rfl) rfl rfl (spEnc m) (fun x w ok us h => ?_) _ fun l => ?_
 ·cases h with
  | cons h1 h =>
   cases h with
   | cons h2 h =>
    cases h
    obtain ⟨vs, rfl, h⟩ := h2
    cases h with
    | cons g1 h => cases h with
     | cons g2 h =>
      cases h
      rw [show _ = _ from h1, show _ = _ from g1, show _ = _ from g2]
      rfl
 refine LoopOb.of (σ := Nat) (fun y => ([(G, .gho (some (y * m.w))), (0, .yl l), (1, avOf (.d (capB m.ds))), (6, .d (I m.H)), (7, .d (I y))], [])) (fun y => y <= m.h) (fun y => m.h - y) 0 ⟨rfl, trivial, avG rfl (by simp), wq rfl⟩ (Nat.zero_le _) fun y hy => ?_
 apply bY <;> intro h1
 ·have h1 : y < m.h := by have := dT h1; omega
  refine LoopOb.of (σ := Nat) (fun x => ([(G, .gho (some (y * m.w + x))), (0, .yl l), (1, avOf (.d (capB m.ds))), (3, .d (I y)), (6, .d (I m.H)), (7, .d (I y)), (11, .d (I m.W)), (12, .d (I x))], [])) (fun x => x <= m.w) (fun x => m.w - x) 0 ⟨rfl, trivial, avG rfl (by simp), wq rfl⟩ (Nat.zero_le _) fun x hx => ?_
  apply bY <;> intro h2
  ·have h2 : x < m.w := by have := dT h2; omega
   have m1 := mulB (a := (y : Int)) (b := m.W) (x := 49) (y := 49) (by omega) (by omega)
   refine ⟨i6, ⟨i6, ?_⟩⟩
   refine CallSt.yd (d := 25) [(0, .yl l), (1, avOf (.d (capB m.ds))), (3, .d (I y)), (6, .d (I m.H)), (7, .d (I y)), (11, .d (I m.W)), (12, .d (I x))] rfl rfl rfl rfl ⟨rfl, trivial, wq rfl⟩ (zpP h1 h2) rfl rfl ?_ ?_
   ·refine sF ?_
    refine ⟨i6, ?_⟩
    refine ⟨x + 1, ⟨rfl, trivial, avG rfl rfl, wq rfl⟩, h2, (msr (by omega))⟩
   ·refine sT ?_
    exact .inr rfl
  ·have h2 : x = m.w := by have := dF h2; omega
   subst h2
   refine ⟨i6, ?_⟩
   refine ⟨y + 1, ⟨rfl, trivial, avG rfl (by rw [Nat.add_mul, Nat.one_mul]), wq rfl⟩, h1, (msr (by omega))⟩
 ·have h1 : y = m.h := by have := dF h1; omega
  subst h1
  exact .inl (show AV.gho (some (m.h * m.w)) = .gho (some (spL m).length) by rw [zdr, Nat.mul_comm])
def plc (m : Mp) (n : Nat) : Place := ⟨((n % m.w : Nat) : Int), ((n / m.w : Nat) : Int)⟩
theorem zjm {m : Mp} {pre : List (Nat × Nat)} {x : Nat × Nat} (h : pre ++ [x] <+: spL m) : x = (pre.length / m.w, pre.length % m.w) /\ pre.length < m.w * m.h := by
 have h1 : (spL m)[pre.length]? = some x := by
  obtain ⟨t, e⟩ := h
  rw [<- e]; simp
 have h2 : pre.length < m.w * m.h := by
  have := (List.getElem?_eq_some_iff.1 h1).1
  rwa [zdr] at this
 unfold spL at h1
 rw [List.getElem?_map, List.getElem?_range h2] at h1
 simp only [Option.map_some, Option.some.injEq] at h1
 exact ⟨h1.symm, h2⟩
theorem znq {m : Mp} {n : Nat} (hv : validM m = true) (h : n < m.w * m.h) : onM m (plc m n) = true := by
 obtain ⟨bw, bh, -, -⟩ := zaj hv
 refine zaf.2 ?_
 have hw : 0 < m.w := by show 0 < m.W.toNat; omega
 have h1 := Nat.mod_lt n hw
 have h2 : n / m.w < m.h := Nat.div_lt_of_lt_mul h
 generalize hq : n / m.w = q at h2
 generalize hr : n % m.w = r at h1
 show (0 <= ((n % m.w : Nat) : Int) /\ ((n % m.w : Nat) : Int) < m.W) /\ (0 <= ((n / m.w : Nat) : Int) /\ ((n / m.w : Nat) : Int) < m.H)
 have e1 : ((m.w : Nat) : Int) = m.W := by show ((m.W.toNat : Nat) : Int) = m.W; omega
 have e2 : ((m.h : Nat) : Int) = m.H := by show ((m.H.toNat : Nat) : Int) = m.H; omega
 rw [hq, hr]
 omega
abbrev bAt (P : Nat -> Bool) (j : Nat) : D := U (wd P j)
abbrev lB (L : List (Nat -> Bool)) : D := .slc 38 L.length fun m => bAt (L.getD m default)
def metP (L : List (Nat -> Bool)) (n : Nat) : Bool := L.all fun P => P n
abbrev litN {n : Nat} (_ : n < 38) : Nat := n
theorem zj6 {L : List (Nat -> Bool)} {k : Nat} (h : k < L.length) : metP (L.take (k + 1)) = fun n => metP (L.take k) n && L.getD k default n := by
 funext n
 unfold metP
 rw [zaD h default, List.all_append]; simp
abbrev mF (L : List (Nat -> Bool)) (i j : Nat) : Nat := if j < i then wd (metP L) j else 0
abbrev mK (L : List (Nat -> Bool)) (i k j : Nat) : Nat := if j = i then wd (metP (L.take k)) i else mF L i j
abbrev mV (f : Nat -> Nat) : List AV := ((List.range 38).map fun j => U (f j)).map AV.d
theorem zqk (L : List (Nat -> Bool)) : ((List.range 38).map fun j => U (mF L 38 j)) = bD (metP L) := by
 refine List.map_congr_left fun j hj => ?_
 have hj := List.mem_range.1 hj
 show U (if j < 38 then _ else _) = _
 rw [if_pos hj]
theorem zqj (L : List (Nat -> Bool)) (i : Nat) : mV (mK L i L.length) = mV (mF L (i + 1)) := by
 refine congrArg (List.map AV.d) (List.map_congr_left fun j hj => ?_)
 show U (if j = i then _ else if j < i then _ else _) = U (if j < i + 1 then _ else _)
 rw [List.take_length]
 by_cases e : j = i
 ·subst e; rw [if_pos rfl, if_pos (by omega)]
 ·rw [if_neg e]
  by_cases e2 : j < i
  ·rw [if_pos e2, if_pos (by omega)]
  ·rw [if_neg e2, if_neg (by omega)]
theorem mK_0 (L : List (Nat -> Bool)) (i : Nat) : mV (mK L i 0) = bV (mF L i) i 18446744073709551615 := by
 refine zqS ?_ fun j _ hj => if_neg hj
 show (((if i = i then wd (metP (L.take 0)) i else _ : Nat)) : Int) = _
 rw [if_pos rfl]
 have : metP (L.take 0) = fun _ => true := by funext n; rfl
 rw [this, zpB]; rfl
theorem mK_s {L : List (Nat -> Bool)} {k : Nat} (i : Nat) (h : k < L.length) : mV (mK L i (k + 1)) = bV (mF L i) i (IntKind.wrap .u64 ((BitVec.ofInt 64 ((mK L i k i : Nat) : Int) &&& BitVec.ofInt 64 ((wd (L.getD k default) i : Nat) : Int)).toNat : Int)) := by
 refine zqS ?_ fun j _ hj => if_neg hj
 show (((if i = i then wd (metP (L.take (k + 1))) i else _ : Nat)) : Int) = IntKind.wrap .u64 ((BitVec.ofInt 64 (((if i = i then wd (metP (L.take k)) i else _ : Nat)) : Int) &&& _).toNat : Int)
 rw [if_pos rfl, if_pos rfl, zpu, zj6 h]
theorem zew (L : List (Nat -> Bool)) (hn : L.length <= 1000000) : Spec PP 72 [.d (lB L)] [.agg (bD (metP L))] := by
 refine sA Tryz.func72 ?_
 refine LoopOb.of (σ := Nat) (fun i => ([(0, .d (lB L)), (2, .box 2 0), (3, .box 3 0), (7, .d (I i))], [(2, .box ((List.replicate 38 (D.int .u64 0)).map AV.d)), (3, .box (mV (mF L i)))])) (fun i => i <= 38) (fun i => 38 - i) 0
  ⟨rfl, ⟨obX rfl, obX rfl, trivial⟩, wq rfl⟩ (Nat.zero_le _) fun i hi => ?_
 apply bY <;> intro h1
 ·have h1 : i < 38 := by have : (i : Int) < 38 := dT h1; omega
  have e0 := mK_0 L i
  have e1 := fun k h => mK_s (L := L) (k := k) i h
  have e2 := zqj L i
  rcases i38 h1 with rfl | rfl | rfl | rfl | rfl | rfl | rfl | rfl | rfl | rfl | rfl | rfl | rfl | rfl | rfl | rfl | rfl | rfl | rfl | rfl | rfl | rfl | rfl | rfl | rfl | rfl | rfl | rfl | rfl | rfl | rfl | rfl | rfl | rfl | rfl | rfl | rfl | rfl <;>
  (
   refine ⟨⟨by decide, by decide⟩, ?_⟩
   refine LoopOb.of (σ := Nat) (fun k => ([(0, .d (lB L)), (2, .box 2 0), (3, .box 3 0), (4, .d (I (litN h1))), (7, .d (I (litN h1))), (12, .d (lB L)), (13, .d (I L.length)), (14, .d (I k))], [(2, .box ((List.replicate 38 (D.int .u64 0)).map AV.d)), (3, .box (mV (mK L (litN h1) k)))])) (fun k => k <= L.length) (fun k => L.length - k) 0
    ⟨rfl, ⟨obX rfl, obX (by rw [e0]; rfl), trivial⟩, wq rfl⟩ (Nat.zero_le _) fun k hk => ?_
   apply bY <;> intro h2
   ·have h2 : k < L.length := by have := dT h2; omega
    refine ⟨⟨rfl, by omega, by omega⟩, ?_⟩
    refine oL (List.range 9) (FzOb.no ?_)
    refine ⟨⟨by unfold litN; omega, by unfold litN; omega⟩, ⟨⟨by unfold litN; omega, by unfold litN; omega⟩, ⟨⟨by unfold litN; omega, by unfold litN; omega⟩, ?_⟩⟩⟩
    refine ⟨i6, ?_⟩
    refine ⟨k + 1, ⟨rfl, ⟨obX rfl, obX (by rw [e1 k h2]; rfl), trivial⟩, wq rfl⟩, h2, (msr (by omega))⟩
   ·have h2 : k = L.length := by have := dF h2; omega
    subst h2
    refine ⟨zah (by unfold litN; omega) (by unfold litN; omega), ?_⟩
    exact ⟨litN h1 + 1, ⟨rfl, ⟨obX rfl, obX (by rw [<- e2]; rfl), trivial⟩, wq rfl⟩, (by unfold litN; omega), (by unfold litN; omega)⟩)
 ·have h1 : i = 38 := by have : ¬ (i : Int) < 38 := dF h1; omega
  subst h1
  rw [<- zqk]
  exact r1C rfl rfl rfl rfl rfl rfl (zaa _)
end Go.Pg
namespace Go.Pg
open Go.Proofs Go.RowKit Go.Sort Go.Shelf Go.Lib
section
variable {α : Type} [Inhabited α] (f : α -> Int)
def oneI : Ints α 1 where
  lst x := [f x]
  len _ := rfl
  at_ x := fun _ => I (f x)
  hat x j hj := by
    obtain rfl : j = 0 := by omega
    rfl
def vI (x : α) : Value := .int .i64 (f x)
theorem zqE (l : Array α) : flatK (oneI f).enc 1 l = l.map (vI f) := by
 apply Array.ext_getElem?
 intro i
 have hs := (oneI f).flat_size l
 by_cases hi : i < l.size
 ·have h1 := (oneI f).flat_get l (t := i) (by omega)
  have h2 : i < (flatK (oneI f).enc 1 l).size := by omega
  rw [getElem!_pos _ i h2] at h1
  rw [Array.getElem?_eq_getElem h2, h1]
  have e1 : i / 1 = i := Nat.div_one i
  have e2 : i % 1 = 0 := Nat.mod_one i
  rw [e1, e2, Array.getElem?_map, Array.getElem?_eq_getElem hi, getElem!_pos l i hi]
  rfl
 ·rw [Array.getElem?_eq_none (by omega), Array.getElem?_eq_none (by rw [Array.size_map]; omega)]
theorem zon (w : World) (b : Nat) (l : Array α) : putRow (vI f) w b 0 l = putRowK (oneI f).enc 1 w b 0 l := by
 unfold putRowK
 rw [zqE]
 unfold putRow
 congr 1
 funext c
 unfold putCells
 congr 1
 funext k x
 rw [Array.size_map]
 by_cases h : 0 <= k /\ k < 0 + l.size
 ·have hk : k - 0 < l.size := by omega
  rw [if_pos h, if_pos h, getElem!_pos _ (k - 0) hk, getElem!_pos (l.map (vI f)) (k - 0) (by rw [Array.size_map]; exact hk), Array.getElem_map]; rfl
 ·rw [if_neg h, if_neg h]
theorem zjn (w : World) (b m : Nat) (l : Array α) (os : Array Obj) : sortWorld (vI f) w b 0 m l os = sortWorldK (oneI f).enc 1 w b 0 m l os := by
 unfold sortWorld sortWorldK; rw [zon]
theorem znB {w : World} {b : Nat} {l : Array α} (h : HoldsK (oneI f).enc 1 w b 0 l) : Go.Sort.Holds (vI f) w b 0 l := fun j hj => by
 have h' : Go.Sort.Holds id w b 0 (flatK (oneI f).enc 1 l) := h
 rw [zqE] at h'
 have := h' j (by simpa using hj)
 have e : (l.map (vI f))[j]! = vI f l[j]! := by
  rw [getElem!_pos _ j (by simpa using hj), getElem!_pos l j hj, Array.getElem_map]
 rw [e] at this
 exact this
theorem zdq {P : Program} {ρ : Ren} (S : SlLaysF.n6 P ρ) (hent : Ent P (ρ.f 6)) (cf : α -> α -> Int) (hO : SWO (ltOf cf)) (hT : ∀ x y, (ltOf cf) x y = false -> (ltOf cf) y x = false -> x = y) (g m : Nat) (cap : Nat -> D)
  (e : TypeId) (l : List α) (hc : l ≠ [] -> ∀ x y, SpecD P g (.d (I (f x)) :: .d (I (f y)) :: (List.range m).map fun j => .d (cap j)) [.d (.int .i64 (cf x y))]) (hn : l.length <= 1000000) :
  SpecR P (ρ.f 6) [] [.d (.clo g m cap)] e 1 l.length ((oneI f).row l) ((oneI f).row (l.mergeSort fun x y => !(ltOf cf) y x)) [] := by
 refine ⟨hent, fun w ok vs us v xs hok h1 h2 hr => ?_⟩
 cases h1
 cases h2 with
 | cons h2 h3 =>
 cases h3
 rename_i fv
 obtain ⟨cs, rfl, hcl, hcr⟩ : ∃ cs : List Value, fv = .func (.func g) #[] cs.toArray /\ cs.length = m /\ ∀ j, j < m -> ∃ u, cs[j]? = some u /\ Rep w ok (cap j) u := h2
 have hlen : (l.mergeSort fun x y => !(ltOf cf) y x).length = l.length := List.length_mergeSort l
 by_cases h0 : l = []
 ·subst h0
  obtain ⟨p, c, rfl⟩ : ∃ p c, v = .slice p 0 c := by
   rcases hr.own.2 with ⟨h3, _⟩ | ⟨q, c, cur, h3, _⟩
   ·exact ⟨_, _, h3⟩
   ·exact ⟨_, _, h3⟩
  refine (AnyF.slices_SortFunc_none { S with } p c _ w).mono ?_
  rintro en w' ⟨rfl, rfl⟩
  exact ⟨_, rfl, ⟨rfl, rfl, rfl, Nat.le_refl _, fun _ _ _ => rfl⟩, ⟨[], rfl, .nil⟩, xs, hr.own, hr.one, fun m hm => absurd hm (Nat.not_lt_zero _)⟩
 ·have hc := hc h0
  rcases hr.own.2 with ⟨_, h4⟩ | ⟨q, c, cur, rfl, _, hh, hnc, hcap, hcs, htk⟩
  ·exact absurd (List.length_eq_zero_iff.1 h4) h0
  ·have hH := (oneI f).holds (cap := c) hh htk hr.rep
   have hq : q < w.heap.size := (Array.getElem?_eq_some_iff.1 hh).1
   have hqok : ¬ ok q := hr.sep q rfl
   have hent' : ∀ args w, (callFunc g args).run P w = .ok (.enter g args) w := fun args w => zam (hc default default).1 args w
   have hcmp : CmpLays1 P g cs.toArray (vI f) cf q 0 l.toArray.size w := fun n os dk _ x y => by
    rw [zjn]
    have hkeep : ∀ b, ok b -> ok b /\ Kpt w (sortWorldK (oneI f).enc 1 w q 0 n dk os) b := fun b hb => ⟨hb, zfU (by
     have hb1 := hok b hb
     have hne : q ≠ b := fun e => hqok (e ▸ hb)
     simp only [sortWorldK, grow, putRowK, putRow, mapBlock, ahead]
     rw [Array.getElem?_append_left (by simpa using hb1), Array.getElem?_modify, if_neg hne]; rfl)⟩
    have hsz : w.heap.size <= (sortWorldK (oneI f).enc 1 w q 0 n dk os).heap.size := by simp [sortWorldK, grow, putRowK, putRow, mapBlock, ahead]
    have hargs : All2 (Rep1 (sortWorldK (oneI f).enc 1 w q 0 n dk os) ok) (V1.d (I (f x)) :: .d (I (f y)) :: (List.range m).map fun j => V1.d (cap j)) (vI f x :: vI f y :: cs) := by
     refine .cons rfl (.cons rfl (All2.of_get (by simp [hcl]) fun j a b ha hb => ?_))
     rw [List.getElem?_map] at ha
     by_cases hj : j < m
     ·rw [List.getElem?_range hj] at ha
      cases ha
      obtain ⟨u, hu, hrep⟩ := hcr j hj
      rw [hu] at hb; cases hb
      exact Rep.keep0 hkeep hrep
     ·rw [List.getElem?_eq_none (by simpa using Nat.le_of_not_lt hj)] at ha; cases ha
    have harr : (#[vI f x, vI f y] ++ cs.toArray) = (vI f x :: vI f y :: cs).toArray := by simp
    rw [harr]
    refine ((hc x y).2 _ ok _ (fun b hb => Nat.lt_of_lt_of_le (hok b hb) hsz) hargs).mono ?_
    rintro en w' ⟨v, rfl, ⟨hb, hd⟩, hres⟩
    have hv : v = .int .i64 (cf x y) := hres
    exact ⟨by rw [hv], zcy hb (hd rfl)⟩
   have hrun := Any.slices_SortFunc_total S (vI f) (fun _ => rfl) cf hO g cs.toArray q 0 c l.toArray w hent' hcmp (znB f hH) hq (by simp; omega) hT
   simp only [List.size_toArray] at hrun
   refine hrun.mono ?_
   rintro en w' ⟨rfl, n, os, rfl⟩
   rw [zjn]
   obtain ⟨p1, xs', p2, p3, p4⟩ := (oneI f).put n (l.mergeSort fun x y => !(ltOf cf) y x) os hh (by rw [hlen]; exact hnc) hcap hcs
   rw [hlen] at p2 p4
   exact ⟨_, rfl, p1, ⟨[], rfl, .nil⟩, xs', p2, p3, p4⟩
end
theorem zgn {P : Program} {ρ : Ren} (S : Lays.n189 P ρ) (hent : Ent P (ρ.f 189)) (e : TypeId) (l : List Int) (hn : l.length <= 1000000) :
  SpecR P (ρ.f 189) [] [] e 1 l.length ((oneI id).row l) ((oneI id).row (l.mergeSort fun x y => decide (x <= y))) [] := by
 refine ⟨hent, fun w ok vs us v xs hok h1 h2 hr => ?_⟩
 cases h1
 cases h2
 have hlen : (l.mergeSort fun x y => decide (x <= y)).length = l.length := List.length_mergeSort l
 by_cases h0 : l = []
 ·subst h0
  obtain ⟨p, c, rfl⟩ : ∃ p c, v = .slice p 0 c := by
   rcases hr.own.2 with ⟨h3, _⟩ | ⟨q, c, cur, h3, _⟩
   ·exact ⟨_, _, h3⟩
   ·exact ⟨_, _, h3⟩
  refine (Any.slices_Sort_int_none S p c w).mono ?_
  rintro en w' ⟨rfl, rfl⟩
  exact ⟨_, rfl, ⟨rfl, rfl, rfl, Nat.le_refl _, fun _ _ _ => rfl⟩, ⟨[], rfl, .nil⟩, xs, hr.own, hr.one, fun m hm => absurd hm (Nat.not_lt_zero _)⟩
 ·rcases hr.own.2 with ⟨_, h4⟩ | ⟨q, c, cur, rfl, _, hh, hnc, hcap, hcs, htk⟩
  ·exact absurd (List.length_eq_zero_iff.1 h4) h0
  ·have hH := (oneI (id : Int -> Int)).holds (cap := c) hh htk hr.rep
   have hq : q < w.heap.size := (Array.getElem?_eq_some_iff.1 hh).1
   have hrun := Any.slices_Sort_int S q 0 c l w (znB id hH) hq (by omega)
   refine hrun.mono ?_
   rintro en w' ⟨rfl, n, os, rfl⟩
   have e1 := zjn (id : Int -> Int) w q n (l.mergeSort fun x y => decide (x <= y)).toArray os
   have e2 : grow (putRow (Value.int .i64) (Sort.ahead w n) q 0 (l.mergeSort fun x y => decide (x <= y)).toArray) os = sortWorldK (oneI (id : Int -> Int)).enc 1 w q 0 n (l.mergeSort fun x y => decide (x <= y)).toArray os := e1
   rw [e2]
   obtain ⟨p1, xs', p2, p3, p4⟩ := (oneI (id : Int -> Int)).put n (l.mergeSort fun x y => decide (x <= y)) os hh (by rw [hlen]; exact hnc) hcap hcs
   rw [hlen] at p2 p4
   exact ⟨_, rfl, p1, ⟨[], rfl, .nil⟩, xs', p2, p3, p4⟩
theorem obN {s : St} {ob : Nat -> Option Ob} {j e k : Nat} {f : Nat -> Nat -> D} {o : Option Ob} (h : o = some (.box [.nilsl])) (h1 : s.ob j = none) (h2 : ob j = some (.row e k 0 f)) : Oble s ob o (.box [.own j]) := by
 subst h; exact ⟨⟨h1, e, k, f, h2⟩, trivial⟩
theorem obO {s : St} {ob : Nat -> Option Ob} {j : Nat} {o : Option Ob} (h : o = some (.box [.own j])) : Oble s ob o (.box [.own j]) := by
 subst h; exact ⟨rfl, trivial⟩
theorem obZ {s : St} {ob : Nat -> Option Ob} {e k n : Nat} {f : Nat -> Nat -> D} {o : Option Ob} (h : o = none) (h1 : n = 0) : Oble s ob o (.row e k n f) := by
 subst h; exact h1
abbrev lP (l : List Place) : D := .slc 2 l.length fun i => (l.getD i default).at
abbrev rowP (l : List Place) : Nat -> Nat -> D := fun i => (l.getD i default).at
theorem pushP {vs : List Place} {p : Place} {g : Nat -> Nat -> D} (hg : ∀ j, j < 2 -> D.eqv (g 0 j) (p.at j)) : D.eqv (.slc 2 (vs.length + 1) (appRow vs.length (rowP vs) g)) (.slc 2 (vs ++ [p]).length (rowP (vs ++ [p]))) := by
 refine ⟨by simp, .inr ⟨rfl, fun i hi j hj => ?_⟩⟩
 show D.eqv (appRow vs.length (rowP vs) g i j) (((vs ++ [p]).getD i default).at j)
 unfold appRow
 by_cases h : i < vs.length
 ·rw [if_pos h, gdq, List.getElem?_append_left h, <- gdq]
  exact dE _
 ·have e : i = vs.length := by omega
  subst e
  rw [if_neg h, Nat.sub_self, gdq, List.getElem?_append_right (Nat.le_refl _), Nat.sub_self]
  exact hg j hj
abbrev Svc.n (s : Svc) : Nat := s.c.M.w * s.c.M.h
def alwK (s : Svc) (b : Brn) (r : Rpt) (k : Nat) (n : Nat) : Bool := decide (n < k) && allB s b r (plc s.c.M n)
def alwP (s : Svc) (b : Brn) (r : Rpt) : Nat -> Bool := alwK s b r s.n
theorem zm9 {s : Svc} {b : Brn} {r : Rpt} {k : Nat} (h : allB s b r (plc s.c.M k) = true) : alwK s b r (k + 1) = addP (alwK s b r k) k := by
 funext n
 unfold alwK addP
 by_cases e : n = k
 ·subst e; rw [h]; simp
 ·have e1 : decide (n < k + 1) = decide (n < k) := by apply decide_eq_decide.2; omega
  rw [e1, beq_eq_false_iff_ne.2 e, Bool.or_false]
theorem zpv {s : Svc} {b : Brn} {r : Rpt} {k : Nat} (h : allB s b r (plc s.c.M k) = false) : alwK s b r (k + 1) = alwK s b r k := by
 funext n
 unfold alwK
 by_cases e : n = k
 ·subst e; rw [h]; simp
 ·have e1 : decide (n < k + 1) = decide (n < k) := by apply decide_eq_decide.2; omega
  rw [e1]
theorem zq0 (s : Svc) (b : Brn) (r : Rpt) : alwK s b r 0 = fun _ => false := by funext n; unfold alwK; simp
theorem bD_0 : (bD fun _ => false) = List.replicate 38 (D.int .u64 0) := by
 unfold bD
 simp only [znN]
 rfl
abbrev bx8 (x : D) : Ob := .box [.d x]
def obAlw (s : Svc) (b : Brn) (r : Rpt) (k : Nat) : List (Nat × Ob) := [(3, .box (s.ds.map AV.d)), (4, .box (b.ds.map AV.d)), (6, .box ((List.replicate 38 (D.int .u64 0)).map AV.d)), (7, .box ((bD (alwK s b r k)).map AV.d)), (8, bx8 (tldD r))]
theorem zdp {m : Mp} (hv : validM m = true) {k : Nat} : ((k / m.w : Nat) : Int) * m.W + ((k % m.w : Nat) : Int) = (k : Int) := by
 obtain ⟨bw, bh, -, -⟩ := zaj hv
 have e1 : ((m.w : Nat) : Int) = m.W := by show ((m.W.toNat : Nat) : Int) = m.W; omega
 rw [<- e1]
 have := Nat.div_add_mod k m.w
 rw [Nat.mul_comm] at this
 exact_mod_cast this
theorem zc7 {m : Mp} (hv : validM m = true) : m.w * m.h <= 2401 := by
 obtain ⟨bw, bh, -, -⟩ := zaj hv
 have : m.w * m.h <= 49 * 49 := Nat.mul_le_mul (by show m.W.toNat <= 49; omega) (by show m.H.toNat <= 49; omega)
 omega
theorem zfT (s : Svc) (b : Brn) (r : Rpt) (hv : validM s.c.M = true) (hr : frmB r = true) (hT : s.c.T.length <= 1000000) : Spec PP 156 [s.v, b.v, r.v] [.agg (bD (alwP s b r))] := by
 have hl := zc7 hv
 refine sA Tryz.func156 ?_
 refine CallSt.ro (zhN r) rfl rfl ?_
 refine CallSt.ro (zgJ s.c.M) rfl rfl ?_
 refine CodeOb.rangeAt (ze8 s.c.M hv) rfl (spEnc s.c.M) (zi0 s.c.M) (fun _ => rfl) (by decide) [(3, .box 3 0), (4, .box 4 0), (6, .box 6 0), (7, .box 7 0), (8, .box 8 0)] [] (fun pre => obAlw s b r pre.length) rfl (fun _ => rfl) ?_ (Iv := fun _ => True) trivial (fun v pre x hx _ => ?_) (fun _ => ?_)
 ·refine ⟨rfl, ⟨obX rfl, obX rfl, obX rfl, obX ?_, obX rfl, trivial⟩, wq rfl⟩
  show _ = some (Ob.box ((bD (alwK s b r 0)).map AV.d))
  rw [zq0, bD_0]; rfl
 ·obtain ⟨rfl, hk⟩ := zjm hx
  have hn := zdp hv (k := pre.length)
  refine cP (zml s b r (plc s.c.M pre.length) hr hT) rfl rfl ?_
  apply bY <;> intro h1
  ·have hp := l_put (alwK s b r pre.length) pre.length (by omega)
   rw [<- hn] at hp
   refine CallSt.bxP rfl rfl hp ⟨⟨_, _, _, rfl, rfl, rfl, rfl, rfl⟩⟩ rfl ?_
   refine ⟨trivial, rfl, ⟨obX rfl, obX rfl, obX rfl, obX ?_, obX rfl, trivial⟩, wq rfl⟩
   rw [List.length_append]
   show _ = some (Ob.box ((bD (alwK s b r (pre.length + 1))).map AV.d))
   rw [zm9 h1, hn]; rfl
  ·refine ⟨trivial, rfl, ⟨obX rfl, obX rfl, obX rfl, obX ?_, obX rfl, trivial⟩, wq rfl⟩
   rw [List.length_append]
   show _ = some (Ob.box ((bD (alwK s b r (pre.length + 1))).map AV.d))
   rw [zpv h1]; rfl
 ·rw [zdr]
  exact r1C rfl rfl rfl rfl rfl rfl (zaa _)
def plsK (m : Mp) (P : Nat -> Bool) (k : Nat) : List Place := ((List.range k).filter P).map (plc m)
def plsL (m : Mp) (P : Nat -> Bool) : List Place := plsK m P (m.w * m.h)
theorem zlY {m : Mp} {P : Nat -> Bool} {k : Nat} (h : P k = true) : plsK m P (k + 1) = plsK m P k ++ [plc m k] := by
 unfold plsK
 rw [List.range_succ, List.filter_append, List.map_append, List.filter_cons_of_pos h]; rfl
theorem zos {m : Mp} {P : Nat -> Bool} {k : Nat} (h : P k = false) : plsK m P (k + 1) = plsK m P k := by
 unfold plsK
 rw [List.range_succ, List.filter_append, List.map_append, List.filter_cons_of_neg (by rw [h]; decide)]; simp
theorem zhA (m : Mp) (P : Nat -> Bool) (k : Nat) : (plsK m P k).length <= k := by
 unfold plsK
 have := List.length_filter_le P (List.range k)
 simpa using this
def obPls (s : Svc) (P : Nat -> Bool) (k : Nat) : List (Nat × Ob) := [(2, .box (s.ds.map AV.d)), (3, .box ((bD P).map AV.d)), (5, .box [.own 20]), (20, .row 43 2 (plsK s.c.M P k).length (rowP (plsK s.c.M P k)))]
theorem zhO (s : Svc) (P : Nat -> Bool) (hv : validM s.c.M = true) : Spec PP 71 [s.v, .agg (bD P)] [.d (lP (plsL s.c.M P))] := by
 have hl := zc7 hv
 refine sA Tryz.func71 ?_
 refine CallSt.ro (zgJ s.c.M) rfl rfl ?_
 refine CodeOb.rangeAt (ze8 s.c.M hv) rfl (spEnc s.c.M) (zi0 s.c.M) (fun _ => rfl) (by decide) [(2, .box 2 0), (3, .box 3 0), (5, .box 5 0)] [(5, 0)] (fun pre => obPls s P pre.length) rfl (fun _ => rfl) ?_ (Iv := fun _ => True) trivial (fun v pre x hx _ => ?_) (fun _ => ?_)
 ·exact ⟨rfl, ⟨obX rfl, obX rfl, obN rfl rfl rfl, obZ rfl rfl, trivial⟩, wq rfl⟩
 ·obtain ⟨rfl, hk⟩ := zjm hx
  have hn := zdp hv (k := pre.length)
  have hp := zqn P pre.length (by omega)
  rw [<- hn] at hp
  have hlen := zhA s.c.M P pre.length
  refine cP hp rfl rfl ?_
  apply bY <;> intro h1
  ·refine ⟨⟨.inr rfl, by unfold maxLen; omega, by show ((plsK s.c.M P pre.length).length + 1) * 16 <= 140737488355328; omega⟩, ?_⟩
   refine ⟨trivial, rfl, ⟨obX rfl, obX rfl, obO rfl, obR rfl ?_, trivial⟩, wq rfl⟩
   rw [List.length_append]
   show D.eqv _ (.slc 2 (plsK s.c.M P (pre.length + 1)).length (rowP (plsK s.c.M P (pre.length + 1))))
   rw [zlY h1]
   exact pushP (at2 rfl rfl)
  ·refine ⟨trivial, rfl, ⟨obX rfl, obX rfl, obO rfl, obR rfl ?_, trivial⟩, wq rfl⟩
   rw [List.length_append]
   show D.eqv _ (.slc 2 (plsK s.c.M P (pre.length + 1)).length (rowP (plsK s.c.M P (pre.length + 1))))
   rw [zos h1]; exact dE _
 ·rw [zdr]
  refine ⟨⟨_, _, _, _, rfl, ?_⟩, trivial⟩
  exact dE _
theorem ze9 (s : Svc) (P : Nat -> Bool) (hv : validM s.c.M = true) : Spec PP 74 [s.v, .agg (bD P)] [N (plsL s.c.M P).length] := by
 refine sA Tryz.func74 ?_
 refine CallSt.ro (zhO s P hv) rfl rfl ?_
 exact r1I rfl rfl
section
variable {s : St} {ob : Nat -> Option Ob} {v : AV}
theorem obMp {ks ks' : List Int} {o : Option Ob} (h : o = some (.mp ks)) (e : ks = ks') : Oble s ob o (.mp ks') := by subst h; exact e
end
def rp1E (s : Svc) (l : List Rpt) (i : Nat) : Int := if rptE s (l.getD i default) ≠ 0 then rptE s (l.getD i default) else if ((l.take i).map Rpt.ID).contains (l.getD i default).ID = true then 6 else 0
def givE (s : Svc) (b : Brn) (l : List Rpt) : Int := if svcE s ≠ 0 then svcE s else if brnB b = false then 1 else if 24 < l.length then 2 else err1 (rp1E s l) l.length
structure GivOk (S : Svc) (b : Brn) (l : List Rpt) : Prop where
  s : SvcOk S
  n : l.length <= 24
  r : ∀ i, i < l.length -> frmB (l.getD i default) = true /\ rptE S (l.getD i default) = 0
  d : ∀ i, i < l.length -> ((l.take i).map Rpt.ID).contains (l.getD i default).ID = false
  b : brnB b = true
theorem zjD {s : Svc} {r : Rpt} (h : rptE s r = 0) : frmB r = true := by
 unfold rptE at h
 split at h
 ·cases h
 ·rename_i h2; simpa using h2
theorem zcz {s : Svc} {b : Brn} {l : List Rpt} (h : givE s b l = 0) : GivOk s b l := by
 unfold givE at h
 split at h
 ·rename_i h1; exact absurd h h1
 ·rename_i h1
  split at h
  ·cases h
  ·rename_i h2
   split at h
   ·cases h
   ·rename_i h3
    have a := za8 h
    have A : ∀ i, i < l.length -> rptE s (l.getD i default) = 0 /\ ((l.take i).map Rpt.ID).contains (l.getD i default).ID = false := fun i hi => by
     have := a i hi
     unfold rp1E at this
     split at this
     ·rename_i h4; exact absurd this h4
     ·rename_i h4
      split at this
      ·cases this
      ·rename_i h5
       exact ⟨Classical.byContradiction h4, by simpa using h5⟩
    exact ⟨zfw (Classical.byContradiction h1), by omega, fun i hi => ⟨zjD (A i hi).1, (A i hi).1⟩, fun i hi => (A i hi).2, by simpa using h2⟩
theorem zki (s : Svc) (b : Brn) (l : List Rpt) : Spec PP 46 [s.v, b.v, .d (lR l)] [.d (.int .i64 (givE s b l))] := by
 refine sA Tryz.func46 ?_
 refine cP (zgL s) rfl rfl ?_
 apply bY <;> intro h0
 ·refine r1I rfl ?_
  unfold givE; rw [if_pos (by simpa using h0)]
 have h0 : svcE s = 0 := by simpa using h0
 have ok := zfw h0
 refine cP (zoM b) rfl rfl ?_
 apply bY <;> intro h1
 ·refine r1I rfl ?_
  unfold givE; rw [if_neg (fun hh => hh h0), if_pos (by simpa using h1)]
 have h1 : brnB b = true := by simpa using h1
 apply bY <;> intro h2
 ·have h2 : 24 < l.length := by have : (24 : Int) < l.length := dT h2; omega
  refine r1I rfl ?_
  unfold givE; rw [if_neg (fun hh => hh h0), if_neg (by rw [h1]; decide), if_pos h2]
 have h2 : ¬ 24 < l.length := by have : ¬ (24 : Int) < l.length := dF h2; omega
 have e0 : givE s b l = err1 (rp1E s l) l.length := by unfold givE; rw [if_neg (fun hh => hh h0), if_neg (by rw [h1]; decide), if_neg h2]
 rw [e0]
 refine LoopOb.of (σ := Nat) (fun i => ([(2, .d (lR l)), (3, .box 3 0), (8, .own 25), (26, .d (lR l)), (27, .d (I l.length)), (28, .d (I i))], [(3, .box (s.ds.map AV.d)), (25, .mp ((l.take i).map Rpt.ID))])) (fun i => i <= l.length /\ ∀ j, j < i -> rp1E s l j = 0) (fun i => l.length - i) 0
  ⟨rfl, ⟨obX rfl, obMp rfl rfl, trivial⟩, wq rfl⟩ z0L fun i hi => ?_
 obtain ⟨hi, ha⟩ := hi
 apply bY <;> intro h3
 ·have h3 : i < l.length := by have := dT h3; omega
  refine ⟨⟨rfl, by omega, by omega⟩, ?_⟩
  refine cP (zbv s (l.getD i default) (by have := ok.c.t; omega) (by have := ok.k.n; omega)) rfl rfl ?_
  apply bY <;> intro h4
  ·have h4 : rptE s (l.getD i default) ≠ 0 := by simpa using h4
   have e1 : rp1E s l i = rptE s (l.getD i default) := by unfold rp1E; rw [if_pos h4]
   refine r1I rfl ?_
   rw [zaV ha (by rw [e1]; exact h4) h3, e1]
  have h4 : rptE s (l.getD i default) = 0 := by simpa using h4
  apply bY <;> intro h5
  ·have h5 : ((l.take i).map Rpt.ID).contains (l.getD i default).ID = true := h5
   have e1 : rp1E s l i = 6 := by unfold rp1E; rw [if_neg (fun hh => hh h4), if_pos h5]
   refine r1I rfl ?_
   rw [zaV ha (by rw [e1]; decide) h3, e1]
  have h5 : ((l.take i).map Rpt.ID).contains (l.getD i default).ID = false := h5
  have e1 : rp1E s l i = 0 := by unfold rp1E; rw [if_neg (fun hh => hh h4), if_neg (by rw [h5]; decide)]
  refine ⟨h5, ?_⟩
  refine ⟨i6, ?_⟩
  refine ⟨i + 1, ⟨rfl, ⟨obX rfl, obMp rfl ?_, trivial⟩, wq rfl⟩, ⟨h3, fun j hj => ?_⟩, (msr (by omega))⟩
  ·rw [zaD h3 default, List.map_append]; rfl
  ·by_cases e : j = i
   ·subst e; exact e1
   ·exact ha j (by omega)
 ·have h3 : i = l.length := by have := dF h3; omega
  subst h3
  refine r1I rfl ?_
  rw [zbe ha]
abbrev rowB (L : List (Nat -> Bool)) : Nat -> Nat -> D := fun i => bAt (L.getD i default)
theorem zp7 {vs : List (Nat -> Bool)} {P : Nat -> Bool} {g : Nat -> Nat -> D} (hg : ∀ j, j < 38 -> g 0 j = bAt P j) : D.eqv (.slc 38 (vs.length + 1) (appRow vs.length (rowB vs) g)) (.slc 38 (vs ++ [P]).length (rowB (vs ++ [P]))) := by
 refine ⟨by simp, .inr ⟨rfl, fun i hi j hj => ?_⟩⟩
 show D.eqv (appRow vs.length (rowB vs) g i j) (bAt ((vs ++ [P]).getD i default) j)
 unfold appRow
 by_cases h : i < vs.length
 ·rw [if_pos h, gdq, List.getElem?_append_left h, <- gdq]
  exact dE _
 ·have e : i = vs.length := by omega
  subst e
  rw [if_neg h, Nat.sub_self, gdq, List.getElem?_append_right (Nat.le_refl _), Nat.sub_self]
  rw [hg j hj]
  exact dE _
theorem zqT (P : Nat -> Bool) : ∀ j, j < 38 -> getD' (bD P) j = bAt P j := fun j hj => by
 rcases i38 hj with rfl | rfl | rfl | rfl | rfl | rfl | rfl | rfl | rfl | rfl | rfl | rfl | rfl | rfl | rfl | rfl | rfl | rfl | rfl | rfl | rfl | rfl | rfl | rfl | rfl | rfl | rfl | rfl | rfl | rfl | rfl | rfl | rfl | rfl | rfl | rfl | rfl | rfl <;> rfl
theorem zqU (P : Nat -> Bool) {j : Nat} (hj : j < 38) : getD' (bD P) (0 * 38 + j) = bAt P j := by
 rw [show 0 * 38 + j = j by omega]; exact zqT P j hj
def allR (s : Svc) (b : Brn) (l : List Rpt) : List (Nat -> Bool) × Int := if givE s b l ≠ 0 then ([], givE s b l) else (l.map (alwP s b), 0)
theorem zeQ {α β : Type} (f : α -> β) (l : List α) {i : Nat} (h : i < l.length) (d : α) : (l.take (i + 1)).map f = (l.take i).map f ++ [f (l.getD i d)] := by
 rw [zaD h d, List.map_append]; rfl
theorem zmm (s : Svc) (b : Brn) (l : List Rpt) : Spec PP 70 [s.v, b.v, .d (lR l)] [.d (lB (allR s b l).1), .d (.int .i64 (allR s b l).2)] := by
 refine sA Tryz.func70 ?_
 refine cP (zki s b l) rfl rfl ?_
 apply bY <;> intro h0
 ·have h0 : givE s b l ≠ 0 := by simpa using h0
  have e : allR s b l = ([], givE s b l) := by unfold allR; rw [if_pos h0]
  rw [e]
  exact ⟨⟨_, _, _, _, rfl, rfl, .inl rfl⟩, rtI rfl rfl, trivial⟩
 have h0 : givE s b l = 0 := by simpa using h0
 have e : allR s b l = (l.map (alwP s b), 0) := by unfold allR; rw [if_neg (fun hh => hh h0)]
 have ok := zcz h0
 rw [e]
 refine LoopOb.of (σ := Nat) (fun i => ([(3, .box 3 0), (4, .box 4 0), (9, .own 9), (19, .d (lR l)), (20, .d (I l.length)), (21, .d (I i))], [(3, .box (s.ds.map AV.d)), (4, .box (b.ds.map AV.d)), (9, .row 168 38 ((l.take i).map (alwP s b)).length (rowB ((l.take i).map (alwP s b))))])) (fun i => i <= l.length) (fun i => l.length - i) 0
  ⟨rfl, ⟨obX rfl, obX rfl, obR rfl ⟨rfl, .inl rfl⟩, trivial⟩, wq rfl⟩ (Nat.zero_le _) fun i hi => ?_
 apply bY <;> intro h3
 ·have h3 : i < l.length := by have := dT h3; omega
  have hlen : ((l.take i).map (alwP s b)).length = i := by rw [List.length_map, List.length_take]; omega
  have hn := ok.n
  refine ⟨⟨rfl, by omega, by omega⟩, ?_⟩
  refine cP (zfT s b (l.getD i default) ok.s.c.m (ok.r i h3).1 (by have := ok.s.c.t; omega)) rfl rfl ?_
  refine ⟨⟨.inr rfl, by unfold maxLen; omega, by show (((l.take i).map (alwP s b)).length + 1) * 304 <= 140737488355328; omega⟩, ?_⟩
  refine ⟨i6, ?_⟩
  refine ⟨i + 1, ⟨rfl, ⟨obX rfl, obX rfl, obR rfl ?_, trivial⟩, wq rfl⟩, h3, (msr (by omega))⟩
  rw [zeQ (alwP s b) l h3 default]
  exact zp7 fun j hj => zqU (alwP s b (l.getD i default)) hj
 ·have h3 : i = l.length := by have := dF h3; omega
  subst h3
  refine ⟨⟨_, _, _, _, rfl, ?_⟩, rtI rfl rfl, trivial⟩
  rw [List.take_length]
  exact dE _
def plcR (s : Svc) (b : Brn) (l : List Rpt) : List Place × Int := if givE s b l ≠ 0 then ([], givE s b l) else (plsL s.c.M (metP (l.map (alwP s b))), 0)
theorem zdb (s : Svc) (b : Brn) (l : List Rpt) : Spec PP 26 [s.v, b.v, .d (lR l)] [.d (lP (plcR s b l).1), .d (.int .i64 (plcR s b l).2)] := by
 refine sA Tryz.func26 ?_
 refine CallSt.ro (zmm s b l) rfl rfl ?_
 by_cases h0 : givE s b l = 0
 ·have e : allR s b l = (l.map (alwP s b), 0) := by unfold allR; rw [if_neg (fun hh => hh h0)]
  have e1 : plcR s b l = (plsL s.c.M (metP (l.map (alwP s b))), 0) := by unfold plcR; rw [if_neg (fun hh => hh h0)]
  have ok := zcz h0
  have hn := ok.n
  rw [e, e1]
  refine sF ?_
  refine oL (List.range 6) (FzOb.no ?_)
  refine oP (zew (l.map (alwP s b)) (by rw [List.length_map]; omega)) rfl rfl ?_
  refine CallOb.ro (zhO s (metP (l.map (alwP s b))) ok.s.c.m) rfl rfl ?_
  exact ⟨dE _, rtI rfl rfl, trivial⟩
 ·have e : allR s b l = ([], givE s b l) := by unfold allR; rw [if_pos h0]
  have e1 : plcR s b l = ([], givE s b l) := by unfold plcR; rw [if_pos h0]
  rw [e, e1]
  refine Split.yes (by simpa using h0) ?_
  exact ⟨⟨_, _, _, _, rfl, rfl, .inl rfl⟩, rtI rfl rfl, trivial⟩
def minL : List Int -> Int
 | [] => 0
 | a :: r => r.foldl min a
def maxL : List Int -> Int
 | [] => 0
 | a :: r => r.foldl max a
theorem zj5 {l : List Int} {i : Nat} (h : i + 1 < l.length) : minL (l.take (i + 2)) = min (minL (l.take (i + 1))) (l.getD (i + 1) 0) := by
 cases l with
 | nil => simp at h
 | cons a r =>
  have h2 : i < r.length := by simpa using h
  show (r.take (i + 1)).foldl min a = min ((r.take i).foldl min a) (r.getD i 0)
  rw [zaD h2 0, List.foldl_append]; rfl
theorem zj7 {l : List Int} {i : Nat} (h : i + 1 < l.length) : maxL (l.take (i + 2)) = max (maxL (l.take (i + 1))) (l.getD (i + 1) 0) := by
 cases l with
 | nil => simp at h
 | cons a r =>
  have h2 : i < r.length := by simpa using h
  show (r.take (i + 1)).foldl max a = max ((r.take i).foldl max a) (r.getD i 0)
  rw [zaD h2 0, List.foldl_append]; rfl
theorem zqp (l : List Int) (h0 : 0 < l.length) (hn : l.length <= 1000000) : Spec PP 92 [.d (lI l)] [N (minL l)] := by
 refine sA Tryz.func92 ?_
 apply bY <;> intro h1
 ·have : (l.length : Int) < 1 := dT h1
  omega
 refine ⟨⟨rfl, by omega, by omega⟩, ?_⟩
 refine LoopOb.of (σ := Nat) (fun i => ([(0, .d (lI l)), (3, .d (I (minL (l.take (i + 1))))), (4, .d (I ((i : Int) + 1)))], [])) (fun i => i < l.length) (fun i => l.length - i) 0
  ⟨rfl, trivial, avR _ rfl, avI rfl ?_, avR _ rfl, trivial⟩ h0 fun i hi => ?_
 ·cases l with
  | nil => simp at h0
  | cons a r => rfl
 apply bY <;> intro h2
 ·have h2 : i + 1 < l.length := by have : (i : Int) + 1 < l.length := dT h2; omega
  refine ⟨⟨rfl, by omega, by omega⟩, ?_⟩
  refine ⟨i6, ?_⟩
  refine ⟨i + 1, ⟨rfl, trivial, avR _ rfl, avI rfl ?_, avI rfl (by omega), trivial⟩, h2, (msr (by omega))⟩
  rw [zj5 h2]
  congr 1
 ·have h2 : i + 1 = l.length := by have : ¬ (i : Int) + 1 < l.length := dF h2; omega
  refine r1I rfl ?_
  rw [h2, List.take_length]
theorem zqq (l : List Int) (h0 : 0 < l.length) (hn : l.length <= 1000000) : Spec PP 93 [.d (lI l)] [N (maxL l)] := by
 refine sA Tryz.func93 ?_
 apply bY <;> intro h1
 ·have : (l.length : Int) < 1 := dT h1
  omega
 refine ⟨⟨rfl, by omega, by omega⟩, ?_⟩
 refine LoopOb.of (σ := Nat) (fun i => ([(0, .d (lI l)), (3, .d (I (maxL (l.take (i + 1))))), (4, .d (I ((i : Int) + 1)))], [])) (fun i => i < l.length) (fun i => l.length - i) 0
  ⟨rfl, trivial, avR _ rfl, avI rfl ?_, avR _ rfl, trivial⟩ h0 fun i hi => ?_
 ·cases l with
  | nil => simp at h0
  | cons a r => rfl
 apply bY <;> intro h2
 ·have h2 : i + 1 < l.length := by have : (i : Int) + 1 < l.length := dT h2; omega
  refine ⟨⟨rfl, by omega, by omega⟩, ?_⟩
  refine ⟨i6, ?_⟩
  refine ⟨i + 1, ⟨rfl, trivial, avR _ rfl, avI rfl ?_, avI rfl (by omega), trivial⟩, h2, (msr (by omega))⟩
  rw [zj7 h2]
  congr 1
 ·have h2 : i + 1 = l.length := by have : ¬ (i : Int) + 1 < l.length := dF h2; omega
  refine r1I rfl ?_
  rw [h2, List.take_length]
def tksL (l : List Rpt) : List Int := (l.filter fun r => r.Kind == 1).map Rpt.Tick
theorem znX {l : List Rpt} {i : Nat} (h : i < l.length) (hk : (l.getD i default).Kind = 1) : tksL (l.take (i + 1)) = tksL (l.take i) ++ [(l.getD i default).Tick] := by
 unfold tksL
 rw [zaD h default, List.filter_append, List.map_append, List.filter_cons_of_pos (by rw [hk]; rfl)]; rfl
theorem zpJ {l : List Rpt} {i : Nat} (h : i < l.length) (hk : (l.getD i default).Kind ≠ 1) : tksL (l.take (i + 1)) = tksL (l.take i) := by
 unfold tksL
 rw [zaD h default, List.filter_append, List.filter_cons_of_neg (by simpa using hk)]; simp
theorem zjb (l : List Rpt) : (tksL l).length <= l.length := by
 unfold tksL
 have := List.length_filter_le (fun r : Rpt => r.Kind == 1) l
 simpa using this
theorem zlT {vs : List Int} {a : Int} {g : Nat -> Nat -> D} (hg : g 0 0 = I a) : D.eqv (.slc 1 (vs.length + 1) (appRow vs.length (fun i _ => I (vs.getD i 0)) g)) (.slc 1 (vs ++ [a]).length fun i _ => I ((vs ++ [a]).getD i 0)) := by
 refine ⟨by simp, .inr ⟨rfl, fun i hi j hj => ?_⟩⟩
 obtain rfl : j = 0 := by omega
 show D.eqv (appRow vs.length (fun i _ => I (vs.getD i 0)) g i 0) (I ((vs ++ [a]).getD i 0))
 unfold appRow
 by_cases h : i < vs.length
 ·rw [if_pos h, gdq, List.getElem?_append_left h, <- gdq]
  exact dE _
 ·have e : i = vs.length := by omega
  subst e
  rw [if_neg h, Nat.sub_self, hg, gdq, List.getElem?_append_right (Nat.le_refl _), Nat.sub_self]
  exact ⟨rfl, rfl⟩
def lstR (l : List Rpt) (rise : Int) : Brn × Int :=
 if within rise 0 200 = false then (⟨0, 0, 0⟩, 1) else if 24 < l.length then (⟨0, 0, 0⟩, 2) else if (tksL l).length = 0 then (⟨0, 0, 0⟩, 5)
 else if minL (tksL l) < 0 \/ 1048576 < maxL (tksL l) then (⟨0, 0, 0⟩, 1) else (⟨minL (tksL l), maxL (tksL l), rise⟩, 0)
theorem zoN (l : List Rpt) (rise : Int) (hn : l.length <= 1000000) : Spec PP 36 [.d (lR l), N rise] [(lstR l rise).1.v, .d (.int .i64 (lstR l rise).2)] := by
 refine sA Tryz.func36 ?_
 refine cP (zaM rise 0 200) rfl rfl ?_
 apply bY <;> intro h0
 ·have e : lstR l rise = (⟨0, 0, 0⟩, 1) := by unfold lstR; rw [if_pos (by simpa using h0)]
  rw [e]
  exact r2CI rfl rfl rfl rfl rfl rfl rfl (zaa _) rfl
 have h0 : within rise 0 200 = true := by simpa using h0
 apply bY <;> intro h1
 ·have h1 : 24 < l.length := by have : (24 : Int) < l.length := dT h1; omega
  have e : lstR l rise = (⟨0, 0, 0⟩, 2) := by unfold lstR; rw [if_neg (by rw [h0]; decide), if_pos h1]
  rw [e]
  exact r2CI rfl rfl rfl rfl rfl rfl rfl (zaa _) rfl
 have h1 : ¬ 24 < l.length := by have : ¬ (24 : Int) < l.length := dF h1; omega
 refine LoopOb.of (σ := Nat) (fun i => ([(0, .d (lR l)), (1, .d (I rise)), (4, .box 4 0), (6, .own 6), (17, .d (lR l)), (18, .d (I l.length)), (19, .d (I i))], [(4, .box ([I 0, I 0, I 0].map AV.d)), (6, .row 3 1 (tksL (l.take i)).length (fun j _ => I ((tksL (l.take i)).getD j 0)))])) (fun i => i <= l.length) (fun i => l.length - i) 0
  ⟨rfl, ⟨obX rfl, obR rfl ⟨rfl, .inl rfl⟩, trivial⟩, wq rfl⟩ (Nat.zero_le _) fun i hi => ?_
 apply bY <;> intro h2
 ·have h2 : i < l.length := by have := dT h2; omega
  refine ⟨⟨rfl, by omega, by omega⟩, ?_⟩
  apply bY <;> intro h3
  ·have h3 : (l.getD i default).Kind = 1 := by simpa using h3
   have hlen := zjb (l.take i)
   rw [List.length_take] at hlen
   refine ⟨⟨.inr rfl, by unfold maxLen; omega, by show ((tksL (l.take i)).length + 1) * 8 <= 140737488355328; omega⟩, ?_⟩
   refine ⟨i6, ?_⟩
   refine ⟨i + 1, ⟨rfl, ⟨obX rfl, obR rfl ?_, trivial⟩, wq rfl⟩, h2, (msr (by omega))⟩
   rw [znX h2 h3]
   exact zlT rfl
  ·have h3 : (l.getD i default).Kind ≠ 1 := by simpa using h3
   refine ⟨i6, ?_⟩
   refine ⟨i + 1, ⟨rfl, ⟨obX rfl, obR rfl ?_, trivial⟩, wq rfl⟩, h2, (msr (by omega))⟩
   rw [zpJ h2 h3]
   exact dE _
 ·have h2 : i = l.length := by have := dF h2; omega
  subst h2
  rw [List.take_length]
  have hlen := zjb l
  apply bY <;> intro h3
  ·have h3 : (tksL l).length = 0 := by
    have : ((tksL l).length : Int) = 0 := by simpa using h3
    omega
   have e : lstR l rise = (⟨0, 0, 0⟩, 5) := by unfold lstR; rw [if_neg (by rw [h0]; decide), if_neg h1, if_pos h3]
   rw [e]
   exact r2CI rfl rfl rfl rfl rfl rfl rfl (zaa _) rfl
  have h3 : (tksL l).length ≠ 0 := fun h => by rw [h] at h3; simp at h3
  have e0 : lstR l rise = if minL (tksL l) < 0 \/ 1048576 < maxL (tksL l) then (⟨0, 0, 0⟩, 1) else (⟨minL (tksL l), maxL (tksL l), rise⟩, 0) := by
   unfold lstR; rw [if_neg (by rw [h0]; decide), if_neg h1, if_neg h3]
  refine CallSt.fz [6] (zqp (tksL l) (by omega) (by omega)) rfl rfl ?_
  apply bY <;> intro h4
  ·have h4 : minL (tksL l) < 0 := dT h4
   repeat first | apply sT | apply sF
   rw [e0, if_pos (.inl h4)]
   exact r2CI rfl rfl rfl rfl rfl rfl rfl (zaa _) rfl
  have h4 : ¬ minL (tksL l) < 0 := dF h4
  refine cP (zqq (tksL l) (by omega) (by omega)) rfl rfl ?_
  repeat first | apply sT | apply sF
  apply bY <;> intro h5
  ·have h5 : 1048576 < maxL (tksL l) := dT h5
   rw [e0, if_pos (.inr h5)]
   exact r2CI rfl rfl rfl rfl rfl rfl rfl (zaa _) rfl
  have h5 : ¬ 1048576 < maxL (tksL l) := dF h5
  refine cP (zqp (tksL l) (by omega) (by omega)) rfl rfl ?_
  refine cP (zqq (tksL l) (by omega) (by omega)) rfl rfl ?_
  rw [e0, if_neg (by omega)]
  exact r2CI rfl rfl rfl rfl rfl rfl rfl (zaa _) rfl
abbrev rowI (l : List Int) : Nat -> Nat -> D := fun i _ => I (l.getD i 0)
theorem flatI (l : List Int) (m j : Nat) : (rowI l m j).flat = true := rfl
theorem zl7 (l : List Int) (hn : l.length <= 1000000) : SpecO PP 162 [.d (lI l)] 3 1 l.length (rowI l) := by
 refine zc8 Tryz.func162 rfl (by kernel_rfl) rfl ?_
 refine fun b hb => ?_
 apply bY <;> intro h1
 ·have h0 := hb h1
  refine ⟨rfl, rfl, h0.symm, fun i hi => ?_⟩
  omega
 ·refine ⟨⟨.inr rfl, by unfold maxLen; omega, by show (0 + l.length) * 8 <= 140737488355328; omega⟩, ?_⟩
  refine ⟨rfl, rfl, Nat.zero_add _, fun i hi j hj => ?_⟩
  exact dE _
@[irreducible] def rmL (l : List Int) (i : Nat) : List Int := l.take i ++ l.drop (i + 1)
theorem zoh (l : List Int) {i : Nat} (h : i < l.length) : (rmL l i).length = l.length - 1 := by unfold rmL; simp; omega
theorem zog {l : List Int} {i : Nat} {x : Int} (h : x ∈ rmL l i) : x ∈ l := by
 unfold rmL at h
 rcases List.mem_append.1 h with h | h
 ·exact List.mem_of_mem_take h
 ·exact List.mem_of_mem_drop h
theorem zpL (l : List Int) (i : Nat) (hi : i < l.length) : SpecT PP 161 [] [.d (.int .i64 i), .d (.int .i64 ((i + 1 : Nat) : Int))] 3 1 l.length (rowI l) (rmL l i).length (rowI (rmL l i)) := by
 have h := zfy Tryz.delI ⟨_, Tryz.func161, by kernel_rfl, by kernel_rfl⟩ 3 l i (i + 1) (by omega) hi
 unfold rmL
 exact h
theorem zkg (l : List Int) (i : Nat) (hi : i < l.length) (hn : l.length <= 1000000) : Spec PP 76 [.d (lI l), N i] [.d (lI (rmL l i))] := by
 refine sA Tryz.func76 ?_
 refine CallSt.own (zl7 l hn) rfl rfl (fun m j _ _ => flatI _ m j) ?_
 refine ⟨i6, ?_⟩
 refine CallSt.tk rfl (zpL l i hi) ⟨⟨[], .tmp 6, [.tmp 7, .tmp 9], [], rfl, rfl, rfl, rfl, rfl, rfl, rfl⟩⟩ rfl ?_
 exact ⟨⟨_, _, _, _, rfl, dE _⟩, trivial⟩
theorem zlR (l : List Int) (hn : l.length <= 1000000) : SpecR PP 163 [] [] 3 1 l.length (rowI l) (rowI (l.mergeSort fun x y => decide (x <= y))) [] :=
 zgn Tryz.srtI ⟨_, Tryz.func163, by kernel_rfl, by kernel_rfl⟩ 3 l hn
def idK (l : List Rpt) (js : List Int) : List Int := js.map fun j => (l.getD j.toNat default).ID
def idsL (l : List Rpt) (js : List Int) : List Int := (idK l js).mergeSort fun x y => decide (x <= y)
theorem zmt {l : List Rpt} {js : List Int} {i : Nat} (h : i < js.length) : idK l (js.take (i + 1)) = idK l (js.take i) ++ [(l.getD (js.getD i 0).toNat default).ID] := zeQ _ js h 0
theorem zqm (l : List Rpt) (js : List Int) (hj : ∀ j ∈ js, 0 <= j /\ j < l.length) (hn : js.length <= 1000000) : Spec PP 77 [.d (lR l), .d (lI js)] [.d (lI (idsL l js))] := by
 refine sA Tryz.func77 ?_
 refine LoopOb.of (σ := Nat) (fun i => ([(0, .d (lR l)), (5, .own 5), (8, .d (lI js)), (9, .d (I js.length)), (10, .d (I i))], [(5, .row 3 1 (idK l (js.take i)).length (rowI (idK l (js.take i))))])) (fun i => i <= js.length) (fun i => js.length - i) 0
  ⟨rfl, ⟨obR rfl ⟨rfl, .inl rfl⟩, trivial⟩, wq rfl⟩ (Nat.zero_le _) fun i hi => ?_
 apply bY <;> intro h2
 ·have h2 : i < js.length := by have := dT h2; omega
  have hb := hj _ (gd1 h2 0)
  have hlen : (idK l (js.take i)).length = i := by unfold idK; rw [List.length_map, List.length_take]; omega
  refine ⟨⟨rfl, by omega, by omega⟩, ?_⟩
  refine ⟨⟨rfl, hb.1, hb.2⟩, ?_⟩
  refine ⟨⟨.inr rfl, by unfold maxLen; omega, by show ((idK l (js.take i)).length + 1) * 8 <= 140737488355328; omega⟩, ?_⟩
  refine ⟨i6, ?_⟩
  refine ⟨i + 1, ⟨rfl, ⟨obR rfl ?_, trivial⟩, wq rfl⟩, h2, (msr (by omega))⟩
  rw [zmt h2]
  exact zlT rfl
 ·have h2 : i = js.length := by have := dF h2; omega
  subst h2
  rw [List.take_length]
  have hlen : (idK l js).length = js.length := by unfold idK; rw [List.length_map]
  refine CallSt.rw' rfl (zlR (idK l js) (by omega)) ⟨⟨[], .tmp 23, [], [], rfl, rfl, rfl, rfl, rfl, rfl, rfl⟩⟩ rfl ?_
  refine ⟨⟨_, _, _, _, rfl, ?_⟩, trivial⟩
  have e : (idsL l js).length = (idK l js).length := List.length_mergeSort _
  exact ⟨e.symm, .inr ⟨rfl, fun i _ j _ => dE _⟩⟩
structure IdsOk (l : List Rpt) : Prop where
  b : ∀ i, i < l.length -> 1 <= (l.getD i default).ID /\ (l.getD i default).ID <= 1099511627776
  d : ∀ i j, i < l.length -> j < l.length -> (l.getD i default).ID = (l.getD j default).ID -> i = j
theorem zo7 (l : List Rpt) (h : IdsOk l) (i k : Nat) (hi : i < l.length) (hk : k < l.length) : SpecD PP 160 [N i, N k, .d (capB [lR l])] [N ((l.getD i default).ID - (l.getD k default).ID)] := by
 have b1 := h.b i hi
 have b2 := h.b k hk
 refine zaz Tryz.func160 rfl (by kernel_rfl) rfl ?_
 refine oL (List.range 12) (FzOb.no ?_)
 refine ⟨⟨rfl, by omega, by omega⟩, ⟨⟨rfl, by omega, by omega⟩, ⟨zah (by show _ <= (l.getD i default).ID - (l.getD k default).ID; omega) (by show (l.getD i default).ID - (l.getD k default).ID <= _; omega), ?_⟩⟩⟩
 exact r1I rfl rfl
def ordF (l : List Rpt) : List (Fin l.length) := (List.finRange l.length).mergeSort fun x y => decide ((l.getD x.val default).ID <= (l.getD y.val default).ID)
def ordL (l : List Rpt) : List Int := (ordF l).map fun x => (x.val : Int)
def upN (n : Nat) : List Int := (List.range n).map fun i : Nat => (i : Int)
theorem zls (n : Nat) : upN (n + 1) = upN n ++ [(n : Int)] := by unfold upN; rw [List.range_succ, List.map_append]; rfl
theorem zi6 (n : Nat) : (upN n).length = n := by unfold upN; simp
theorem zjF {α : Type} [Inhabited α] (f : α -> Int) (L : List α) : ∀ m, m < L.length -> ∀ j, j < 1 -> rowI (L.map f) m j = (oneI f).row L m j := fun m hm j _ => by
 show I ((L.map f).getD m 0) = I (f (L.getD m default))
 rw [gdq, gdq, List.getElem?_map, gqe hm]
 rfl
theorem zlS (l : List Rpt) (h : IdsOk l) (hn : l.length <= 1000000) : SpecR PP 159 [] [.d (cloB 160 [capB [lR l]])] 3 1 l.length (rowI (upN l.length)) (rowI (ordL l)) [] := by
 have hent : Ent PP 159 := ⟨_, Tryz.func159, by kernel_rfl, by kernel_rfl⟩
 by_cases h0 : l = []
 ·subst h0
  have hs := zdq (fun _ : Unit => (0 : Int)) Tryz.sortI hent (fun _ _ => 0) ⟨fun x => by simp [ltOf], fun x y z h1 h2 => by simp [ltOf] at h1, fun x y z h1 h2 => by simp [ltOf]⟩ (fun _ _ _ _ => rfl) 160 1 (getD' [capB [lR []]]) 3 [] (fun h => absurd rfl h) (by simp)
  exact hs.congr (fun m hm => absurd hm (Nat.not_lt_zero _)) (fun m hm => absurd hm (Nat.not_lt_zero _))
 ·have hpos : 0 < l.length := by
   cases l with
   | nil => exact absurd rfl h0
   | cons a r => simp
  haveI : Inhabited (Fin l.length) := ⟨⟨0, hpos⟩⟩
  have hlt : ∀ x y : Fin l.length, ltOf (fun x y : Fin l.length => (l.getD x.val default).ID - (l.getD y.val default).ID) x y = decide ((l.getD x.val default).ID < (l.getD y.val default).ID) := fun x y => by
   apply decide_eq_decide.2
   show (l.getD x.val default).ID - (l.getD y.val default).ID < 0 ↔ _
   omega
  have hO : SWO (ltOf fun x y : Fin l.length => (l.getD x.val default).ID - (l.getD y.val default).ID) := ⟨fun x => by rw [hlt]; simp, fun x y z h1 h2 => by rw [hlt] at *; simp only [decide_eq_true_eq] at *; omega, fun x y z h1 h2 => by rw [hlt] at *; simp only [decide_eq_false_iff_not] at *; omega⟩
  have hs := zdq (fun x : Fin l.length => (x.val : Int)) Tryz.sortI hent (fun x y => (l.getD x.val default).ID - (l.getD y.val default).ID) hO (fun x y h1 h2 => by
   rw [hlt] at h1 h2
   simp only [decide_eq_false_iff_not] at h1 h2
   exact Fin.ext (h.d x.val y.val x.isLt y.isLt (by omega))) 160 1 (getD' [capB [lR l]]) 3 (List.finRange l.length) (fun _ x y => zo7 l h x.val y.val x.isLt y.isLt) (by rw [List.length_finRange]; exact hn)
  rw [List.length_finRange] at hs
  have e1 : upN l.length = (List.finRange l.length).map fun x : Fin l.length => (x.val : Int) := by
   show ((List.range l.length).map fun i : Nat => (i : Int)) = _
   apply List.ext_getElem
   ·rw [List.length_map, List.length_map, List.length_range, List.length_finRange]
   ·intro i h1 h2
    rw [List.getElem_map, List.getElem_map, List.getElem_range, List.getElem_finRange]; rfl
  have e2 : (ordF l) = (List.finRange l.length).mergeSort fun x y => !(ltOf fun x y : Fin l.length => (l.getD x.val default).ID - (l.getD y.val default).ID) y x := by
   refine congrArg (fun r => (List.finRange l.length).mergeSort r) (funext fun x => funext fun y => ?_)
   rw [hlt, Bool.eq_iff_iff]; simp
  refine hs.congr (fun m hm j hj => ?_) (fun m hm j hj => ?_)
  ·rw [e1]
   exact (zjF _ _ m (by rw [List.length_finRange]; exact hm) j hj)
  ·rw [<- e2]
   exact (zjF _ _ m (by unfold ordF; rw [List.length_mergeSort, List.length_finRange]; exact hm) j hj)
theorem ze4 (l : List Rpt) : (ordL l).length = l.length := by unfold ordL ordF; simp
theorem zqo (l : List Rpt) (h : IdsOk l) (hn : l.length <= 1000000) : Spec PP 75 [.d (lR l)] [.d (lI (ordL l))] := by
 refine sA Tryz.func75 ?_
 refine LoopOb.of (σ := Nat) (fun i => ([(1, .roe 1 (getD' [lR l])), (3, .own 3), (6, .d (I l.length)), (7, .d (I i))], [(3, .row 3 1 i (rowI (upN i)))])) (fun i => i <= l.length) (fun i => l.length - i) 0
  ⟨rfl, ⟨obR rfl ⟨rfl, .inl rfl⟩, trivial⟩, zqV [lR l] rfl rfl rfl rfl, wq rfl⟩ (Nat.zero_le _) fun i hi => ?_
 apply bY <;> intro h2
 ·have h2 : i < l.length := by have := dT h2; omega
  refine ⟨⟨.inr rfl, by unfold maxLen; omega, by show (i + 1) * 8 <= 140737488355328; omega⟩, ?_⟩
  refine ⟨i6, ?_⟩
  refine ⟨i + 1, ⟨rfl, ⟨obR rfl ?_, trivial⟩, wq rfl⟩, h2, (msr (by omega))⟩
  have key : ∀ g : Nat -> Nat -> D, g 0 0 = I (i : Int) -> D.eqv (.slc 1 (i + 1) (appRow i (rowI (upN i)) g)) (.slc 1 (i + 1) (rowI (upN (i + 1)))) := fun g hg => by
   have e := zlT (vs := upN i) (a := (i : Int)) (g := g) hg
   rw [<- zls, zi6, zi6] at e
   exact e
  exact key _ rfl
 ·have h2 : i = l.length := by have := dF h2; omega
  subst h2
  refine CallSt.rw' rfl (zlS l h hn) ⟨⟨[], .tmp 15, [.tmp 16], [], rfl, rfl, rfl, rfl, rfl, rfl, rfl⟩⟩ rfl ?_
  refine ⟨⟨_, _, _, _, rfl, ?_⟩, trivial⟩
  exact ⟨(ze4 l).symm, .inr ⟨rfl, fun i _ j _ => dE _⟩⟩
theorem zhF {l : List Rpt} : ∀ j ∈ ordL l, 0 <= j /\ j < l.length := fun j hj => by
 unfold ordL at hj
 obtain ⟨x, _, rfl⟩ := List.mem_map.1 hj
 have := x.isLt
 omega
end Go.Pg
