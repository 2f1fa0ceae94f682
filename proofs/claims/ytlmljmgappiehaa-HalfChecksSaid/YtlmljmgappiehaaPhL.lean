/-
  Contracts: Best.
-/
import Derived.Test.YtlmljmgappiehaaPhK
set_option linter.all false
set_option maxRecDepth 100000
namespace Go.Pg
open Go.Proofs Go.RowKit

/-- A bound. -/
structure Bound where
  V : Frac
  At : Corner
  Scale : Int
  Uses : List Use
  deriving DecidableEq, Inhabited
abbrev Bound.v (b : Bound) : V1 := .agg [I b.V.Num, I b.V.Den, I b.At.X, I b.At.Y, I b.At.Den, I b.Scale, .slc 2 b.Uses.length (rowU b.Uses)]
def noBound : Bound := ⟨⟨0, 0⟩, ⟨0, 0, 0⟩, 0, []⟩
def stepB (f : Form) (a p : Corner) : Corner := if less (value f a) (value f p) < 0 then p else a
@[irreducible] def bestTo (f : Form) (l : List Corner) (i : Nat) : Corner := (l.take i).foldl (stepB f) (l.getD 0 default)
@[irreducible] def bestAt (f : Form) (l : List Corner) : Corner := bestTo f l l.length
theorem bestTo_zero (f : Form) (l : List Corner) : bestTo f l 0 = l.getD 0 default := by unfold bestTo; rfl
theorem bestTo_succ (f : Form) (l : List Corner) {i : Nat} (h : i < l.length) : bestTo f l (i + 1) = stepB f (bestTo f l i) (l.getD i default) := by
  unfold bestTo
  rw [take1 h default, List.foldl_append]; rfl
theorem bestTo_mem (f : Form) (l : List Corner) (h0 : 0 < l.length) : ∀ i, i ≤ l.length → bestTo f l i ∈ l
  | 0, _ => by rw [bestTo_zero]; exact gd1 h0 default
  | i + 1, h => by
    rw [bestTo_succ f l (by omega)]
    unfold stepB
    split
    · exact gd1 (by omega) default
    · exact bestTo_mem f l h0 i (by omega)
@[irreducible] def usesB (f : Form) (a : Corner) (x : Num × Num) : Option (Int × List Use) :=
  if (tight x.1.h a = true ∧ tight x.2.h a = true) ∧ 0 ≤ flip (det x.1.h x.2.h) (f.X * x.2.h.B - f.Y * x.2.h.A) ∧ 0 ≤ flip (det x.1.h x.2.h) (f.Y * x.1.h.A - f.X * x.1.h.B) then
    some (flip (det x.1.h x.2.h) (det x.1.h x.2.h), usedL [⟨x.1.n, flip (det x.1.h x.2.h) (f.X * x.2.h.B - f.Y * x.2.h.A)⟩, ⟨x.2.n, flip (det x.1.h x.2.h) (f.Y * x.1.h.A - f.X * x.1.h.B)⟩]) else none
theorem usesB_no {f : Form} {a : Corner} {x : Num × Num} (h : ¬ ((tight x.1.h a = true ∧ tight x.2.h a = true) ∧ 0 ≤ flip (det x.1.h x.2.h) (f.X * x.2.h.B - f.Y * x.2.h.A) ∧ 0 ≤ flip (det x.1.h x.2.h) (f.Y * x.1.h.A - f.X * x.1.h.B))) : usesB f a x = none := by unfold usesB; rw [if_neg h]
theorem usesB_yes {f : Form} {a : Corner} {x : Num × Num} {d s t : Int} (h1 : tight x.1.h a = true) (h2 : tight x.2.h a = true) (ed : flip (det x.1.h x.2.h) (det x.1.h x.2.h) = d) (es : flip (det x.1.h x.2.h) (f.X * x.2.h.B - f.Y * x.2.h.A) = s) (et : flip (det x.1.h x.2.h) (f.Y * x.1.h.A - f.X * x.1.h.B) = t) (h3 : 0 ≤ s) (h4 : 0 ≤ t) :
    usesB f a x = some (d, usedL [⟨x.1.n, s⟩, ⟨x.2.n, t⟩]) := by
  subst ed es et; unfold usesB; rw [if_pos ⟨⟨h1, h2⟩, h3, h4⟩]
theorem pre_no {α β : Type} {g : α → Option β} {pre : List α} {x : α} (h : pre.findSome? g = none) (hx : g x = none) : (pre ++ [x]).findSome? g = none := by
  rw [List.findSome?_append, h]; simp [hx]
theorem pre_yes {α β : Type} {g : α → Option β} {pre xs : List α} {x : α} {y : β} (hp : pre ++ [x] <+: xs) (h : pre.findSome? g = none) (hx : g x = some y) : xs.findSome? g = some y := by
  obtain ⟨r, rfl⟩ := hp
  rw [List.findSome?_append, List.findSome?_append, h]; simp [hx]
@[irreducible] def bestE (l : List Half) (f : Form) : Bound × Int :=
  if checkL l = 0 then
    if slope f.X f.Y = true then
      if cornersL l = [] then (noBound, 9)
      else if f = ⟨0, 0⟩ then (⟨value f (bestAt f (cornersL l)), bestAt f (cornersL l), 1, []⟩, 0)
      else match (pairsL (allL l)).findSome? (usesB f (bestAt f (cornersL l))) with
        | some (d, u) => (⟨value f (bestAt f (cornersL l)), bestAt f (cornersL l), d, u⟩, 0)
        | none => (⟨value f (bestAt f (cornersL l)), bestAt f (cornersL l), 1, []⟩, 0)
    else (noBound, 1)
  else (noBound, checkL l)
theorem avles_rfl {s : St} {ob : Nat → Option Ob} : ∀ cs : List AV, avles s ob cs cs
  | [] => trivial
  | c :: cs => ⟨AVle_refl s ob c, avles_rfl cs⟩
theorem obX {s : St} {ob : Nat → Option Ob} {cs : List AV} {o : Option Ob} (h : o = some (.box cs)) : Oble s ob o (.box cs) := by subst h; exact avles_rfl cs
/-- The last cell becomes plain data. -/
theorem ob7 {s : St} {ob : Nat → Option Ob} {a b c d e f : AV} {i e' k n : Nat} {g : Nat → Nat → D} {y : D} {o : Option Ob} (h : o = some (.box [a, b, c, d, e, f, .own i])) (h1 : s.ob i = some (.row e' k n g)) (h2 : ob i = none) (q : D.eqv (.slc k n g) y) : Oble s ob o (.box [a, b, c, d, e, f, .d y]) := by
  subst h
  exact ⟨AVle_refl _ _ _, AVle_refl _ _ _, AVle_refl _ _ _, AVle_refl _ _ _, AVle_refl _ _ _, AVle_refl _ _ _, ⟨h2, _, _, _, _, h1, q⟩, trivial⟩
theorem eqvB {a b c d e f : Int} {x y : D} (h : D.eqv x y) : eqvs [I a, I b, I c, I d, I e, I f, x] [I a, I b, I c, I d, I e, I f, y] := ⟨D.eqv_refl _, D.eqv_refl _, D.eqv_refl _, D.eqv_refl _, D.eqv_refl _, D.eqv_refl _, h, trivial⟩
theorem eqvBn {a b c d e f : Int} {k : Nat} {g g' : Nat → Nat → D} : eqvs [I a, I b, I c, I d, I e, I f, .slc k 0 g] [I a, I b, I c, I d, I e, I f, .slc 2 ([] : List Use).length g'] := ⟨D.eqv_refl _, D.eqv_refl _, D.eqv_refl _, D.eqv_refl _, D.eqv_refl _, D.eqv_refl _, ⟨rfl, .inl rfl⟩, trivial⟩
theorem rowU2 {a b c d : Int} : ∀ m, m < [(⟨a, b⟩ : Use), ⟨c, d⟩].length → ∀ j, j < 2 → rowOf 2 [I a, I b, I c, I d] m j = rowU [⟨a, b⟩, ⟨c, d⟩] m j := fun m hm j hj => by
  match m, j, hm, hj with
  | 0, 0, _, _ => rfl
  | 0, 1, _, _ => rfl
  | 1, 0, _, _ => rfl
  | 1, 1, _, _ => rfl
theorem cornersL_ok {l : List Half} (hl : ∀ x ∈ l, okH x) : ∀ q ∈ cornersL l, valid q = true := fun q hq => by
  unfold cornersL at hq
  have sub : ∀ {m : List Corner} {q : Corner}, q ∈ hullL m → q ∈ m := fun {m q} h => by
    unfold hullL at h
    have hh : ∀ {m : List Corner} {q : Corner}, q ∈ halfL m → q ∈ m := fun {m q} h => by
      unfold halfL at h
      have := (chainR_mem m m.length (Nat.le_refl _)).1 q
      rw [List.take_length] at this
      exact this (List.mem_of_mem_tail (List.mem_reverse.1 h))
    split at h
    · exact h
    · rcases List.mem_append.1 h with h | h
      · exact hh h
      · exact List.mem_reverse.1 (hh h)
  have h2 := compL_mem (sub hq)
  unfold sortedL at h2
  obtain ⟨p, _, rfl⟩ := List.mem_map.1 h2
  exact p.2
theorem cornersL_len {l : List Half} (hn : l.length ≤ 60) : (cornersL l).length ≤ 8192 := by
  have hl := allL_len l
  have h1 : (sortedL l).length ≤ 4096 := by
    unfold sortedL
    rw [List.length_map, sortV_len]
    exact Nat.le_trans (ptsV_len l _) (Nat.le_trans (pairsL_len _) (Nat.mul_le_mul (show (allL l).length ≤ 64 by omega) (show (allL l).length ≤ 64 by omega)))
  have h2 := compL_len (sortedL l)
  have h3 := halfL_len (compL (sortedL l))
  have h4 := halfL_len (compL (sortedL l)).reverse
  rw [List.length_reverse] at h4
  unfold cornersL hullL
  split
  · omega
  · rw [List.length_append]; omega
set_option maxHeartbeats 4000000 in
theorem s_Best (l : List Half) (f : Form) : Spec PP 25 [slH l, f.v] [(bestE l f).1.v, N (bestE l f).2] := by
  refine spec_at Try.func25 rfl (by kernel_rfl) rfl ?_
  refine CallSt.pure (s_Check l) rfl rfl ?_
  refine Split.by (fun h0 => ?_) (fun h0 => ?_)
  · have h0 : checkL l ≠ 0 := by simpa using h0
    have e : bestE l f = (noBound, checkL l) := by unfold bestE; rw [if_neg h0]
    rw [e]
    exact r2CI rfl rfl rfl rfl rfl rfl rfl (eqvBn) rfl
  have h0 : checkL l = 0 := by simpa using h0
  obtain ⟨n1, n2, n3⟩ := checkL_ok h0
  refine CallSt.pure (s_slope f.X f.Y) rfl rfl ?_
  refine Split.by (fun hs => ?_) (fun hs => ?_)
  · have hs : ¬ slope f.X f.Y = true := by simpa using hs
    have e : bestE l f = (noBound, 1) := by unfold bestE; rw [if_pos h0, if_neg hs]
    rw [e]
    exact r2CI rfl rfl rfl rfl rfl rfl rfl (eqvBn) rfl
  have hs : slope f.X f.Y = true := by simpa using hs
  have of := okF_of hs
  refine CallSt.ro (s_corners l n3 (by omega)) rfl rfl ?_
  refine Split.by (fun hc => ?_) (fun hc => ?_)
  · have hc : cornersL l = [] := by
      have : (cornersL l).length = 0 := by simpa using hc
      exact List.length_eq_zero_iff.1 this
    have e : bestE l f = (noBound, 9) := by unfold bestE; rw [if_pos h0, if_pos hs, if_pos hc]
    rw [e]
    exact r2CI rfl rfl rfl rfl rfl rfl rfl (eqvBn) rfl
  have hc : cornersL l ≠ [] := fun hh => by rw [hh] at hc; cases hc
  have hpos : 0 < (cornersL l).length := List.length_pos_iff.2 hc
  have hcl := cornersL_len (l := l) (by omega)
  have hcv := cornersL_ok n3
  have hat : ∀ i, i ≤ (cornersL l).length → okC (bestTo f (cornersL l) i) := fun i hi => okC_of (hcv _ (bestTo_mem f _ hpos i hi))
  refine ⟨⟨rfl, by omega, by omega⟩, ?_⟩
  refine LoopOb.of (σ := Nat) (fun i => ([(0, avOf (slH l)), (3, .box 3 0), (4, .box 4 0), (7, avOf (slC (cornersL l))), (8, .box 8 0), (39, avOf (slC (cornersL l))), (40, .d (I (cornersL l).length)), (41, .d (I i))], [(3, .box [.d (I f.X), .d (I f.Y)]), (4, .box [.d (I 0), .d (I 0), .d (I 0), .d (I 0), .d (I 0), .d (I 0), .nilsl]), (8, .box [.d (I (bestTo f (cornersL l) i).X), .d (I (bestTo f (cornersL l) i).Y), .d (I (bestTo f (cornersL l) i).Den)])])) (fun i => i ≤ (cornersL l).length) (fun i => (cornersL l).length - i) 0
    ⟨rfl, ⟨obX rfl, obX rfl, ?_, trivial⟩, avR _ rfl, avQ rfl, avQ rfl, avR _ rfl, avQ rfl, avR _ rfl, avR _ rfl, avR _ rfl, trivial⟩ (Nat.zero_le _) fun i hi => ?_
  · rw [bestTo_zero]; exact obX rfl
  refine Split.by (fun h1 => ?_) (fun h1 => ?_)
  · have h1 : i < (cornersL l).length := by simpa using h1
    refine ⟨⟨rfl, by omega, by omega⟩, ?_⟩
    refine Exists.intro (List.range 8) (And.intro (by kernel_rfl) (FzOb.no ?_))
    refine CallOb.pure (s_value f (bestTo f (cornersL l) i) of (hat i hi)) rfl rfl ?_
    refine CallOb.pure (s_value f ((cornersL l).getD i default) of (okC_of (hcv _ (gd1 h1 default)))) rfl rfl ?_
    refine CallOb.pure (s_Less _ _) rfl rfl ?_
    refine Split.by (fun h2 => ?_) (fun h2 => ?_)
    · have e : bestTo f (cornersL l) (i + 1) = (cornersL l).getD i default := by rw [bestTo_succ f _ h1]; unfold stepB; rw [if_pos (dT h2)]
      refine ⟨inI64 (by omega) (by omega), ?_⟩
      refine ⟨i + 1, ⟨rfl, ⟨obX rfl, obX rfl, ?_, trivial⟩, avR _ rfl, avQ rfl, avQ rfl, avR _ rfl, avQ rfl, avR _ rfl, avR _ rfl, avI rfl rfl, trivial⟩, h1, ?_⟩
      · rw [e]; exact obX rfl
      · show (cornersL l).length - (i + 1) < (cornersL l).length - i
        omega
    · have e : bestTo f (cornersL l) (i + 1) = bestTo f (cornersL l) i := by rw [bestTo_succ f _ h1]; unfold stepB; rw [if_neg (dF h2)]
      refine ⟨inI64 (by omega) (by omega), ?_⟩
      refine ⟨i + 1, ⟨rfl, ⟨obX rfl, obX rfl, ?_, trivial⟩, avR _ rfl, avQ rfl, avQ rfl, avR _ rfl, avQ rfl, avR _ rfl, avR _ rfl, avI rfl rfl, trivial⟩, h1, ?_⟩
      · rw [e]; exact obX rfl
      · show (cornersL l).length - (i + 1) < (cornersL l).length - i
        omega
  have h1 : i = (cornersL l).length := by
    have : ¬ i < (cornersL l).length := by simpa using h1
    omega
  have eat : bestTo f (cornersL l) i = (bestAt f (cornersL l)) := by rw [h1]; unfold bestAt; rfl
  have oat : okC (bestAt f (cornersL l)) := by rw [← eat]; exact hat i hi
  rw [eat]
  refine Exists.intro (List.range 7) (And.intro (by kernel_rfl) (FzOb.no ?_))
  refine CallOb.pure (s_value f (bestAt f (cornersL l)) of oat) rfl rfl ?_
  refine Split.by (fun hz => ?_) (fun hz => ?_)
  · have hz : f = ⟨0, 0⟩ := by
      simp only [Bool.and_eq_true, beq_iff_eq, and_true] at hz
      cases f; simp_all
    have e : bestE l f = (⟨value f (bestAt f (cornersL l)), (bestAt f (cornersL l)), 1, []⟩, 0) := by unfold bestE; rw [if_pos h0, if_pos hs, if_neg hc, if_pos hz]
    rw [e]
    exact r2CI rfl rfl rfl rfl rfl rfl rfl (eqvBn) rfl
  have hz : f ≠ ⟨0, 0⟩ := fun hh => by subst hh; cases hz
  have hall := allL_ok n3
  have hlen := allL_len l
  refine CallSt.ro (s_all l (by omega)) rfl rfl ?_
  refine CallSt.ro (s_pairs (allL l)) rfl rfl ?_
  refine CodeOb.rangeAt (s_pairs1 (allL l) hall (by omega)) rfl pairsEnc val_pair (fun _ => rfl) (by decide) [(3, .box 3 0), (4, .box 4 0), (8, .box 8 0), (11, .box 11 0)] [] (fun _ => [(3, .box [.d (I f.X), .d (I f.Y)]), (4, .box [.d (I 0), .d (I 0), .d (I 0), .d (I 0), .d (I 0), .d (I 0), .nilsl]), (8, .box [.d (I (bestAt f (cornersL l)).X), .d (I (bestAt f (cornersL l)).Y), .d (I (bestAt f (cornersL l)).Den)]), (11, .box [.d (I (value f (bestAt f (cornersL l))).Num), .d (I (value f (bestAt f (cornersL l))).Den), .d (I (bestAt f (cornersL l)).X), .d (I (bestAt f (cornersL l)).Y), .d (I (bestAt f (cornersL l)).Den), .d (I (1)), .d (.slc 0 0 fun _ _ => dflt)])]) rfl (fun _ => rfl) ?_ (Iv := fun pre => pre.findSome? (usesB f (bestAt f (cornersL l))) = none) rfl (fun v pre x hx hI => ?_) (fun hI => ?_)
  · exact ⟨rfl, ⟨obX rfl, obX rfl, obX rfl, obX rfl, trivial⟩, avQ rfl, avQ rfl, avQ rfl, avQ rfl, trivial⟩
  · have hxm : x ∈ pairsL (allL l) := hx.subset (by simp)
    obtain ⟨m1, m2, m3⟩ := pairsL_mem hxm
    have o1 := hall _ m1
    have o2 := hall _ m2
    have dd := det_bd o1 o2
    have b1 := mulB of.x o2.b
    have b2 := mulB of.y o2.a
    have b3 := mulB of.y o1.a
    have b4 := mulB of.x o1.b
    refine CallSt.pure (s_tight x.1.h (bestAt f (cornersL l)) o1 oat) rfl rfl ?_
    refine Split.by (fun h3 => ?_) (fun h3 => ?_)
    · have h3 : tight x.1.h (bestAt f (cornersL l)) = false := by simpa using h3
      refine Split.tt ?_
      refine Split.tt ?_
      exact ⟨pre_no hI (usesB_no fun hh => by rw [hh.1.1] at h3; cases h3), rfl, ⟨obX rfl, obX rfl, obX rfl, obX rfl, trivial⟩, avQ rfl, avQ rfl, avQ rfl, avQ rfl, trivial⟩
    have h3 : tight x.1.h (bestAt f (cornersL l)) = true := by simpa using h3
    refine CallSt.pure (s_tight x.2.h (bestAt f (cornersL l)) o2 oat) rfl rfl ?_
    refine Split.ff ?_
    refine Split.by (fun h4 => ?_) (fun h4 => ?_)
    · have h4 : tight x.2.h (bestAt f (cornersL l)) = false := by simpa using h4
      exact ⟨pre_no hI (usesB_no fun hh => by rw [hh.1.2] at h4; cases h4), rfl, ⟨obX rfl, obX rfl, obX rfl, obX rfl, trivial⟩, avQ rfl, avQ rfl, avQ rfl, avQ rfl, trivial⟩
    have h4 : tight x.2.h (bestAt f (cornersL l)) = true := by simpa using h4
    refine CallSt.pure (s_det x.1.h x.2.h o1 o2) rfl rfl ?_
    refine Exists.intro (List.range 28) (And.intro (by kernel_rfl) (FzOb.no ?_))
    refine ⟨inI64 (by omega) (by omega), ⟨inI64 (by omega) (by omega), ⟨inI64 (by omega) (by omega), ⟨inI64 (by omega) (by omega), ⟨inI64 (by omega) (by omega), ⟨inI64 (by omega) (by omega), ?_⟩⟩⟩⟩⟩⟩
    refine Split.by (fun h5 => ?_) (fun h5 => ?_)
    · have h5 : det x.1.h x.2.h < 0 := dT h5
      refine ⟨inI64 (by omega) (by omega), ⟨inI64 (by omega) (by omega), ⟨inI64 (by omega) (by omega), ?_⟩⟩⟩
      have ed : flip (det x.1.h x.2.h) (det x.1.h x.2.h) = -det x.1.h x.2.h := flip_neg h5
      have es : flip (det x.1.h x.2.h) (f.X * x.2.h.B - f.Y * x.2.h.A) = -(f.X * x.2.h.B - f.Y * x.2.h.A) := flip_neg h5
      have et : flip (det x.1.h x.2.h) (f.Y * x.1.h.A - f.X * x.1.h.B) = -(f.Y * x.1.h.A - f.X * x.1.h.B) := flip_neg h5
      refine Split.by (fun h6 => ?_) (fun h6 => ?_)
      · refine Split.tt ?_
        refine Split.by (fun h7 => ?_) (fun h7 => ?_)
        · refine CallSt.tk rfl ((t_used [⟨x.1.n, -(f.X * x.2.h.B - f.Y * x.2.h.A)⟩, ⟨x.2.n, -(f.Y * x.1.h.A - f.X * x.1.h.B)⟩] (Nat.le_of_ble_eq_true rfl)).congr rowU2) ⟨⟨[], .tmp 135, [], [], rfl, rfl, rfl, rfl, rfl, rfl, rfl⟩⟩ rfl ?_
          have hf := pre_yes hx hI (usesB_yes h3 h4 ed es et (dT h6) (dT h7))
          refine ⟨[(3, .box [.d (I f.X), .d (I f.Y)]), (4, .box [.d (I 0), .d (I 0), .d (I 0), .d (I 0), .d (I 0), .d (I 0), .nilsl]), (8, .box [.d (I (bestAt f (cornersL l)).X), .d (I (bestAt f (cornersL l)).Y), .d (I (bestAt f (cornersL l)).Den)]), (11, .box [.d (I (value f (bestAt f (cornersL l))).Num), .d (I (value f (bestAt f (cornersL l))).Den), .d (I (bestAt f (cornersL l)).X), .d (I (bestAt f (cornersL l)).Y), .d (I (bestAt f (cornersL l)).Den), .d (I (-det x.1.h x.2.h)), .d (.slc 2 (usedL [⟨x.1.n, -(f.X * x.2.h.B - f.Y * x.2.h.A)⟩, ⟨x.2.n, -(f.Y * x.1.h.A - f.X * x.1.h.B)⟩]).length (rowU (usedL [⟨x.1.n, -(f.X * x.2.h.B - f.Y * x.2.h.A)⟩, ⟨x.2.n, -(f.Y * x.1.h.A - f.X * x.1.h.B)⟩])))])], rfl, ⟨rfl, ⟨obX rfl, obX rfl, obX rfl, ?_, trivial⟩, avQ rfl, avQ rfl, avQ rfl, avQ rfl, trivial⟩, ?_⟩
          · exact ob7 rfl rfl rfl (D.eqv_refl _)
          · have e : bestE l f = (⟨value f (bestAt f (cornersL l)), (bestAt f (cornersL l)), -det x.1.h x.2.h, usedL [⟨x.1.n, -(f.X * x.2.h.B - f.Y * x.2.h.A)⟩, ⟨x.2.n, -(f.Y * x.1.h.A - f.X * x.1.h.B)⟩]⟩, 0) := by unfold bestE; rw [if_pos h0, if_pos hs, if_neg hc, if_neg hz, hf]
            rw [e]
            exact r2CI rfl rfl rfl rfl rfl rfl rfl (eqvB (D.eqv_refl _)) rfl
        · exact ⟨pre_no hI (usesB_no fun hh => dF h7 (by rw [← et]; exact hh.2.2)), rfl, ⟨obX rfl, obX rfl, obX rfl, obX rfl, trivial⟩, avQ rfl, avQ rfl, avQ rfl, avQ rfl, trivial⟩
      · refine Split.ff ?_
        refine Split.ff ?_
        exact ⟨pre_no hI (usesB_no fun hh => dF h6 (by rw [← es]; exact hh.2.1)), rfl, ⟨obX rfl, obX rfl, obX rfl, obX rfl, trivial⟩, avQ rfl, avQ rfl, avQ rfl, avQ rfl, trivial⟩
    · have h5 : ¬ det x.1.h x.2.h < 0 := dF h5
      have ed : flip (det x.1.h x.2.h) (det x.1.h x.2.h) = det x.1.h x.2.h := flip_pos h5
      have es : flip (det x.1.h x.2.h) (f.X * x.2.h.B - f.Y * x.2.h.A) = (f.X * x.2.h.B - f.Y * x.2.h.A) := flip_pos h5
      have et : flip (det x.1.h x.2.h) (f.Y * x.1.h.A - f.X * x.1.h.B) = (f.Y * x.1.h.A - f.X * x.1.h.B) := flip_pos h5
      refine Split.by (fun h6 => ?_) (fun h6 => ?_)
      · refine Split.tt ?_
        refine Split.by (fun h7 => ?_) (fun h7 => ?_)
        · refine CallSt.tk rfl ((t_used [⟨x.1.n, (f.X * x.2.h.B - f.Y * x.2.h.A)⟩, ⟨x.2.n, (f.Y * x.1.h.A - f.X * x.1.h.B)⟩] (Nat.le_of_ble_eq_true rfl)).congr rowU2) ⟨⟨[], .tmp 135, [], [], rfl, rfl, rfl, rfl, rfl, rfl, rfl⟩⟩ rfl ?_
          have hf := pre_yes hx hI (usesB_yes h3 h4 ed es et (dT h6) (dT h7))
          refine ⟨[(3, .box [.d (I f.X), .d (I f.Y)]), (4, .box [.d (I 0), .d (I 0), .d (I 0), .d (I 0), .d (I 0), .d (I 0), .nilsl]), (8, .box [.d (I (bestAt f (cornersL l)).X), .d (I (bestAt f (cornersL l)).Y), .d (I (bestAt f (cornersL l)).Den)]), (11, .box [.d (I (value f (bestAt f (cornersL l))).Num), .d (I (value f (bestAt f (cornersL l))).Den), .d (I (bestAt f (cornersL l)).X), .d (I (bestAt f (cornersL l)).Y), .d (I (bestAt f (cornersL l)).Den), .d (I (det x.1.h x.2.h)), .d (.slc 2 (usedL [⟨x.1.n, (f.X * x.2.h.B - f.Y * x.2.h.A)⟩, ⟨x.2.n, (f.Y * x.1.h.A - f.X * x.1.h.B)⟩]).length (rowU (usedL [⟨x.1.n, (f.X * x.2.h.B - f.Y * x.2.h.A)⟩, ⟨x.2.n, (f.Y * x.1.h.A - f.X * x.1.h.B)⟩])))])], rfl, ⟨rfl, ⟨obX rfl, obX rfl, obX rfl, ?_, trivial⟩, avQ rfl, avQ rfl, avQ rfl, avQ rfl, trivial⟩, ?_⟩
          · exact ob7 rfl rfl rfl (D.eqv_refl _)
          · have e : bestE l f = (⟨value f (bestAt f (cornersL l)), (bestAt f (cornersL l)), det x.1.h x.2.h, usedL [⟨x.1.n, (f.X * x.2.h.B - f.Y * x.2.h.A)⟩, ⟨x.2.n, (f.Y * x.1.h.A - f.X * x.1.h.B)⟩]⟩, 0) := by unfold bestE; rw [if_pos h0, if_pos hs, if_neg hc, if_neg hz, hf]
            rw [e]
            exact r2CI rfl rfl rfl rfl rfl rfl rfl (eqvB (D.eqv_refl _)) rfl
        · exact ⟨pre_no hI (usesB_no fun hh => dF h7 (by rw [← et]; exact hh.2.2)), rfl, ⟨obX rfl, obX rfl, obX rfl, obX rfl, trivial⟩, avQ rfl, avQ rfl, avQ rfl, avQ rfl, trivial⟩
      · refine Split.ff ?_
        refine Split.ff ?_
        exact ⟨pre_no hI (usesB_no fun hh => dF h6 (by rw [← es]; exact hh.2.1)), rfl, ⟨obX rfl, obX rfl, obX rfl, obX rfl, trivial⟩, avQ rfl, avQ rfl, avQ rfl, avQ rfl, trivial⟩
  · have e : bestE l f = (⟨value f (bestAt f (cornersL l)), (bestAt f (cornersL l)), 1, []⟩, 0) := by unfold bestE; rw [if_pos h0, if_pos hs, if_neg hc, if_neg hz, hI]
    rw [e]
    exact r2CI rfl rfl rfl rfl rfl rfl rfl (eqvBn) rfl
end Go.Pg
