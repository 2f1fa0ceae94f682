/-
  What refuted finds: at most three uses of different half-planes, the sums of whose normals are 0, and whose sum of C is below 0. Plain lists.
-/
import Derived.Test.YtlmljmgappiehaaGreatKT
import Derived.Test.YtlmljmgappiehaaGreatKC
set_option linter.all false
namespace Go.Pg
open Go.Proofs Go.RowKit

def plusH (a : Half) (t : Int) (h : Half) : Half := ⟨a.A + t * h.A, a.B + t * h.B, a.C + t * h.C⟩
theorem ef_plus (a : Half) (t : Int) (h : Half) (q : Corner) : ef (plusH a t h) q = ef a q + t * ef h q := by unfold plusH ef; grind
/-- The half-plane with a number. -/
def useH (l : List Half) (n : Int) : Half := if n < 0 then sidesL.getD (-1 - n).toNat default else l.getD n.toNat default
def sumU (l : List Half) (U : List Use) : Half := U.foldl (fun a u => plusH a u.T (useH l u.H)) ⟨0, 0, 0⟩
theorem allL_use {l : List Half} {x : Num} (hx : x ∈ allL l) : x.h = useH l x.n ∧ -4 ≤ x.n ∧ x.n < l.length := by
  unfold allL at hx
  obtain ⟨i, hi, rfl⟩ := List.mem_map.1 hx
  have hi := List.mem_range.1 hi
  unfold allAt
  by_cases h : i < l.length
  · rw [if_pos h]
    refine ⟨?_, (by show -4 ≤ (i : Int); omega), (by show (i : Int) < _; omega)⟩
    show l.getD i default = useH l (i : Int)
    unfold useH
    rw [if_neg (by omega), Int.toNat_natCast]
  · rw [if_neg h]
    refine ⟨?_, (by show -4 ≤ -1 - ((i : Int) - l.length); omega), (by show -1 - ((i : Int) - l.length) < _; omega)⟩
    show sidesL.getD (i - l.length) default = useH l (-1 - ((i : Int) - l.length))
    unfold useH
    rw [if_pos (by omega)]
    congr 1; omega
/-- Uses that prove that a system is empty. -/
structure Prf (l : List Half) (U : List Use) : Prop where
  len : U.length ≤ 3
  ne : U ≠ []
  mem : ∀ u ∈ U, (-4 ≤ u.H ∧ u.H < l.length) ∧ 0 < u.T ∧ u.T ≤ 2000000
  dis : (U.map fun u => u.H).Nodup
  A : (sumU l U).A = 0
  B : (sumU l U).B = 0
  C : (sumU l U).C < 0
theorem det_bd2 {g h : Half} (hg : okH g) (hh : okH h) : -2000000 ≤ det g h ∧ det g h ≤ 2000000 := by
  have b1 := mulB hg.a hh.b
  have b2 := mulB hh.a hg.b
  rw [det_def]; omega
theorem nrm_bd {g : Half} (hg : okH g) : nrm g ≤ 1000 := by
  have := hg.a; have := hg.b
  unfold nrm; omega
theorem cert2_zero {g h : Half} (c : Cert2 g h) : (nrm h * g.A + nrm g * h.A = 0 ∧ nrm h * g.B + nrm g * h.B = 0) ∧ 0 < nrm g ∧ 0 < nrm h := by
  obtain ⟨c1, c2, c3⟩ := c
  rw [det_def] at c1
  have hgz : g.A ≠ 0 ∨ g.B ≠ 0 := by
    refine Classical.not_not.1 fun hn => ?_
    have e1 : g.A = 0 := by omega
    have e2 : g.B = 0 := by omega
    rw [e1, e2] at c2
    simp at c2
  have hhz : h.A ≠ 0 ∨ h.B ≠ 0 := by
    refine Classical.not_not.1 fun hn => ?_
    have e1 : h.A = 0 := by omega
    have e2 : h.B = 0 := by omega
    rw [e1, e2] at c2
    simp at c2
  have hp := sq_pos hgz
  have kA : (g.A * g.A + g.B * g.B) * h.A = -(-(g.A * h.A + g.B * h.B) * g.A) := by grind
  have kB : (g.A * g.A + g.B * g.B) * h.B = -(-(g.A * h.A + g.B * h.B) * g.B) := by grind
  have hn := nrm_scale (h := g) (j := h) (b := -(g.A * h.A + g.B * h.B)) (d := g.A * g.A + g.B * g.B) (by omega) hp kA kB
  have zA : (g.A * g.A + g.B * g.B) * (nrm h * g.A + nrm g * h.A) = 0 := by grind
  have zB : (g.A * g.A + g.B * g.B) * (nrm h * g.B + nrm g * h.B) = 0 := by grind
  refine ⟨⟨?_, ?_⟩, (by unfold nrm; omega), (by unfold nrm; omega)⟩
  · rcases Int.mul_eq_zero.1 zA with e | e
    · omega
    · exact e
  · rcases Int.mul_eq_zero.1 zB with e | e
    · omega
    · exact e
theorem num_inj {l : List Half} {x y : Num} (hx : x ∈ allL l) (hy : y ∈ allL l) (h : x.h ≠ y.h) : x.n ≠ y.n := fun e => h (by rw [(allL_use hx).1, (allL_use hy).1, e])
theorem ref_prf {l : List Half} (hl : ∀ x ∈ l, okH x) (h : refL l ≠ []) : Prf l (refL l) := by
  have hok := allL_ok hl
  obtain ⟨x, y, hx, hy, hc⟩ := ref_found h
  have ux := allL_use hx
  have uy := allL_use hy
  rcases hc with hc | ⟨z, hz, hc⟩
  · have c : Cert2 x.h y.h := (two_iff x y).1 (by rw [hc]; exact fun e => by cases e)
    obtain ⟨⟨zA, zB⟩, p1, p2⟩ := cert2_zero c
    have b1 := nrm_bd (hok x hx)
    have b2 := nrm_bd (hok y hy)
    have hne := num_inj hx hy (cert2_ne c)
    have e : refL l = [⟨x.n, nrm y.h⟩, ⟨y.n, nrm x.h⟩] := by
      unfold two at hc
      split at hc
      · rename_i h1
        have ho := h1.1
        unfold scS scT at hc
        rw [if_pos ho, if_pos ho, most_nrm, most_nrm] at hc
        exact (Option.some.inj hc).symm
      · cases hc
    rw [e]
    have es : sumU l [⟨x.n, nrm y.h⟩, ⟨y.n, nrm x.h⟩] = ⟨nrm y.h * x.h.A + nrm x.h * y.h.A, nrm y.h * x.h.B + nrm x.h * y.h.B, nrm y.h * x.h.C + nrm x.h * y.h.C⟩ := by
      simp only [sumU, List.foldl, plusH, ← ux.1, ← uy.1, Int.zero_add]
    refine ⟨by simp, by simp, fun u hu => ?_, by simpa using hne, by rw [es]; exact zA, by rw [es]; exact zB, by rw [es]; exact c.2.2⟩
    simp only [List.mem_cons, List.not_mem_nil, or_false] at hu
    rcases hu with rfl | rfl
    · exact ⟨ux.2, p2, (by show nrm y.h ≤ 2000000; omega)⟩
    · exact ⟨uy.2, p1, (by show nrm x.h ≤ 2000000; omega)⟩
  · have uz := allL_use hz
    have c : Tri x.h y.h z.h := (three_iff x y z).1 (by rw [hc]; exact fun e => by cases e)
    have d1 := det_bd2 (hok y hy) (hok z hz)
    have d2 := det_bd2 (hok z hz) (hok x hx)
    have d3 := det_bd2 (hok x hx) (hok y hy)
    have hpos : (0 < triA x.h y.h z.h ∧ 0 < triB x.h y.h z.h ∧ 0 < triC x.h y.h z.h) ∧ triA x.h y.h z.h * x.h.C + triB x.h y.h z.h * y.h.C + triC x.h y.h z.h * z.h.C < 0 := by
      unfold three at hc
      split at hc
      · rename_i h1; exact h1
      · cases hc
    have e : refL l = [⟨x.n, triA x.h y.h z.h⟩, ⟨y.n, triB x.h y.h z.h⟩, ⟨z.n, triC x.h y.h z.h⟩] := by
      unfold three at hc
      rw [if_pos hpos] at hc
      exact (Option.some.inj hc).symm
    have hdet : det x.h y.h ≠ 0 ∧ det y.h z.h ≠ 0 ∧ det z.h x.h ≠ 0 := by
      rcases c with ⟨c1, c2, c3, _⟩ | ⟨c1, c2, c3, _⟩
      · omega
      · rw [det_swap] at c1 c2 c3; omega
    have n1 : x.n ≠ y.n := num_inj hx hy fun e => hdet.1 (by rw [e, det_self])
    have n2 : y.n ≠ z.n := num_inj hy hz fun e => hdet.2.1 (by rw [e, det_self])
    have n3 : z.n ≠ x.n := num_inj hz hx fun e => hdet.2.2 (by rw [e, det_self])
    have bd : (triA x.h y.h z.h ≤ 2000000 ∧ triB x.h y.h z.h ≤ 2000000 ∧ triC x.h y.h z.h ≤ 2000000) ∧
        triA x.h y.h z.h * x.h.A + triB x.h y.h z.h * y.h.A + triC x.h y.h z.h * z.h.A = 0 ∧ triA x.h y.h z.h * x.h.B + triB x.h y.h z.h * y.h.B + triC x.h y.h z.h * z.h.B = 0 := by
      unfold triA triB triC flip
      split
      · refine ⟨⟨by omega, by omega, by omega⟩, ?_, ?_⟩ <;> · simp only [det_def]; grind
      · refine ⟨⟨by omega, by omega, by omega⟩, ?_, ?_⟩ <;> · simp only [det_def]; grind
    rw [e]
    have es : sumU l [⟨x.n, triA x.h y.h z.h⟩, ⟨y.n, triB x.h y.h z.h⟩, ⟨z.n, triC x.h y.h z.h⟩] = ⟨triA x.h y.h z.h * x.h.A + triB x.h y.h z.h * y.h.A + triC x.h y.h z.h * z.h.A, triA x.h y.h z.h * x.h.B + triB x.h y.h z.h * y.h.B + triC x.h y.h z.h * z.h.B, triA x.h y.h z.h * x.h.C + triB x.h y.h z.h * y.h.C + triC x.h y.h z.h * z.h.C⟩ := by
      simp only [sumU, List.foldl, plusH, ← ux.1, ← uy.1, ← uz.1, Int.zero_add]
    refine ⟨by simp, by simp, fun u hu => ?_, ?_, by rw [es]; exact bd.2.1, by rw [es]; exact bd.2.2, by rw [es]; exact hpos.2⟩
    · simp only [List.mem_cons, List.not_mem_nil, or_false] at hu
      rcases hu with rfl | rfl | rfl
      · exact ⟨ux.2, hpos.1.1, bd.1.1⟩
      · exact ⟨uy.2, hpos.1.2.1, bd.1.2.1⟩
      · exact ⟨uz.2, hpos.1.2.2, bd.1.2.2⟩
    · simp only [List.map_cons, List.map_nil, List.nodup_cons, List.mem_cons, List.not_mem_nil, or_false, not_or, not_false_eq_true, List.nodup_nil, and_true]
      exact ⟨⟨n1, fun e => n3 e.symm⟩, n2⟩
end Go.Pg
/-
  Contracts: half.sum (it keeps a map of what it has seen).
-/
set_option linter.all false
set_option maxRecDepth 100000
namespace Go.Pg
open Go.Proofs Go.RowKit

theorem ret2CB {T : TT} {s : St} {a t i u : Nat} {ti : TI} {cs : List AV} {xs ys : List D} (h1 : s.sl a = .box i 0) (h2 : T t = some ti) (h3 : s.ob i = some (.box cs)) (h4 : Nat.beq cs.length ti.size = true) (h5 : ti.agg = true) (h6 : allD cs = some xs) {b c : Bool} (h7 : s.sl u = .d (.bool b)) (he : eqvs xs ys) (e : b = c) :
    RetAll T s [.cell a t, .tmp u] [.agg ys, .d (.bool c)] := ⟨rtC (a := a) h1 h2 h3 h4 h5 h6 he, rtB h7 e, trivial⟩
theorem obM {s : St} {ob : Nat → Option Ob} {ks ks' : List Int} {o : Option Ob} (h : o = some (.mp ks)) (e : ks = ks') : Oble s ob o (.mp ks') := by subst h; exact e
abbrev bxHs (h : Half) : Ob := .box [.d (I h.A), .d (I h.B), .d (I h.C)]
theorem obHs {s : St} {ob : Nat → Option Ob} {a b c : Int} {h : Half} {o : Option Ob} (g : o = some (.box [.d (I a), .d (I b), .d (I c)])) (e : (⟨a, b, c⟩ : Half) = h) : Oble s ob o (bxHs h) := by
  subst e; exact obD [I a, I b, I c] g
/-- May a use stand behind uses of ks? -/
def useOk (n : Nat) (u : Use) (ks : List Int) : Bool := within u.H (-4) ((n : Int) - 1) && !ks.contains u.H && within u.T 1 2097152
@[irreducible] def keysTo (U : List Use) (i : Nat) : List Int := (U.take i).map fun u => u.H
theorem keysTo_zero (U : List Use) : keysTo U 0 = [] := by unfold keysTo; rfl
theorem keysTo_succ (U : List Use) {i : Nat} (h : i < U.length) : keysTo U (i + 1) = keysTo U i ++ [(U.getD i default).H] := by
  unfold keysTo
  rw [take1 h default, List.map_append]; rfl
@[irreducible] def okTo (n : Nat) (U : List Use) (i : Nat) : Bool := (List.range i).all fun j => useOk n (U.getD j default) (keysTo U j)
theorem okTo_zero (n : Nat) (U : List Use) : okTo n U 0 = true := by unfold okTo; rfl
theorem okTo_succ (n : Nat) (U : List Use) (i : Nat) : okTo n U (i + 1) = (okTo n U i && useOk n (U.getD i default) (keysTo U i)) := by
  unfold okTo
  rw [List.range_succ, List.all_append]; simp
theorem okTo_no {n : Nat} {U : List Use} {i m : Nat} (hi : i < m) (h : useOk n (U.getD i default) (keysTo U i) = false) : okTo n U m = false := by
  unfold okTo
  exact List.all_eq_false.2 ⟨i, List.mem_range.2 hi, by rw [h]; decide⟩
@[irreducible] def formedL (n : Nat) (U : List Use) : Bool := decide (U.length ≤ 4) && okTo n U U.length
@[irreducible] def sumE (l : List Half) (U : List Use) : Half × Bool := if formedL l.length U = true then (sumU l U, true) else (⟨0, 0, 0⟩, false)
@[irreducible] def sumAt (l : List Half) (U : List Use) (i : Nat) : Half := sumU l (U.take i)
theorem sumAt_zero (l : List Half) (U : List Use) : sumAt l U 0 = ⟨0, 0, 0⟩ := by unfold sumAt; rfl
theorem sumAt_succ (l : List Half) (U : List Use) {i : Nat} (h : i < U.length) : sumAt l U (i + 1) = plusH (sumAt l U i) (U.getD i default).T (useH l (U.getD i default).H) := by
  unfold sumAt sumU
  rw [take1 h default, List.foldl_append]; rfl
theorem sumAt_all (l : List Half) (U : List Use) : sumAt l U U.length = sumU l U := by unfold sumAt; rw [List.take_length]
structure SmallU (i : Nat) (h : Half) : Prop where
  a : -(2097152000 * i : Int) ≤ h.A ∧ h.A ≤ 2097152000 * i
  b : -(2097152000 * i : Int) ≤ h.B ∧ h.B ≤ 2097152000 * i
  c : -(549755813888 * i : Int) ≤ h.C ∧ h.C ≤ 549755813888 * i
theorem prod_bdU {t : Int} {h : Half} (ht : 1 ≤ t ∧ t ≤ 2097152) (hh : okH h) : (-2097152000 ≤ t * h.A ∧ t * h.A ≤ 2097152000) ∧ (-2097152000 ≤ t * h.B ∧ t * h.B ≤ 2097152000) ∧ (-549755813888 ≤ t * h.C ∧ t * h.C ≤ 549755813888) := by
  have q : -2097152 ≤ t ∧ t ≤ 2097152 := by omega
  exact ⟨mulB q hh.a, mulB q hh.b, mulB q hh.c⟩
theorem SmallU.plus {i : Nat} {a h : Half} {t : Int} (s : SmallU i a) (ht : 1 ≤ t ∧ t ≤ 2097152) (hh : okH h) : SmallU (i + 1) (plusH a t h) := by
  obtain ⟨b1, b2, b3⟩ := prod_bdU ht hh
  have := s.a; have := s.b; have := s.c
  exact ⟨(by show _ ≤ a.A + t * h.A ∧ a.A + t * h.A ≤ _; omega), (by show _ ≤ a.B + t * h.B ∧ a.B + t * h.B ≤ _; omega), (by show _ ≤ a.C + t * h.C ∧ a.C + t * h.C ≤ _; omega)⟩
theorem plus_inU {i : Nat} {a h : Half} {t : Int} (hi : i ≤ 4) (s : SmallU i a) (ht : 1 ≤ t ∧ t ≤ 2097152) (hh : okH h) :
    inR .i64 (t * h.A) ∧ inR .i64 (a.A + t * h.A) ∧ inR .i64 (t * h.B) ∧ inR .i64 (a.B + t * h.B) ∧ inR .i64 (t * h.C) ∧ inR .i64 (a.C + t * h.C) := by
  obtain ⟨b1, b2, b3⟩ := prod_bdU ht hh
  have := s.a; have := s.b; have := s.c
  exact ⟨inI64 (by omega) (by omega), inI64 (by omega) (by omega), inI64 (by omega) (by omega), inI64 (by omega) (by omega), inI64 (by omega) (by omega), inI64 (by omega) (by omega)⟩
theorem useOk_parts {n : Nat} {u : Use} {ks : List Int} (h : useOk n u ks = true) : (-4 ≤ u.H ∧ u.H < n) ∧ ks.contains u.H = false ∧ 1 ≤ u.T ∧ u.T ≤ 2097152 := by
  unfold useOk at h
  simp only [Bool.and_eq_true, within_spec, Bool.not_eq_true'] at h
  exact ⟨⟨h.1.1.1, by omega⟩, h.1.2, h.2⟩
theorem useH_ok {l : List Half} (hl : ∀ x ∈ l, okH x) {n : Int} (h : -4 ≤ n ∧ n < l.length) : okH (useH l n) := by
  unfold useH
  split
  · rename_i hn
    have : sidesL.getD (-1 - n).toNat default ∈ sidesL := gd1 (by show (-1 - n).toNat < 4; omega) default
    have all : ∀ x ∈ sidesL, okH x := fun x hx => by
      simp only [sidesL, List.mem_cons, List.not_mem_nil, or_false] at hx
      rcases hx with rfl | rfl | rfl | rfl <;> exact ⟨by decide, by decide, by decide⟩
    exact all _ this
  · exact hl _ (gd1 (by omega) default)
theorem sum_small {l : List Half} (hl : ∀ x ∈ l, okH x) {U : List Use} : ∀ i, i ≤ U.length → okTo l.length U i = true → SmallU i (sumAt l U i)
  | 0, _, _ => by rw [sumAt_zero]; exact ⟨by decide, by decide, by decide⟩
  | i + 1, hi, h => by
    rw [okTo_succ, Bool.and_eq_true] at h
    obtain ⟨h1, h2⟩ := h
    obtain ⟨p1, p2, p3⟩ := useOk_parts h2
    rw [sumAt_succ l U (by omega)]
    exact (sum_small hl i (by omega) h1).plus p3 (useH_ok hl p1)
set_option maxHeartbeats 4000000 in
theorem s_sum (l : List Half) (U : List Use) (hl : ∀ x ∈ l, okH x) (hn : l.length ≤ 60) : Spec PP 87 [slH l, slU U] [(sumE l U).1.v, B (sumE l U).2] := by
  refine spec_at Tryz.func87 rfl (by kernel_rfl) rfl ?_
  refine Split.by (fun h1 => ?_) (fun h1 => ?_)
  · have h1 : 4 < U.length := by have := dT h1; omega
    have e : sumE l U = (⟨0, 0, 0⟩, false) := by unfold sumE formedL; rw [if_neg]; rw [Bool.and_eq_true, decide_eq_true_iff]; omega
    rw [e]
    exact ret2CB rfl rfl rfl rfl rfl rfl rfl (eqvs_refl _) rfl
  have h1 : U.length ≤ 4 := by have := dF h1; omega
  refine LoopOb.of (σ := Nat) (fun i => ([(0, avOf (slH l)), (4, .box 4 0), (6, .box 6 0), (7, .own 15), (16, avOf (slU U)), (17, .d (I U.length)), (18, .d (I i))], [(4, bxHs ⟨0, 0, 0⟩), (6, bxHs (sumAt l U i)), (15, .mp (keysTo U i))])) (fun i => i ≤ U.length ∧ okTo l.length U i = true) (fun i => U.length - i) 0
    ⟨rfl, ⟨obHs rfl rfl, obHs rfl (by rw [sumAt_zero]), obM rfl (by rw [keysTo_zero]), trivial⟩, avR _ rfl, avQ rfl, avQ rfl, avQ rfl, avR _ rfl, avR _ rfl, avR _ rfl, trivial⟩ ⟨Nat.zero_le _, okTo_zero _ _⟩ fun i hi => ?_
  obtain ⟨i1, i2⟩ := hi
  have sm := sum_small hl i i1 i2
  refine Split.by (fun g1 => ?_) (fun g1 => ?_)
  · have g1 : i < U.length := by have := dT g1; omega
    have bad : useOk l.length (U.getD i default) (keysTo U i) = false → sumE l U = (⟨0, 0, 0⟩, false) := fun h => by
      unfold sumE formedL; rw [if_neg]; rw [Bool.and_eq_true, okTo_no g1 h]; simp
    refine ⟨⟨rfl, by omega, by omega⟩, ?_⟩
    refine ⟨inI64 (by omega) (by omega), ?_⟩
    refine CallSt.pure (s_within (U.getD i default).H (-4) ((l.length : Int) - 1)) rfl rfl ?_
    refine Split.by (fun g2 => ?_) (fun g2 => ?_)
    · have g2 : within (U.getD i default).H (-4) ((l.length : Int) - 1) = false := by simpa using g2
      refine Split.tt ?_
      refine Split.tt ?_
      refine Split.tt ?_
      refine Split.tt ?_
      rw [bad (by unfold useOk; rw [g2]; rfl)]
      exact ret2CB rfl rfl rfl rfl rfl rfl rfl (eqvs_refl _) rfl
    have g2 : within (U.getD i default).H (-4) ((l.length : Int) - 1) = true := by simpa using g2
    refine Split.ff ?_
    refine Split.by (fun g3 => ?_) (fun g3 => ?_)
    · have g3 : (keysTo U i).contains (U.getD i default).H = true := g3
      refine Split.tt ?_
      refine Split.tt ?_
      rw [bad (by unfold useOk; rw [g2, g3]; rfl)]
      exact ret2CB rfl rfl rfl rfl rfl rfl rfl (eqvs_refl _) rfl
    have g3 : (keysTo U i).contains (U.getD i default).H = false := g3
    refine CallSt.pure (s_within (U.getD i default).T 1 2097152) rfl rfl ?_
    refine Split.ff ?_
    refine Split.by (fun g4 => ?_) (fun g4 => ?_)
    · have g4 : within (U.getD i default).T 1 2097152 = false := by simpa using g4
      rw [bad (by unfold useOk; rw [g2, g3, g4]; rfl)]
      exact ret2CB rfl rfl rfl rfl rfl rfl rfl (eqvs_refl _) rfl
    have g4 : within (U.getD i default).T 1 2097152 = true := by simpa using g4
    have uok : useOk l.length (U.getD i default) (keysTo U i) = true := by unfold useOk; rw [g2, g3, g4]; rfl
    have next : okTo l.length U (i + 1) = true := by rw [okTo_succ, i2, uok]; rfl
    obtain ⟨p1, p2, p3⟩ := useOk_parts uok
    have hk := useH_ok hl p1
    obtain ⟨r1, r2, r3, r4, r5, r6⟩ := plus_inU (by omega) sm p3 hk
    have es := sumAt_succ l U g1
    have ek := keysTo_succ U g1
    refine ⟨p2, ?_⟩
    refine CallSt.pure s_sides rfl rfl ?_
    refine ⟨⟨by decide, by decide⟩, ?_⟩
    refine Split.by (fun g5 => ?_) (fun g5 => ?_)
    · have g5 : (U.getD i default).H < 0 := dT g5
      refine Exists.intro (List.range 6) (And.intro (by kernel_rfl) (FzOb.no ?_))
      refine CallOb.pure s_sides rfl rfl ?_
      refine ⟨(show inR .i64 (-1 - (U.getD i default).H) from inI64 (by omega) (by omega)), ?_⟩
      refine ⟨⟨(show 0 ≤ -1 - (U.getD i default).H by omega), (show -1 - (U.getD i default).H < 4 by omega)⟩, ?_⟩
      have neg : useH l (U.getD i default).H = sidesL.getD (-1 - (U.getD i default).H).toNat default := by unfold useH; rw [if_pos g5]
      have rr := And.intro r1 (And.intro r2 (And.intro r3 (And.intro r4 (And.intro r5 r6))))
      rw [neg] at rr es
      by_cases c1 : (U.getD i default).H = -1
      · have cc : (U.getD (i : Int).toNat default).H = -1 := c1
        rw [c1] at rr es
        obtain ⟨q1, q2, q3, q4, q5, q6⟩ := rr
        rw [cc]
        refine ⟨q1, ⟨q2, ⟨q3, ⟨q4, ⟨q5, ⟨q6, ?_⟩⟩⟩⟩⟩⟩
        refine ⟨inI64 (by omega) (by omega), ?_⟩
        refine ⟨i + 1, ⟨rfl, ⟨obHs rfl rfl, obHs rfl (by rw [es]; rfl), obM rfl (by rw [ek, c1]), trivial⟩, avR _ rfl, avQ rfl, avQ rfl, avQ rfl, avR _ rfl, avR _ rfl, avI rfl rfl, trivial⟩, ⟨g1, next⟩, (show U.length - (i + 1) < U.length - i by omega)⟩
      by_cases c2 : (U.getD i default).H = -2
      · have cc : (U.getD (i : Int).toNat default).H = -2 := c2
        rw [c2] at rr es
        obtain ⟨q1, q2, q3, q4, q5, q6⟩ := rr
        rw [cc]
        refine ⟨q1, ⟨q2, ⟨q3, ⟨q4, ⟨q5, ⟨q6, ?_⟩⟩⟩⟩⟩⟩
        refine ⟨inI64 (by omega) (by omega), ?_⟩
        refine ⟨i + 1, ⟨rfl, ⟨obHs rfl rfl, obHs rfl (by rw [es]; rfl), obM rfl (by rw [ek, c2]), trivial⟩, avR _ rfl, avQ rfl, avQ rfl, avQ rfl, avR _ rfl, avR _ rfl, avI rfl rfl, trivial⟩, ⟨g1, next⟩, (show U.length - (i + 1) < U.length - i by omega)⟩
      by_cases c3 : (U.getD i default).H = -3
      · have cc : (U.getD (i : Int).toNat default).H = -3 := c3
        rw [c3] at rr es
        obtain ⟨q1, q2, q3, q4, q5, q6⟩ := rr
        rw [cc]
        refine ⟨q1, ⟨q2, ⟨q3, ⟨q4, ⟨q5, ⟨q6, ?_⟩⟩⟩⟩⟩⟩
        refine ⟨inI64 (by omega) (by omega), ?_⟩
        refine ⟨i + 1, ⟨rfl, ⟨obHs rfl rfl, obHs rfl (by rw [es]; rfl), obM rfl (by rw [ek, c3]), trivial⟩, avR _ rfl, avQ rfl, avQ rfl, avQ rfl, avR _ rfl, avR _ rfl, avI rfl rfl, trivial⟩, ⟨g1, next⟩, (show U.length - (i + 1) < U.length - i by omega)⟩
      have c4 : (U.getD i default).H = -4 := by omega
      have cc : (U.getD (i : Int).toNat default).H = -4 := c4
      rw [c4] at rr es
      obtain ⟨q1, q2, q3, q4, q5, q6⟩ := rr
      rw [cc]
      refine ⟨q1, ⟨q2, ⟨q3, ⟨q4, ⟨q5, ⟨q6, ?_⟩⟩⟩⟩⟩⟩
      refine ⟨inI64 (by omega) (by omega), ?_⟩
      refine ⟨i + 1, ⟨rfl, ⟨obHs rfl rfl, obHs rfl (by rw [es]; rfl), obM rfl (by rw [ek, c4]), trivial⟩, avR _ rfl, avQ rfl, avQ rfl, avQ rfl, avR _ rfl, avR _ rfl, avI rfl rfl, trivial⟩, ⟨g1, next⟩, (show U.length - (i + 1) < U.length - i by omega)⟩
    · have g5 : ¬ (U.getD i default).H < 0 := dF g5
      have neg : useH l (U.getD i default).H = l.getD (U.getD i default).H.toNat default := by unfold useH; rw [if_neg g5]
      rw [neg] at r1 r2 r3 r4 r5 r6
      refine ⟨⟨rfl, (show (0 : Int) ≤ (U.getD i default).H by omega), (show (U.getD i default).H < (l.length : Int) by omega)⟩, ?_⟩
      refine ⟨r1, ⟨r2, ⟨r3, ⟨r4, ⟨r5, ⟨r6, ?_⟩⟩⟩⟩⟩⟩
      refine ⟨inI64 (by omega) (by omega), ?_⟩
      refine ⟨i + 1, ⟨rfl, ⟨obHs rfl rfl, obHs rfl (by rw [es]; unfold useH; rw [if_neg g5]; rfl), obM rfl ek.symm, trivial⟩, avR _ rfl, avQ rfl, avQ rfl, avQ rfl, avR _ rfl, avR _ rfl, avI rfl rfl, trivial⟩, ⟨g1, next⟩, (show U.length - (i + 1) < U.length - i by omega)⟩
  · have g1 : i = U.length := by have := dF g1; omega
    subst g1
    have e : sumE l U = (sumU l U, true) := by unfold sumE formedL; rw [if_pos]; rw [Bool.and_eq_true, decide_eq_true_iff]; exact ⟨h1, i2⟩
    rw [e, ← sumAt_all]
    exact ret2CB rfl rfl rfl rfl rfl rfl rfl (eqvs_refl _) rfl
end Go.Pg
/-
  Contracts: half.CheckEmpty; what refuted finds is accepted.
-/
set_option linter.all false
set_option maxRecDepth 100000
namespace Go.Pg
open Go.Proofs Go.RowKit

def zeroS (h : Half) : Bool := h.A == 0 && h.B == 0 && decide (h.C < 0)
@[irreducible] def cheE (l : List Half) (U : List Use) : Int := if checkL l = 0 then if (sumE l U).2 = true ∧ zeroS (sumE l U).1 = true then 0 else 8 else checkL l
theorem s_CheckEmpty (l : List Half) (U : List Use) : Spec PP 34 [slH l, slU U] [N (cheE l U)] := by
  refine spec_at Tryz.func34 rfl (by kernel_rfl) rfl ?_
  refine CallSt.pure (s_Check l) rfl rfl ?_
  refine Split.by (fun h1 => ?_) (fun h1 => ?_)
  · have h1 : checkL l ≠ 0 := by simpa using h1
    exact r1I rfl (by unfold cheE; rw [if_neg h1])
  have h1 : checkL l = 0 := by simpa using h1
  obtain ⟨n1, n2, n3⟩ := checkL_ok h1
  have bad : ¬ ((sumE l U).2 = true ∧ zeroS (sumE l U).1 = true) → cheE l U = 8 := fun h => by unfold cheE; rw [if_pos h1, if_neg h]
  have good : (sumE l U).2 = true ∧ zeroS (sumE l U).1 = true → cheE l U = 0 := fun h => by unfold cheE; rw [if_pos h1, if_pos h]
  refine CallSt.pure (s_sum l U n3 (by omega)) rfl rfl ?_
  refine Split.by (fun g1 => ?_) (fun g1 => ?_)
  · have g1 : (sumE l U).2 = false := by simpa using g1
    refine Split.tt ?_
    refine Split.tt ?_
    refine Split.tt ?_
    refine Split.tt ?_
    refine Split.tt ?_
    refine Split.tt ?_
    exact r1I rfl (bad (fun h => by rw [g1] at h; cases h.1)).symm
  have g1 : (sumE l U).2 = true := by simpa using g1
  refine Split.ff ?_
  refine Split.by (fun g2 => ?_) (fun g2 => ?_)
  · have g2 : (sumE l U).1.A ≠ 0 := by simpa using g2
    refine Split.tt ?_
    refine Split.tt ?_
    refine Split.tt ?_
    refine Split.tt ?_
    exact r1I rfl (bad (fun h => by have := h.2; unfold zeroS at this; simp [g2] at this)).symm
  have g2 : (sumE l U).1.A = 0 := by simpa using g2
  refine Split.ff ?_
  refine Split.by (fun g3 => ?_) (fun g3 => ?_)
  · have g3 : (sumE l U).1.B ≠ 0 := by simpa using g3
    refine Split.tt ?_
    refine Split.tt ?_
    exact r1I rfl (bad (fun h => by have := h.2; unfold zeroS at this; simp [g3] at this)).symm
  have g3 : (sumE l U).1.B = 0 := by simpa using g3
  refine Split.ff ?_
  refine Split.by (fun g4 => ?_) (fun g4 => ?_)
  · have g4 : ¬ (sumE l U).1.C < 0 := by have := dT g4; omega
    exact r1I rfl (bad (fun h => by have := h.2; unfold zeroS at this; simp [g4] at this)).symm
  · have g4 : (sumE l U).1.C < 0 := by have := dF g4; omega
    exact r1I rfl (good ⟨g1, by unfold zeroS; simp [g2, g3, g4]⟩).symm
/-! ### What refuted finds is accepted -/
theorem okTo_of {n : Nat} {U : List Use} (h : ∀ u ∈ U, (-4 ≤ u.H ∧ u.H < n) ∧ 1 ≤ u.T ∧ u.T ≤ 2097152) (hd : (U.map fun u => u.H).Nodup) : ∀ i, i ≤ U.length → okTo n U i = true
  | 0, _ => okTo_zero n U
  | i + 1, hi => by
    rw [okTo_succ, okTo_of h hd i (by omega), Bool.true_and]
    have hm := h _ (gd1 (show i < U.length by omega) default)
    unfold useOk
    simp only [Bool.and_eq_true, within_spec, Bool.not_eq_true']
    refine ⟨⟨⟨hm.1.1, by omega⟩, ?_⟩, hm.2⟩
    rw [Bool.eq_false_iff]
    intro hc
    have hc : (U.getD i default).H ∈ keysTo U i := by simpa using hc
    unfold keysTo at hc
    rw [List.map_take] at hc
    obtain ⟨j, hj, e⟩ := List.getElem_of_mem hc
    rw [List.length_take, List.length_map] at hj
    rw [List.getElem_take, gdI (show i < U.length by omega)] at e
    have hp := List.pairwise_iff_getElem.1 hd j i (by rw [List.length_map]; omega) (by rw [List.length_map]; omega) (by omega)
    exact hp (by rw [e]; simp)
theorem prf_formed {l : List Half} {U : List Use} (P : Prf l U) : formedL l.length U = true := by
  unfold formedL
  rw [Bool.and_eq_true, decide_eq_true_iff]
  refine ⟨by have := P.len; omega, okTo_of (fun u hu => ⟨(P.mem u hu).1, ?_⟩) P.dis _ (Nat.le_refl _)⟩
  have := (P.mem u hu).2
  omega
theorem prf_che {l : List Half} {U : List Use} (h1 : checkL l = 0) (P : Prf l U) : cheE l U = 0 := by
  unfold cheE sumE
  rw [if_pos h1, if_pos (prf_formed P), if_pos]
  refine ⟨rfl, ?_⟩
  unfold zeroS
  simp [P.A, P.B, P.C]
end Go.Pg
/-
  Contracts: the specification's numbered, formed, sum, CheckEmpty.
-/
set_option linter.all false
set_option maxRecDepth 100000
namespace Go.Pg
open Go.Proofs Go.RowKit

def numE (l : List Half) (n : Int) : Half × Bool := if -4 ≤ n ∧ n < l.length then (useH l n, true) else (⟨0, 0, 0⟩, false)
theorem r_numbered (l : List Half) (n : Int) (hn : l.length ≤ 1000000) (hb : -9223372036854775808 ≤ n ∧ n ≤ 9223372036854775807) : Spec PP 122 [slH l, N n] [(numE l n).1.v, B (numE l n).2] := by
  refine spec_at Tryz.func122 rfl (by kernel_rfl) rfl ?_
  refine ⟨inI64 (by omega) (by omega), ?_⟩
  refine CallSt.pure (r_in n 0 ((l.length : Int) - 1)) rfl rfl ?_
  refine Split.by (fun h1 => ?_) (fun h1 => ?_)
  · have h1 : within n 0 ((l.length : Int) - 1) = true := h1
    rw [within_spec] at h1
    have e : numE l n = (l.getD n.toNat default, true) := by unfold numE useH; rw [if_pos (by omega), if_neg (by omega)]
    rw [e]
    refine ⟨⟨rfl, by omega, by omega⟩, ?_⟩
    exact ret2CB rfl rfl rfl rfl rfl rfl rfl (eqvs_refl _) rfl
  have h1 : within n 0 ((l.length : Int) - 1) = false := h1
  have h1 : ¬ (0 ≤ n ∧ n ≤ (l.length : Int) - 1) := fun h => by rw [within_spec.2 h] at h1; cases h1
  refine CallSt.pure (r_in n (-4) (-1)) rfl rfl ?_
  refine Split.by (fun h2 => ?_) (fun h2 => ?_)
  · have h2 : within n (-4) (-1) = true := h2
    rw [within_spec] at h2
    have e : numE l n = (sidesL.getD (-1 - n).toNat default, true) := by unfold numE useH; rw [if_pos (by omega), if_pos (by omega)]
    rw [e]
    refine CallSt.ro r_Sides rfl rfl ?_
    refine ⟨inI64 (by omega) (by omega), ?_⟩
    refine ⟨⟨rfl, by omega, (show -1 - n < (4 : Int) by omega)⟩, ?_⟩
    exact ret2CB rfl rfl rfl rfl rfl rfl rfl (eqvs_refl _) rfl
  · have h2 : within n (-4) (-1) = false := h2
    have h2 : ¬ (-4 ≤ n ∧ n ≤ -1) := fun h => by rw [within_spec.2 h] at h2; cases h2
    have e : numE l n = (⟨0, 0, 0⟩, false) := by unfold numE; rw [if_neg (by omega)]
    rw [e]
    exact ret2CB rfl rfl rfl rfl rfl rfl rfl (eqvs_refl _) rfl
/-- Uses as they come in from outside. -/
def UB (U : List Use) : Prop := ∀ u ∈ U, (-9223372036854775808 ≤ u.H ∧ u.H ≤ 9223372036854775807) ∧ (-9223372036854775808 ≤ u.T ∧ u.T ≤ 9223372036854775807)
theorem keys_mem {U : List Use} {i : Nat} (hi : i ≤ U.length) {x : Int} : x ∈ keysTo U i ↔ ∃ k, k < i ∧ (U.getD k default).H = x := by
  unfold keysTo
  rw [List.mem_map]
  constructor
  · rintro ⟨u, hu, rfl⟩
    obtain ⟨k, hk, rfl⟩ := List.getElem_of_mem hu
    rw [List.length_take] at hk
    exact ⟨k, by omega, by rw [List.getElem_take, gdI (by omega)]⟩
  · rintro ⟨k, hk, rfl⟩
    refine ⟨U.getD k default, ?_, rfl⟩
    rw [gdI (show k < U.length by omega)]
    exact List.mem_take_iff_getElem.2 ⟨k, by omega, rfl⟩
theorem r_formed (l : List Half) (U : List Use) (hU : UB U) (hn : l.length ≤ 1000000) : Spec PP 88 [slH l, slU U] [B (formedL l.length U)] := by
  refine spec_at Tryz.func88 rfl (by kernel_rfl) rfl ?_
  refine Split.by (fun h1 => ?_) (fun h1 => ?_)
  · have h1 : 4 < U.length := by have := dT h1; omega
    refine r1B rfl ?_
    unfold formedL
    rw [decide_eq_false (by omega)]; rfl
  have h1 : U.length ≤ 4 := by have := dF h1; omega
  have bad : ∀ i, i < U.length → useOk l.length (U.getD i default) (keysTo U i) = false → false = formedL l.length U := fun i hi h => by
    unfold formedL; rw [okTo_no hi h, Bool.and_false]
  refine LoopOb.of (σ := Nat) (fun i => ([(0, avOf (slH l)), (1, avOf (slU U)), (5, .d (I i))], [])) (fun i => i ≤ U.length ∧ okTo l.length U i = true) (fun i => U.length - i) 0
    ⟨rfl, trivial, avR _ rfl, avR _ rfl, avR _ rfl, trivial⟩ ⟨Nat.zero_le _, okTo_zero _ _⟩ fun i hi => ?_
  obtain ⟨i1, i2⟩ := hi
  refine Split.by (fun g1 => ?_) (fun g1 => ?_)
  · have g1 : i < U.length := by have := dT g1; omega
    obtain ⟨hb1, hb2⟩ := hU _ (gd1 g1 default)
    refine ⟨⟨rfl, by omega, by omega⟩, ?_⟩
    have cN := r_numbered l (U.getD i default).H hn hb1
    refine CallSt.pure cN rfl rfl ?_
    by_cases g2 : -4 ≤ (U.getD i default).H ∧ (U.getD i default).H < l.length
    case neg =>
      have e : (numE l (U.getD i default).H).2 = false := by unfold numE; rw [if_neg g2]
      refine Split.yes (by rw [e]; rfl) ?_
      refine Split.tt ?_
      refine Split.tt ?_
      refine r1B rfl (bad i g1 ?_)
      unfold useOk
      rw [show within (U.getD i default).H (-4) ((l.length : Int) - 1) = false by rw [Bool.eq_false_iff, ne_eq, within_spec]; omega]; rfl
    have e : (numE l (U.getD i default).H).2 = true := by unfold numE; rw [if_pos g2]
    refine Split.no (by rw [e]; rfl) ?_
    refine ⟨⟨rfl, by omega, by omega⟩, ?_⟩
    refine CallSt.pure (r_in (U.getD i default).T 1 2097152) rfl rfl ?_
    refine Split.ff ?_
    refine Split.by (fun g3 => ?_) (fun g3 => ?_)
    · have g3 : within (U.getD i default).T 1 2097152 = false := by simpa using g3
      refine r1B rfl (bad i g1 ?_)
      unfold useOk; rw [g3, Bool.and_false]
    have g3 : within (U.getD i default).T 1 2097152 = true := by simpa using g3
    refine LoopOb.of (σ := Nat) (fun k => ([(0, avOf (slH l)), (1, avOf (slU U)), (5, .d (I i)), (8, .d (I k))], [])) (fun k => k ≤ i ∧ ∀ j, j < k → (U.getD j default).H ≠ (U.getD i default).H) (fun k => i - k) 0
      ⟨rfl, trivial, avR _ rfl, avR _ rfl, avR _ rfl, avR _ rfl, trivial⟩ ⟨Nat.zero_le _, fun j hj => absurd hj (Nat.not_lt_zero _)⟩ fun k hk => ?_
    obtain ⟨k1, k2⟩ := hk
    refine Split.by (fun g4 => ?_) (fun g4 => ?_)
    · have g4 : k < i := by have := dT g4; omega
      refine Exists.intro (List.range 11) (And.intro (by kernel_rfl) (FzOb.no ?_))
      refine ⟨⟨rfl, by omega, by omega⟩, ⟨⟨rfl, by omega, by omega⟩, ?_⟩⟩
      refine Split.by (fun g5 => ?_) (fun g5 => ?_)
      · have g5 : (U.getD k default).H = (U.getD i default).H := by
          have g5 : ((U.getD k default).H == (U.getD i default).H) = true := g5
          simpa using g5
        refine r1B rfl (bad i g1 ?_)
        unfold useOk
        rw [show (keysTo U i).contains (U.getD i default).H = true by
          have := (keys_mem (U := U) (i := i) (by omega)).2 ⟨k, g4, g5⟩
          simpa using this]
        simp
      · have g5 : (U.getD k default).H ≠ (U.getD i default).H := by
          have g5 : ((U.getD k default).H == (U.getD i default).H) = false := g5
          simpa using g5
        refine ⟨inI64 (by omega) (by omega), ?_⟩
        refine ⟨k + 1, ⟨rfl, trivial, avR _ rfl, avR _ rfl, avR _ rfl, avI rfl rfl, trivial⟩, ⟨g4, fun j hj => ?_⟩, (show i - (k + 1) < i - k by omega)⟩
        rcases Nat.lt_or_ge j k with h | h
        · exact k2 j h
        · obtain rfl : j = k := by omega
          exact g5
    · have g4 : k = i := by have := dF g4; omega
      subst g4
      refine ⟨inI64 (by omega) (by omega), ?_⟩
      refine ⟨k + 1, ⟨rfl, trivial, avR _ rfl, avR _ rfl, avI rfl rfl, trivial⟩, ⟨g1, ?_⟩, (show U.length - (k + 1) < U.length - k by omega)⟩
      rw [okTo_succ, i2, Bool.true_and]
      unfold useOk
      rw [within_spec.2 (show -4 ≤ (U.getD k default).H ∧ (U.getD k default).H ≤ (l.length : Int) - 1 by omega), g3, show (keysTo U k).contains (U.getD k default).H = false by
        rw [Bool.eq_false_iff]
        intro hc
        have hc : (U.getD k default).H ∈ keysTo U k := by simpa using hc
        obtain ⟨j, hj, e⟩ := (keys_mem (U := U) (i := k) (by omega)).1 hc
        exact k2 j hj e]
      rfl
  · have g1 : i = U.length := by have := dF g1; omega
    subst g1
    refine r1B rfl ?_
    unfold formedL
    rw [i2, decide_eq_true h1]; rfl
theorem r_sum (l : List Half) (U : List Use) (hl : ∀ x ∈ l, okH x) (hn : l.length ≤ 1000000) (hf : formedL l.length U = true) : Spec PP 89 [slH l, slU U] [(sumU l U).v] := by
  unfold formedL at hf
  rw [Bool.and_eq_true, decide_eq_true_iff] at hf
  obtain ⟨h1, h2⟩ := hf
  have okp : ∀ i, i ≤ U.length → okTo l.length U i = true := fun i hi => by
    unfold okTo at h2 ⊢
    exact List.all_eq_true.2 fun j hj => List.all_eq_true.1 h2 j (List.mem_range.2 (by have := List.mem_range.1 hj; omega))
  have uok : ∀ i, i < U.length → useOk l.length (U.getD i default) (keysTo U i) = true := fun i hi => by
    have := okp (i + 1) hi
    rw [okTo_succ, Bool.and_eq_true] at this
    exact this.2
  refine spec_at Tryz.func89 rfl (by kernel_rfl) rfl ?_
  refine LoopOb.of (σ := Nat) (fun i => ([(0, avOf (slH l)), (1, avOf (slU U)), (4, .box 4 0), (5, .box 5 0), (6, .d (I i))], [(4, bxHs ⟨0, 0, 0⟩), (5, bxHs (sumAt l U i))])) (fun i => i ≤ U.length) (fun i => U.length - i) 0
    ⟨rfl, ⟨obHs rfl rfl, obHs rfl (by rw [sumAt_zero]), trivial⟩, avR _ rfl, avR _ rfl, avQ rfl, avQ rfl, avR _ rfl, trivial⟩ (Nat.zero_le _) fun i hi => ?_
  refine Split.by (fun g1 => ?_) (fun g1 => ?_)
  · have g1 : i < U.length := by have := dT g1; omega
    obtain ⟨p1, p2, p3⟩ := useOk_parts (uok i g1)
    have hk := useH_ok hl p1
    have sm := sum_small hl i hi (okp i hi)
    obtain ⟨r1, r2, r3, r4, r5, r6⟩ := plus_inU (by omega) sm p3 hk
    have es := sumAt_succ l U g1
    have cN := r_numbered l (U.getD i default).H hn (by omega)
    rw [show numE l (U.getD i default).H = (useH l (U.getD i default).H, true) by unfold numE; rw [if_pos p1]] at cN
    refine ⟨⟨rfl, by omega, by omega⟩, ?_⟩
    refine CallSt.pure cN rfl rfl ?_
    refine Exists.intro (List.range 13) (And.intro (by kernel_rfl) (FzOb.no ?_))
    refine ⟨⟨rfl, by omega, by omega⟩, ⟨r1, ⟨r2, ?_⟩⟩⟩
    refine Exists.intro (List.range 13) (And.intro (by kernel_rfl) (FzOb.no ?_))
    refine ⟨⟨rfl, by omega, by omega⟩, ⟨r3, ⟨r4, ?_⟩⟩⟩
    refine Exists.intro (List.range 13) (And.intro (by kernel_rfl) (FzOb.no ?_))
    refine ⟨⟨rfl, by omega, by omega⟩, ⟨r5, ⟨r6, ?_⟩⟩⟩
    refine ⟨inI64 (by omega) (by omega), ?_⟩
    exact ⟨i + 1, ⟨rfl, ⟨obHs rfl rfl, obHs rfl (by rw [es]; rfl), trivial⟩, avR _ rfl, avR _ rfl, avQ rfl, avQ rfl, avI rfl rfl, trivial⟩, g1, (show U.length - (i + 1) < U.length - i by omega)⟩
  · have g1 : i = U.length := by have := dF g1; omega
    subst g1
    rw [← sumAt_all]
    exact r1C rfl rfl rfl rfl rfl rfl (eqvs_refl _)
theorem r_CheckEmpty (l : List Half) (U : List Use) (hU : UB U) : Spec PP 35 [slH l, slU U] [N (cheE l U)] := by
  refine spec_at Tryz.func35 rfl (by kernel_rfl) rfl ?_
  refine CallSt.pure (r_Check l) rfl rfl ?_
  refine Split.by (fun h1 => ?_) (fun h1 => ?_)
  · have h1 : checkL l ≠ 0 := by simpa using h1
    exact r1I rfl (by unfold cheE; rw [if_neg h1])
  have h1 : checkL l = 0 := by simpa using h1
  obtain ⟨n1, n2, n3⟩ := checkL_ok h1
  refine CallSt.pure (r_formed l U hU (by omega)) rfl rfl ?_
  refine Split.by (fun g1 => ?_) (fun g1 => ?_)
  · have g1 : formedL l.length U = false := by simpa using g1
    refine r1I rfl ?_
    unfold cheE sumE
    rw [if_pos h1, g1]; rfl
  have g1 : formedL l.length U = true := by simpa using g1
  have es : sumE l U = (sumU l U, true) := by unfold sumE; rw [if_pos g1]
  have bad : ¬ zeroS (sumU l U) = true → cheE l U = 8 := fun h => by unfold cheE; rw [if_pos h1, es, if_neg fun hh => h hh.2]
  have good : zeroS (sumU l U) = true → cheE l U = 0 := fun h => by unfold cheE; rw [if_pos h1, es, if_pos ⟨rfl, h⟩]
  refine CallSt.pure (r_sum l U n3 (by omega) g1) rfl rfl ?_
  refine Split.by (fun g2 => ?_) (fun g2 => ?_)
  · have g2 : (sumU l U).A ≠ 0 := by simpa using g2
    refine Split.tt ?_
    refine Split.tt ?_
    refine Split.tt ?_
    refine Split.tt ?_
    exact r1I rfl (bad (fun h => by unfold zeroS at h; simp [g2] at h)).symm
  have g2 : (sumU l U).A = 0 := by simpa using g2
  refine Split.ff ?_
  refine Split.by (fun g3 => ?_) (fun g3 => ?_)
  · have g3 : (sumU l U).B ≠ 0 := by simpa using g3
    refine Split.tt ?_
    refine Split.tt ?_
    exact r1I rfl (bad (fun h => by unfold zeroS at h; simp [g3] at h)).symm
  have g3 : (sumU l U).B = 0 := by simpa using g3
  refine Split.ff ?_
  refine Split.by (fun g4 => ?_) (fun g4 => ?_)
  · have g4 : ¬ (sumU l U).C < 0 := by have := dT g4; omega
    exact r1I rfl (bad (fun h => by unfold zeroS at h; simp [g4] at h)).symm
  · have g4 : (sumU l U).C < 0 := by have := dF g4; omega
    exact r1I rfl (good (by unfold zeroS; simp [g2, g3, g4])).symm
/-! ### The law HalfEmpties -/
theorem prf_UB {l : List Half} {U : List Use} (P : Prf l U) (hn : l.length ≤ 1000000) : UB U := fun u hu => by
  have := P.mem u hu
  omega
theorem empty_eqZ {l : List Half} (h1 : checkL l = 0) : Spec PP 36 [slH l] [slU (refL l), B (decide (cornersL l = [])), N 0] := by
  have c := s_Empty l
  have e : emptyE l = (refL l, 0) := by unfold emptyE; rw [if_pos h1]
  rw [e] at c
  have e2 : decide (0 < (refL l).length) = decide (cornersL l = []) := by
    rw [decide_eq_decide, ← ref_nil h1]
    constructor
    · intro h e; rw [e] at h; cases h
    · intro h; exact List.length_pos_iff.2 h
  show Spec PP _ _ [slU (refL l, (0 : Int)).1, B (decide (cornersL l = [])), N 0]
  rw [← e2]
  exact c
theorem s_HalfEmpties (l : List Half) (U : List Use) (hU : ∀ u ∈ U, (-9223372036854775808 ≤ u.H ∧ u.H ≤ 9223372036854775807) ∧ (-9223372036854775808 ≤ u.T ∧ u.T ≤ 9223372036854775807)) : Spec PP 6 [slH l, slU U] [B true] := by
  refine spec_at Tryz.func6 rfl (by kernel_rfl) rfl ?_
  refine CallSt.pure (s_few l) rfl rfl ?_
  refine Split.by (fun h1 => ?_) (fun h1 => ?_)
  · refine Split.tt ?_
    refine Split.tt ?_
    refine CallSt.pure s_sanity rfl rfl ?_
    exact r1B rfl rfl
  have hfew : fewL l.length = true := by simpa using h1
  have hl := fewL_len hfew
  refine Split.ff ?_
  refine Split.by (fun h2 => ?_) (fun h2 => ?_)
  · refine CallSt.pure s_sanity rfl rfl ?_
    exact r1B rfl rfl
  refine CallSt.pure (s_CheckEmpty l U) rfl rfl ?_
  refine CallSt.pure (r_CheckEmpty l U hU) rfl rfl ?_
  refine Split.no (by simp) ?_
  by_cases c : checkL l = 0
  case neg =>
    have cE := s_Empty l
    rw [show emptyE l = ([], checkL l) by unfold emptyE; rw [if_neg c]] at cE
    have cV := r_Void l
    rw [show voidE l = (false, checkL l) by unfold voidE; rw [if_neg c]] at cV
    refine CallSt.ro cE rfl rfl ?_
    refine CallSt.pure cV rfl rfl ?_
    refine Split.ff ?_
    refine Split.ff ?_
    refine Split.no (by simp) ?_
    refine Split.tt ?_
    refine CallSt.pure s_sanity rfl rfl ?_
    refine Split.tt ?_
    refine Split.tt ?_
    exact r1B rfl rfl
  obtain ⟨n1, n2, n3⟩ := checkL_ok c
  have cE := empty_eqZ c
  have cV := r_Void l
  rw [show voidE l = (decide (cornersL l = []), 0) by unfold voidE; rw [if_pos c, decide_eq_decide.2 (cor_nil n3).symm]] at cV
  by_cases h0 : cornersL l = []
  case neg =>
    rw [decide_eq_false h0] at cE cV
    have hr : refL l = [] := Classical.byContradiction fun h => h0 ((ref_nil c).1 h)
    rw [hr] at cE
    refine CallSt.ro cE rfl rfl ?_
    refine CallSt.pure cV rfl rfl ?_
    refine Split.ff ?_
    refine Split.ff ?_
    refine Split.ff ?_
    refine Split.tt ?_
    refine CallSt.pure s_sanity rfl rfl ?_
    refine Split.tt ?_
    refine Split.tt ?_
    exact r1B rfl rfl
  rw [decide_eq_true h0] at cE cV
  have P := ref_prf n3 ((ref_nil c).2 h0)
  have pl := P.len
  have z := prf_che c P
  have cH := s_CheckEmpty l (refL l)
  have cR := r_CheckEmpty l (refL l) (prf_UB P (by omega))
  rw [z] at cH cR
  refine CallSt.ro cE rfl rfl ?_
  refine CallSt.pure cV rfl rfl ?_
  refine Split.ff ?_
  refine Split.ff ?_
  refine Split.ff ?_
  refine Split.ff ?_
  refine CallSt.pure s_sanity rfl rfl ?_
  refine Split.tt ?_
  refine Split.tt ?_
  refine Split.yes (decide_eq_true (show ((refL l).length : Int) ≤ 3 by omega)) ?_
  refine CallSt.pure cR rfl rfl ?_
  refine Split.tt ?_
  refine Split.tt ?_
  refine CallSt.pure cH rfl rfl ?_
  refine Split.tt ?_
  exact r1B rfl rfl
end Go.Pg
