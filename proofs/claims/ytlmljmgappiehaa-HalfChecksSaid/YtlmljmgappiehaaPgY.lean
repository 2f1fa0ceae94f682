/-
  Contracts: layer 3's points.
-/
import Derived.Test.YtlmljmgappiehaaPgX
set_option linter.all false
set_option maxRecDepth 100000
namespace Go.Pg
open Go.Proofs Go.RowKit

theorem s_Holds (h : Half) (p : Corner) : Spec PP 37 [h.v, p.v] [B (fit h && valid p && lies h p)] := by
  refine spec_at Try.func37 rfl (by kernel_rfl) rfl ?_
  repeat' first
    | refine Split.tt ?_
    | refine Split.ff ?_
    | refine Split.by (fun _ => ?_) (fun _ => ?_)
    | refine CallSt.pure (s_fit h) rfl rfl ?_
    | refine CallSt.pure (s_Valid p) rfl rfl ?_
    | refine CallSt.pure (s_lies h p ?_ ?_) rfl rfl ?_
    | refine r1B rfl ?_
  · exact okH_of ‹_›
  · exact okC_of ‹_›
  all_goals simp_all
@[irreducible] def fraction (f : Frac) : Bool := within f.Den 1 2097152 && within f.Num (-2199023255552) 2199023255552 && ((gcdL [f.Num, f.Den] : Int) == 1)
theorem s_fraction (f : Frac) : Spec PP 80 [f.v] [B (fraction f)] := by
  refine spec_at Try.func80 rfl (by kernel_rfl) rfl ?_
  repeat' first
    | refine Split.tt ?_
    | refine Split.ff ?_
    | refine Split.by (fun _ => ?_) (fun _ => ?_)
    | refine CallSt.pure (s_within _ _ _) rfl rfl ?_
    | refine CallSt.pureE (s_gcd [f.Num, f.Den] ?_ ?_) rfl (eqv_slI2 rfl rfl) rfl ?_
    | refine r1B rfl ?_
  · intro n hn
    simp only [within_spec] at *
    simp only [List.mem_cons, List.not_mem_nil, or_false] at hn
    omega
  · exact Nat.le_of_ble_eq_true rfl
  all_goals (unfold fraction; simp_all)
@[irreducible] def cmpC (p q : Corner) : Int := if valid p = true ∧ valid q = true then orL [ord (p.X * q.Den) (q.X * p.Den), ord (p.Y * q.Den) (q.Y * p.Den)] else 0
theorem d_Compare (p q : Corner) : SpecD PP 56 [p.v, q.v] [N (cmpC p q)] := by
  refine specD_at Try.func56 rfl (by kernel_rfl) rfl ?_
  by_cases hp : valid p = true
  · by_cases hq : valid q = true
    · have gp := okC_of hp
      have gq := okC_of hq
      have h1 := mulB gp.x (b := q.Den) (y := 2097152) (by have := gq.d; omega)
      have h2 := mulB gq.x (b := p.Den) (y := 2097152) (by have := gp.d; omega)
      have h3 := mulB gp.y (b := q.Den) (y := 2097152) (by have := gq.d; omega)
      have h4 := mulB gq.y (b := p.Den) (y := 2097152) (by have := gp.d; omega)
      refine CallSt.pure (d_Valid p) rfl rfl ?_
      rw [hp]
      refine Split.ff ?_
      refine CallSt.pure (d_Valid q) rfl rfl ?_
      rw [hq]
      refine Split.ff (Split.ff ?_)
      refine Exists.intro (List.range 25) (And.intro (by kernel_rfl) (FzOb.no ?_))
      refine ⟨inI64 (by omega) (by omega), ⟨inI64 (by omega) (by omega), ?_⟩⟩
      refine CallOb.pure (d_order _ _) rfl rfl ?_
      refine ⟨inI64 (by omega) (by omega), ⟨inI64 (by omega) (by omega), ?_⟩⟩
      refine CallOb.pure (d_order _ _) rfl rfl ?_
      refine CallOb.pureE (d_or [_, _] ?_) rfl (eqv_slI2 rfl rfl) rfl ?_
      · exact Nat.le_of_ble_eq_true rfl
      refine r1I rfl ?_
      unfold cmpC
      rw [if_pos ⟨hp, hq⟩]
    · refine CallSt.pure (d_Valid p) rfl rfl ?_
      rw [hp]
      refine Split.ff ?_
      refine CallSt.pure (d_Valid q) rfl rfl ?_
      rw [Bool.eq_false_iff.2 hq]
      refine Split.ff (Split.tt (r1I rfl ?_))
      unfold cmpC
      rw [if_neg fun h => hq h.2]
  · refine CallSt.pure (d_Valid p) rfl rfl ?_
    rw [Bool.eq_false_iff.2 hp]
    refine Split.tt (Split.tt (Split.tt (r1I rfl ?_)))
    unfold cmpC
    rw [if_neg fun h => hp h.1]
theorem s_Compare (p q : Corner) : Spec PP 56 [p.v, q.v] [N (cmpC p q)] := (d_Compare p q).of
@[irreducible] def less (a b : Frac) : Int := if fraction a = true ∧ fraction b = true then ord (a.Num * b.Den) (b.Num * a.Den) else 0
theorem fraction_bd {f : Frac} (h : fraction f = true) : (1 ≤ f.Den ∧ f.Den ≤ 2097152) ∧ (-2199023255552 ≤ f.Num ∧ f.Num ≤ 2199023255552) := by
  unfold fraction at h
  simp only [Bool.and_eq_true, within_spec] at h
  exact h.1
theorem s_Less (a b : Frac) : Spec PP 35 [a.v, b.v] [N (less a b)] := by
  refine spec_at Try.func35 rfl (by kernel_rfl) rfl ?_
  by_cases hp : fraction a = true
  · by_cases hq : fraction b = true
    · have ga := fraction_bd hp
      have gb := fraction_bd hq
      have h1 := mulB ga.2 (b := b.Den) (y := 2097152) (by omega)
      have h2 := mulB gb.2 (b := a.Den) (y := 2097152) (by omega)
      refine CallSt.pure (s_fraction a) rfl rfl ?_
      rw [hp]
      refine Split.ff ?_
      refine CallSt.pure (s_fraction b) rfl rfl ?_
      rw [hq]
      refine Split.ff (Split.ff ?_)
      refine ⟨inI64 (by omega) (by omega), ⟨inI64 (by omega) (by omega), ?_⟩⟩
      refine CallSt.pure (s_order _ _) rfl rfl ?_
      refine r1I rfl ?_
      unfold less
      rw [if_pos ⟨hp, hq⟩]
    · refine CallSt.pure (s_fraction a) rfl rfl ?_
      rw [hp]
      refine Split.ff ?_
      refine CallSt.pure (s_fraction b) rfl rfl ?_
      rw [Bool.eq_false_iff.2 hq]
      refine Split.ff (Split.tt (r1I rfl ?_))
      unfold less
      rw [if_neg fun h => hq h.2]
  · refine CallSt.pure (s_fraction a) rfl rfl ?_
    rw [Bool.eq_false_iff.2 hp]
    refine Split.tt (Split.tt (Split.tt (r1I rfl ?_)))
    unfold less
    rw [if_neg fun h => hp h.1]
@[irreducible] def det (g h : Half) : Int := g.A * h.B - h.A * g.B
theorem det_bd {g h : Half} (hg : okH g) (hh : okH h) : -2000000 ≤ det g h ∧ det g h ≤ 2000000 := by
  have h1 := mulB hg.a hh.b
  have h2 := mulB hh.a hg.b
  unfold det
  omega
theorem s_det (g h : Half) (hg : okH g) (hh : okH h) : Spec PP 71 [g.v, h.v] [N (det g h)] := by
  have h1 := mulB hg.a hh.b
  have h2 := mulB hh.a hg.b
  refine spec_at Try.func71 rfl (by kernel_rfl) rfl ?_
  refine ⟨inI64 (by omega) (by omega), ⟨inI64 (by omega) (by omega), ⟨inI64 (by omega) (by omega), ?_⟩⟩⟩
  refine r1I rfl ?_
  unfold det; rfl
/-- The point with some numbers, in lowest terms. -/
@[irreducible] def lowest (x y d : Int) : Corner := let g : Int := if d < 0 then -gcdL [x, y, d] else gcdL [x, y, d]; ⟨x.tdiv g, y.tdiv g, d.tdiv g⟩
theorem tdiv_bd {a g b : Int} (ha : -b ≤ a ∧ a ≤ b) : -b ≤ a.tdiv g ∧ a.tdiv g ≤ b := by
  have h : (a.tdiv g).natAbs ≤ a.natAbs := by rw [Int.natAbs_tdiv]; exact Nat.div_le_self _ _
  omega
theorem s_corner (x y d : Int) (hx : -1073741824 ≤ x ∧ x ≤ 1073741824) (hy : -1073741824 ≤ y ∧ y ≤ 1073741824) (hd : -1073741824 ≤ d ∧ d ≤ 1073741824) (h0 : d ≠ 0) :
    Spec PP 110 [.agg [I x, I y, I d]] [(lowest x y d).v] := by
  have hg : 0 < gcdL [x, y, d] := by
    simp only [gcdL, List.foldl_cons, List.foldl_nil]
    exact Nat.gcd_pos_of_pos_right _ (by omega)
  have hg' : gcdL [x, y, d] ≤ 1073741824 := by
    have : gcdL [x, y, d] ≤ d.natAbs := by
      simp only [gcdL, List.foldl_cons, List.foldl_nil]
      exact Nat.gcd_le_right _ (by omega)
    omega
  have b1 := fun g => tdiv_bd (g := g) hx
  have b2 := fun g => tdiv_bd (g := g) hy
  have b3 := fun g => tdiv_bd (g := g) hd
  refine spec_at Try.func110 rfl (by kernel_rfl) rfl ?_
  refine ⟨⟨by decide, by decide⟩, ⟨⟨by decide, by decide⟩, ⟨⟨by decide, by decide⟩, ?_⟩⟩⟩
  refine CallSt.pureE (s_gcd [x, y, d] ?_ ?_) rfl (eqv_slI3 rfl rfl rfl) rfl ?_
  · intro n hn
    simp only [List.mem_cons, List.not_mem_nil, or_false] at hn
    omega
  · exact Nat.le_of_ble_eq_true rfl
  refine ⟨⟨by decide, by decide⟩, ?_⟩
  refine Split.by (fun h1 => ?_) (fun h1 => ?_)
  · have h1 : d < 0 := dT h1
    refine ⟨inI64 (by omega) (by omega), ?_⟩
    refine Exists.intro (List.range 14) (And.intro (by kernel_rfl) (FzOb.no ?_))
    refine ⟨⟨by decide, by decide⟩, ⟨⟨by omega, inI30 (b1 _)⟩, ⟨⟨by decide, by decide⟩, ⟨⟨by omega, inI30 (b2 _)⟩, ⟨⟨by decide, by decide⟩, ⟨⟨by omega, inI30 (b3 _)⟩, ?_⟩⟩⟩⟩⟩⟩
    refine r1C rfl rfl rfl rfl rfl rfl (eqvs3 ?_ ?_ ?_) <;> (unfold lowest; simp only [if_pos h1])
  · have h1 : ¬ d < 0 := dF h1
    refine Exists.intro (List.range 14) (And.intro (by kernel_rfl) (FzOb.no ?_))
    refine ⟨⟨by decide, by decide⟩, ⟨⟨by omega, inI30 (b1 _)⟩, ⟨⟨by decide, by decide⟩, ⟨⟨by omega, inI30 (b2 _)⟩, ⟨⟨by decide, by decide⟩, ⟨⟨by omega, inI30 (b3 _)⟩, ?_⟩⟩⟩⟩⟩⟩
    refine r1C rfl rfl rfl rfl rfl rfl (eqvs3 ?_ ?_ ?_) <;> (unfold lowest; simp only [if_neg h1])
@[irreducible] def crossing (g h : Half) : Corner := lowest (g.C * h.B - h.C * g.B) (g.A * h.C - h.A * g.C) (det g h)
theorem s_crossing (g h : Half) (hg : okH g) (hh : okH h) (hd : det g h ≠ 0) : Spec PP 89 [g.v, h.v] [(crossing g h).v] := by
  have h1 := mulB hg.c hh.b
  have h2 := mulB hh.c hg.b
  have h3 := mulB hg.a hh.c
  have h4 := mulB hh.a hg.c
  have h5 := det_bd hg hh
  refine spec_at Try.func89 rfl (by kernel_rfl) rfl ?_
  refine Exists.intro (List.range 28) (And.intro (by kernel_rfl) (FzOb.no ?_))
  refine ⟨inI64 (by omega) (by omega), ⟨inI64 (by omega) (by omega), ⟨inI64 (by omega) (by omega), ⟨inI64 (by omega) (by omega), ⟨inI64 (by omega) (by omega), ⟨inI64 (by omega) (by omega), ?_⟩⟩⟩⟩⟩⟩
  refine CallOb.pure (s_det g h hg hh) rfl rfl ?_
  refine CallOb.pure (s_corner (g.C * h.B - h.C * g.B) (g.A * h.C - h.A * g.C) (det g h) (by omega) (by omega) (by omega) hd) rfl rfl ?_
  refine r1C rfl rfl rfl rfl rfl rfl (eqvs3 ?_ ?_ ?_) <;> (unfold crossing; rfl)
@[irreducible] def cross (g h : Half) : Corner × Int := if fit g = true ∧ fit h = true then if det g h = 0 then (⟨0, 0, 0⟩, 5) else (crossing g h, 0) else (⟨0, 0, 0⟩, 1)
theorem s_Cross (g h : Half) : Spec PP 44 [g.v, h.v] [(cross g h).1.v, N (cross g h).2] := by
  refine spec_at Try.func44 rfl (by kernel_rfl) rfl ?_
  by_cases hp : fit g = true
  · by_cases hq : fit h = true
    · refine CallSt.pure (s_fit g) rfl rfl ?_
      rw [hp]
      refine Split.ff ?_
      refine CallSt.pure (s_fit h) rfl rfl ?_
      rw [hq]
      refine Split.ff (Split.ff ?_)
      refine CallSt.pure (s_det g h (okH_of hp) (okH_of hq)) rfl rfl ?_
      refine Split.by (fun h1 => ?_) (fun h1 => ?_)
      · have h1 : det g h = 0 := by simpa using h1
        have e : cross g h = (⟨0, 0, 0⟩, 5) := by unfold cross; rw [if_pos ⟨hp, hq⟩, if_pos h1]
        rw [e]
        exact r2CI rfl rfl rfl rfl rfl rfl rfl (eqvs3 rfl rfl rfl) rfl
      · have h1 : det g h ≠ 0 := by simpa using h1
        have e : cross g h = (crossing g h, 0) := by unfold cross; rw [if_pos ⟨hp, hq⟩, if_neg h1]
        rw [e]
        refine CallSt.pure (s_crossing g h (okH_of hp) (okH_of hq) h1) rfl rfl ?_
        exact r2CI rfl rfl rfl rfl rfl rfl rfl (eqvs3 rfl rfl rfl) rfl
    · have e : cross g h = (⟨0, 0, 0⟩, 1) := by unfold cross; rw [if_neg fun h => hq h.2]
      rw [e]
      refine CallSt.pure (s_fit g) rfl rfl ?_
      rw [hp]
      refine Split.ff ?_
      refine CallSt.pure (s_fit h) rfl rfl ?_
      rw [Bool.eq_false_iff.2 hq]
      refine Split.ff (Split.tt ?_)
      exact r2CI rfl rfl rfl rfl rfl rfl rfl (eqvs3 rfl rfl rfl) rfl
  · have e : cross g h = (⟨0, 0, 0⟩, 1) := by unfold cross; rw [if_neg fun h => hp h.1]
    rw [e]
    refine CallSt.pure (s_fit g) rfl rfl ?_
    rw [Bool.eq_false_iff.2 hp]
    refine Split.tt (Split.tt (Split.tt ?_))
    exact r2CI rfl rfl rfl rfl rfl rfl rfl (eqvs3 rfl rfl rfl) rfl
end Go.Pg
