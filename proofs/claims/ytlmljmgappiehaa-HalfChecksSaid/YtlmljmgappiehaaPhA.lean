/-
  Contracts: layer 3's values of forms; Back.
-/
import Derived.Test.YtlmljmgappiehaaPgY
set_option linter.all false
set_option maxRecDepth 100000
namespace Go.Pg
open Go.Proofs Go.RowKit

/-- A form. -/
abbrev Form := Place
structure okF (f : Form) : Prop where
  x : -1000 ≤ f.X ∧ f.X ≤ 1000
  y : -1000 ≤ f.Y ∧ f.Y ≤ 1000
theorem okF_of {f : Form} (h : slope f.X f.Y = true) : okF f := by
  unfold slope at h
  simp only [Bool.and_eq_true, within_spec] at h
  exact ⟨h.1, h.2⟩
@[irreducible] def value (f : Form) (p : Corner) : Frac := let n := f.X * p.X + f.Y * p.Y; let g : Int := gcdL [n, p.Den]; ⟨n.tdiv g, p.Den.tdiv g⟩
theorem s_value (f : Form) (p : Corner) (hf : okF f) (hp : okC p) : Spec PP 68 [f.v, p.v] [(value f p).v] := by
  have h1 := mulB hf.x hp.x
  have h2 := mulB hf.y hp.y
  have hd := hp.d
  have hg : 0 < gcdL [f.X * p.X + f.Y * p.Y, p.Den] := by
    simp only [gcdL, List.foldl_cons, List.foldl_nil]
    exact Nat.gcd_pos_of_pos_right _ (by omega)
  have b1 := fun g => tdiv_bd (g := g) (a := f.X * p.X + f.Y * p.Y) (b := 2147483648000) (by omega)
  have b2 := fun g => tdiv_bd (g := g) (a := p.Den) (b := 1073741824) (by omega)
  refine spec_at Try.func68 rfl (by kernel_rfl) rfl ?_
  refine ⟨inI64 (by omega) (by omega), ⟨inI64 (by omega) (by omega), ⟨inI64 (by omega) (by omega), ?_⟩⟩⟩
  refine CallSt.pureE (s_gcd [f.X * p.X + f.Y * p.Y, p.Den] ?_ ?_) rfl (eqv_slI2 rfl rfl) rfl ?_
  · intro n hn
    simp only [List.mem_cons, List.not_mem_nil, or_false] at hn
    rcases hn with rfl | rfl <;> omega
  · exact Nat.le_of_ble_eq_true rfl
  refine Exists.intro (List.range 9) (And.intro (by kernel_rfl) (FzOb.no ?_))
  refine ⟨⟨by omega, inI64 (by have := b1 (gcdL [f.X * p.X + f.Y * p.Y, p.Den]); omega) (by have := b1 (gcdL [f.X * p.X + f.Y * p.Y, p.Den]); omega)⟩, ⟨⟨by omega, inI30 (b2 _)⟩, ?_⟩⟩
  refine r1C rfl rfl rfl rfl rfl rfl (eqvs2 ?_ ?_) <;> (unfold value; rfl)
@[irreducible] def valueE (f : Form) (p : Corner) : Frac × Int := if slope f.X f.Y = true ∧ valid p = true then (value f p, 0) else (⟨0, 0⟩, 1)
theorem s_Value (f : Form) (p : Corner) : Spec PP 33 [f.v, p.v] [(valueE f p).1.v, N (valueE f p).2] := by
  refine spec_at Try.func33 rfl (by kernel_rfl) rfl ?_
  by_cases hp : slope f.X f.Y = true
  · by_cases hq : valid p = true
    · have e : valueE f p = (value f p, 0) := by unfold valueE; rw [if_pos ⟨hp, hq⟩]
      rw [e]
      refine CallSt.pure (s_slope f.X f.Y) rfl rfl ?_
      rw [hp]
      refine Split.ff ?_
      refine CallSt.pure (s_Valid p) rfl rfl ?_
      rw [hq]
      refine Split.ff (Split.ff ?_)
      refine CallSt.pure (s_value f p (okF_of hp) (okC_of hq)) rfl rfl ?_
      exact r2CI rfl rfl rfl rfl rfl rfl rfl (eqvs2 rfl rfl) rfl
    · have e : valueE f p = (⟨0, 0⟩, 1) := by unfold valueE; rw [if_neg fun h => hq h.2]
      rw [e]
      refine CallSt.pure (s_slope f.X f.Y) rfl rfl ?_
      rw [hp]
      refine Split.ff ?_
      refine CallSt.pure (s_Valid p) rfl rfl ?_
      rw [Bool.eq_false_iff.2 hq]
      refine Split.ff (Split.tt ?_)
      exact r2CI rfl rfl rfl rfl rfl rfl rfl (eqvs2 rfl rfl) rfl
  · have e : valueE f p = (⟨0, 0⟩, 1) := by unfold valueE; rw [if_neg fun h => hp h.1]
    rw [e]
    refine CallSt.pure (s_slope f.X f.Y) rfl rfl ?_
    rw [Bool.eq_false_iff.2 hp]
    refine Split.tt (Split.tt (Split.tt ?_))
    exact r2CI rfl rfl rfl rfl rfl rfl rfl (eqvs2 rfl rfl) rfl
@[irreducible] def back (h : Half) : Half × Int := if fit h = true then (⟨-h.A, -h.B, -h.C⟩, 0) else (⟨0, 0, 0⟩, 1)
theorem s_Back (h : Half) : Spec PP 36 [h.v] [(back h).1.v, N (back h).2] := by
  refine spec_at Try.func36 rfl (by kernel_rfl) rfl ?_
  by_cases hp : fit h = true
  · have e : back h = (⟨-h.A, -h.B, -h.C⟩, 0) := by unfold back; rw [if_pos hp]
    rw [e]
    have ho := okH_of hp
    have h1 := ho.a
    have h2 := ho.b
    have h3 := ho.c
    refine CallSt.pure (s_fit h) rfl rfl ?_
    rw [hp]
    refine Split.ff ?_
    refine ⟨inI64 (by omega) (by omega), ⟨inI64 (by omega) (by omega), ⟨inI64 (by omega) (by omega), ?_⟩⟩⟩
    exact r2CI rfl rfl rfl rfl rfl rfl rfl (eqvs3 rfl rfl rfl) rfl
  · have e : back h = (⟨0, 0, 0⟩, 1) := by unfold back; rw [if_neg hp]
    rw [e]
    refine CallSt.pure (s_fit h) rfl rfl ?_
    rw [Bool.eq_false_iff.2 hp]
    refine Split.tt ?_
    exact r2CI rfl rfl rfl rfl rfl rfl rfl (eqvs3 rfl rfl rfl) rfl
end Go.Pg
