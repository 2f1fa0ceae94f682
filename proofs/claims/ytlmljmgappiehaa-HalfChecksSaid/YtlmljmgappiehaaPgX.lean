/-
  Contracts: layer 3's comparisons.
-/
import Derived.Test.YtlmljmgappiehaaPgW
set_option linter.all false
set_option maxRecDepth 100000
namespace Go.Pg
open Go.Proofs Go.RowKit

theorem mulB {a b x y : Int} (ha : -x ≤ a ∧ a ≤ x) (hb : -y ≤ b ∧ b ≤ y) : -(x * y) ≤ a * b ∧ a * b ≤ x * y := by
  have h : (a * b).natAbs ≤ x.natAbs * y.natAbs := by rw [Int.natAbs_mul]; exact Nat.mul_le_mul (by omega) (by omega)
  have e : ((x.natAbs * y.natAbs : Nat) : Int) = x * y := by rw [Int.natCast_mul, Int.natAbs_of_nonneg (by omega), Int.natAbs_of_nonneg (by omega)]
  omega
/-- A half-plane, a corner within the limits. -/
structure okH (h : Half) : Prop where
  a : -1000 ≤ h.A ∧ h.A ≤ 1000
  b : -1000 ≤ h.B ∧ h.B ≤ 1000
  c : -262144 ≤ h.C ∧ h.C ≤ 262144
structure okC (p : Corner) : Prop where
  x : -1073741824 ≤ p.X ∧ p.X ≤ 1073741824
  y : -1073741824 ≤ p.Y ∧ p.Y ≤ 1073741824
  d : 1 ≤ p.Den ∧ p.Den ≤ 2097152
theorem okH_of {h : Half} (hf : fit h = true) : okH h := by
  unfold fit slope at hf
  simp only [Bool.and_eq_true, within_spec] at hf
  exact ⟨hf.1.1.1, hf.1.1.2, hf.2⟩
theorem okC_of {p : Corner} (hf : valid p = true) : okC p := by
  unfold valid at hf
  simp only [Bool.and_eq_true, within_spec] at hf
  exact ⟨hf.1.1.2, hf.1.2, hf.1.1.1⟩
/-- The value of a half-plane's form at a corner is small. -/
theorem okHC {h : Half} {p : Corner} (hh : okH h) (hp : okC p) : (-1073741824000 ≤ h.A * p.X ∧ h.A * p.X ≤ 1073741824000) ∧ (-1073741824000 ≤ h.B * p.Y ∧ h.B * p.Y ≤ 1073741824000) ∧ (-549755813888 ≤ h.C * p.Den ∧ h.C * p.Den ≤ 549755813888) := by
  have h1 := mulB hh.a hp.x
  have h2 := mulB hh.b hp.y
  have h3 := mulB hh.c (b := p.Den) (y := 2097152) (by have := hp.d; omega)
  omega
@[irreducible] def lies (h : Half) (p : Corner) : Bool := decide (h.A * p.X + h.B * p.Y ≤ h.C * p.Den)
@[irreducible] def tight (h : Half) (p : Corner) : Bool := h.A * p.X + h.B * p.Y == h.C * p.Den
theorem s_lies (h : Half) (p : Corner) (hh : okH h) (hp : okC p) : Spec PP 79 [h.v, p.v] [B (lies h p)] := by
  obtain ⟨h1, h2, h3⟩ := okHC hh hp
  refine spec_at Try.func79 rfl (by kernel_rfl) rfl ?_
  refine ⟨inI64 (by omega) (by omega), ⟨inI64 (by omega) (by omega), ⟨inI64 (by omega) (by omega), ⟨inI64 (by omega) (by omega), ?_⟩⟩⟩⟩
  refine r1B rfl ?_
  unfold lies; rfl
theorem s_tight (h : Half) (p : Corner) (hh : okH h) (hp : okC p) : Spec PP 70 [h.v, p.v] [B (tight h p)] := by
  obtain ⟨h1, h2, h3⟩ := okHC hh hp
  refine spec_at Try.func70 rfl (by kernel_rfl) rfl ?_
  refine ⟨inI64 (by omega) (by omega), ⟨inI64 (by omega) (by omega), ⟨inI64 (by omega) (by omega), ⟨inI64 (by omega) (by omega), ?_⟩⟩⟩⟩
  refine r1B rfl ?_
  unfold tight; rfl
/-- -1, 0 or 1. -/
@[irreducible] def ord (a b : Int) : Int := if a < b then -1 else if b < a then 1 else 0
theorem d_isNaN (a : Int) : SpecD PP 122 [N a] [B false] := by
  refine specD_at Try.func122 rfl (by kernel_rfl) rfl ?_
  refine r1B rfl ?_
  simp
theorem s_isNaN (a : Int) : Spec PP 122 [N a] [B false] := (d_isNaN a).of
theorem d_cmp (a b : Int) : SpecD PP 105 [N a, N b] [N (ord a b)] := by
  refine specD_at Try.func105 rfl (by kernel_rfl) rfl ?_
  repeat' first
    | refine Split.tt ?_
    | refine Split.ff ?_
    | refine Split.by (fun _ => ?_) (fun _ => ?_)
    | refine CallSt.pure (d_isNaN _) rfl rfl ?_
    | refine r1I rfl ?_
  all_goals (unfold ord; simp_all)
  all_goals omega
theorem s_cmp (a b : Int) : Spec PP 105 [N a, N b] [N (ord a b)] := (d_cmp a b).of
theorem d_order (a b : Int) : SpecD PP 81 [N a, N b] [N (ord a b)] := by
  refine specD_at Try.func81 rfl (by kernel_rfl) rfl ?_
  refine CallSt.pure (d_cmp a b) rfl rfl ?_
  exact r1I rfl rfl
theorem s_order (a b : Int) : Spec PP 81 [N a, N b] [N (ord a b)] := (d_order a b).of
def orL : List Int → Int
  | [] => 0
  | x :: r => if x = 0 then orL r else x
theorem d_or (l : List Int) (hn : l.length ≤ 1000000) : SpecD PP 92 [slI l] [N (orL l)] := by
  refine specD_at Try.func92 rfl (by kernel_rfl) rfl ?_
  refine LoopOb.of (σ := Nat) (fun i => ([(3, .d (I 0)), (6, avOf (slI l)), (7, .d (I l.length)), (8, .d (I i))], [])) (fun i => i ≤ l.length ∧ orL (l.drop i) = orL l) (fun i => l.length - i) 0 ⟨rfl, trivial, avR _ rfl, avR _ rfl, avR _ rfl, avR _ rfl, trivial⟩ ⟨Nat.zero_le _, rfl⟩ fun i hi => ?_
  obtain ⟨hi, ho⟩ := hi
  refine Split.by (fun h1 => ?_) (fun h1 => ?_)
  · have h1 : i < l.length := by simpa using h1
    have hd : l.drop i = l.getD i 0 :: l.drop (i + 1) := by
      rw [List.drop_eq_getElem_cons h1, List.getD_eq_getElem?_getD, List.getElem?_eq_getElem h1]; rfl
    rw [hd] at ho
    refine ⟨⟨rfl, by omega, by omega⟩, ?_⟩
    refine Split.by (fun h2 => ?_) (fun h2 => ?_)
    · have h2 : l.getD i 0 ≠ 0 := by simpa using h2
      refine r1I rfl ?_
      rw [← ho]; simp only [orL, h2, if_false]; rfl
    · have h2 : l.getD i 0 = 0 := by simpa using h2
      refine ⟨inI64 (by omega) (by omega), ?_⟩
      refine ⟨i + 1, ⟨rfl, trivial, avR _ rfl, avR _ rfl, avR _ rfl, avR _ rfl, trivial⟩, ⟨h1, ?_⟩, ?_⟩
      · rw [← ho]; simp only [orL, h2, if_true]
      · show l.length - (i + 1) < l.length - i
        omega
  · have h1 : i = l.length := by
      have : ¬ i < l.length := by simpa using h1
      omega
    refine r1I rfl ?_
    rw [← ho, h1, List.drop_length]; rfl
theorem s_or (l : List Int) (hn : l.length ≤ 1000000) : Spec PP 92 [slI l] [N (orL l)] := (d_or l hn).of
end Go.Pg
