/-
  Contracts: layer 3's first functions (Check, Valid, Of and what they call), of half and of its specification.
-/
import Derived.Test.YtlmljmgappiehaaPgV
set_option linter.all false
set_option maxRecDepth 100000
namespace Go.Pg
open Go.Proofs Go.RowKit
def gcdL (l : List Int) : Nat := l.foldl (fun g n => Nat.gcd g n.natAbs) 0
theorem d_gcd (l : List Int) (hl : ∀ n ∈ l, -9223372036854775807 ≤ n ∧ n ≤ 9223372036854775807) (hn : l.length ≤ 1000000) : SpecD PP 50 [slI l] [N (gcdL l)] := by
  refine specD_at Try.func50 rfl (by kernel_rfl) rfl ?_
  refine LoopOb.of (σ := Nat) (fun i => ([(3, .d (I (gcdL (l.take i)))), (6, avOf (slI l)), (7, .d (I l.length)), (8, .d (I i))], [])) (fun i => i ≤ l.length) (fun i => l.length - i) 0 ⟨rfl, trivial, avR _ rfl, avR _ rfl, avR _ rfl, avR _ rfl, trivial⟩ (Nat.zero_le _) fun i hi => ?_
  refine Split.by (fun h1 => ?_) (fun h1 => ?_)
  · have h1 : i < l.length := by simpa using h1
    have hb := hl _ (gd1 h1 0)
    refine ⟨⟨rfl, by omega, by omega⟩, ?_⟩
    refine ⟨inI64 (by show _ ≤ -l.getD i 0; omega) (by show -l.getD i 0 ≤ _; omega), ?_⟩
    refine LoopOb.of (σ := Nat × Nat) (fun x => ([(3, .d (I x.1)), (5, .d (I x.2)), (6, avOf (slI l)), (7, .d (I l.length)), (8, .d (I i))], [])) (fun x => Nat.gcd x.1 x.2 = gcdL (l.take (i + 1))) (fun x => x.2) (gcdL (l.take i), (l.getD i 0).natAbs) ⟨rfl, trivial, avR _ rfl, avI rfl ?_, avR _ rfl, avR _ rfl, avR _ rfl, trivial⟩ ?_ fun x hx => ?_
    · show max (l.getD i 0) (-l.getD i 0) = ((l.getD i 0).natAbs : Int)
      omega
    · rw [take1 h1 0]
      simp [gcdL]
    refine Split.by (fun h2 => ?_) (fun h2 => ?_)
    · have h2 : 0 < x.2 := by simpa using h2
      refine ⟨List.range 6, by kernel_rfl, FzOb.no ?_⟩
      refine ⟨by omega, ?_⟩
      refine ⟨(x.2, x.1 % x.2), ⟨rfl, trivial, avR _ rfl, avI rfl ?_, avR _ rfl, avR _ rfl, avR _ rfl, trivial⟩, ?_, ?_⟩
      · exact (Int.ofNat_tmod x.1 x.2).symm
      · show Nat.gcd x.2 (x.1 % x.2) = _
        rw [← hx, Nat.gcd_comm x.2, ← Nat.gcd_rec, Nat.gcd_comm]
      · exact Nat.mod_lt _ h2
    · have h2 : x.2 = 0 := by
        have : ¬ (0 < x.2) := by simpa using h2
        omega
      refine ⟨inI64 (by omega) (by omega), ?_⟩
      refine ⟨i + 1, ⟨rfl, trivial, avI rfl ?_, avR _ rfl, avR _ rfl, avR _ rfl, trivial⟩, h1, ?_⟩
      · rw [← hx, h2, Nat.gcd_zero_right]
      · show l.length - (i + 1) < l.length - i
        omega
  · have h1 : i = l.length := by
      have : ¬ i < l.length := by simpa using h1
      omega
    refine r1I rfl ?_
    rw [h1, List.take_length]

theorem s_gcd (l : List Int) (hl : ∀ n ∈ l, -9223372036854775807 ≤ n ∧ n ≤ 9223372036854775807) (hn : l.length ≤ 1000000) : Spec PP 50 [slI l] [N (gcdL l)] := (d_gcd l hl hn).of
/-! ### half: Check, Valid, Of -/
@[irreducible] def fit (h : Half) : Bool := slope h.A h.B && (h.A != 0 || h.B != 0) && within h.C (-262144) 262144
theorem s_fit (h : Half) : Spec PP 47 [h.v] [B (fit h)] := by
  refine spec_at Try.func47 rfl (by kernel_rfl) rfl ?_
  repeat' first
    | refine Split.tt ?_
    | refine Split.ff ?_
    | refine Split.by (fun _ => ?_) (fun _ => ?_)
    | refine CallSt.pure (s_slope _ _) rfl rfl ?_
    | refine CallSt.pure (s_within _ _ _) rfl rfl ?_
    | refine r1B rfl ?_
  all_goals (unfold fit; simp_all)
def checkL (l : List Half) : Int := if 40 < l.length then 2 else if l.all fit then 0 else 1
theorem s_Check (l : List Half) : Spec PP 14 [slH l] [N (checkL l)] := by
  refine spec_at Try.func14 rfl (by kernel_rfl) rfl ?_
  refine Split.by (fun h1 => ?_) (fun h1 => ?_)
  · have h1 : 40 < l.length := by have := dT h1; omega
    refine r1I rfl ?_
    simp [checkL, h1]
  · have h1 : ¬ 40 < l.length := by have := dF h1; omega
    refine LoopOb.of (σ := Nat) (fun i => ([(8, avOf (slH l)), (9, .d (I l.length)), (10, .d (I i))], [])) (fun i => i ≤ l.length ∧ (l.take i).all fit = true) (fun i => l.length - i) 0 ⟨rfl, trivial, avR _ rfl, avR _ rfl, avR _ rfl, trivial⟩ ⟨Nat.zero_le _, rfl⟩ fun i hi => ?_
    obtain ⟨hi, ha⟩ := hi
    refine Split.by (fun h2 => ?_) (fun h2 => ?_)
    · have h2 : i < l.length := by simpa using h2
      refine ⟨⟨rfl, by omega, by omega⟩, ?_⟩
      refine CallSt.pure (s_fit (l.getD i default)) rfl rfl ?_
      refine Split.by (fun h3 => ?_) (fun h3 => ?_)
      · refine r1I rfl ?_
        have h3 : fit (l.getD i default) = false := by simpa using h3
        have : l.all fit = false := by
          rw [List.all_eq_false]; exact ⟨_, gd1 h2 default, by rw [h3]; simp⟩
        simp [checkL, h1, this]
      · have h3 : fit (l.getD i default) = true := by simpa using h3
        refine ⟨inI64 (by omega) (by omega), ?_⟩
        refine ⟨i + 1, ⟨rfl, trivial, avR _ rfl, avR _ rfl, avR _ rfl, trivial⟩, ⟨h2, ?_⟩, ?_⟩
        · rw [take1 h2 default, List.all_append, ha]; simp only [List.all_cons, h3]; rfl
        · show l.length - (i + 1) < l.length - i
          omega
    · have h2 : i = l.length := by
        have : ¬ i < l.length := by simpa using h2
        omega
      refine r1I rfl ?_
      rw [h2, List.take_length] at ha
      simp only [checkL, h1, ha, if_false, if_true]
theorem within_spec {n lo hi : Int} : within n lo hi = true ↔ lo ≤ n ∧ n ≤ hi := by unfold within; simp
theorem eqv_slI3 {f : Nat → Nat → D} {a b c : Int} (h0 : f 0 0 = I a) (h1 : f 1 0 = I b) (h2 : f 2 0 = I c) : eqV1s [.d (.slc 1 3 f)] [slI [a, b, c]] := by
  refine ⟨⟨rfl, .inr ⟨rfl, fun i hi j hj => ?_⟩⟩, trivial⟩
  obtain rfl : j = 0 := by omega
  match i, hi with
  | 0, _ => rw [h0]; exact ⟨rfl, rfl⟩
  | 1, _ => rw [h1]; exact ⟨rfl, rfl⟩
  | 2, _ => rw [h2]; exact ⟨rfl, rfl⟩
theorem eqv_slI2 {f : Nat → Nat → D} {a b : Int} (h0 : f 0 0 = I a) (h1 : f 1 0 = I b) : eqV1s [.d (.slc 1 2 f)] [slI [a, b]] := by
  refine ⟨⟨rfl, .inr ⟨rfl, fun i hi j hj => ?_⟩⟩, trivial⟩
  obtain rfl : j = 0 := by omega
  match i, hi with
  | 0, _ => rw [h0]; exact ⟨rfl, rfl⟩
  | 1, _ => rw [h1]; exact ⟨rfl, rfl⟩
@[irreducible] def valid (p : Corner) : Bool := within p.Den 1 2097152 && within p.X (-1073741824) 1073741824 && within p.Y (-1073741824) 1073741824 && ((gcdL [p.X, p.Y, p.Den] : Int) == 1)
theorem d_Valid (p : Corner) : SpecD PP 16 [p.v] [B (valid p)] := by
  refine specD_at Try.func16 rfl (by kernel_rfl) rfl ?_
  repeat' first
    | refine Split.tt ?_
    | refine Split.ff ?_
    | refine Split.by (fun _ => ?_) (fun _ => ?_)
    | refine CallSt.pure (d_within _ _ _) rfl rfl ?_
    | refine CallSt.pureE (d_gcd [p.X, p.Y, p.Den] ?_ ?_) rfl (eqv_slI3 rfl rfl rfl) rfl ?_
    | refine r1B rfl ?_
  · intro n hn
    simp only [within_spec] at *
    simp only [List.mem_cons, List.not_mem_nil, or_false] at hn
    omega
  · exact Nat.le_of_ble_eq_true rfl
  all_goals (unfold valid; simp_all)
theorem s_Valid (p : Corner) : Spec PP 16 [p.v] [B (valid p)] := (d_Valid p).of
@[irreducible] def on (p : Place) : Bool := within p.X 0 48 && within p.Y 0 48
theorem s_on (p : Place) : Spec PP 53 [p.v] [B (on p)] := by
  refine spec_at Try.func53 rfl (by kernel_rfl) rfl ?_
  repeat' first
    | refine Split.tt ?_
    | refine Split.ff ?_
    | refine Split.by (fun _ => ?_) (fun _ => ?_)
    | refine CallSt.pure (s_within _ _ _) rfl rfl ?_
    | refine r1B rfl ?_
  all_goals (unfold on; simp_all)
@[irreducible] def ofP (p : Place) : Corner := if on p = true then ⟨p.X, p.Y, 1⟩ else ⟨0, 0, 0⟩
theorem s_Of (p : Place) : Spec PP 18 [p.v] [(ofP p).v] := by
  refine spec_at Try.func18 rfl (by kernel_rfl) rfl ?_
  repeat' first
    | refine Split.tt ?_
    | refine Split.ff ?_
    | refine Split.by (fun _ => ?_) (fun _ => ?_)
    | refine CallSt.pure (s_on p) rfl rfl ?_
    | refine r1C rfl rfl rfl rfl rfl rfl ?_
  · have h : on p = false := by simp_all
    exact eqvs3 (by simp [ofP, h]) (by simp [ofP, h]) (by simp [ofP, h])
  · have h : on p = true := by simp_all
    exact eqvs3 (by simp [ofP, h]) (by simp [ofP, h]) (by simp [ofP, h])

/-! ### The specification's -/
theorem r_in (n lo hi : Int) : Spec PP 51 [N n, N lo, N hi] [B (within n lo hi)] := by
  refine spec_at Try.func51 rfl (by kernel_rfl) rfl ?_
  repeat' first
    | refine Split.tt ?_
    | refine Split.ff ?_
    | refine Split.by (fun _ => ?_) (fun _ => ?_)
    | refine r1B rfl ?_
  all_goals (unfold within; simp_all; try omega)
theorem r_right (h : Half) : Spec PP 48 [h.v] [B (fit h)] := by
  refine spec_at Try.func48 rfl (by kernel_rfl) rfl ?_
  repeat' first
    | refine Split.tt ?_
    | refine Split.ff ?_
    | refine Split.by (fun _ => ?_) (fun _ => ?_)
    | refine CallSt.pure (r_in _ _ _) rfl rfl ?_
    | refine r1B rfl ?_
  all_goals (unfold fit slope; simp_all)
theorem r_mapped (p : Place) : Spec PP 54 [p.v] [B (on p)] := by
  refine spec_at Try.func54 rfl (by kernel_rfl) rfl ?_
  repeat' first
    | refine Split.tt ?_
    | refine Split.ff ?_
    | refine Split.by (fun _ => ?_) (fun _ => ?_)
    | refine CallSt.pure (r_in _ _ _) rfl rfl ?_
    | refine r1B rfl ?_
  all_goals (unfold on; simp_all)
theorem r_Of (p : Place) : Spec PP 19 [p.v] [(ofP p).v] := by
  refine spec_at Try.func19 rfl (by kernel_rfl) rfl ?_
  repeat' first
    | refine Split.tt ?_
    | refine Split.ff ?_
    | refine Split.by (fun _ => ?_) (fun _ => ?_)
    | refine CallSt.pure (r_mapped p) rfl rfl ?_
    | refine r1C rfl rfl rfl rfl rfl rfl ?_
  · have h : on p = false := by simp_all
    exact eqvs3 (by simp [ofP, h]) (by simp [ofP, h]) (by simp [ofP, h])
  · have h : on p = true := by simp_all
    exact eqvs3 (by simp [ofP, h]) (by simp [ofP, h]) (by simp [ofP, h])
theorem r_divisor (a b : Int) (ha : -9223372036854775807 ≤ a ∧ a ≤ 9223372036854775807) (hb : -9223372036854775807 ≤ b ∧ b ≤ 9223372036854775807) :
    Spec PP 52 [N a, N b] [N (Nat.gcd a.natAbs b.natAbs)] := by
  refine spec_at Try.func52 rfl (by kernel_rfl) rfl ?_
  refine ⟨inI64 (by omega) (by omega), ?_⟩
  refine ⟨inI64 (by omega) (by omega), ?_⟩
  refine LoopOb.of (σ := Nat × Nat) (fun x => ([(0, .d (I x.1)), (1, .d (I x.2))], [])) (fun x => Nat.gcd x.1 x.2 = Nat.gcd a.natAbs b.natAbs) (fun x => x.2) (a.natAbs, b.natAbs) ⟨rfl, trivial, avI rfl ?_, avI rfl ?_, trivial⟩ rfl fun x hx => ?_
  · show max a (-a) = _; omega
  · show max b (-b) = _; omega
  refine Split.by (fun h2 => ?_) (fun h2 => ?_)
  · have h2 : 0 < x.2 := by simpa using h2
    refine ⟨by omega, ?_⟩
    refine ⟨(x.2, x.1 % x.2), ⟨rfl, trivial, avR _ rfl, avI rfl ?_, trivial⟩, ?_, ?_⟩
    · exact (Int.ofNat_tmod x.1 x.2).symm
    · show Nat.gcd x.2 (x.1 % x.2) = _
      rw [← hx, Nat.gcd_comm x.2, ← Nat.gcd_rec, Nat.gcd_comm]
    · exact Nat.mod_lt _ h2
  · have h2 : x.2 = 0 := by
      have : ¬ (0 < x.2) := by simpa using h2
      omega
    refine r1I rfl ?_
    rw [← hx, h2, Nat.gcd_zero_right]
theorem gcd_perm (a b c : Nat) : Nat.gcd (Nat.gcd a c) b = Nat.gcd (Nat.gcd (Nat.gcd 0 a) b) c := by
  rw [Nat.gcd_zero_left, Nat.gcd_assoc, Nat.gcd_assoc, Nat.gcd_comm c b]
theorem r_Valid (p : Corner) : Spec PP 17 [p.v] [B (valid p)] := by
  refine spec_at Try.func17 rfl (by kernel_rfl) rfl ?_
  repeat' first
    | refine Split.tt ?_
    | refine Split.ff ?_
    | refine Split.by (fun _ => ?_) (fun _ => ?_)
    | refine CallSt.pure (r_in _ _ _) rfl rfl ?_
    | refine r1B rfl ?_
    | refine Exists.intro [0, 1, 2, 3, 4, 5, 6, 7, 8, 9] (And.intro (by kernel_rfl) (FzOb.no ?_))
    | refine CallOb.pure (r_divisor p.X p.Den ?_ ?_) rfl rfl ?_
    | refine CallOb.pure (r_divisor (Nat.gcd p.X.natAbs p.Den.natAbs) p.Y ?_ ?_) rfl rfl ?_
  all_goals first
    | (unfold valid; simp_all; done)
    | skip
  all_goals simp only [Bool.not_eq_false', within_spec] at *
  · omega
  · omega
  · have := Nat.gcd_le_right p.X.natAbs (n := p.Den.natAbs) (by omega)
    omega
  · omega
  · unfold valid
    have h1 : within p.Den 1 2097152 = true := within_spec.2 ‹1 ≤ p.Den ∧ _›
    have h2 : within p.X (-1073741824) 1073741824 = true := within_spec.2 ‹-1073741824 ≤ p.X ∧ _›
    have h3 : within p.Y (-1073741824) 1073741824 = true := within_spec.2 ‹-1073741824 ≤ p.Y ∧ _›
    rw [h1, h2, h3, Int.natAbs_natCast, gcd_perm]
    rfl
theorem r_Check (l : List Half) : Spec PP 15 [slH l] [N (checkL l)] := by
  refine spec_at Try.func15 rfl (by kernel_rfl) rfl ?_
  refine Split.by (fun h1 => ?_) (fun h1 => ?_)
  · have h1 : 40 < l.length := by have := dT h1; omega
    refine r1I rfl ?_
    simp [checkL, h1]
  · have h1 : ¬ 40 < l.length := by have := dF h1; omega
    refine LoopOb.of (σ := Nat) (fun i => ([(0, avOf (slH l)), (3, .d (I i))], [])) (fun i => i ≤ l.length ∧ (l.take i).all fit = true) (fun i => l.length - i) 0 ⟨rfl, trivial, avR _ rfl, avR _ rfl, trivial⟩ ⟨Nat.zero_le _, rfl⟩ fun i hi => ?_
    obtain ⟨hi, ha⟩ := hi
    refine Split.by (fun h2 => ?_) (fun h2 => ?_)
    · have h2 : i < l.length := by simpa using h2
      refine ⟨⟨rfl, by omega, by omega⟩, ?_⟩
      refine CallSt.pure (r_right (l.getD i default)) rfl rfl ?_
      refine Split.by (fun h3 => ?_) (fun h3 => ?_)
      · refine r1I rfl ?_
        have h3 : fit (l.getD i default) = false := by simpa using h3
        have : l.all fit = false := by
          rw [List.all_eq_false]; exact ⟨_, gd1 h2 default, by rw [h3]; simp⟩
        simp [checkL, h1, this]
      · have h3 : fit (l.getD i default) = true := by simpa using h3
        refine ⟨inI64 (by omega) (by omega), ?_⟩
        refine ⟨i + 1, ⟨rfl, trivial, avR _ rfl, avR _ rfl, trivial⟩, ⟨h2, ?_⟩, ?_⟩
        · rw [take1 h2 default, List.all_append, ha]; simp only [List.all_cons, h3]; rfl
        · show l.length - (i + 1) < l.length - i
          omega
    · have h2 : i = l.length := by
        have : ¬ i < l.length := by simpa using h2
        omega
      refine r1I rfl ?_
      rw [h2, List.take_length] at ha
      simp only [checkL, h1, ha, if_false, if_true]
end Go.Pg
