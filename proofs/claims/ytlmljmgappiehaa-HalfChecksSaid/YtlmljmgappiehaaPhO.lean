/-
  Contracts: the specification's comparisons of lists.
-/
import Derived.Test.YtlmljmgappiehaaPhN
set_option linter.all false
set_option maxRecDepth 100000
namespace Go.Pg
open Go.Proofs Go.RowKit

theorem eqCs (p q : Corner) : (p.X == q.X && (p.Y == q.Y && (p.Den == q.Den && (true)))) = (p == q) := by
  rw [Bool.eq_iff_iff]
  simp only [Bool.and_eq_true, beq_iff_eq, and_true]
  cases p; cases q; simp
theorem r_SameCorners (a b : List Corner) (hn : a.length ≤ 1000000) : Spec PP 26 [slC a, slC b] [B (decide (a = b))] := by
  refine spec_at Try.func26 rfl (by kernel_rfl) rfl ?_
  refine Split.by (fun h1 => ?_) (fun h1 => ?_)
  · have h1 : a.length ≠ b.length := by
      have : ¬ (a.length : Int) = b.length := by simpa using h1
      omega
    refine r1B rfl ?_
    exact (decide_eq_false fun e => h1 (by rw [e])).symm
  have h1 : a.length = b.length := by
    have : (a.length : Int) = b.length := by simpa using h1
    omega
  refine LoopOb.of (σ := Nat) (fun i => ([(0, avOf (slC a)), (1, avOf (slC b)), (5, .d (I i))], [])) (fun i => i ≤ a.length ∧ a.take i = b.take i) (fun i => a.length - i) 0 ⟨rfl, trivial, avR _ rfl, avR _ rfl, avR _ rfl, trivial⟩ ⟨Nat.zero_le _, rfl⟩ fun i hi => ?_
  obtain ⟨i1, i2⟩ := hi
  refine Split.by (fun h2 => ?_) (fun h2 => ?_)
  · have h2 : i < a.length := by simpa using h2
    refine Exists.intro (List.range 9) (And.intro (by kernel_rfl) (FzOb.no ?_))
    refine ⟨⟨rfl, by omega, by omega⟩, ?_⟩
    refine ⟨⟨rfl, by omega, by omega⟩, ?_⟩
    refine Split.by (fun h3 => ?_) (fun h3 => ?_)
    · have h3 : (a.getD i default == b.getD i default) = false := by
        have h3 : (!((a.getD i default).X == (b.getD i default).X && ((a.getD i default).Y == (b.getD i default).Y && ((a.getD i default).Den == (b.getD i default).Den && (true))))) = true := h3
        rw [eqCs] at h3
        simpa using h3
      refine r1B rfl ?_
      refine (decide_eq_false fun e => ?_).symm
      subst e
      simp at h3
    · have h3 : (a.getD i default == b.getD i default) = true := by
        have h3 : (!((a.getD i default).X == (b.getD i default).X && ((a.getD i default).Y == (b.getD i default).Y && ((a.getD i default).Den == (b.getD i default).Den && (true))))) = false := h3
        rw [eqCs] at h3
        simpa using h3
      have h3 : a.getD i default = b.getD i default := by simpa using h3
      refine ⟨inI64 (by omega) (by omega), ?_⟩
      refine ⟨i + 1, ⟨rfl, trivial, avR _ rfl, avR _ rfl, avI rfl rfl, trivial⟩, ⟨h2, ?_⟩, ?_⟩
      · rw [take1 h2 default, take1 (by omega) default, i2, h3]
      · show a.length - (i + 1) < a.length - i
        omega
  · have h2 : i = a.length := by
      have : ¬ i < a.length := by simpa using h2
      omega
    refine r1B rfl ?_
    rw [h2, List.take_length, h1, List.take_length] at i2
    exact (decide_eq_true i2).symm

theorem eqPs (p q : Place) : (p.X == q.X && (p.Y == q.Y && (true))) = (p == q) := by
  rw [Bool.eq_iff_iff]
  simp only [Bool.and_eq_true, beq_iff_eq, and_true]
  cases p; cases q; simp
theorem r_SamePlaces (a b : List Place) (hn : a.length ≤ 1000000) : Spec PP 27 [slP a, slP b] [B (decide (a = b))] := by
  refine spec_at Try.func27 rfl (by kernel_rfl) rfl ?_
  refine Split.by (fun h1 => ?_) (fun h1 => ?_)
  · have h1 : a.length ≠ b.length := by
      have : ¬ (a.length : Int) = b.length := by simpa using h1
      omega
    refine r1B rfl ?_
    exact (decide_eq_false fun e => h1 (by rw [e])).symm
  have h1 : a.length = b.length := by
    have : (a.length : Int) = b.length := by simpa using h1
    omega
  refine LoopOb.of (σ := Nat) (fun i => ([(0, avOf (slP a)), (1, avOf (slP b)), (5, .d (I i))], [])) (fun i => i ≤ a.length ∧ a.take i = b.take i) (fun i => a.length - i) 0 ⟨rfl, trivial, avR _ rfl, avR _ rfl, avR _ rfl, trivial⟩ ⟨Nat.zero_le _, rfl⟩ fun i hi => ?_
  obtain ⟨i1, i2⟩ := hi
  refine Split.by (fun h2 => ?_) (fun h2 => ?_)
  · have h2 : i < a.length := by simpa using h2
    refine Exists.intro (List.range 9) (And.intro (by kernel_rfl) (FzOb.no ?_))
    refine ⟨⟨rfl, by omega, by omega⟩, ?_⟩
    refine ⟨⟨rfl, by omega, by omega⟩, ?_⟩
    refine Split.by (fun h3 => ?_) (fun h3 => ?_)
    · have h3 : (a.getD i default == b.getD i default) = false := by
        have h3 : (!((a.getD i default).X == (b.getD i default).X && ((a.getD i default).Y == (b.getD i default).Y && (true)))) = true := h3
        rw [eqPs] at h3
        simpa using h3
      refine r1B rfl ?_
      refine (decide_eq_false fun e => ?_).symm
      subst e
      simp at h3
    · have h3 : (a.getD i default == b.getD i default) = true := by
        have h3 : (!((a.getD i default).X == (b.getD i default).X && ((a.getD i default).Y == (b.getD i default).Y && (true)))) = false := h3
        rw [eqPs] at h3
        simpa using h3
      have h3 : a.getD i default = b.getD i default := by simpa using h3
      refine ⟨inI64 (by omega) (by omega), ?_⟩
      refine ⟨i + 1, ⟨rfl, trivial, avR _ rfl, avR _ rfl, avI rfl rfl, trivial⟩, ⟨h2, ?_⟩, ?_⟩
      · rw [take1 h2 default, take1 (by omega) default, i2, h3]
      · show a.length - (i + 1) < a.length - i
        omega
  · have h2 : i = a.length := by
      have : ¬ i < a.length := by simpa using h2
      omega
    refine r1B rfl ?_
    rw [h2, List.take_length, h1, List.take_length] at i2
    exact (decide_eq_true i2).symm

theorem eqHs (p q : Half) : (p.A == q.A && (p.B == q.B && (p.C == q.C && (true)))) = (p == q) := by
  rw [Bool.eq_iff_iff]
  simp only [Bool.and_eq_true, beq_iff_eq, and_true]
  cases p; cases q; simp
theorem r_SameHalves (a b : List Half) (hn : a.length ≤ 1000000) : Spec PP 22 [slH a, slH b] [B (decide (a = b))] := by
  refine spec_at Try.func22 rfl (by kernel_rfl) rfl ?_
  refine Split.by (fun h1 => ?_) (fun h1 => ?_)
  · have h1 : a.length ≠ b.length := by
      have : ¬ (a.length : Int) = b.length := by simpa using h1
      omega
    refine r1B rfl ?_
    exact (decide_eq_false fun e => h1 (by rw [e])).symm
  have h1 : a.length = b.length := by
    have : (a.length : Int) = b.length := by simpa using h1
    omega
  refine LoopOb.of (σ := Nat) (fun i => ([(0, avOf (slH a)), (1, avOf (slH b)), (5, .d (I i))], [])) (fun i => i ≤ a.length ∧ a.take i = b.take i) (fun i => a.length - i) 0 ⟨rfl, trivial, avR _ rfl, avR _ rfl, avR _ rfl, trivial⟩ ⟨Nat.zero_le _, rfl⟩ fun i hi => ?_
  obtain ⟨i1, i2⟩ := hi
  refine Split.by (fun h2 => ?_) (fun h2 => ?_)
  · have h2 : i < a.length := by simpa using h2
    refine Exists.intro (List.range 9) (And.intro (by kernel_rfl) (FzOb.no ?_))
    refine ⟨⟨rfl, by omega, by omega⟩, ?_⟩
    refine ⟨⟨rfl, by omega, by omega⟩, ?_⟩
    refine Split.by (fun h3 => ?_) (fun h3 => ?_)
    · have h3 : (a.getD i default == b.getD i default) = false := by
        have h3 : (!((a.getD i default).A == (b.getD i default).A && ((a.getD i default).B == (b.getD i default).B && ((a.getD i default).C == (b.getD i default).C && (true))))) = true := h3
        rw [eqHs] at h3
        simpa using h3
      refine r1B rfl ?_
      refine (decide_eq_false fun e => ?_).symm
      subst e
      simp at h3
    · have h3 : (a.getD i default == b.getD i default) = true := by
        have h3 : (!((a.getD i default).A == (b.getD i default).A && ((a.getD i default).B == (b.getD i default).B && ((a.getD i default).C == (b.getD i default).C && (true))))) = false := h3
        rw [eqHs] at h3
        simpa using h3
      have h3 : a.getD i default = b.getD i default := by simpa using h3
      refine ⟨inI64 (by omega) (by omega), ?_⟩
      refine ⟨i + 1, ⟨rfl, trivial, avR _ rfl, avR _ rfl, avI rfl rfl, trivial⟩, ⟨h2, ?_⟩, ?_⟩
      · rw [take1 h2 default, take1 (by omega) default, i2, h3]
      · show a.length - (i + 1) < a.length - i
        omega
  · have h2 : i = a.length := by
      have : ¬ i < a.length := by simpa using h2
      omega
    refine r1B rfl ?_
    rw [h2, List.take_length, h1, List.take_length] at i2
    exact (decide_eq_true i2).symm

theorem eqIs : True := trivial
theorem r_SameInts (a b : List Int) (hn : a.length ≤ 1000000) : Spec PP 46 [slI a, slI b] [B (decide (a = b))] := by
  refine spec_at Try.func46 rfl (by kernel_rfl) rfl ?_
  refine Split.by (fun h1 => ?_) (fun h1 => ?_)
  · have h1 : a.length ≠ b.length := by
      have : ¬ (a.length : Int) = b.length := by simpa using h1
      omega
    refine r1B rfl ?_
    exact (decide_eq_false fun e => h1 (by rw [e])).symm
  have h1 : a.length = b.length := by
    have : (a.length : Int) = b.length := by simpa using h1
    omega
  refine LoopOb.of (σ := Nat) (fun i => ([(0, avOf (slI a)), (1, avOf (slI b)), (5, .d (I i))], [])) (fun i => i ≤ a.length ∧ a.take i = b.take i) (fun i => a.length - i) 0 ⟨rfl, trivial, avR _ rfl, avR _ rfl, avR _ rfl, trivial⟩ ⟨Nat.zero_le _, rfl⟩ fun i hi => ?_
  obtain ⟨i1, i2⟩ := hi
  refine Split.by (fun h2 => ?_) (fun h2 => ?_)
  · have h2 : i < a.length := by simpa using h2
    refine Exists.intro (List.range 9) (And.intro (by kernel_rfl) (FzOb.no ?_))
    refine ⟨⟨rfl, by omega, by omega⟩, ?_⟩
    refine ⟨⟨rfl, by omega, by omega⟩, ?_⟩
    refine Split.by (fun h3 => ?_) (fun h3 => ?_)
    · have h3 : (a.getD i 0 == b.getD i 0) = false := by
        have h3 : (!((a.getD i 0) == (b.getD i 0))) = true := h3
        skip
        simpa using h3
      refine r1B rfl ?_
      refine (decide_eq_false fun e => ?_).symm
      subst e
      simp at h3
    · have h3 : (a.getD i 0 == b.getD i 0) = true := by
        have h3 : (!((a.getD i 0) == (b.getD i 0))) = false := h3
        skip
        simpa using h3
      have h3 : a.getD i 0 = b.getD i 0 := by simpa using h3
      refine ⟨inI64 (by omega) (by omega), ?_⟩
      refine ⟨i + 1, ⟨rfl, trivial, avR _ rfl, avR _ rfl, avI rfl rfl, trivial⟩, ⟨h2, ?_⟩, ?_⟩
      · rw [take1 h2 0, take1 (by omega) 0, i2, h3]
      · show a.length - (i + 1) < a.length - i
        omega
  · have h2 : i = a.length := by
      have : ¬ i < a.length := by simpa using h2
      omega
    refine r1B rfl ?_
    rw [h2, List.take_length, h1, List.take_length] at i2
    exact (decide_eq_true i2).symm
end Go.Pg
