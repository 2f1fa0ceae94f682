/-
  Contracts: the pairs of half-planes whose edges cross, in order (an iterator).
-/
import Derived.Test.YtlmljmgappiehaaPhC
import Derived.Test.YtlmljmgappiehaaPrC
set_option linter.all false
set_option maxRecDepth 100000
namespace Go.Pg
open Go.Proofs Go.RowKit

abbrev Num.v (x : Num) : V1 := .agg [I x.n, I x.h.A, I x.h.B, I x.h.C]
def Num.val (x : Num) : Value := .agg #[.int .i64 x.n, .int .i64 x.h.A, .int .i64 x.h.B, .int .i64 x.h.C]
def rowP (l : List Num) (i k : Nat) : List (Num × Num) := (List.range k).filterMap fun k => if det (l.getD k default).h (l.getD i default).h = 0 then none else some (l.getD k default, l.getD i default)
def upP (l : List Num) (i : Nat) : List (Num × Num) := (List.range i).flatMap fun i => rowP l i i
def pairsL (l : List Num) : List (Num × Num) := upP l l.length
theorem rowP_succ (l : List Num) (i k : Nat) : rowP l i (k + 1) = rowP l i k ++ (if det (l.getD k default).h (l.getD i default).h = 0 then [] else [(l.getD k default, l.getD i default)]) := by
  unfold rowP
  rw [List.range_succ, List.filterMap_append]
  congr 1
  by_cases h : det (l.getD k default).h (l.getD i default).h = 0
  · rw [if_pos h, List.filterMap_cons_none (by rw [if_pos h])]; rfl
  · rw [if_neg h, List.filterMap_cons_some (by rw [if_neg h])]; rfl
theorem upP_succ (l : List Num) (i : Nat) : upP l (i + 1) = upP l i ++ rowP l i i := by
  unfold upP
  rw [List.range_succ, List.flatMap_append]
  simp
theorem rowP_pre (l : List Num) (i : Nat) : ∀ {k m : Nat}, k ≤ m → rowP l i k <+: rowP l i m := fun {k m} h => by
  obtain ⟨d, rfl⟩ := Nat.exists_eq_add_of_le h
  induction d with
  | zero => exact List.prefix_rfl
  | succ d ih => exact (ih (by omega)).trans (by rw [← Nat.add_assoc, rowP_succ]; exact List.prefix_append _ _)
theorem upP_pre (l : List Num) : ∀ {k m : Nat}, k ≤ m → upP l k <+: upP l m := fun {k m} h => by
  obtain ⟨d, rfl⟩ := Nat.exists_eq_add_of_le h
  induction d with
  | zero => exact List.prefix_rfl
  | succ d ih => exact (ih (by omega)).trans (by rw [← Nat.add_assoc, upP_succ]; exact List.prefix_append _ _)
theorem pairs_get (l : List Num) {i k : Nat} (hi : i < l.length) (hk : k < i) (hd : det (l.getD k default).h (l.getD i default).h ≠ 0) : (pairsL l)[(upP l i).length + (rowP l i k).length]? = some (l.getD k default, l.getD i default) := by
  have h1 : rowP l i (k + 1) <+: rowP l i i := rowP_pre l i hk
  have h2 : upP l (i + 1) <+: pairsL l := upP_pre l hi
  rw [rowP_succ, if_neg hd] at h1
  rw [upP_succ] at h2
  obtain ⟨r1, h1⟩ := h1
  obtain ⟨r2, h2⟩ := h2
  rw [← h2, ← h1]
  simp
def Num.sl (l : List Num) : D := .slc 4 l.length fun i => (l.getD i default).at
def pairsEnc (x : Num × Num) : List V1 := [x.1.v, x.2.v]
def pairsVal (x : Num × Num) : List Value := [x.1.val, x.2.val]
theorem num_val {x : Num} {w : World} {ok : Nat → Prop} {u : Value} (h : Rep1 w ok x.v u) : u = x.val := by
  obtain ⟨vs, rfl, h⟩ := h
  cases h with
  | cons h1 h => cases h with
    | cons h2 h => cases h with
      | cons h3 h => cases h with
        | cons h4 h =>
          cases h
          rw [show _ = _ from h1, show _ = _ from h2, show _ = _ from h3, show _ = _ from h4]
          rfl
theorem val_num (x : Num) (w : World) (ok : Nat → Prop) : Rep1 w ok x.v x.val := ⟨_, rfl, .cons rfl (.cons rfl (.cons rfl (.cons rfl .nil)))⟩
theorem s_pairs1 (l : List Num) (hl : ∀ x ∈ l, okH x.h) (hn : l.length ≤ 1000000) : SeqC PP 99 1 (fun _ => .ptr 1 fun _ => Num.sl l) pairsVal (pairsL l) := by
  refine seqC_at Try.func99 rfl (by kernel_rfl) rfl rfl pairsEnc (fun x w ok us h => ?_) _ fun y => ?_
  · cases h with
    | cons h1 h => cases h with
      | cons h2 h => cases h; rw [num_val h1, num_val h2]; rfl
  refine LoopOb.of (σ := Nat) (fun i => ([(G, .gho (some (upP l i).length)), (0, .yl y), (1, .roe 1 fun _ => Num.sl l), (7, avOf (slN l)), (8, .d (I l.length)), (9, .d (I i))], [])) (fun i => i ≤ l.length) (fun i => l.length - i) 0 ⟨rfl, trivial, avQ rfl, avQ rfl, avQ rfl, avQ rfl, avQ rfl, avQ rfl, trivial⟩ (Nat.zero_le _) fun i hi => ?_
  refine Split.by (fun h1 => ?_) (fun h1 => ?_)
  · have h1 : i < l.length := by simpa using h1
    refine ⟨⟨rfl, by omega, by omega⟩, ?_⟩
    refine ⟨⟨.inr rfl, by omega, by omega⟩, ?_⟩
    refine LoopOb.of (σ := Nat) (fun k => ([(G, .gho (some ((upP l i).length + (rowP l i k).length))), (0, .yl y), (1, .roe 1 fun _ => Num.sl l), (4, .roe 4 (l.getD i default).at), (7, avOf (slN l)), (8, .d (I l.length)), (9, .d (I i)), (16, .d (.slc 4 i fun i => (l.getD i default).at)), (17, .d (I i)), (18, .d (I k))], [])) (fun k => k ≤ i) (fun k => i - k) 0 ⟨rfl, trivial, avQ rfl, avQ rfl, avQ rfl, avBx rfl rfl rfl rfl (eqv4 rfl (D.eqv_refl _) (D.eqv_refl _) (D.eqv_refl _) (D.eqv_refl _)), avQ rfl, avQ rfl, avQ rfl, avE rfl ⟨by omega, .inr ⟨rfl, fun _ _ _ _ => D.eqv_refl _⟩⟩, avI rfl (by omega), avQ rfl, trivial⟩ (Nat.zero_le _) fun k hk => ?_
    refine Split.by (fun h2 => ?_) (fun h2 => ?_)
    · have h2 : k < i := by simpa using h2
      have hok1 := hl _ (gd1 (show k < l.length by omega) default)
      have hok2 := hl _ (gd1 h1 default)
      refine ⟨⟨rfl, by omega, by omega⟩, ?_⟩
      refine CallSt.pure (s_det (l.getD k default).h (l.getD i default).h hok1 hok2) rfl rfl ?_
      refine Split.by (fun h3 => ?_) (fun h3 => ?_)
      · have h3 : det (l.getD k default).h (l.getD i default).h ≠ 0 := by simpa using h3
        refine CallSt.yd (d := 32) [(0, .yl y), (1, .roe 1 fun _ => Num.sl l), (4, .roe 4 (l.getD i default).at), (7, avOf (slN l)), (8, .d (I l.length)), (9, .d (I i)), (16, .d (.slc 4 i fun i => (l.getD i default).at)), (17, .d (I i)), (18, .d (I k)), (28, .d (.bool true))] rfl rfl rfl rfl ⟨rfl, trivial, avQ rfl, avQ rfl, avQ rfl, avQ rfl, avQ rfl, avQ rfl, avQ rfl, avQ rfl, avQ rfl, avQ rfl, trivial⟩ (pairs_get l h1 h2 h3) rfl rfl ?_ ?_
        · refine Split.tt ?_
          refine Split.ff ?_
          refine ⟨inI64 (by omega) (by omega), ?_⟩
          refine ⟨k + 1, ⟨rfl, trivial, avG rfl ?_, avQ rfl, avQ rfl, avQ rfl, avQ rfl, avQ rfl, avQ rfl, avQ rfl, avQ rfl, avQ rfl, trivial⟩, h2, ?_⟩
          · rw [rowP_succ, if_neg h3]; simp; omega
          · show i - (k + 1) < i - k
            omega
        · refine Split.tt ?_
          refine Split.tt ?_
          exact .inr rfl
      · have h3 : det (l.getD k default).h (l.getD i default).h = 0 := by simpa using h3
        refine Split.ff ?_
        refine Split.ff ?_
        refine ⟨inI64 (by omega) (by omega), ?_⟩
        refine ⟨k + 1, ⟨rfl, trivial, avG rfl ?_, avQ rfl, avQ rfl, avQ rfl, avQ rfl, avQ rfl, avQ rfl, avQ rfl, avQ rfl, avQ rfl, trivial⟩, h2, ?_⟩
        · rw [rowP_succ, if_pos h3]; simp
        · show i - (k + 1) < i - k
          omega
    · have h2 : k = i := by
        have : ¬ k < i := by simpa using h2
        omega
      subst h2
      refine ⟨inI64 (by omega) (by omega), ?_⟩
      refine ⟨k + 1, ⟨rfl, trivial, avG rfl ?_, avQ rfl, avQ rfl, avQ rfl, avQ rfl, avQ rfl, trivial⟩, h1, ?_⟩
      · rw [upP_succ]; simp
      · show l.length - (k + 1) < l.length - k
        omega
  · have h1 : i = l.length := by
      have : ¬ i < l.length := by simpa using h1
      omega
    subst h1
    exact .inl rfl
/-- pairs returns the iterator, bound to its list. -/
abbrev pairsClo (l : List Num) : D := .clo 99 1 fun _ => .ptr 1 fun _ => Num.sl l
theorem s_pairs (l : List Num) : Spec PP 69 [slN l] [.d (pairsClo l)] := by
  refine spec_at Try.func69 rfl (by kernel_rfl) rfl ?_
  refine ⟨⟨rfl, rfl, fun j hj => ?_⟩, trivial⟩
  obtain rfl : j = 0 := by omega
  exact ⟨_, rfl, rfl, _, _, rfl, rfl, rfl, fun j hj => (by
    cases Nat.lt_one_iff.1 hj
    exact D.eqv_refl _)⟩
end Go.Pg
