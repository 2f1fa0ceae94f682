/-
  Contracts: the half-planes of a system with the sides of the map; Allows.
-/
import Derived.Test.YtlmljmgappiehaaPhA
set_option linter.all false
set_option maxRecDepth 100000
namespace Go.Pg
open Go.Proofs Go.RowKit

theorem s_sides : Spec PP 98 [] [.agg [I (-1), I 0, I 0, I 1, I 0, I 48, I 0, I (-1), I 0, I 0, I 1, I 48]] := by
  refine spec_at Try.func98 rfl (by kernel_rfl) rfl ?_
  refine r1C rfl rfl rfl rfl rfl rfl ?_
  exact eqvs_refl _
def sidesL : List Half := [⟨-1, 0, 0⟩, ⟨1, 0, 48⟩, ⟨0, -1, 0⟩, ⟨0, 1, 48⟩]
def outsideL : List Num → Corner → Int
  | [], _ => -5
  | x :: r, p => if lies x.h p = true then outsideL r p else x.n
theorem s_outside (l : List Num) (p : Corner) (hl : ∀ x ∈ l, okH x.h) (hp : okC p) (hn : l.length ≤ 1000000) : Spec PP 66 [slN l, p.v] [N (outsideL l p)] := by
  refine spec_at Try.func66 rfl (by kernel_rfl) rfl ?_
  refine LoopOb.of (σ := Nat) (fun i => ([(3, .box 3 0), (7, avOf (slN l)), (8, .d (I l.length)), (9, .d (I i))], [(3, .box [.d (I p.X), .d (I p.Y), .d (I p.Den)])])) (fun i => i ≤ l.length ∧ outsideL (l.drop i) p = outsideL l p) (fun i => l.length - i) 0 ⟨rfl, ⟨obD [I p.X, I p.Y, I p.Den] rfl, trivial⟩, ⟨rfl, rfl⟩, avR _ rfl, avR _ rfl, avR _ rfl, trivial⟩ ⟨Nat.zero_le _, rfl⟩ fun i hi => ?_
  obtain ⟨hi, ho⟩ := hi
  refine Split.by (fun h1 => ?_) (fun h1 => ?_)
  · have h1 : i < l.length := by simpa using h1
    have hd : l.drop i = l.getD i default :: l.drop (i + 1) := by
      rw [List.drop_eq_getElem_cons h1, List.getD_eq_getElem?_getD, List.getElem?_eq_getElem h1]; rfl
    rw [hd] at ho
    refine ⟨⟨rfl, by omega, by omega⟩, ?_⟩
    refine CallSt.pure (s_lies (l.getD i default).h p (hl _ (gd1 h1 default)) hp) rfl rfl ?_
    refine Split.by (fun h2 => ?_) (fun h2 => ?_)
    · have h2 : lies (l.getD i default).h p = false := by simpa using h2
      refine r1I rfl ?_
      rw [← ho]; simp only [outsideL, h2]; rfl
    · have h2 : lies (l.getD i default).h p = true := by simpa using h2
      refine ⟨inI64 (by omega) (by omega), ?_⟩
      refine ⟨i + 1, ⟨rfl, ⟨obD [I p.X, I p.Y, I p.Den] rfl, trivial⟩, ⟨rfl, rfl⟩, avR _ rfl, avR _ rfl, avR _ rfl, trivial⟩, ⟨h1, ?_⟩, ?_⟩
      · rw [← ho]; simp only [outsideL, h2, if_true]
      · show l.length - (i + 1) < l.length - i
        omega
  · have h1 : i = l.length := by
      have : ¬ i < l.length := by simpa using h1
      omega
    refine r1I rfl ?_
    rw [← ho, h1, List.drop_length]; rfl
end Go.Pg
