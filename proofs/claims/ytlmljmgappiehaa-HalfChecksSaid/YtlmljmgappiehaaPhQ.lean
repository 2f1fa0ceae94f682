/-
  The laws HalfChecks, HalfAllows, HalfPoints: walks.
-/
import Derived.Test.YtlmljmgappiehaaPhP
set_option linter.all false
set_option maxRecDepth 100000
namespace Go.Pg
open Go.Proofs Go.RowKit

/-- A test that is true whatever it compares. -/
theorem Split.yes {b : Bool} {K : Bool → Prop} (hb : b = true) (h : K true) : Split b K := by subst hb; exact .of h
theorem Split.no {b : Bool} {K : Bool → Prop} (hb : b = false) (h : K false) : Split b K := by subst hb; exact .of h
theorem ieq (a : Int) : (a == a) = true := by simp
theorem beqb (a : Bool) : (a == a) = true := by simp
theorem s_HalfChecks (l : List Half) (p : Corner) (a : Place) : Spec PP 3 [slH l, p.v, a.v] [B true] := by
  refine spec_at Try.func3 rfl (by kernel_rfl) rfl ?_
  refine Split.by (fun h1 => ?_) (fun h1 => ?_)
  · refine CallSt.pure s_sanity rfl rfl ?_
    exact r1B rfl rfl
  · refine Exists.intro (List.range 23) (And.intro (by kernel_rfl) (FzOb.no ?_))
    refine CallOb.pure s_sanity rfl rfl ?_
    refine Split.tt ?_
    refine CallOb.pure (s_Check l) rfl rfl ?_
    refine CallOb.pure (r_Check l) rfl rfl ?_
    refine Split.tt ?_
    refine Split.yes (ieq _) ?_
    refine CallOb.pure (s_Valid p) rfl rfl ?_
    refine CallOb.pure (r_Valid p) rfl rfl ?_
    refine Split.tt ?_
    refine Split.yes (beqb _) ?_
    refine CallOb.pure (s_Of a) rfl rfl ?_
    refine CallOb.pure (r_Of a) rfl rfl ?_
    refine Split.tt ?_
    refine r1B rfl ?_
    simp
end Go.Pg
