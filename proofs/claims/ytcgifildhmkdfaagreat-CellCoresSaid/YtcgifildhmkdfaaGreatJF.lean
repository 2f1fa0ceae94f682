/- Texts joined and shortened by program. -/
import Derived.Test.YtcgifildhmkdfaaGreatJD
import Derived.Test.YtcgifildhmkdfaaGreatJE
import Derived.Test.YtcgifildhmkdfaaGreatJC
import Derived.Test.YtcgifildhmkdfaaGreatJA
set_option linter.all false
set_option maxRecDepth 100000
namespace Go.Pg
open Go.Proofs Go.RowKit Go.Sort Go.Shelf
def cs2 (s : Svc) (l : List Rpt) (L : List (Nat → Bool)) (ps : List Place) (rs : List Rsn) (n : Nat) (q : Nat × Nat) : Option (Nat × Nat) :=
 if inB s ps q.1 n = true then (if 0 ≤ fstI L n then none else some (q.1 + 1, q.2))
 else if outB s rs q.2 n = false then none
 else if rptI l (rs.getD q.2 default).R < 0 ∨ L.getD (rptI l (rs.getD q.2 default).R).toNat default n = true then none else some (q.1, q.2 + 1)
section
variable {s : Svc} {l : List Rpt} {L : List (Nat → Bool)} {ps : List Place} {rs : List Rsn}
end
structure Bnd where
  What : Int
  At : Int
  P : Place
  R : Int
abbrev Bnd.ds (x : Bnd) : List D := [I x.What, I x.At, I x.P.X, I x.P.Y, I x.R]
abbrev Bnd.v (x : Bnd) : V1 := .agg x.ds
theorem rep_Bnd {w : World} {ok : Nat → Prop} {xs : List D} {v : Value} (hr : Rep1 w ok (.agg xs) v) (h : All2 Fits [.int .i64, .int .i64, .int .i64, .int .i64, .int .i64] xs) : ∃ x : Bnd, Rep1 w ok x.v v := by
 cases h with
 | cons h0 h =>
 cases h with
 | cons h1 h =>
 cases h with
 | cons h2 h =>
 cases h with
 | cons h3 h =>
 cases h with
 | cons h4 h =>
 cases h
 obtain ⟨a, -, rfl⟩ := h0
 obtain ⟨b, -, rfl⟩ := h1
 obtain ⟨c, -, rfl⟩ := h2
 obtain ⟨d, -, rfl⟩ := h3
 obtain ⟨e, -, rfl⟩ := h4
 exact ⟨⟨a, b, ⟨c, d⟩, e⟩, hr⟩
end Go.Pg
