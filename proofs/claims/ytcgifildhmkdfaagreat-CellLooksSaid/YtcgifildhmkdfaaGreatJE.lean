/- Texts joined and shortened by program. -/
import Derived.Test.YtcgifildhmkdfaaGreatJ4
import Derived.Shelf.SlLaysE0
import Derived.Shelf.RegionOpenPlain
import Derived.WalkKit
import Derived.Deep.LoopGhost
import Derived.Deep.RegionLaw
import Derived.Lib.Walk
import Derived.Sort.WalkB12
import Derived.Lib.SliceRun
import Derived.Lib.SlicesDelete
import Derived.Test.YtcgifildhmkdfaaGreatJD
import Derived.Test.YtcgifildhmkdfaaGreatJ8
import Derived.Test.YtcgifildhmkdfaaGreatJA
import Derived.Test.YtcgifildhmkdfaaGreatJC
set_option linter.all false
namespace Go.Pg
open Go.Proofs Go.Shelf Go.RowKit Go.Lib Go.Sort
variable {P : Program} {ρ : Ren}
theorem SpecT.congr {P : Program} {f : FuncId} {pre post : List V1} {e k n n' n2 : Nat} {g g' g2 : Nat → Nat → D} (h : SpecT P f pre post e k n g n' g') (hn : n' = n2) (hg : ∀ m, m < n2 → ∀ j, j < k → g' m j = g2 m j) : SpecT P f pre post e k n g n2 g2 := by
 subst hn
 refine ⟨h.1, fun w ok vs us v xs h1 h2 h3 h4 => (h.2 w ok vs us v xs h1 h2 h3 h4).mono ?_⟩
 rintro en w' ⟨v', e1, e2, e3, xs', e4, e5, e6⟩
 exact ⟨v', e1, e2, e3, xs', e4, e5, fun m hm j hj => by rw [← hg m hm j hj]; exact e6 m hm j hj⟩
section
variable {s : St} {o : Oper} {fo : Operand} {f : FuncId} {K : St → Prop} {E : Env}
end
structure Key (G : Prop) : Prop where
  out : G
theorem two_ {G T : Prop} (h : Key G → T) (g : G) : T := h ⟨g⟩
section
variable {s : Svc} {l : List Rpt} {L : List (Nat → Bool)} {ps : List Place} {rs : List Rsn} {n : Nat} {q : Nat × Nat}
end
end Go.Pg
