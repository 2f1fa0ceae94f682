/- Texts joined and shortened by program. -/
import Derived.Test.YtogcomikcdbopaaGreatMD
import Derived.Test.YtogcomikcdbopaaGreatME
import Derived.Test.YtogcomikcdbopaaGreatMC
import Derived.Test.YtogcomikcdbopaaGreatMA
set_option maxHeartbeats 4000000
set_option linter.all false
set_option maxRecDepth 100000
namespace Go.Pg
open Go.Proofs Go.RowKit Go.Sort Go.Shelf
theorem zc4 (l : List Rpt) (id : Int) (hn : l.length <= 1000000) : Spec PP 33 [.d (lR l), N id] [N (rptI l id)] := by
 refine sA Tryz.func33 ?_
 refine LoopOb.of (σ := Nat) (fun i => ([(0, .d (lR l)), (1, .d (I id)), (5, .d (I i))], [])) (fun i => i <= l.length /\ ∀ j, j < i -> ((l.getD j default).ID == id) = false) (fun i => l.length - i) 0
  ⟨rfl, trivial, wq rfl⟩ z0L fun i hi => ?_
 obtain ⟨hi, ha⟩ := hi
 apply sB <;> intro h1
 ·have h1 : i < l.length := by have := dT h1; omega
  refine ⟨⟨rfl, by omega, by omega⟩, ?_⟩
  apply sB <;> intro h2
  ·refine r1I rfl ?_
   exact (zam (p := fun r : Rpt => r.ID == id) default h1 h2 ha).symm
  ·refine ⟨i6, ?_⟩
   refine ⟨i + 1, ⟨rfl, trivial, wq rfl⟩, ⟨h1, fun j hj => ?_⟩, (msr (by omega))⟩
   by_cases e : j = i
   ·subst e; exact h2
   ·exact ha j (by omega)
 have h1 : i = l.length := by have := dF h1; omega
 subst h1
 refine r1I rfl ?_
 exact (zaq (p := fun r : Rpt => r.ID == id) default ha).symm
section
variable {s : Svc} {l : List Rpt} {L : List (Nat -> Bool)} {ps : List Place} {rs : List Rsn}
end
theorem zmy {s : Svc} {b : Brn} {l : List Rpt} (h0 : givE s b l = 0) : Spec PP 50 [s.v, b.v, .d (lR l)] [.agg [lP (plsL s.c.M (metP (l.map (alwP s b)))), lRs (rsnK s l (l.map (alwP s b)) s.n), I 0]] := by
 have ok := zdh h0
 have ht := zmQ s b l ok.s.c.m (by have := ok.s.c.t; omega) ok.n (fun i hi => zlS (ok.r i hi).2)
 rw [zj5, zj4] at ht
 exact ht
end Go.Pg
