/- Texts joined and shortened by program. -/
import Derived.Test.YtooepbnecjepnaaGreatHB
set_option maxHeartbeats 4000000
set_option linter.all false
set_option maxRecDepth 100000
namespace Go.Pg
open Go.Proofs Go.RowKit
theorem zkK (s : Svc) (l : List Rpt) (hT : s.c.T.length <= 1000000) (hC : s.k.C.length <= 1000000) : Spec PP 115 [s.v, .d (lR l)] [.d (.int .i64 (if 24 < l.length then 2 else err1 (rp1E s l) l.length))] := by
 refine sA Tryz.func115 ?_
 apply sB <;> intro h2
 ·have h2 : 24 < l.length := by have : (24 : Int) < l.length := dT h2; omega
  refine r1I rfl ?_
  rw [if_pos h2]
 have h2 : ¬ 24 < l.length := by have : ¬ (24 : Int) < l.length := dF h2; omega
 rw [if_neg h2]
 refine LoopOb.of (σ := Nat) (fun i => ([(1, .d (lR l)), (2, .box 2 0), (5, .d (I i))], [(2, .box (s.ds.map AV.d))])) (fun i => i <= l.length /\ ∀ j, j < i -> rp1E s l j = 0) (fun i => l.length - i) 0
  ⟨rfl, ⟨obD s.ds rfl, trivial⟩, wq rfl⟩ z0L fun i hi => ?_
 obtain ⟨hi, ha⟩ := hi
 apply sB <;> intro h3
 ·have h3 : i < l.length := by have := dT h3; omega
  refine oL (List.range 7) (FzOb.no ?_)
  refine ⟨⟨rfl, by omega, by omega⟩, ?_⟩
  refine oP (zkJ s (l.getD i default) hT hC) rfl rfl ?_
  apply sB <;> intro h4
  ·have h4 : rptE s (l.getD i default) ≠ 0 := by simpa using h4
   have e1 : rp1E s l i = rptE s (l.getD i default) := by unfold rp1E; rw [if_pos h4]
   refine r1I rfl ?_
   rw [zan ha (by rw [e1]; exact h4) h3, e1]
  have h4 : rptE s (l.getD i default) = 0 := by simpa using h4
  refine LoopOb.of (σ := Nat) (fun j => ([(1, .d (lR l)), (2, .box 2 0), (5, .d (I i)), (7, .d (I j))], [(2, .box (s.ds.map AV.d))])) (fun j => j <= i /\ ∀ z, z < j -> (l.getD z default).ID ≠ (l.getD i default).ID) (fun j => i - j) 0
   ⟨rfl, ⟨obD s.ds rfl, trivial⟩, wq rfl⟩ z0L fun j hj => ?_
  obtain ⟨hj, hb⟩ := hj
  apply sB <;> intro h5
  ·have h5 : j < i := by have := dT h5; omega
   refine oL (List.range 11) (FzOb.no ?_)
   refine ⟨⟨rfl, by omega, by omega⟩, ⟨⟨rfl, by omega, by omega⟩, ?_⟩⟩
   apply sB <;> intro h6
   ·have h6 : (l.getD j default).ID = (l.getD i default).ID := by simpa using h6
    have e1 : rp1E s l i = 6 := by unfold rp1E; rw [if_neg (fun hh => hh h4), if_pos ((zlw hi _).2 ⟨j, h5, h6⟩)]
    refine r1I rfl ?_
    rw [zan ha (by rw [e1]; decide) h3, e1]
   ·have h6 : (l.getD j default).ID ≠ (l.getD i default).ID := by simpa using h6
    refine ⟨i6, ?_⟩
    refine ⟨j + 1, ⟨rfl, ⟨obD s.ds rfl, trivial⟩, wq rfl⟩, ⟨h5, fun z hz => ?_⟩, (msr (by omega))⟩
    by_cases q : z = j
    ·subst q; exact h6
    ·exact hb z (by omega)
  ·have h5 : j = i := by have := dF h5; omega
   subst h5
   have hc : ((l.take j).map Rpt.ID).contains (l.getD j default).ID = false := by
    cases hh : ((l.take j).map Rpt.ID).contains (l.getD j default).ID with
    | false => rfl
    | true => obtain ⟨z, hz, e⟩ := (zlw hi _).1 hh; exact absurd e (hb z hz)
   have e1 : rp1E s l j = 0 := by unfold rp1E; rw [if_neg (fun hh => hh h4), if_neg (by rw [hc]; decide)]
   refine ⟨i6, ?_⟩
   refine ⟨j + 1, ⟨rfl, ⟨obD s.ds rfl, trivial⟩, wq rfl⟩, ⟨h3, fun z hz => ?_⟩, (msr (by omega))⟩
   by_cases q : z = j
   ·subst q; exact e1
   ·exact ha z (by omega)
 ·have h3 : i = l.length := by have := dF h3; omega
  subst h3
  refine r1I rfl ?_
  rw [zaJ ha]
theorem zjg (s : Svc) (b : Brn) (l : List Rpt) : Spec PP 50 [s.v, b.v, .d (lR l)] [.d (.int .i64 (givE s b l))] := by
 refine sA Tryz.func50 ?_
 refine cP (zm4 s) rfl rfl ?_
 apply sB <;> intro h0
 ·refine r1I rfl ?_
  unfold givE; rw [if_pos (by simpa using h0)]
 have h0 : svcE s = 0 := by simpa using h0
 have ok := zh8 h0
 refine cP (zjf b) rfl rfl ?_
 apply sB <;> intro h1
 ·refine r1I rfl ?_
  unfold givE; rw [if_neg (fun hh => hh h0), if_pos (by simpa using h1)]
 have h1 : brnB b = true := by simpa using h1
 refine cP (zkK s l (by have := ok.c.t; omega) (by have := ok.k.n; omega)) rfl rfl ?_
 refine r1I rfl ?_
 have e1 : givE s b l = if brnB b = false then 1 else if 24 < l.length then 2 else err1 (rp1E s l) l.length := by unfold givE; rw [if_neg (fun hh => hh h0)]
 have e2 : ¬ brnB b = false := by rw [h1]; decide
 rw [e1, if_neg e2]
end Go.Pg
