/- Texts joined and shortened by program. -/
import Derived.Test.YtooepbnecjepnaaGreatHF
import Derived.Test.YtooepbnecjepnaaGreatH8
import Derived.Test.YtooepbnecjepnaaGreatHA
set_option maxHeartbeats 4000000
set_option linter.all false
set_option maxRecDepth 100000
namespace Go.Pg
open Go.Proofs Go.RowKit
theorem zqV (s : Svc) (b : Brn) (l : List Rpt) (f : Form) : (bndM s b l f).2 = (bndR s b l f).2 := by
 unfold bndM bndR
 split
 ·rfl
 ·exact znw _ _
theorem zss {s : Svc} {b : Brn} {l : List Rpt} {f : Form} (h : (bndR s b l f).2 = 0) : bndR s b l f = bestE (hvsR s b l).1.1 f /\ bndM s b l f = mostE (hvsR s b l).1.1 f := by
 unfold bndR at h
 split at h
 ·rename_i h1; exact absurd h h1
 ·rename_i h1
  unfold bndR bndM
  rw [if_neg h1, if_neg h1]
  exact ⟨rfl, rfl⟩
theorem zqr (s : Svc) (b : Brn) (l : List Rpt) : (hvsR s b l).1.1.length <= 2 * l.length /\ (hvsR s b l).1.2.length <= 2 * l.length := by
 have b1 := zhy s l
 have b2 := zhz l
 unfold hvsR
 split
 ·simp
 ·split
  ·simp
  ·exact ⟨b1, b2⟩
theorem s_CellHalves (s : Svc) (b : Brn) (l : List Rpt) (f : Form) : Spec PP 4 [s.v, b.v, .d (lR l), f.v] [B true] := by
 refine sA Tryz.func4 ?_
 refine cP (zpj s) rfl rfl ?_
 apply sB <;> intro h1
 ·repeat first | apply sT | apply sF
  refine cP zdf rfl rfl ?_
  exact r1B rfl rfl
 repeat first | apply sT | apply sF
 apply sB <;> intro h2
 ·refine cP zdf rfl rfl ?_
  exact r1B rfl rfl
 have hl : l.length <= 30 := by have := dF h2; omega
 obtain ⟨b1, b2⟩ := zqr s b l
 refine CallSt.ro (ziD s b l) rfl rfl ?_
 refine CallSt.ro (zgf s b l) rfl rfl ?_
 refine Split.no (by simp) ?_
 refine cP (zge (hvsR s b l).1.1 (hvsR s b l).1.1 (by omega)) rfl rfl ?_
 repeat first | apply sT | apply sF | refine Split.no (by simp) ?_
 refine cP (zeI (hvsR s b l).1.2 (hvsR s b l).1.2 (by omega)) rfl rfl ?_
 repeat first | apply sT | apply sF
 refine Split.no (by simp) ?_
 apply sB <;> intro h3
 ·refine cP zdf rfl rfl ?_
  exact r1B rfl rfl
 have em := zqV s b l f
 refine CallSt.ro (zqo s b l f) rfl rfl ?_
 refine CallSt.ro (zm5 s b l f) rfl rfl ?_
 refine Split.no (by rw [em]; simp) ?_
 refine cP zdf rfl rfl ?_
 repeat first | apply sT | apply sF
 apply sB <;> intro g1
 ·repeat first | apply sT | apply sF
  exact r1B rfl rfl
 have g1 : (bndR s b l f).2 = 0 := by simpa using g1
 obtain ⟨e1, e2⟩ := zss g1
 rw [e1] at g1
 have z := zqW g1
 obtain ⟨c1, c2, c3⟩ := zso z
 have cR := zhf (hvsR s b l).1.1 f (bestE (hvsR s b l).1.1 f).1 (zsr c3 (by omega))
 rw [z] at cR
 have ev := znv g1
 rw [e1, e2]
 repeat first | apply sT | apply sF
 have q1 : ((bestE (hvsR s b l).1.1 f).1.V.Num == (mostE (hvsR s b l).1.1 f).1.Num && ((bestE (hvsR s b l).1.1 f).1.V.Den == (mostE (hvsR s b l).1.1 f).1.Den && true)) = true := by rw [ev]; simp
 refine Split.yes q1 ?_
 refine cP cR rfl rfl ?_
 repeat first | apply sT | apply sF
 exact r1B rfl rfl
end Go.Pg
