/- Lemmas, joined by program. -/
import Derived.Test.YtcmghlfakcppkaaGreatJI
set_option maxHeartbeats 4000000
set_option linter.all false
set_option maxRecDepth 100000
namespace Go.Pg
open Go.Proofs Go.RowKit Go.Sort Go.Shelf
theorem zsg{d:Day}(h:few7 d)(hd:dayE d=0):(sigK d.R).length<=5:=by
 have ok:=zaN hd
 have:=ok.sg
 have:=ok.bl
 rcases h.2 with h|h|h
 ·exact h.1
 ·omega
 omega
theorem zlv(d:Day):(prvR d).1.length<=1000000/\∀s∈(prvR d).1,s.length<=1000000:=by
 unfold prvR
 split
 ·exact⟨jF _,fun s hs=>by cases hs⟩
 rename_i h
 split
 ·exact⟨jF _,fun s hs=>by cases hs⟩
 rename_i h0
 have ok:=zaN (jL h)
 have h1:=zi0 (bsts d) ((bsts d).getD 0 []).length
 have h2:=zbT ok (zcj (gd1 (show 0<(bsts d).length by omega) []))
 refine⟨show(prvK (bsts d) ((bsts d).getD 0 []).length).length<=1000000 by have:=h2.1;omega,fun s hs=>?_⟩
 have:=h2.2 s (qY (kS.1 hs).1)
 omega
theorem zmA(d:Day):(grpR d).1.length<=1000000/\∀s∈(grpR d).1,s.length<=1000000:=by
 by_cases hd:dayE d=0
 case neg=>
  have e:grpR d=([],dayE d):=by unfold grpR;rw[kH hd]
  rw[e]
  exact⟨jF _,fun s hs=>by cases hs⟩
 have h7:=sig7 (zaN hd)
 have el:(bsts d).length=(btL d).length:=by rw[zdf hd,kO]
 by_cases h0:(btL d).length=0
 ·have e:grpR d=([],9):=by unfold grpR;rw[kG (fun hh=>hh hd),kH (by rw[el];exact h0)]
  rw[e]
  exact⟨jF _,fun s hs=>by cases hs⟩
 rw[zqh hd h0]
 have h1:=zlS (sigL d.R) (btL d) (sigL d.R).length
 refine⟨show(oQ (sigL d.R) (btL d) (sigL d.R).length).length<=1000000 by omega,fun s hs=>?_⟩
 obtain⟨q,hq,-,rfl⟩:=zd4.1 hs
 have:=zmC (sigL d.R) (btL d) q (sigL d.R).length
 omega
theorem zqV(d:Day)(id:Int):(staR d id).1.length<=1000000:=by
 unfold staR
 split
 ·exact jF _
 rename_i h
 split
 ·exact jF _
 split
 ·exact jF _
 have h1:=zbF (zcl (zaN (jL h)).s).c.m
 have h2:=zbH d.s.c.M (staB d id) (d.s.c.M.w*d.s.c.M.h)
 show(plsK d.s.c.M (staB d id) (d.s.c.M.w*d.s.c.M.h)).length<=1000000
 omega
theorem s_JoinGroups(d:Day)(id:Int):Spec PP 5 [d.v,N id] [B true]:=by
 refine sA Tryz.func5 ?_
 refine cP zqG rfl rfl ?_
 refine cP (zsU d) rfl rfl ?_
 apply bY<;>intro h0
 ·exact r1B rfl rfl
 have hf:few7 d:=by simpa using h0
 have hn:=zuC hf
 refine cR (zoN d (by omega)) rfl rfl ?_
 refine cR (zlh d (by omega)) rfl rfl ?_
 refine cR (zoO d (by omega) fun hd=>by rw[zbt];exact zsg hf hd) rfl rfl ?_
 refine cR (zli d (by omega)) rfl rfl ?_
 refine cR (zoM d id (by omega)) rfl rfl ?_
 refine cR (zlg d id (by omega)) rfl rfl ?_
 refine cP (zkI (prvR d).1 (prvR d).1 (zlv d).1 (zlv d).2) rfl rfl ?_
 refine cP (zkI (grpR d).1 (grpR d).1 (zmA d).1 (zmA d).2) rfl rfl ?_
 refine cP (zkJ (staR d id).1 (staR d id).1 (zqV d id)) rfl rfl ?_
 repeat first|apply sT|apply sF|refine sYe (by simp) ?_
 exact r1B rfl (by simp)
end Go.Pg
