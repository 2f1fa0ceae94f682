/- Texts joined and shortened by program. -/
import Derived.Test.YtcgbaefojdoicaaGreatRC
import Derived.Test.YtcgbaefojdoicaaGreatRB
import Derived.Test.YtcgbaefojdoicaaGreatR6
import Derived.Test.YtcgbaefojdoicaaGreatR8
import Derived.Test.YtcgbaefojdoicaaGreatR9
import Derived.Test.YtcgbaefojdoicaaGreatRA
set_option maxHeartbeats 4000000
set_option linter.all false
set_option maxRecDepth 100000
namespace Go.Pg
open Go.Proofs Go.RowKit
theorem ziI {r:Rpt} (h:frmC r=true):frmB r=false:=by unfold frmB; rw[h]; rfl
theorem zsQ {r:Rpt} (h:within r.Kind 1 2=false):frmB r=false:=by
 have h1:r.Kind≠1:=fun e=>by
  have:within r.Kind 1 2=true:=zab.2 (by omega)
  rw[this] at h; cases h
 have h2:r.Kind≠2:=fun e=>by
  have:within r.Kind 1 2=true:=zab.2 (by omega)
  rw[this] at h; cases h
 unfold frmB; rw[kG h1,kG h2,kN]
theorem zkq (r:Rpt):Spec PP 242 [r.v] [B (frmB r)]:=by
 refine sA Tryz.func242 ?_
 refine cP (zea r.ID 1 1099511627776) rfl rfl ?_
 apply bY <;> intro k0
 ·have k0:(!within r.ID 1 1099511627776)=true:=k0
  repeat first | apply sT | apply sF
  exact r1B rfl (ziI (by unfold frmC; rw[k0]; rfl)).symm
 have k0:(!within r.ID 1 1099511627776)=false:=k0
 refine cP (zea r.Kind 1 2) rfl rfl ?_
 repeat first | apply sT | apply sF
 apply bY <;> intro k1
 ·have k1:(!within r.Kind 1 2)=true:=k1
  repeat first | apply sT | apply sF
  exact r1B rfl (zsQ (by simpa using k1)).symm
 have k1:(!within r.Kind 1 2)=false:=k1
 refine cP (zea r.Tick 0 1048576) rfl rfl ?_
 repeat first | apply sT | apply sF
 apply bY <;> intro k2
 ·have k2:(!within r.Tick 0 1048576)=true:=k2
  repeat first | apply sT | apply sF
  exact r1B rfl (ziI (by unfold frmC; rw[k0,k2]; rfl)).symm
 have k2:(!within r.Tick 0 1048576)=false:=k2
 refine cP (zea r.From 0 3599) rfl rfl ?_
 repeat first | apply sT | apply sF
 apply bY <;> intro k3
 ·have k3:(!within r.From 0 3599)=true:=k3
  repeat first | apply sT | apply sF
  exact r1B rfl (ziI (by unfold frmC; rw[k0,k2,k3]; rfl)).symm
 have k3:(!within r.From 0 3599)=false:=k3
 refine cP (zea r.Slack 1 100) rfl rfl ?_
 repeat first | apply sT | apply sF
 apply bY <;> intro k4
 ·have k4:(!within r.Slack 1 100)=true:=k4
  repeat first | apply sT | apply sF
  exact r1B rfl (ziI (by unfold frmC; rw[k0,k2,k3,k4]; rfl)).symm
 have k4:(!within r.Slack 1 100)=false:=k4
 have e0:frmB r=if r.Kind=1 then decide (r.To=0) else if r.Kind=2 then within r.To 0 3599 && decide ((r.To - r.From) % 3600<=900) else false:=by
  unfold frmB frmC; rw[k0,k2,k3,k4]; rfl
 have hk:=zab.1 (show within r.Kind 1 2=true by simpa using k1)
 have hf:=zab.1 (show within r.From 0 3599=true by simpa using k3)
 apply bY <;> intro h1
 ·have h1:r.Kind=1:=by simpa using h1
  refine r1B rfl ?_
  rw[e0,kH h1,kP]; simp
 have h1:r.Kind≠1:=by simpa using h1
 rw[kG h1,kH (show r.Kind=2 by omega)] at e0
 refine cP (zea r.To 0 3599) rfl rfl ?_
 apply bY <;> intro h3
 ·have h4:=zab.1 h3
  refine⟨i6,?_⟩
  refine cP (zdd (r.To - r.From) (by omega)) rfl rfl ?_
  repeat first | apply sT | apply sF
  refine r1B rfl ?_
  rw[e0,h3]; rfl
 repeat first | apply sT | apply sF
 refine r1B rfl ?_
 rw[e0,h3]; rfl
theorem zjg (b:Brn):Spec PP 186 [b.v] [B (brnB b)]:=by
 refine sA Tryz.func186 ?_
 refine cP (zea b.From 0 1048576) rfl rfl ?_
 apply bY <;> intro h1
 ·have h1':=zab.1 h1
  refine cP (zea b.To b.From 1048576) rfl rfl ?_
  repeat first | apply sT | apply sF
  apply bY <;> intro h2
  ·have h2':=zab.1 h2
   refine cP (zea b.Rise 0 200) rfl rfl ?_
   repeat first | apply sT | apply sF
   refine r1B rfl ?_
   unfold brnB; rw[jG (by omega),jG (by omega),jG (by omega)]; rfl
  have h2':¬ (b.From<=b.To/\b.To<=1048576):=fun hh=>by rw[zab.2 hh] at h2; cases h2
  repeat first | apply sT | apply sF
  refine r1B rfl ?_
  unfold brnB
  by_cases h3:b.From<=b.To
  ·rw[jH (p:=b.To<=1048576) (fun h4=>h2' ⟨h3,h4⟩),kN]; rfl
  rw[jH h3,kN]; rfl
 have h1':¬ (0<=b.From/\b.From<=1048576):=fun hh=>by rw[zab.2 hh] at h1; cases h1
 repeat first | apply sT | apply sF
 refine r1B rfl ?_
 unfold brnB
 by_cases h3:0<=b.From
 ·by_cases h4:b.From<=b.To
  ·rw[jH (p:=b.To<=1048576) (by omega),kN]; rfl
  rw[jH h4,kN]; rfl
 rw[jH h3]; rfl
theorem zhO {T:List Twr} {id:Int} (h:¬ towI T id<0):towG T id=(T.getD (towI T id).toNat default,true):=by unfold towG; rw[kG h]
theorem r6_at (s:Svc) (r:Rpt) (hn:s.c.T.length<=1000000) (h:¬ towI s.c.T r.Tower<0):Spec PP 256 [s.v,r.v] [(towG s.c.T r.Tower).1.At.v]:=by
 have h1:=zdu h
 refine sA Tryz.func256 ?_
 refine oL (List.range 12) (FzOb.no ?_)
 refine oP (zeu s r.Tower hn) rfl rfl ?_
 refine⟨⟨rfl,by show 0<=max 0 (towI s.c.T r.Tower); omega,by show max 0 (towI s.c.T r.Tower)<s.c.T.length; omega⟩,?_⟩
 have e:s.c.T.getD (max 0 (towI s.c.T r.Tower)).toNat default=(towG s.c.T r.Tower).1:=by rw[zhO h,show max 0 (towI s.c.T r.Tower)=towI s.c.T r.Tower by omega]
 exact r1C rfl rfl rfl rfl rfl rfl (zbF (jI (fun t:Twr=>t.At.X) e) (jI (fun t:Twr=>t.At.Y) e))
theorem zkr (s:Svc) (b:Brn) (r:Rpt) (p:Place):Spec PP 254 [s.v,b.v,r.v,p.v] [B (lookB s b r p)]:=by
 refine sA Tryz.func254 ?_
 refine cP (zea r.Tick b.From b.To) rfl rfl ?_
 apply bY <;> intro h1
 ·have h1:within r.Tick b.From b.To=false:=by simpa using h1
  refine r1B rfl ?_
  unfold lookB; rw[h1,kN]
 have h1:within r.Tick b.From b.To=true:=by simpa using h1
 refine cP (zp9 s.c r.Tower p b.Rise r.Tick) rfl rfl ?_
 apply bY <;> intro h2
 ·have h2:(seesE s.c r.Tower p b.Rise r.Tick).2=0:=by simpa using h2
  repeat first | apply sT | apply sF
  refine r1B rfl ?_
  unfold lookB; rw[h1,jG h2,jad]; rfl
 have h2:(seesE s.c r.Tower p b.Rise r.Tick).2≠0:=by simpa using h2
 repeat first | apply sT | apply sF
 refine r1B rfl ?_
 unfold lookB; rw[jH h2]; rfl
theorem zf8 (s:Svc) (r:Rpt) (hT:s.c.T.length<=1000000) (hC:s.k.C.length<=1000000):Spec PP 176 [s.v,r.v] [.d (.int .i64 (rptE s r))]:=by
 refine sA Tryz.func176 ?_
 refine cP (zkq r) rfl rfl ?_
 apply bY <;> intro h1
 ·refine r1I rfl ?_
  unfold rptE; rw[kH (by simpa using h1)]
 have h1:frmB r=true:=by simpa using h1
 refine cP (zeu s r.Tower hT) rfl rfl ?_
 refine cP (zg1 s r.C hC) rfl rfl ?_
 apply bY <;> intro h2
 ·have h2:towI s.c.T r.Tower<0:=dT h2
  repeat first | apply sT | apply sF
  refine r1I rfl ?_
  have h3:(towG s.c.T r.Tower).2=false:=by unfold towG; rw[kH h2]
  unfold rptE; rw[kG (by rw[h1]; decide),kH (.inl h3)]
 have h2:¬ towI s.c.T r.Tower<0:=dF h2
 repeat first | apply sT | apply sF
 apply bY <;> intro h3
 ·have h3:cirI s.k r.C<0:=dT h3
  refine r1I rfl ?_
  unfold rptE; rw[kG (by rw[h1]; decide),kH (.inr h3)]
 have h3:¬ cirI s.k r.C<0:=dF h3
 obtain⟨h4,h5⟩:=zaN h3
 obtain⟨g4,g5⟩:=zdu h2
 have eT:=zhO h2
 have e0:rptE s r=if (s.k.C.getD (cirI s.k r.C).toNat default).At≠(s.c.T.getD (towI s.c.T r.Tower).toNat default).At then 1 else if (zerR s.k r.C r.Tick).2≠0 then (zerR s.k r.C r.Tick).2 else if r.Kind=1 then (wdgR s.k (rdgO r)).2 else 0:=by
  unfold rptE; rw[kG (by rw[h1]; decide),kG (by rw[eT]; simp; omega),eT]
 refine oL (List.range 15) (FzOb.no ?_)
 refine⟨⟨rfl,by show 0<=towI s.c.T r.Tower; omega,by show towI s.c.T r.Tower<s.c.T.length; omega⟩,⟨⟨rfl,by show 0<=cirI s.k r.C; omega,by show cirI s.k r.C<s.k.C.length; omega⟩,?_⟩⟩
 apply bY <;> intro h6
 ·have h6:(s.k.C.getD (cirI s.k r.C).toNat default).At≠(s.c.T.getD (towI s.c.T r.Tower).toNat default).At:=by
   have:=(jI (!·) (eqPW (s.c.T.getD (towI s.c.T r.Tower).toNat default).At (s.k.C.getD (cirI s.k r.C).toNat default).At)).symm.trans h6
   have h7:¬ (s.c.T.getD (towI s.c.T r.Tower).toNat default).At=(s.k.C.getD (cirI s.k r.C).toNat default).At:=by simpa using this
   exact fun e=>h7 e.symm
  refine r1I rfl ?_
  rw[e0,kH h6]
 have h6:(s.k.C.getD (cirI s.k r.C).toNat default).At=(s.c.T.getD (towI s.c.T r.Tower).toNat default).At:=by
  have:=(jI (!·) (eqPW (s.c.T.getD (towI s.c.T r.Tower).toNat default).At (s.k.C.getD (cirI s.k r.C).toNat default).At)).symm.trans h6
  have h7:(s.c.T.getD (towI s.c.T r.Tower).toNat default).At=(s.k.C.getD (cirI s.k r.C).toNat default).At:=by simpa using this
  exact h7.symm
 refine cP (zg4 s.k r.C r.Tick) rfl rfl ?_
 apply bY <;> intro h7
 ·have h7:(zerR s.k r.C r.Tick).2≠0:=by simpa using h7
  repeat first | apply sT | apply sF
  refine r1I rfl ?_
  rw[e0,kG (fun hh=>hh h6),kH h7]
 have h7:(zerR s.k r.C r.Tick).2=0:=by simpa using h7
 repeat first | apply sT | apply sF
 apply bY <;> intro h8
 ·have h8:r.Kind=2:=by simpa using h8
  refine r1I rfl ?_
  rw[e0,kG (fun hh=>hh h6),kG (fun hh=>hh h7),kG (by omega)]; exact h7
 have h8:r.Kind≠2:=by simpa using h8
 have h9:r.Kind=1:=by
  refine jL fun h10=>?_
  have:=zsQ (r:=r) (by
   cases hw:within r.Kind 1 2 with
   | false=>rfl
   | true=>have:=zab.1 hw; omega)
  rw[h1] at this; cases this
 refine cP (zh6 s.k (rdgO r)) rfl rfl ?_
 refine r1I rfl ?_
 rw[e0,kG (fun hh=>hh h6),kG (fun hh=>hh h7),kH h9]
structure RptOk (s:Svc) (r:Rpt):Prop where
  f:frmB r=true
  t:¬ towI s.c.T r.Tower<0
  w:r.Kind=1->(wdgR s.k (rdgO r)).2=0
theorem zrS {s:Svc} {r:Rpt} (h:rptE s r=0):RptOk s r:=by
 unfold rptE at h
 split at h
 ·cases h
 rename_i h1
 split at h
 ·cases h
 rename_i h2
 split at h
 ·cases h
 split at h
 ·rename_i h4; exact absurd h h4
 refine⟨by simpa using h1,fun h3=>h2 (.inl (by unfold towG; rw[kH h3])),fun hk=>?_⟩
 rw[kH hk] at h; exact h
theorem zks (s:Svc) (r:Rpt) (h:RptOk s r):Spec PP 255 [s.v,r.v] [(secR s r).1.v,B (secR s r).2]:=by
 refine sA Tryz.func255 ?_
 apply bY <;> intro h1
 ·have h1:r.Kind=1:=by simpa using h1
  have e:secR s r=((wdgR s.k (rdgO r)).1,true):=by unfold secR; rw[kH h1,jG (h.w h1)]
  refine cP (zh6 s.k (rdgO r)) rfl rfl ?_
  rw[e]
  exact⟨rtC (a:=4) rfl rfl rfl rfl rfl rfl (zaa _),rtB rfl rfl,trivial⟩
 have h1:r.Kind≠1:=by simpa using h1
 have e0:secR s r=blkR s r:=by unfold secR; rw[kG h1]
 rw[e0]
 obtain⟨b1,b2,b3⟩:=zsR h.f h1
 have zb:=zhL s.k r.C r.Tick
 refine cP (zg4 s.k r.C r.Tick) rfl rfl ?_
 refine oL (List.range 16) (FzOb.no ?_)
 refine⟨i6,?_⟩
 refine oP (zdd (r.To - r.From) (by omega)) rfl rfl ?_
 refine⟨i6,⟨i6,⟨i6,?_⟩⟩⟩
 apply bY <;> intro h2
 ·have e:blkR s r=(⟨0,0⟩,false):=by unfold blkR; rw[kH (dT h2)]
  rw[e]
  exact⟨rtC (a:=4) rfl rfl rfl rfl rfl rfl (zaa _),rtB rfl rfl,trivial⟩
 have e:blkR s r=(⟨(r.From+r.Slack - (zerR s.k r.C r.Tick).1.Lo) % 3600,(r.To - r.Slack - (zerR s.k r.C r.Tick).1.Hi) % 3600⟩,true):=by unfold blkR; rw[kG (dF h2)]
 rw[e]
 refine oL (List.range 21) (FzOb.no ?_)
 refine⟨i6,⟨i6,?_⟩⟩
 refine oP (zdd (r.From+r.Slack - (zerR s.k r.C r.Tick).1.Lo) (by omega)) rfl rfl ?_
 refine⟨i6,⟨i6,?_⟩⟩
 refine oP (zdd (r.To - r.Slack - (zerR s.k r.C r.Tick).1.Hi) (by omega)) rfl rfl ?_
 exact⟨rtC (a:=4) rfl rfl rfl rfl rfl rfl (zaa _),rtB rfl rfl,trivial⟩
abbrev madD (s:Svc) (r:Rpt):List D:=[I r.ID,I r.Kind,I r.Tower,I r.C,I r.Tick,I r.From,I r.To,I r.Slack,I (secR s r).1.F,I (secR s r).1.T,.bool (secR s r).2,I (towG s.c.T r.Tower).1.At.X,I (towG s.c.T r.Tower).1.At.Y]
theorem zp0 (s:Svc) (r:Rpt) (hn:s.c.T.length<=1000000) (h:RptOk s r):Spec PP 189 [s.v,r.v] [.agg (madD s r)]:=by
 refine sA Tryz.func189 ?_
 refine cP (zks s r h) rfl rfl ?_
 refine oL (List.range 8) (FzOb.no ?_)
 refine oP (r6_at s r hn h.t) rfl rfl ?_
 exact r1C rfl rfl rfl rfl rfl rfl (zaa _)
theorem zku (s:Svc) (b:Brn) (r:Rpt) (p:Place):Spec PP 188 [s.v,b.v,.agg (madD s r),p.v] [B (allB s b r p)]:=by
 have e4:seenB s b r p=((secR s r).2 && liesW (secR s r).1 (towG s.c.T r.Tower).1.At p && lookB s b r p):=rfl
 refine sA Tryz.func188 ?_
 have tail:∀ (v:Bool),v=((secR s r).2 && liesW (secR s r).1 (towG s.c.T r.Tower).1.At p)->seenB s b r p=(v && lookB s b r p):=fun v hv=>by rw[hv,e4]
 apply bY <;> intro h1
 ·have h1:(secR s r).2=true:=h1
  refine cP (zp2 (secR s r).1 (towG s.c.T r.Tower).1.At p) rfl rfl ?_
  repeat first | apply sT | apply sF
  apply bY <;> intro hk
  ·have hk:r.Kind=1:=by simpa using hk
   have e:allB s b r p=seenB s b r p:=by unfold allB; rw[kH hk]
   apply bY <;> intro h2
   ·have h2:liesW (secR s r).1 (towG s.c.T r.Tower).1.At p=true:=h2
    refine cP (zkr s b r p) rfl rfl ?_
    repeat first | apply sT | apply sF
    refine r1B rfl ?_
    rw[e,tail true (by rw[h1,h2]; rfl)]; rfl
   have h2:liesW (secR s r).1 (towG s.c.T r.Tower).1.At p=false:=h2
   repeat first | apply sT | apply sF
   refine r1B rfl ?_
   rw[e,tail false (by rw[h1,h2]; rfl)]; rfl
  have hk:r.Kind≠1:=by simpa using hk
  have e:allB s b r p = !seenB s b r p:=by unfold allB; rw[kG hk]
  apply bY <;> intro h2
  ·have h2:liesW (secR s r).1 (towG s.c.T r.Tower).1.At p=false:=by simpa using h2
   repeat first | apply sT | apply sF
   refine r1B rfl ?_
   rw[e,tail false (by rw[h1,h2]; rfl)]; rfl
  have h2:liesW (secR s r).1 (towG s.c.T r.Tower).1.At p=true:=by simpa using h2
  refine cP (zkr s b r p) rfl rfl ?_
  repeat first | apply sT | apply sF
  refine r1B rfl ?_
  rw[e,tail true (by rw[h1,h2]; rfl)]; rfl
 have h1:(secR s r).2=false:=h1
 repeat first | apply sT | apply sF
 apply bY <;> intro hk
 ·have hk:r.Kind=1:=by simpa using hk
  have e:allB s b r p=seenB s b r p:=by unfold allB; rw[kH hk]
  repeat first | apply sT | apply sF
  refine r1B rfl ?_
  rw[e,tail false (by rw[h1]; rfl)]; rfl
 have hk:r.Kind≠1:=by simpa using hk
 have e:allB s b r p = !seenB s b r p:=by unfold allB; rw[kG hk]
 repeat first | apply sT | apply sF
 refine r1B rfl ?_
 rw[e,tail false (by rw[h1]; rfl)]; rfl
theorem zkt (s:Svc) (l:List Rpt) (hT:s.c.T.length<=1000000) (hC:s.k.C.length<=1000000):Spec PP 247 [s.v,.d (lR l)] [.d (.int .i64 (if 24<l.length then 2 else err1 (rp1E s l) l.length))]:=by
 refine sA Tryz.func247 ?_
 apply bY <;> intro h2
 ·have h2:24<l.length:=by have:(24:Int)<l.length:=dT h2; omega
  refine r1I rfl ?_
  rw[kH h2]
 have h2:¬ 24<l.length:=by have:¬ (24:Int)<l.length:=dF h2; omega
 rw[kG h2]
 refine LoopOb.of (σ:=Nat) (fun i=>([(1,.d (lR l)),(2,.box 2 0),(5,.d (I i))],[(2,.box (s.ds.map AV.d))])) (fun i=>i<=l.length /\ ∀ j,j<i->rp1E s l j=0) (fun i=>l.length - i) 0
  ⟨rfl,⟨obD s.ds rfl,trivial⟩,wq rfl⟩ z0L fun i hi=>?_
 obtain⟨hi,ha⟩:=hi
 apply bY <;> intro h3
 ·have h3:i<l.length:=by have:=dT h3; omega
  refine oL (List.range 7) (FzOb.no ?_)
  refine⟨⟨rfl,by omega,by omega⟩,?_⟩
  refine oP (zf8 s (l.getD i default) hT hC) rfl rfl ?_
  apply bY <;> intro h4
  ·have h4:rptE s (l.getD i default)≠0:=by simpa using h4
   have e1:rp1E s l i=rptE s (l.getD i default):=by unfold rp1E; rw[kH h4]
   refine r1I rfl ?_
   rw[zal ha (by rw[e1]; exact h4) h3,e1]
  have h4:rptE s (l.getD i default)=0:=by simpa using h4
  refine LoopOb.of (σ:=Nat) (fun j=>([(1,.d (lR l)),(2,.box 2 0),(5,.d (I i)),(7,.d (I j))],[(2,.box (s.ds.map AV.d))])) (fun j=>j<=i /\ ∀ z,z<j->(l.getD z default).ID≠(l.getD i default).ID) (fun j=>i - j) 0
   ⟨rfl,⟨obD s.ds rfl,trivial⟩,wq rfl⟩ z0L fun j hj=>?_
  obtain⟨hj,hb⟩:=hj
  apply bY <;> intro h5
  ·have h5:j<i:=by have:=dT h5; omega
   refine oL (List.range 11) (FzOb.no ?_)
   refine⟨⟨rfl,by omega,by omega⟩,⟨⟨rfl,by omega,by omega⟩,?_⟩⟩
   apply bY <;> intro h6
   ·have h6:(l.getD j default).ID=(l.getD i default).ID:=by simpa using h6
    have e1:rp1E s l i=6:=by unfold rp1E; rw[kG (fun hh=>hh h4),kH ((zlv hi _).2 ⟨j,h5,h6⟩)]
    refine r1I rfl ?_
    rw[zal ha (by rw[e1]; decide) h3,e1]
   have h6:(l.getD j default).ID≠(l.getD i default).ID:=by simpa using h6
   refine⟨i6,?_⟩
   refine⟨j+1,⟨rfl,⟨obD s.ds rfl,trivial⟩,wq rfl⟩,⟨h5,fun z hz=>?_⟩,(msr (by omega))⟩
   by_cases q:z=j
   ·subst q; exact h6
   exact hb z (by omega)
  have h5:j=i:=by have:=dF h5; omega
  subst h5
  have hc:((l.take j).map Rpt.ID).contains (l.getD j default).ID=false:=by
   cases hh:((l.take j).map Rpt.ID).contains (l.getD j default).ID with
   | false=>rfl
   | true=>obtain⟨z,hz,e⟩:=(zlv hi _).1 hh; exact absurd e (hb z hz)
  have e1:rp1E s l j=0:=by unfold rp1E; rw[kG (fun hh=>hh h4),kG (by rw[hc]; decide)]
  refine⟨i6,?_⟩
  refine⟨j+1,⟨rfl,⟨obD s.ds rfl,trivial⟩,wq rfl⟩,⟨h3,fun z hz=>?_⟩,(msr (by omega))⟩
  by_cases q:z=j
  ·subst q; exact e1
  exact ha z (by omega)
 have h3:i=l.length:=by have:=dF h3; omega
 subst h3
 refine r1I rfl ?_
 rw[zaF ha]
theorem zjh (s:Svc) (b:Brn) (l:List Rpt):Spec PP 177 [s.v,b.v,.d (lR l)] [.d (.int .i64 (givE s b l))]:=by
 refine sA Tryz.func177 ?_
 refine cP (ze8 s) rfl rfl ?_
 apply bY <;> intro h0
 ·refine r1I rfl ?_
  unfold givE; rw[kH (by simpa using h0)]
 have h0:svcE s=0:=by simpa using h0
 have ok:=zfZ h0
 refine cP (zjg b) rfl rfl ?_
 apply bY <;> intro h1
 ·refine r1I rfl ?_
  unfold givE; rw[kG (fun hh=>hh h0),kH (by simpa using h1)]
 have h1:brnB b=true:=by simpa using h1
 refine cP (zkt s l (by have:=ok.c.t; omega) (by have:=ok.k.n; omega)) rfl rfl ?_
 refine r1I rfl ?_
 have e1:givE s b l=if brnB b=false then 1 else if 24<l.length then 2 else err1 (rp1E s l) l.length:=by unfold givE; rw[kG (fun hh=>hh h0)]
 have e2:¬ brnB b=false:=by rw[h1]; decide
 rw[e1,kG e2]
theorem pushG {α:Type} [Inhabited α] {k:Nat} {at_:α->Nat->D} {vs:List α} {p:α} {g:Nat->Nat->D} (hg:∀ j,j<k->D.eqv (g 0 j) (at_ p j)) :
  D.eqv (.slc k (vs.length+1) (appRow vs.length (fun i=>at_ (vs.getD i default)) g)) (.slc k (vs ++ [p]).length (fun i=>at_ ((vs ++ [p]).getD i default))):=by
 refine⟨by simp,.inr ⟨rfl,fun i hi j hj=>?_⟩⟩
 show D.eqv (appRow vs.length (fun i=>at_ (vs.getD i default)) g i j) (at_ ((vs ++ [p]).getD i default) j)
 unfold appRow
 by_cases h:i<vs.length
 ·rw[kH h,hZ,jJ h,<- hZ]
  exact dE _
 have e:i=vs.length:=by omega
 subst e
 rw[kG h,kE,hZ,jK (jE _),kE]
 exact hg j hj
def madAt (s:Svc) (r:Rpt):Nat->D
 | 0=>I r.ID
 | 1=>I r.Kind
 | 2=>I r.Tower
 | 3=>I r.C
 | 4=>I r.Tick
 | 5=>I r.From
 | 6=>I r.To
 | 7=>I r.Slack
 | 8=>I (secR s r).1.F
 | 9=>I (secR s r).1.T
 | 10=>.bool (secR s r).2
 | 11=>I (towG s.c.T r.Tower).1.At.X
 | _=>I (towG s.c.T r.Tower).1.At.Y
abbrev rowM (s:Svc) (l:List Rpt):Nat->Nat->D:=fun i=>madAt s (l.getD i default)
abbrev lM (s:Svc) (l:List Rpt):D:=.slc 13 l.length (rowM s l)
theorem zqs (s:Svc) (r:Rpt):∀ j,j<13->D.eqv (getD' (madD s r) (0 * 13+j)) (madAt s r j)
 | 0,_=>⟨rfl,rfl⟩
 | 1,_=>⟨rfl,rfl⟩
 | 2,_=>⟨rfl,rfl⟩
 | 3,_=>⟨rfl,rfl⟩
 | 4,_=>⟨rfl,rfl⟩
 | 5,_=>⟨rfl,rfl⟩
 | 6,_=>⟨rfl,rfl⟩
 | 7,_=>⟨rfl,rfl⟩
 | 8,_=>⟨rfl,rfl⟩
 | 9,_=>⟨rfl,rfl⟩
 | 10,_=>dE _
 | 11,_=>⟨rfl,rfl⟩
 | 12,_=>⟨rfl,rfl⟩
theorem zrV (s:Svc) (l:List Rpt) (hT:s.c.T.length<=1000000) (hl:l.length<=24) (hr:∀ i,i<l.length->RptOk s (l.getD i default)):Spec PP 190 [s.v,.d (lR l)] [.d (lM s l)]:=by
 refine sA Tryz.func190 ?_
 refine LoopOb.of (σ:=Nat) (fun i=>([(1,.d (lR l)),(2,.box 2 0),(5,.own 5),(6,.d (I i))],[(2,.box (s.ds.map AV.d)),(5,.row 249 13 (l.take i).length (rowM s (l.take i)))])) (fun i=>i<=l.length) (fun i=>l.length - i) 0
  ⟨rfl,⟨obD s.ds rfl,obR rfl ⟨rfl,.inl rfl⟩,trivial⟩,wq rfl⟩ (jF _) fun i hi=>?_
 have hi:i<=l.length:=hi
 apply bY <;> intro h3
 ·have h3:i<l.length:=by have:=dT h3; omega
  have hlen:(l.take i).length=i:=by rw[jQ]; omega
  refine oL (List.range 10) (FzOb.no ?_)
  refine⟨⟨rfl,by omega,by omega⟩,?_⟩
  refine oP (zp0 s (l.getD i default) hT (hr i h3)) rfl rfl ?_
  refine⟨⟨.inr rfl,by unfold maxLen; omega,by show ((l.take i).length+1) * 104<=140737488355328; omega⟩,?_⟩
  refine⟨i6,?_⟩
  refine⟨i+1,⟨rfl,⟨obD s.ds rfl,obR rfl ?_,trivial⟩,wq rfl⟩,h3,(msr (by omega))⟩
  rw[zaE h3 default]
  exact pushG (fun j hj=>zqs s (l.getD i default) j hj)
 have h3:i=l.length:=by have:=dF h3; omega
 subst h3
 refine⟨⟨_,_,_,_,rfl,?_⟩,trivial⟩
 rw[jZ]
 exact dE _
def mapK (m:Mp) (k:Nat):List Place:=(List.range k).map (plc m)
theorem zfq (m:Mp) (k:Nat):(mapK m k).length=k:=by unfold mapK; simp
theorem zsu (m:Mp) (k:Nat):mapK m (k+1)=mapK m k ++ [plc m k]:=by unfold mapK; rw[qP,jT]; rfl
theorem znt {m:Mp} {n k:Nat} (h:k<n):(mapK m n).getD k default=plc m k:=by
 unfold mapK
 rw[hZ,jU,wB h]; rfl
theorem zsc {m:Mp} {y x:Nat} (hx:x<m.w):plc m (y * m.w+x)=⟨(x:Int),(y:Int)⟩:=by
 unfold plc
 have e1:(y * m.w+x) % m.w=x:=by rw[Nat.add_comm,Nat.add_mul_mod_self_right,jat hx]
 have e2:(y * m.w+x) / m.w=y:=by rw[Nat.add_comm,Nat.add_mul_div_right _ _ (by omega),jbf hx,kU]
 rw[e1,e2]
theorem zrW (s:Svc) (hv:validM s.c.M=true):Spec PP 191 [s.v] [.d (lP (mapK s.c.M (s.c.M.w * s.c.M.h)))]:=by
 obtain⟨bw,bh,-,-⟩:=zah hv
 have ew:((s.c.M.w:Nat):Int)=s.c.M.W:=by show ((s.c.M.W.toNat:Nat):Int)=s.c.M.W; omega
 have eh:((s.c.M.h:Nat):Int)=s.c.M.H:=by show ((s.c.M.H.toNat:Nat):Int)=s.c.M.H; omega
 refine sA Tryz.func191 ?_
 refine LoopOb.of (σ:=Nat) (fun y=>([(1,.box 1 0),(3,.own 3),(4,.d (I y))],[(1,.box (s.ds.map AV.d)),(3,.row 75 2 (mapK s.c.M (y * s.c.M.w)).length (rowP (mapK s.c.M (y * s.c.M.w))))])) (fun y=>y<=s.c.M.h) (fun y=>s.c.M.h - y) 0
  ⟨rfl,⟨obD s.ds rfl,obR rfl ⟨by rw[zfq]; omega,.inl rfl⟩,trivial⟩,wq rfl⟩ (jF _) fun y hy=>?_
 have hy:y<=s.c.M.h:=hy
 apply bY <;> intro h1
 ·have h1:y<s.c.M.h:=by have:=dT h1; omega
  have hm:y * s.c.M.w<=48 * 49:=jbv (by omega) (by omega)
  refine LoopOb.of (σ:=Nat) (fun x=>([(1,.box 1 0),(3,.own 3),(4,.d (I y)),(5,.d (I x))],[(1,.box (s.ds.map AV.d)),(3,.row 75 2 (mapK s.c.M (y * s.c.M.w+x)).length (rowP (mapK s.c.M (y * s.c.M.w+x))))])) (fun x=>x<=s.c.M.w) (fun x=>s.c.M.w - x) 0
   ⟨rfl,⟨obD s.ds rfl,obR rfl (dE _),trivial⟩,wq rfl⟩ (jF _) fun x hx=>?_
  have hx:x<=s.c.M.w:=hx
  apply bY <;> intro h2
  ·have h2:x<s.c.M.w:=by have:=dT h2; omega
   have hl:=zfq s.c.M (y * s.c.M.w+x)
   refine⟨⟨.inr rfl,by unfold maxLen; omega,by show ((mapK s.c.M (y * s.c.M.w+x)).length+1) * 16<=140737488355328; omega⟩,?_⟩
   refine⟨i6,?_⟩
   refine⟨x+1,⟨rfl,⟨obD s.ds rfl,obR rfl ?_,trivial⟩,wq rfl⟩,h2,(msr (by omega))⟩
   rw[show y * s.c.M.w+(x+1)=y * s.c.M.w+x+1 by omega,zsu,zsc h2]
   exact znf (at2 rfl rfl)
  have h2:x=s.c.M.w:=by have:=dF h2; omega
  subst h2
  refine⟨i6,?_⟩
  refine⟨y+1,⟨rfl,⟨obD s.ds rfl,obR rfl ?_,trivial⟩,wq rfl⟩,h1,(msr (by omega))⟩
  rw[Nat.succ_mul]; exact dE _
 have h1:y=s.c.M.h:=by have:=dF h1; omega
 refine⟨⟨_,_,_,_,rfl,?_⟩,trivial⟩
 rw[h1,qQ]
 exact dE _
def fstT (s:Svc) (b:Brn) (l:List Rpt) (p:Place):Int:=idxL (fun r=>!allB s b r p) l
theorem zm7 (s:Svc) (b:Brn) (l:List Rpt) (p:Place) (hl:l.length<=24):Spec PP 192 [s.v,b.v,.d (lM s l),p.v] [N (fstT s b l p)]:=by
 refine sA Tryz.func192 ?_
 refine LoopOb.of (σ:=Nat) (fun i=>([(2,.d (lM s l)),(4,.box 4 0),(5,.box 5 0),(7,.box 7 0),(9,.d (I i))],[(4,.box (s.ds.map AV.d)),(5,.box (b.ds.map AV.d)),(7,.box ([I p.X,I p.Y].map AV.d))])) (fun i=>i<=l.length /\ ∀ j,j<i->(!allB s b (l.getD j default) p)=false) (fun i=>l.length - i) 0
  ⟨rfl,⟨obD s.ds rfl,obD b.ds rfl,obD [I p.X,I p.Y] rfl,trivial⟩,wq rfl⟩ z0L fun i hi=>?_
 obtain⟨hi,ha⟩:=hi
 apply bY <;> intro h1
 ·have h1:i<l.length:=by have:=dT h1; omega
  refine oL (List.range 9) (FzOb.no ?_)
  refine⟨⟨rfl,by omega,by omega⟩,?_⟩
  refine oP (zku s b (l.getD i default) p) rfl rfl ?_
  apply bY <;> intro h2
  ·refine r1I rfl ?_
   exact (zak (p:=fun r:Rpt=>!allB s b r p) default h1 h2 ha).symm
  refine⟨i6,?_⟩
  refine⟨i+1,⟨rfl,⟨obD s.ds rfl,obD b.ds rfl,obD [I p.X,I p.Y] rfl,trivial⟩,wq rfl⟩,⟨h1,fun j hj=>?_⟩,(msr (by omega))⟩
  by_cases e:j=i
  ·subst e; exact h2
  exact ha j (by omega)
 have h1:i=l.length:=by have:=dF h1; omega
 subst h1
 refine r1I rfl ?_
 exact (zao (p:=fun r:Rpt=>!allB s b r p) default ha).symm
def telR (s:Svc) (b:Brn) (l:List Rpt) (k:Nat):List Rsn:=((List.range k).filter fun n=>!decide (fstT s b l (plc s.c.M n)<0)).map fun n=>⟨plc s.c.M n,(l.getD (fstT s b l (plc s.c.M n)).toNat default).ID⟩
theorem zmB {s:Svc} {b:Brn} {l:List Rpt} {k:Nat} (h:¬ fstT s b l (plc s.c.M k)<0):telR s b l (k+1)=telR s b l k ++ [⟨plc s.c.M k,(l.getD (fstT s b l (plc s.c.M k)).toNat default).ID⟩]:=by
 unfold telR
 rw[qP,kM,jT,qA (p:=fun n=>!decide (fstT s b l (plc s.c.M n)<0)) (by rw[jH h]; rfl)]; rfl
theorem zpD {s:Svc} {b:Brn} {l:List Rpt} {k:Nat} (h:fstT s b l (plc s.c.M k)<0):telR s b l (k+1)=telR s b l k:=by
 unfold telR
 rw[qP,kM,jT,qB (p:=fun n=>!decide (fstT s b l (plc s.c.M n)<0)) (by rw[jG h]; decide)]; simp
theorem zmC (s:Svc) (b:Brn) (l:List Rpt) (k:Nat):(telR s b l k).length<=k:=by
 unfold telR
 have:=kX (fun n=>!decide (fstT s b l (plc s.c.M n)<0)) (List.range k)
 simpa using this
def telP (s:Svc) (b:Brn) (l:List Rpt) (n:Nat):Bool:=decide (fstT s b l (plc s.c.M n)<0)
def obTel (s:Svc) (b:Brn) (l:List Rpt) (k:Nat):List (Nat × Ob):=[(3,.box (s.ds.map AV.d)),(4,.box (b.ds.map AV.d)),(6,.box [.nilsl,.nilsl,.d (I 0)]),(7,.box [.own 33,.own 34,.d (I 0)]),(33,.row 75 2 (plsK s.c.M (telP s b l) k).length (rowP (plsK s.c.M (telP s b l) k))),(34,.row 143 3 (telR s b l k).length (rowS (telR s b l k)))]
theorem zsO {s:Svc} {b:Brn} {l:List Rpt} {p:Place} (h:¬ fstT s b l p<0):0<=fstT s b l p/\fstT s b l p<l.length:=by
 rcases idxL_cases (fun r:Rpt=>!allB s b r p) l default with⟨e,-⟩ | ⟨i,hi,e,-,-⟩
 ·exact absurd (show fstT s b l p<0 by unfold fstT; rw[e]; decide) h
 have:fstT s b l p=(i:Int):=e
 omega
theorem zpZ (s:Svc) (b:Brn) (l:List Rpt) (hv:validM s.c.M=true) (hT:s.c.T.length<=1000000) (hl:l.length<=24) (hr:∀ i,i<l.length->RptOk s (l.getD i default)) :
  Spec PP 178 [s.v,b.v,.d (lR l)] [.agg [lP (plsL s.c.M (telP s b l)),lRs (telR s b l s.n),I 0]]:=by
 obtain⟨bw,bh,-,-⟩:=zah hv
 have hn:s.n<=49 * 49:=jbv (by show s.c.M.W.toNat<=49; omega) (by show s.c.M.H.toNat<=49; omega)
 refine zbU [11] Tryz.func178 rfl (by kernel_rfl) rfl ?_
 refine CallSt.ro (zrV s l hT hl hr) rfl rfl ?_
 refine CallSt.ro (zrW s hv) rfl rfl ?_
 refine LoopOb.of (σ:=Nat) (fun k=>([(2,.d (lR l)),(3,.box 3 0),(4,.box 4 0),(6,.box 6 0),(7,.box 7 0),(8,.d (lM s l)),(9,.d (lP (mapK s.c.M s.n))),(10,.d (I k))],obTel s b l k)) (fun k=>k<=s.n) (fun k=>s.n - k) 0
  ⟨rfl,⟨obD s.ds rfl,obD b.ds rfl,obX rfl,⟨avNl rfl rfl rfl,avNl rfl rfl rfl,dE _,trivial⟩,obZ rfl rfl,obZ rfl rfl,trivial⟩,wq rfl⟩ (jF _) fun k hk=>?_
 have hk:k<=s.n:=hk
 have hml:=zfq s.c.M s.n
 apply bY <;> intro h1
 ·have h1:k<s.n:=by have:=dT h1; rw[hml] at this; omega
  have hg:=znt (m:=s.c.M) h1
  have hpl:=zfg s.c.M (telP s b l) k
  have hrl:=zmC s b l k
  refine oL (List.range 9) (FzOb.no ?_)
  refine⟨⟨rfl,by omega,by rw[hml]; omega⟩,?_⟩
  refine CallOb.pureE (zm7 s b l (plc s.c.M k) hl) rfl ⟨zaa _,zaa _,dE _,zbF (jI Place.X hg) (jI Place.Y hg),trivial⟩ rfl ?_
  apply bY <;> intro h2
  ·have h2:fstT s b l (plc s.c.M k)<0:=dT h2
   refine oL (List.range 10) (FzOb.no ?_)
   refine⟨⟨rfl,by omega,by rw[hml]; omega⟩,?_⟩
   refine⟨⟨.inr rfl,by unfold maxLen; omega,by show ((plsK s.c.M (telP s b l) k).length+1) * 16<=140737488355328; omega⟩,?_⟩
   refine⟨i6,?_⟩
   refine⟨k+1,⟨rfl,⟨obD s.ds rfl,obD b.ds rfl,obX rfl,⟨rfl,rfl,dE _,trivial⟩,obR rfl ?_,obR rfl ?_,trivial⟩,wq rfl⟩,h1,(msr (by omega))⟩
   ·rw[zff (P:=telP s b l) (jG h2)]
    exact znf (at2 (jI (fun p:Place=>I p.X) hg) (jI (fun p:Place=>I p.Y) hg))
   rw[zpD h2]; exact dE _
  have h2:¬ fstT s b l (plc s.c.M k)<0:=dF h2
  have h3:=zsO h2
  refine oL (List.range 16) (FzOb.no ?_)
  refine⟨⟨rfl,by omega,by rw[hml]; omega⟩,⟨⟨rfl,by omega,by omega⟩,?_⟩⟩
  refine⟨⟨.inr rfl,by unfold maxLen; omega,by show ((telR s b l k).length+1) * 24<=140737488355328; omega⟩,?_⟩
  refine⟨i6,?_⟩
  refine⟨k+1,⟨rfl,⟨obD s.ds rfl,obD b.ds rfl,obX rfl,⟨rfl,rfl,dE _,trivial⟩,obR rfl ?_,obR rfl ?_,trivial⟩,wq rfl⟩,h1,(msr (by omega))⟩
  ·rw[zhd (P:=telP s b l) (jH h2)]; exact dE _
  rw[zmB h2]
  exact zr3 (at3 (jI (fun p:Place=>I p.X) hg) (jI (fun p:Place=>I p.Y) hg) rfl)
 have h1:k=s.n:=by have:=dF h1; rw[hml] at this; omega
 subst h1
 refine CutOb.at [(6,.box 6 0),(7,.box 7 0)] [(6,.box [.nilsl,.nilsl,.d (I 0)]),(7,.box [.d (lP (plsL s.c.M (telP s b l))),.d (lRs (telR s b l s.n)),.d (I 0)])] ⟨rfl,⟨obX rfl,⟨avOw rfl rfl rfl (dE _),avOw rfl rfl rfl (dE _),dE _,trivial⟩,trivial⟩,wq rfl⟩ ?_
 exact r1C rfl rfl rfl rfl rfl rfl (zaa _)
theorem zlE {s:Svc} {b:Brn} {l:List Rpt} {n:Nat} (h:n<s.n):fstT s b l (plc s.c.M n)=fstI (l.map (alwP s b)) n:=by
 have key:∀ (l:List Rpt) (k:Nat),idxA (fun r=>!allB s b r (plc s.c.M n)) l k=idxA (fun P:Nat->Bool=>!P n) (l.map (alwP s b)) k:=fun l=>by
  induction l with
  | nil=>intro k; rfl
  | cons r t ih=>
  intro k
  have e:alwP s b r n=allB s b r (plc s.c.M n):=by
   show (decide (n<s.n) && allB s b r (plc s.c.M n))=_
   rw[jG h,qS]
  show (if (!allB s b r (plc s.c.M n))=true then (k:Int) else idxA _ t (k+1))=(if (!alwP s b r n)=true then (k:Int) else idxA _ (t.map (alwP s b)) (k+1))
  rw[e,ih]
 exact key l 0
theorem zqQ {s:Svc} {b:Brn} {l:List Rpt} {n:Nat} (h:n<s.n):telP s b l n=metP (l.map (alwP s b)) n:=by
 unfold telP
 rw[zlE h]
 have h1:=zbw (fun P:Nat->Bool=>!P n) (l.map (alwP s b)) default
 have e:metP (l.map (alwP s b)) n = !((l.map (alwP s b)).any fun P=>!P n):=by
  unfold metP
  rw[List.not_any_eq_all_not]
  simp
 rw[e]
 cases hh:(l.map (alwP s b)).any fun P=>!P n with
 | true=>exact jH (by have:=h1.2 hh; show ¬ idxL _ _<0; omega)
 | false=>exact jG (by
   refine jL fun g=>?_
   have:0<=idxL (fun P:Nat->Bool=>!P n) (l.map (alwP s b)):=by
    have:¬ idxL (fun P:Nat->Bool=>!P n) (l.map (alwP s b))<0:=g
    omega
   rw[h1.1 this] at hh; cases hh)
theorem zeE {k:Nat} {p q:Nat->Bool} (h:∀ n,n<k->p n=q n):(List.range k).filter p=(List.range k).filter q:=
 jbB fun n hn=>h n (kK.1 hn)
theorem zmA (s:Svc) (b:Brn) (l:List Rpt):plsL s.c.M (telP s b l)=plsL s.c.M (metP (l.map (alwP s b))):=by
 unfold plsL plsK
 rw[zeE fun n hn=>zqQ hn]
theorem zmz (s:Svc) (b:Brn) (l:List Rpt):telR s b l s.n=rsnK s l (l.map (alwP s b)) s.n:=by
 unfold telR rsnK
 have e:((List.range s.n).filter fun n=>!decide (fstT s b l (plc s.c.M n)<0))=(List.range s.n).filter fun n=>decide (0<=fstI (l.map (alwP s b)) n):=zeE fun n hn=>by
  rw[zlE hn,<- decide_not]
  exact kZ.2 (by omega)
 rw[e]
 refine qF fun n hn=>?_
 have hn:=kK.1 (kW.1 hn).1
 rw[zlE hn]; rfl
theorem zp1 (s:Svc) (b:Brn) (l:List Rpt):Spec PP 126 [s.v,b.v,.d (lR l)] [.agg [lP (plcR s b l).1,lRs (rsnR s b l).1,I (givE s b l)]]:=by
 refine sA Tryz.func126 ?_
 refine cP (zjh s b l) rfl rfl ?_
 apply bY <;> intro h0
 ·have h0:givE s b l≠0:=by simpa using h0
  have e1:plcR s b l=([],givE s b l):=by unfold plcR; rw[kH h0]
  have e2:rsnR s b l=([],givE s b l):=by unfold rsnR; rw[kH h0]
  rw[e1,e2]
  exact r1C rfl rfl rfl rfl rfl rfl ⟨rfl,rfl,⟨rfl,rfl⟩,trivial⟩
 have h0:givE s b l=0:=by simpa using h0
 have ok:=zgr h0
 have e1:plcR s b l=(plsL s.c.M (metP (l.map (alwP s b))),0):=by unfold plcR; rw[kG (fun hh=>hh h0)]
 have e2:rsnR s b l=(rsnK s l (l.map (alwP s b)) s.n,0):=by unfold rsnR; rw[kG (fun hh=>hh h0)]
 rw[e1,e2,h0]
 have ht:=zpZ s b l ok.s.c.m (by have:=ok.s.c.t; omega) ok.n (fun i hi=>zrS (ok.r i hi).2)
 rw[zmA,zmz] at ht
 refine CallSt.ro ht rfl rfl ?_
 exact r1C rfl rfl rfl rfl rfl rfl (zaa _)
end Go.Pg
namespace Go.Pg
open Go.Proofs Go.RowKit Go.Sort Go.Shelf
theorem zkp (l:List Int) (x:Int) (hn:l.length<=1000000):Spec PP 106 [.d (lI l),N x] [N (idxL (· == x) l)]:=by
 refine sA Tryz.func106 ?_
 refine LoopOb.of (σ:=Nat) (fun i=>([(0,.d (lI l)),(1,.d (I x)),(5,.d (I i))],[])) (fun i=>i<=l.length /\ ∀ j,j<i->(l.getD j 0==x)=false) (fun i=>l.length - i) 0
  ⟨rfl,trivial,wq rfl⟩ z0L fun i hi=>?_
 obtain⟨hi,ha⟩:=hi
 apply bY <;> intro h1
 ·have h1:i<l.length:=by have:=dT h1; omega
  refine⟨⟨rfl,by omega,by omega⟩,?_⟩
  apply bY <;> intro h2
  ·have h2:(l.getD i 0==x)=true:=h2
   refine r1I rfl ?_
   exact (zak 0 h1 h2 ha).symm
  have h2:(l.getD i 0==x)=false:=h2
  refine⟨i6,?_⟩
  refine⟨i+1,⟨rfl,trivial,wq rfl⟩,⟨h1,fun j hj=>?_⟩,msr h1⟩
  by_cases e:j=i
  ·subst e; exact h2
  exact ha j (by omega)
 have h1:i=l.length:=by have:=dF h1; omega
 subst h1
 refine r1I rfl ?_
 exact (zao 0 ha).symm
theorem zjw (l:List Int) (x:Int):decide (0<=idxL (· == x) l)=l.contains x:=by
 rw[kP,qU,<- zmh]
 exact zbw (· == x) l 0
theorem zls (l:List Int) (x:Int):decide (idxL (· == x) l<0) = !l.contains x:=by
 rw[<- zjw,<- decide_not]
 exact kZ.2 (by omega)
theorem rdR8 (r:Rpt):∀ j,j<8->D.eqv (rowOf 8 r.ds 0 j) (r.at j):=fun j hj=>by
 have e:rowOf 8 r.ds 0 j=getD' r.ds j:=by show getD' r.ds (0 * 8+j)=_; rw[Nat.zero_mul,kU]
 rw[e]
 match j,hj with
 | 0,_=>exact dE _
 | 1,_=>exact dE _
 | 2,_=>exact dE _
 | 3,_=>exact dE _
 | 4,_=>exact dE _
 | 5,_=>exact dE _
 | 6,_=>exact dE _
 | 7,_=>exact dE _
theorem zpW (d:Day) (ids:List Int) (hn:d.R.length<=1000000) (hi:ids.length<=1000000):Spec PP 128 [d.v,.d (lI ids)] [.d (lR (lstD d ids))]:=by
 have e:filR (offB ids) d.R d.R.length=lstD d ids:=by unfold filR lstD; rw[jZ]
 refine sA Tryz.func128 ?_
 refine LoopOb.of (σ:=Nat) (fun i=>([(1,.d (lI ids)),(2,.box 2 0),(5,.own 5),(6,.d (I i))],[(2,.box (d.ds.map AV.d)),(5,.row 93 8 (filR (offB ids) d.R i).length (rowRp (filR (offB ids) d.R i)))])) (fun i=>i<=d.R.length) (fun i=>d.R.length - i) 0
  ⟨rfl,⟨obD d.ds rfl,obR rfl ⟨by unfold filR; rfl,.inl rfl⟩,trivial⟩,wq rfl⟩ (jF _) fun i hi'=>?_
 have hi':i<=d.R.length:=hi'
 have hl:=znZ (offB ids) d.R i
 apply bY <;> intro h1
 ·have h1:i<d.R.length:=by have:=dT h1; omega
  have es:=zbN (offB ids) d.R h1
  refine⟨⟨rfl,by omega,by omega⟩,?_⟩
  have yes:offB ids (d.R.getD i default)=false->filR (offB ids) d.R (i+1)=filR (offB ids) d.R i ++ [d.R.getD i default]:=fun h=>by rw[es,kG (by rw[h]; decide)]
  have no:offB ids (d.R.getD i default)=true->filR (offB ids) d.R (i+1)=filR (offB ids) d.R i:=fun h=>by rw[es,kH h,jah]
  apply bY <;> intro h2
  ·have h2:((d.R.getD i default).Kind==1)=false:=by simpa using h2
   have ho:offB ids (d.R.getD i default)=false:=by unfold offB; rw[h2,qN]
   repeat first | apply sT | apply sF
   refine⟨⟨.inr rfl,by unfold maxLen; omega,by show ((filR (offB ids) d.R i).length+1) * 64<=140737488355328; omega⟩,?_⟩
   refine⟨i6,?_⟩
   refine⟨i+1,⟨rfl,⟨obD d.ds rfl,obR rfl ?_,trivial⟩,wq rfl⟩,h1,msr h1⟩
   rw[yes ho]
   exact zqe (rdR8 _)
  have h2:((d.R.getD i default).Kind==1)=true:=by simpa using h2
  refine cP (zkp ids (d.R.getD i default).ID hi) rfl rfl ?_
  repeat first | apply sT | apply sF
  apply bY <;> intro h3
  ·have h3:ids.contains (d.R.getD i default).ID=true:=by rw[<- zjw]; exact h3
   have ho:offB ids (d.R.getD i default)=false:=by unfold offB; rw[h3]; simp
   refine⟨⟨.inr rfl,by unfold maxLen; omega,by show ((filR (offB ids) d.R i).length+1) * 64<=140737488355328; omega⟩,?_⟩
   refine⟨i6,?_⟩
   refine⟨i+1,⟨rfl,⟨obD d.ds rfl,obR rfl ?_,trivial⟩,wq rfl⟩,h1,msr h1⟩
   rw[yes ho]
   exact zqe (rdR8 _)
  have h3:ids.contains (d.R.getD i default).ID=false:=by rw[<- zjw]; exact h3
  have ho:offB ids (d.R.getD i default)=true:=by unfold offB; rw[h2,h3]; rfl
  refine⟨i6,?_⟩
  refine⟨i+1,⟨rfl,⟨obD d.ds rfl,obR rfl ?_,trivial⟩,wq rfl⟩,h1,msr h1⟩
  rw[no ho]
  exact dE _
 have h1:i=d.R.length:=by have:=dF h1; omega
 subst h1
 rw[e]
 exact⟨⟨_,_,_,_,rfl,rfl,.inr ⟨rfl,fun i _ j _=>dE _⟩⟩,trivial⟩
def brn2 (ids:List Int) (x:Int × Int) (r:Rpt):Int × Int:=if ids.contains r.ID=true then (min x.1 r.Tick,max x.2 r.Tick) else x
def brnT (ids:List Int) (l:List Rpt):Int × Int:=l.foldl (brn2 ids) (1048576,0)
def brn7 (d:Day) (ids:List Int):Brn:=⟨(brnT ids d.R).1,(brnT ids d.R).2,d.Rise⟩
theorem zd3 (ids:List Int) (l:List Rpt) {i:Nat} (h:i<l.length):brnT ids (l.take (i+1))=brn2 ids (brnT ids (l.take i)) (l.getD i default):=by
 unfold brnT
 rw[zaE h default,jab]; rfl
theorem zkn (d:Day) (ids:List Int) (hn:d.R.length<=1000000) (hi:ids.length<=1000000):Spec PP 127 [d.v,.d (lI ids)] [(brn7 d ids).v]:=by
 refine sA Tryz.func127 ?_
 refine LoopOb.of (σ:=Nat) (fun i=>([(1,.d (lI ids)),(2,.box 2 0),(4,.box 4 0),(5,.box 5 0),(6,.d (I i))],
   [(2,.box (d.ds.map AV.d)),(4,.box ([I 0,I 0,I 0].map AV.d)),(5,.box ([I (brnT ids (d.R.take i)).1,I (brnT ids (d.R.take i)).2,I d.Rise].map AV.d))])) (fun i=>i<=d.R.length) (fun i=>d.R.length - i) 0
  ⟨rfl,⟨obD d.ds rfl,obD [I 0,I 0,I 0] rfl,obD [I 1048576,I 0,I d.Rise] rfl,trivial⟩,wq rfl⟩ (jF _) fun i hi'=>?_
 have hi':i<=d.R.length:=hi'
 apply bY <;> intro h1
 ·have h1:i<d.R.length:=by have:=dT h1; omega
  have es:=zd3 ids d.R h1
  refine⟨⟨rfl,by omega,by omega⟩,?_⟩
  refine cP (zkp ids (d.R.getD i default).ID hi) rfl rfl ?_
  apply bY <;> intro h2
  ·have h2:ids.contains (d.R.getD i default).ID=true:=by rw[<- zjw]; exact h2
   have e:brnT ids (d.R.take (i+1))=(min (brnT ids (d.R.take i)).1 (d.R.getD i default).Tick,max (brnT ids (d.R.take i)).2 (d.R.getD i default).Tick):=by rw[es]; unfold brn2; rw[kH h2]
   refine⟨i6,?_⟩
   refine⟨i+1,⟨rfl,⟨obD d.ds rfl,obD [I 0,I 0,I 0] rfl,?_,trivial⟩,wq rfl⟩,h1,msr h1⟩
   rw[e]; exact obD [I _,I _,I _] rfl
  have h2:ids.contains (d.R.getD i default).ID=false:=by rw[<- zjw]; exact h2
  have e:brnT ids (d.R.take (i+1))=brnT ids (d.R.take i):=by rw[es]; unfold brn2; rw[kG (by rw[h2]; decide)]
  refine⟨i6,?_⟩
  refine⟨i+1,⟨rfl,⟨obD d.ds rfl,obD [I 0,I 0,I 0] rfl,?_,trivial⟩,wq rfl⟩,h1,msr h1⟩
  rw[e]; exact obD [I _,I _,I _] rfl
 have h1:i=d.R.length:=by have:=dF h1; omega
 subst h1
 rw[jZ]
 exact⟨rtC (a:=4) rfl rfl rfl rfl rfl rfl (zaa _),trivial⟩
theorem zl5 {d:Day} (h:DayOk d) (ids:List Int):∀ i,i<=d.R.length->0<=(brnT ids (d.R.take i)).1/\(brnT ids (d.R.take i)).1<=1048576/\0<=(brnT ids (d.R.take i)).2/\(brnT ids (d.R.take i)).2<=1048576
 | 0,_=>by simp[brnT]
 | i+1,hi=>by
  obtain⟨a1,a2,a3,a4⟩:=zl5 h ids i (by omega)
  obtain⟨b1,b2⟩:=h.tick (show i<d.R.length by omega)
  rw[zd3 ids d.R (by omega)]
  unfold brn2
  split
  ·show 0<=min _ _/\min _ _<=_/\0<=max _ _/\max _ _<=_
   omega
  exact⟨a1,a2,a3,a4⟩
theorem zrf {d:Day} (h:DayOk d) (ids:List Int):inR .i64 ((brn7 d ids).To - (brn7 d ids).From):=by
 have:=zl5 h ids d.R.length (jE _)
 rw[jZ] at this
 show inR .i64 ((brnT ids d.R).2 - (brnT ids d.R).1)
 exact i6
theorem ziY {d:Day} (h:DayOk d) (ids:List Int):∀ i,i<=d.R.length->if ((d.R.take i).any fun r=>ids.contains r.ID)=true then brnS ids (d.R.take i)=(true,(brnT ids (d.R.take i)).1,(brnT ids (d.R.take i)).2) else brnS ids (d.R.take i)=(false,0,0)/\brnT ids (d.R.take i)=(1048576,0)
 | 0,_=>by simp[brnS,brnT]
 | i+1,hi=>by
  have ih:=ziY h ids i (by omega)
  obtain⟨b1,b2⟩:=h.tick (show i<d.R.length by omega)
  have ea:((d.R.take (i+1)).any fun r=>ids.contains r.ID)=(((d.R.take i).any fun r=>ids.contains r.ID) || ids.contains (d.R.getD i default).ID):=by
   rw[zaE (by omega) default,List.any_append]; simp
  rw[zcx ids d.R (by omega),zd3 ids d.R (by omega),ea]
  generalize brnS ids (d.R.take i)=u at ih ⊢
  generalize brnT ids (d.R.take i)=v at ih ⊢
  cases ha:((d.R.take i).any fun r=>ids.contains r.ID) with
  | true=>
   rw[ha,kH rfl] at ih
   rw[kH (by rfl),ih]
   unfold brn1 brn2
   cases hc:ids.contains (d.R.getD i default).ID <;> rfl
  | false=>
  rw[ha,kG (by decide)] at ih
  obtain⟨rfl,rfl⟩:=ih
  cases hc:ids.contains (d.R.getD i default).ID with
  | true=>
   rw[kH (by rfl)]
   unfold brn1 brn2
   rw[kH hc,kH hc]
   show (true,min _ _,max _ _)=(true,min _ _,max _ _)
   congr 2
   ·show min (d.R.getD i default).Tick (d.R.getD i default).Tick=min 1048576 (d.R.getD i default).Tick
    omega
   ·show max (d.R.getD i default).Tick (d.R.getD i default).Tick=max 0 (d.R.getD i default).Tick
    omega
  | false=>
  rw[kG (by decide)]
  unfold brn1 brn2
  rw[kG (by rw[hc]; decide),kG (by rw[hc]; decide)]
  exact⟨rfl,rfl⟩
theorem zrg {d:Day} (h:DayOk d) {ids:List Int} (ha:(d.R.any fun r=>ids.contains r.ID)=true):brn7 d ids=brnD d ids:=by
 have:=ziY h ids d.R.length (jE _)
 rw[jZ,kH ha] at this
 unfold brn7 brnD
 rw[this]
theorem zpV {d:Day} (h:DayOk d) (ids:List Int) (hi:ids.length<=1000000):Spec PP 125 [d.v,.d (lI ids)] [B (decide (d.Long<(brn7 d ids).To - (brn7 d ids).From))]:=by
 refine sA Tryz.func125 ?_
 refine cP (zkn d ids (by have:=h.n; omega) hi) rfl rfl ?_
 refine⟨zrf h ids,?_⟩
 exact r1B rfl rfl
def tldL (d:Day) (ids:List Int):List Place:=if d.Long<(brn7 d ids).To - (brn7 d ids).From then [] else (plcR d.s (brn7 d ids) (lstD d ids)).1
def tldR (d:Day) (ids:List Int):List Rsn:=if d.Long<(brn7 d ids).To - (brn7 d ids).From then [] else (rsnR d.s (brn7 d ids) (lstD d ids)).1
def tldE (d:Day) (ids:List Int):Int:=if d.Long<(brn7 d ids).To - (brn7 d ids).From then 0 else givE d.s (brn7 d ids) (lstD d ids)
theorem zpS {d:Day} (h:DayOk d) (ids:List Int) (hi:ids.length<=1000000):Spec PP 62 [d.v,.d (lI ids)] [.agg [lP (tldL d ids),lRs (tldR d ids),I (tldE d ids)]]:=by
 have hn:=h.n
 refine sA Tryz.func62 ?_
 refine cP (zpV h ids hi) rfl rfl ?_
 unfold tldL tldR tldE
 apply bY <;> intro h1
 ·have h1:=qC h1
  rw[kH h1,kH h1,kH h1]
  exact⟨rtC (a:=4) rfl rfl rfl rfl rfl rfl ⟨rfl,rfl,⟨rfl,rfl⟩,trivial⟩,trivial⟩
 have h1:=wH h1
 rw[kG h1,kG h1,kG h1]
 refine oL (List.range 10) (FzOb.no ?_)
 refine oP (zkn d ids (by omega) hi) rfl rfl ?_
 refine CallOb.ro (zpW d ids (by omega) hi) rfl rfl ?_
 refine CallOb.ro (zp1 d.s (brn7 d ids) (lstD d ids)) rfl rfl ?_
 exact⟨rtC (a:=4) rfl rfl rfl rfl rfl rfl (zaa _),trivial⟩
abbrev leI (x y:Int):Bool:=decide (x<=y)
def Srt (l:List Int):Prop:=l.Pairwise fun x y=>leI x y=true
theorem zf1 {l m:List Int} (h1:Srt l) (h2:Srt m) (hp:l.Perm m):l=m:=
 List.Perm.eq_of_pairwise (le:=fun x y=>leI x y=true) (fun a b _ _ h3 h4=>by
  have h3:=qC h3
  have h4:=qC h4
  omega) h1 h2 hp
theorem zhX (l:List Rpt):Srt (sigL l):=
 List.pairwise_mergeSort (le:=fun x y=>decide (x<=y)) (fun a b c h1 h2=>by
  have h1:=qC h1
  have h2:=qC h2
  exact jG (by omega)) (fun a b=>by
  rw[jX,qU,qU]
  omega) _
def insK (l:List Int) (x:Int) (k:Nat):List Int:=l.take k++x :: l.drop k
theorem zbK (l:List Int) (x:Int) (k:Nat):(insK l x k).Perm (l ++ [x]):=by
 unfold insK
 have h1:(l.take k++x :: l.drop k).Perm (x :: (l.take k++l.drop k)):=List.perm_middle
 rw[List.take_append_drop] at h1
 exact h1.trans (List.perm_append_comm (l₁:=[x]) (l₂:=l))
theorem zdp {l:List Int} {x:Int} {k:Nat} (hk:k<=l.length) (hs:Srt l) (h1:∀ j,k<=j->j<l.length->x<l.getD j 0) (h2:0<k->l.getD (k - 1) 0<=x):Srt (insK l x k):=by
 have hd:=hs
 unfold Srt at hd
 rw[<- List.take_append_drop k l,List.pairwise_append] at hd
 obtain⟨d1,d2,d3⟩:=hd
 have g:∀ i j,i<j->j<l.length->l.getD i 0<=l.getD j 0:=fun i j hij hj=>by
  have:=jan.1 hs i j (by omega) hj hij
  have:=qC this
  rw[hZ,hZ,kF hj,kF (by omega)]
  exact this
 have lo:∀ y∈l.take k,y<=x:=fun y hy=>by
  obtain⟨j,hj,rfl⟩:=qJ hy
  rw[jQ] at hj
  rw[ja8]
  have e:l[j]'(by omega)=l.getD j 0:=by rw[hZ,kF (by omega)]; rfl
  rw[e]
  have h3:=h2 (by omega)
  by_cases q:j=k - 1
  ·rw[q]; exact h3
  have:=g j (k - 1) (by omega) (by omega); omega
 have hi:∀ y∈l.drop k,x<=y:=fun y hy=>by
  obtain⟨j,hj,rfl⟩:=qJ hy
  rw[jak] at hj
  rw[List.getElem_drop]
  have e:l[k+j]'(by omega)=l.getD (k+j) 0:=by rw[hZ,kF (by omega)]; rfl
  rw[e]
  have:=h1 (k+j) (by omega) (by omega)
  omega
 unfold Srt insK
 rw[List.pairwise_append]
 refine⟨d1,List.pairwise_cons.2 ⟨fun y hy=>jG (hi y hy),d2⟩,fun a ha c hc=>?_⟩
 rcases kT.1 hc with rfl | hc
 ·exact jG (lo a ha)
 have:=lo a ha
 have:=hi c hc
 exact jG (by omega)
theorem znM (l:List Int) (x:Int) {k:Nat} (hk:k<=l.length) (m:Nat):(insK l x k).getD m 0=if m<k then l.getD m 0 else if m=k then x else l.getD (m - 1) 0:=by
 unfold insK
 rw[hZ]
 by_cases h1:m<k
 ·rw[kH h1,jJ (by rw[jQ]; omega),jS,kH h1,<- hZ]
 rw[kG h1,jK (by rw[jQ]; omega),jQ]
 rw[show min k l.length=k by omega]
 by_cases h2:m=k
 ·rw[kH h2,h2,kE]; rfl
 rw[kG h2]
 obtain⟨d,hd⟩:∃ d,m - k=d+1:=⟨m - k - 1,by omega⟩
 rw[hd,jaa,qW,show k+d=m - 1 by omega,<- hZ]
theorem zdq {l:List Int} {x:Int} {k:Nat} (hk:k<=l.length) {n n':Nat} {F f:Nat->Nat->D} (hn:n=k) (hn':n'=k) (hF:∀ a,a<k->F a 0=I (l.getD a 0)) (h:f 0 0=I x) :
  D.eqv (.slc 1 (n+1+(l.length - n')) (appRow (n+1) (appRow n F f) fun a _=>I (l.getD (n'+a) 0))) (lI (insK l x k)):=by
 subst hn
 subst hn'
 refine⟨by rw[(zbK l x n').length_eq,jR,qZ]; omega,.inr ⟨rfl,fun m hm j hj=>?_⟩⟩
 obtain rfl:j=0:=by omega
 show D.eqv (appRow (n'+1) (appRow n' F f) (fun a _=>I (l.getD (n'+a) 0)) m 0) (I ((insK l x n').getD m 0))
 rw[znM l x hk]
 unfold appRow
 by_cases h1:m<n'
 ·rw[kH (by omega),kH h1,kH h1,hF m h1]; exact dE _
 by_cases h2:m=n'
 ·rw[kH (by omega),kG h1,kG h1,kH h2,h2,kE,h]; exact dE _
 rw[kG (by omega),kG h1,kG h2]
 show D.eqv (I (l.getD (n'+(m - (n'+1))) 0)) _
 rw[show n'+(m - (n'+1))=m - 1 by omega]; exact dE _
theorem zf7 (d:Day) (hn:d.R.length<=1000000):Spec PP 38 [d.v] [.d (lI (sigL d.R))]:=by
 refine sA Tryz.func38 ?_
 refine LoopOb.of (σ:=List Int × Nat) (fun x=>([(1,.box 1 0),(3,.d (lI x.1)),(4,.d (I x.2))],[(1,.box (d.ds.map AV.d))])) (fun x=>x.2<=d.R.length/\Srt x.1/\x.1.Perm (sigK (d.R.take x.2))) (fun x=>d.R.length - x.2) ([],0)
  ⟨rfl,⟨obD d.ds rfl,trivial⟩,avQ rfl,avOw rfl rfl rfl ⟨rfl,.inl rfl⟩,avQ rfl,trivial⟩ ⟨jF _,List.Pairwise.nil,List.Perm.refl _⟩ fun⟨U,i⟩ ⟨hi,hs,hp⟩=>?_
 have hi:i<=d.R.length:=hi
 have hs:Srt U:=hs
 have hp:U.Perm (sigK (d.R.take i)):=hp
 have hU:U.length<=i:=by
  rw[hp.length_eq]
  have:=zbV (d.R.take i)
  rw[jQ] at this; omega
 apply bY <;> intro h1
 ·have h1:i<d.R.length:=by have:(i:Int)<d.R.length:=dT h1; omega
  refine⟨⟨rfl,by omega,by show (i:Int)<d.R.length; omega⟩,?_⟩
  apply bY <;> intro h2
  ·have h2:isSg (d.R.getD i default)=false:=by simpa [isSg] using h2
   refine⟨i6,?_⟩
   refine⟨(U,i+1),⟨rfl,⟨obD d.ds rfl,trivial⟩,wq rfl⟩,⟨h1,hs,by rw[zj9 h1 h2]; exact hp⟩,msr h1⟩
  have h2:isSg (d.R.getD i default)=true:=by simpa [isSg] using h2
  refine LoopOb.of (σ:=Nat) (fun k=>([(1,.box 1 0),(3,.d (lI U)),(4,.d (I i)),(5,.d (I k))],[(1,.box (d.ds.map AV.d))])) (fun k=>k<=U.length /\ ∀ j,k<=j->j<U.length->(d.R.getD i default).ID<U.getD j 0) (fun k=>k) U.length
   ⟨rfl,⟨obD d.ds rfl,trivial⟩,wq rfl⟩ ⟨jE _,fun j h3 h4=>absurd h4 (by omega)⟩ fun k hk=>?_
  obtain⟨hk,ha⟩:=hk
  refine oL (List.range 16) (FzOb.no ?_)
  apply bY <;> intro h3
  ·have h3:0<k:=by have:=dT h3; omega
   refine⟨i6,?_⟩
   refine⟨⟨rfl,by omega,by omega⟩,?_⟩
   refine⟨⟨rfl,by omega,by show (i:Int)<d.R.length; omega⟩,?_⟩
   have ek:((k:Int) - 1).toNat=k - 1:=by omega
   repeat first | apply sT | apply sF
   apply bY <;> intro h4
   ·have h4:(d.R.getD i default).ID<U.getD (k - 1) 0:=by have h4:=dT h4; rw[ek] at h4; exact h4
    refine⟨i6,?_⟩
    refine⟨k - 1,⟨rfl,⟨obD d.ds rfl,trivial⟩,avQ rfl,avQ rfl,avQ rfl,avI rfl (by omega),trivial⟩,⟨by omega,fun j h5 h6=>?_⟩,by omega⟩
    by_cases e:j=k - 1
    ·rw[e]; exact h4
    exact ha j (by omega) h6
   have h4:U.getD (k - 1) 0<=(d.R.getD i default).ID:=by have h4:=dF h4; rw[ek] at h4; have:¬ (d.R.getD i default).ID<U.getD (k - 1) 0:=h4; omega
   refine⟨⟨.inr rfl,by omega,by omega⟩,?_⟩
   refine⟨⟨.inr rfl,by simp only[maxLen]; omega,by dsimp only; omega⟩,?_⟩
   refine⟨⟨rfl,by omega,by show (i:Int)<d.R.length; omega⟩,?_⟩
   refine⟨⟨.inr rfl,by simp only[maxLen]; omega,by dsimp only; omega⟩,?_⟩
   refine⟨⟨.inr rfl,by omega,by omega⟩,?_⟩
   refine⟨⟨.inr rfl,by simp only[maxLen]; omega,by dsimp only; omega⟩,?_⟩
   refine⟨i6,?_⟩
   refine⟨(insK U (d.R.getD i default).ID k,i+1),⟨rfl,⟨obD d.ds rfl,trivial⟩,avQ rfl,avOw rfl rfl rfl ?_,avQ rfl,trivial⟩,⟨h1,zdp hk hs ha (fun _=>h4),?_⟩,msr h1⟩
   ·exact zdq hk (by omega) (by omega) (fun a _=>rfl) rfl
   rw[zeZ h1 h2]
   exact (zbK _ _ _).trans (hp.append_right _)
  have h3:k=0:=by have:=dF h3; omega
  repeat first | apply sT | apply sF
  refine⟨⟨.inr rfl,by omega,by omega⟩,?_⟩
  refine⟨⟨.inr rfl,by simp only[maxLen]; omega,by dsimp only; omega⟩,?_⟩
  refine⟨⟨rfl,by omega,by show (i:Int)<d.R.length; omega⟩,?_⟩
  refine⟨⟨.inr rfl,by simp only[maxLen]; omega,by dsimp only; omega⟩,?_⟩
  refine⟨⟨.inr rfl,by omega,by omega⟩,?_⟩
  refine⟨⟨.inr rfl,by simp only[maxLen]; omega,by dsimp only; omega⟩,?_⟩
  refine⟨i6,?_⟩
  refine⟨(insK U (d.R.getD i default).ID k,i+1),⟨rfl,⟨obD d.ds rfl,trivial⟩,avQ rfl,avOw rfl rfl rfl ?_,avQ rfl,trivial⟩,⟨h1,zdp hk hs ha (fun h=>by omega),?_⟩,msr h1⟩
  ·exact zdq hk (by omega) (by omega) (fun a _=>rfl) rfl
  rw[zeZ h1 h2]
  exact (zbK _ _ _).trans (hp.append_right _)
 have h1:i=d.R.length:=by have:¬ (i:Int)<d.R.length:=dF h1; omega
 subst h1
 rw[jZ] at hp
 rw[zf1 (zhX d.R) hs ((ja0 _ _).trans hp.symm)]
 exact⟨dE _,trivial⟩
def witR (ids:List Int) (l:List Rpt):List Rpt:=l.filter fun r=>!ids.contains r.ID
def witD (d:Day) (ids:List Int):Day:=⟨d.s,d.Rise,d.Long,witR ids d.R⟩
theorem zeR (ids:List Int) (l:List Rpt):(witR ids l).length<=l.length:=kX _ _
theorem zmn {ids:List Int} {l:List Rpt} {i:Nat} (h:i<l.length) (h1:ids.contains (l.getD i default).ID=false):witR ids (l.take (i+1))=witR ids (l.take i) ++ [l.getD i default]:=by
 unfold witR
 rw[zaE h default,kM,qA (by rw[h1]; rfl)]; rfl
theorem zpl {ids:List Int} {l:List Rpt} {i:Nat} (h:i<l.length) (h1:ids.contains (l.getD i default).ID=true):witR ids (l.take (i+1))=witR ids (l.take i):=by
 unfold witR
 rw[zaE h default,kM,qB (by rw[h1]; decide)]; simp
def othB (d:Day) (a b x:Int):Bool:=!(decide ((samR (witD d [x]) a b).2=0) && decide ((samR (witD d [x]) a b).1.Ans=(samR d a b).1.Ans))
def rstB (d:Day) (a b:Int) (r:Rpt):Bool:=!(decide (r.ID=a) || decide (r.ID=b)) && othB d a b r.ID
def rstK (p:Rpt->Bool) (l:List Rpt):List Int:=(l.filter p).map Rpt.ID
def rstL (p:Rpt->Bool) (l:List Rpt):List Int:=(rstK p l).mergeSort fun x y=>decide (x<=y)
theorem ze3 {p:Rpt->Bool} {l:List Rpt} {i:Nat} (h:i<l.length) (h1:p (l.getD i default)=true):rstK p (l.take (i+1))=rstK p (l.take i) ++ [(l.getD i default).ID]:=by
 unfold rstK
 rw[zaE h default,kM,qA h1,jT]; rfl
theorem zke {p:Rpt->Bool} {l:List Rpt} {i:Nat} (h:i<l.length) (h1:p (l.getD i default)=false):rstK p (l.take (i+1))=rstK p (l.take i):=by
 unfold rstK
 rw[zaE h default,kM,qB (by rw[h1]; decide)]; simp
theorem ze4 (p:Rpt->Bool) (l:List Rpt):(rstK p l).length<=l.length:=by unfold rstK; rw[kS]; exact kX _ _
theorem zh0 (p:Rpt->Bool) (l:List Rpt):(rstL p l).length=(rstK p l).length:=qM _
theorem zmS (p:Rpt->Bool) (l:List Rpt):Srt (rstL p l):=
 List.pairwise_mergeSort (le:=fun x y=>decide (x<=y)) (fun a b c h1 h2=>by
  have h1:=qC h1
  have h2:=qC h2
  exact jG (by omega)) (fun a b=>by
  rw[jX,qU,qU]
  omega) _
def rstR (d:Day) (a b:Int):List Int × Int:=if (samR d a b).2≠0 then ([],(samR d a b).2) else (rstL (rstB d a b) d.R,0)
theorem zeb (s:Svc) (r:Rpt):Spec PP 122 [s.v,r.v] [.d (.int .i64 (crpE s r))]:=by
 refine sA Tryz.func122 ?_
 refine cP (ze8 s) rfl rfl ?_
 apply bY <;> intro h0
 ·have h0:svcE s≠0:=by simpa using h0
  refine r1I rfl ?_
  unfold crpE; rw[kH h0]
 have h0:svcE s=0:=by simpa using h0
 have ok:=zfZ h0
 refine cP (zf8 s r (by have:=ok.c.t; omega) (by have:=ok.k.n; omega)) rfl rfl ?_
 refine r1I rfl ?_
 unfold crpE; rw[kG (fun hh=>hh h0)]
theorem zm6 (d:Day) (hn:d.R.length<=1000000):Spec PP 57 [d.v] [.d (.int .i64 (dayE d))]:=by
 refine sA Tryz.func57 ?_
 refine cP (ze8 d.s) rfl rfl ?_
 apply bY <;> intro h0
 ·refine r1I rfl ?_
  unfold dayE; rw[kH (by simpa using h0)]
 have h0:svcE d.s=0:=by simpa using h0
 have bad:(!within d.Rise 0 200 || !within d.Long 0 1440)=true->dayE d=1:=fun h=>by unfold dayE; rw[kG (fun hh=>hh h0),kH h]
 apply bY <;> intro h1
 ·have h1:d.Rise<0:=dT h1
  repeat first | apply sT | apply sF
  refine r1I rfl (bad ?_).symm
  unfold within; rw[jH (by omega:¬ 0<=d.Rise)]; rfl
 have h1:¬ d.Rise<0:=dF h1
 repeat first | apply sT | apply sF
 apply bY <;> intro h2
 ·have h2:200<d.Rise:=dT h2
  repeat first | apply sT | apply sF
  refine r1I rfl (bad ?_).symm
  unfold within; rw[jH (by omega:¬ d.Rise<=200),kN]; rfl
 have h2:¬ 200<d.Rise:=dF h2
 repeat first | apply sT | apply sF
 apply bY <;> intro h3
 ·have h3:d.Long<0:=dT h3
  repeat first | apply sT | apply sF
  refine r1I rfl (bad ?_).symm
  unfold within; rw[jH (by omega:¬ 0<=d.Long),qN,Bool.not_false,kO]
 have h3:¬ d.Long<0:=dF h3
 repeat first | apply sT | apply sF
 apply bY <;> intro h4
 ·have h4:1440<d.Long:=dT h4
  repeat first | apply sT | apply sF
  refine r1I rfl (bad ?_).symm
  unfold within; rw[jH (by omega:¬ d.Long<=1440),kN,Bool.not_false,kO]
 have h4:¬ 1440<d.Long:=dF h4
 have w1:within d.Rise 0 200=true:=by unfold within; rw[jG (by omega:0<=d.Rise),jG (by omega:d.Rise<=200)]; rfl
 have w2:within d.Long 0 1440=true:=by unfold within; rw[jG (by omega:0<=d.Long),jG (by omega:d.Long<=1440)]; rfl
 refine CallSt.ro (zf7 d hn) rfl rfl ?_
 have e1:(sigL d.R).length=(sigK d.R).length:=zbh d.R
 have eg:dayE d=if 7<(sigK d.R).length \/ 10+(sigK d.R).length<d.R.length then 2 else err1 (day1E d) d.R.length:=by
  unfold dayE; rw[kG (fun hh=>hh h0),kG (by rw[w1,w2]; decide)]
 rw[eg]
 apply bY <;> intro h5
 ·have h5:7<(sigK d.R).length:=by have:(7:Int)<(sigL d.R).length:=dT h5; omega
  repeat first | apply sT | apply sF
  refine r1I rfl ?_
  rw[kH (.inl h5)]
 have h5:¬ 7<(sigK d.R).length:=by have:¬ (7:Int)<(sigL d.R).length:=dF h5; omega
 refine⟨i6,?_⟩
 repeat first | apply sT | apply sF
 apply bY <;> intro h6
 ·have h6:10+(sigK d.R).length<d.R.length:=by have:(10:Int)<(d.R.length:Int) - (sigL d.R).length:=dT h6; omega
  refine r1I rfl ?_
  rw[kH (.inr h6)]
 have h6:¬ 10+(sigK d.R).length<d.R.length:=by have:¬ (10:Int)<(d.R.length:Int) - (sigL d.R).length:=dF h6; omega
 rw[kG (fun h=>h.elim h5 h6)]
 have hl:d.R.length<=17:=by omega
 refine LoopOb.of (σ:=Nat) (fun i=>([(1,.box 1 0),(5,.d (I i))],[(1,.box (d.ds.map AV.d))])) (fun i=>i<=d.R.length /\ ∀ j,j<i->day1E d j=0) (fun i=>d.R.length - i) 0
  ⟨rfl,⟨obD d.ds rfl,trivial⟩,wq rfl⟩ z0L fun i hi=>?_
 obtain⟨hi,ha⟩:=hi
 apply bY <;> intro h7
 ·have h7:i<d.R.length:=by have:=dT h7; omega
  refine oL (List.range 9) (FzOb.no ?_)
  refine⟨⟨rfl,by omega,by omega⟩,?_⟩
  refine oP (zeb d.s (d.R.getD i default)) rfl rfl ?_
  apply bY <;> intro h8
  ·have h8:crpE d.s (d.R.getD i default)≠0:=by simpa using h8
   have e2:day1E d i=crpE d.s (d.R.getD i default):=by unfold day1E; rw[kH h8]
   refine r1I rfl ?_
   rw[zal ha (by rw[e2]; exact h8) h7,e2]
  have h8:crpE d.s (d.R.getD i default)=0:=by simpa using h8
  refine LoopOb.of (σ:=Nat) (fun k=>([(1,.box 1 0),(5,.d (I i)),(6,.d (I k))],[(1,.box (d.ds.map AV.d))])) (fun k=>k<=i /\ ∀ j,j<k->((d.R.getD j default).ID==(d.R.getD i default).ID)=false) (fun k=>i - k) 0
   ⟨rfl,⟨obD d.ds rfl,trivial⟩,wq rfl⟩ z0L fun k hk=>?_
  obtain⟨hk,hb⟩:=hk
  apply bY <;> intro h9
  ·have h9:k<i:=by have:=dT h9; omega
   refine oL (List.range 13) (FzOb.no ?_)
   refine⟨⟨rfl,by omega,by omega⟩,?_⟩
   refine⟨⟨rfl,by omega,by omega⟩,?_⟩
   apply bY <;> intro h10
   ·have h10:((d.R.getD k default).ID==(d.R.getD i default).ID)=true:=h10
    have hm:d.R.getD k default∈d.R.take i:=by
     rw[hZ,kF (by omega)]
     have:(d.R.take i)[k]'(by rw[jQ]; omega)=d.R[k]'(by omega):=ja8
     show d.R[k]'(by omega)∈_
     rw[<- this]
     exact kQ _
    have e2:day1E d i=6:=by unfold day1E; rw[kG (fun hh=>hh h8),kH (kJ.2 ⟨_,hm,h10⟩)]
    refine r1I rfl ?_
    rw[zal ha (by rw[e2]; decide) h7,e2]
   have h10:((d.R.getD k default).ID==(d.R.getD i default).ID)=false:=h10
   refine⟨i6,?_⟩
   refine⟨k+1,⟨rfl,⟨obD d.ds rfl,trivial⟩,wq rfl⟩,⟨h9,fun j hj=>?_⟩,msr h9⟩
   by_cases e:j=k
   ·subst e; exact h10
   exact hb j (by omega)
  have h9:k=i:=by have:=dF h9; omega
  subst h9
  have e2:day1E d k=0:=by
   unfold day1E
   rw[kG (fun hh=>hh h8),kG fun hh=>?_]
   obtain⟨x,hx,hq⟩:=kJ.1 hh
   obtain⟨j,hj,rfl⟩:=qJ hx
   rw[jQ] at hj
   have:=hb j (by omega)
   rw[hZ,kF (by omega:j<d.R.length)] at this
   rw[ja8] at hq
   exact absurd hq (by rw[show (d.R[j].ID==(d.R.getD k default).ID)=false from this]; decide)
  refine⟨i6,?_⟩
  refine⟨k+1,⟨rfl,⟨obD d.ds rfl,trivial⟩,wq rfl⟩,⟨h7,fun j hj=>?_⟩,msr h7⟩
  by_cases e:j=k
  ·subst e; exact e2
  exact ha j (by omega)
 have h7:i=d.R.length:=by have:=dF h7; omega
 subst h7
 refine r1I rfl ?_
 rw[zaF ha]
theorem zkH {a b:List Int}:partB a b=true ↔ ∀ j,j<a.length->b.contains (a.getD j 0)=true:=by
 unfold partB
 rw[jC]
 constructor
 ·intro h j hj
  rw[hZ,kF hj]
  exact h _ (kQ hj)
 intro h x hx
 obtain⟨j,hj,rfl⟩:=qJ hx
 have:=h j hj
 rw[hZ,kF hj] at this
 exact this
theorem zmN {l:List Rpt} {x:Int} (h:x∈sigK l):∃ r∈l,r.ID=x:=by
 unfold sigK at h
 obtain⟨r,hr,e⟩:=kI.1 h
 exact⟨r,(kW.1 hr).1,e⟩
theorem zmM {l:List Rpt} {x:Int}:x∈sigL l ↔ x∈sigK l:=(ja0 _ _).mem_iff
theorem zrj {d:Day} {ids:List Int} (h:askE d ids=0):(d.R.any fun r=>ids.contains r.ID)=true:=by
 unfold askE at h
 split at h
 ·rename_i h1; exact absurd h h1
 split at h
 ·cases h
 rename_i h2
 split at h
 ·cases h
 rename_i h3
 have hs:setB ids=true:=by simpa using h2
 have hp:partB ids (sigL d.R)=true:=by simpa using h3
 have hl:0<ids.length:=by unfold setB at hs; simp at hs; exact hs.2
 have h4:=zkH.1 hp 0 hl
 obtain⟨r,hr,e⟩:=zmN (zmM.1 (kD.1 h4))
 refine kJ.2 ⟨r,hr,kD.2 ?_⟩
 rw[e,hZ,kF hl]
 exact kQ hl
theorem zpx {d:Day} (h:DayOk d) {ids:List Int} (ha:(d.R.any fun r=>ids.contains r.ID)=true):tldL d ids=plsD d ids:=by
 unfold tldL plsD
 rw[zrg h ha]
 by_cases g:(brnD d ids).To - (brnD d ids).From<=d.Long
 ·rw[kH g,kG (by omega)]
 rw[kG g,kH (by omega)]
def sml7 (d:Day):Prop:=d.s.c.M.G.length<=81/\d.s.c.T.length<=4/\d.s.c.Z.length<=8/\d.s.k.C.length<=4/\d.s.k.K.length<=12/\d.R.length<=40
instance (d:Day):Decidable (sml7 d):=by unfold sml7; infer_instance
def few7 (d:Day):Prop:=sml7 d/\(((sigK d.R).length<=5/\d.R.length<=4+(sigK d.R).length) \/ 7<(sigK d.R).length \/ 10+(sigK d.R).length<d.R.length)
instance (d:Day):Decidable (few7 d):=by unfold few7; infer_instance
theorem zrt (d:Day):Spec PP 10 [d.v] [B (decide (few7 d))]:=by
 refine sA Tryz.func10 ?_
 have no:¬ sml7 d->false=decide (few7 d):=fun h=>(jH fun hh=>h hh.1).symm
 apply bY <;> intro g0
 ·have g:(81:Int)<d.s.c.M.G.length:=dT g0
  repeat first | apply sT | apply sF
  exact r1B rfl (no fun hh=>by unfold sml7 at hh; omega)
 have g0:¬ 81<d.s.c.M.G.length:=by have:¬ (81:Int)<d.s.c.M.G.length:=dF g0; omega
 repeat first | apply sT | apply sF
 apply bY <;> intro g1
 ·have g:(4:Int)<d.s.c.T.length:=dT g1
  repeat first | apply sT | apply sF
  exact r1B rfl (no fun hh=>by unfold sml7 at hh; omega)
 have g1:¬ 4<d.s.c.T.length:=by have:¬ (4:Int)<d.s.c.T.length:=dF g1; omega
 repeat first | apply sT | apply sF
 apply bY <;> intro g2
 ·have g:(8:Int)<d.s.c.Z.length:=dT g2
  repeat first | apply sT | apply sF
  exact r1B rfl (no fun hh=>by unfold sml7 at hh; omega)
 have g2:¬ 8<d.s.c.Z.length:=by have:¬ (8:Int)<d.s.c.Z.length:=dF g2; omega
 repeat first | apply sT | apply sF
 apply bY <;> intro g3
 ·have g:(4:Int)<d.s.k.C.length:=dT g3
  repeat first | apply sT | apply sF
  exact r1B rfl (no fun hh=>by unfold sml7 at hh; omega)
 have g3:¬ 4<d.s.k.C.length:=by have:¬ (4:Int)<d.s.k.C.length:=dF g3; omega
 repeat first | apply sT | apply sF
 apply bY <;> intro g4
 ·have g:(12:Int)<d.s.k.K.length:=dT g4
  repeat first | apply sT | apply sF
  exact r1B rfl (no fun hh=>by unfold sml7 at hh; omega)
 have g4:¬ 12<d.s.k.K.length:=by have:¬ (12:Int)<d.s.k.K.length:=dF g4; omega
 repeat first | apply sT | apply sF
 apply bY <;> intro g5
 ·have g:(40:Int)<d.R.length:=dT g5
  repeat first | apply sT | apply sF
  exact r1B rfl (no fun hh=>by unfold sml7 at hh; omega)
 have g5:¬ 40<d.R.length:=by have:¬ (40:Int)<d.R.length:=dF g5; omega
 have hs:sml7 d:=⟨by omega,by omega,by omega,by omega,by omega,by omega⟩
 have e1:(sigL d.R).length=(sigK d.R).length:=zbh d.R
 refine CallSt.ro (zf7 d (by omega)) rfl rfl ?_
 have hk:=zbV d.R
 have yes:(((sigK d.R).length<=5/\d.R.length<=4+(sigK d.R).length) \/ 7<(sigK d.R).length \/ 10+(sigK d.R).length<d.R.length)->true=decide (few7 d):=fun h=>(jG (⟨hs,h⟩:few7 d)).symm
 apply bY <;> intro h1
 ·have h1:(sigK d.R).length<=5:=by have:((sigL d.R).length:Int)<=5:=dT h1; omega
  refine⟨i6,?_⟩
  repeat first | apply sT | apply sF
  apply bY <;> intro h2
  ·have h2:d.R.length<=4+(sigK d.R).length:=by have:(d.R.length:Int) - (sigL d.R).length<=4:=dT h2; omega
   repeat first | apply sT | apply sF
   exact r1B rfl (yes (.inl ⟨h1,h2⟩))
  have h2:¬ d.R.length<=4+(sigK d.R).length:=by have:¬ (d.R.length:Int) - (sigL d.R).length<=4:=dF h2; omega
  repeat first | apply sT | apply sF
  refine Split.no (jH (by omega)) ?_
  refine⟨i6,?_⟩
  repeat first | apply sT | apply sF
  refine r1B rfl ?_
  refine kZ.2 ⟨fun h=>⟨hs,.inr (.inr (by omega))⟩,fun h=>?_⟩
  rcases h.2 with h3 | h3 | h3
  ·exact absurd h3.2 h2
  ·omega
  omega
 have h1:¬ (sigK d.R).length<=5:=by have:¬ ((sigL d.R).length:Int)<=5:=dF h1; omega
 repeat first | apply sT | apply sF
 apply bY <;> intro h2
 ·have h2:7<(sigK d.R).length:=by have:(7:Int)<(sigL d.R).length:=dT h2; omega
  repeat first | apply sT | apply sF
  exact r1B rfl (yes (.inr (.inl h2)))
 have h2:¬ 7<(sigK d.R).length:=by have:¬ (7:Int)<(sigL d.R).length:=dF h2; omega
 repeat first | apply sT | apply sF
 refine⟨i6,?_⟩
 repeat first | apply sT | apply sF
 refine r1B rfl ?_
 refine kZ.2 ⟨fun h=>⟨hs,.inr (.inr (by omega))⟩,fun h=>?_⟩
 rcases h.2 with h3 | h3 | h3
 ·exact absurd h3.1 h1
 ·exact absurd h3 h2
 omega
def exR:List Rpt:=[⟨1,1,1,1,100,450,0,10⟩,⟨2,1,2,2,110,1350,0,10⟩,⟨3,1,1,1,300,450,0,10⟩]
def exS:Svc:=⟨⟨⟨9,9,List.replicate 81 0⟩,[⟨1,⟨0,0⟩,0⟩,⟨2,⟨8,0⟩,0⟩],[]⟩,⟨[⟨1,⟨0,0⟩,0,1000,0,0,0⟩,⟨2,⟨8,0⟩,0,1000,0,0,0⟩],[]⟩⟩
def exD:Day:=⟨exS,0,60,exR⟩
def SpecN (P:Program) (f:FuncId) (args:List V1) (obs':List (Nat × Ob)) (i:Nat) (res:List V1):Prop:=
 Ent P f /\ ∀ (w:World) (ok:Nat->Prop) (vs:List Value),(∀ b,ok b->b<w.heap.size)->All2 (Rep1 w ok) args vs ->
  Calls P f vs.toArray w fun en w'=>∃ b γ' us,en = .returned (.tuple (.pointer (some ⟨b,0,none⟩) :: us).toArray)/\γ' i = .pointer (some ⟨b,0,none⟩)/\FrM w w' γ' []/\OwnS w' (okM w w' ok γ' γ' [] obs') γ' obs' /\
   (∀ i o b,look obs' i=some o->blk (γ' i)=some b->w.heap.size<=b)/\All2 (Rep1 w' (okM w w' ok γ' γ' [] obs')) res us
theorem SpecN.eqv {P:Program} {f:FuncId} {xs ys:List V1} {obs':List (Nat × Ob)} {i:Nat} {res:List V1} (h:SpecN P f ys obs' i res) (he:eqV1s xs ys):SpecN P f xs obs' i res:=
 ⟨h.1,fun w ok vs hok hv=>h.2 w ok vs hok (za2 he hv)⟩
def SpecA (P:Program) (f:FuncId) (args:List V1) (obs':List (Nat × Ob)) (cs:List Cap):Prop:=
 Ent P f /\ ∀ (w:World) (ok:Nat->Prop) (vs:List Value),(∀ b,ok b->b<w.heap.size)->All2 (Rep1 w ok) args vs ->
  Calls P f vs.toArray w fun en w'=>∃ v γ',en = .returned v/\FrM w w' γ' []/\OwnS w' (okM w w' ok γ' γ' [] obs') γ' obs' /\
   (∀ i o b,look obs' i=some o->blk (γ' i)=some b->w.heap.size<=b)/\M w' (okM w w' ok γ' γ' [] obs') γ' (.aggc cs) v
def retA (a i:Nat) (obs':List (Nat × Ob)):KK:=fun e s=>match e with
 | .normal=>Weak s [(a,.box i 0)] obs'
 | .ret=>Weak s [(a,.box i 0)] obs'
 | _=>False
theorem zmL {P : Program} {T : TT} {E : Env} (hdr : E.dr = false) (hT : ∀ t i, T t = some i -> TI.of P t = some i) (hE : ∀ t, E.eq t = true -> EqFact P t) (hm : P.follows .mixedOrders = true)
  {f : FuncId} {fn : Func} {c : Code} (hf : P.funcs[f]? = some fn) (hb : fn.body = some c) (hn : (fn.name == "runtime.NumGoroutine") = false) (hN : codeN fn.ntmps c = true)
  {args : List V1} {obs' : List (Nat × Ob)} {cs : List Cap} (u i t : Nat) {ti : TI} (hts : fn.results.toList = [ResultVar.cell u t]) (ht : T t = some ti) (hld : loadE (St.of [(u, .box i 0)] obs') ti (.box i 0) fun z => z = .aggc cs) (hsz : args.length <= fn.ntmps) (hng : fn.ntmps <= G)
  (h : awp P T E c (St.of (argSlots 0 args) []) (retA u i obs')) : SpecA P f args obs' cs :=
 ⟨⟨fn, hf, hn, by rw [hb]; rfl⟩, fun w ok vs hok hm2 => zhp hT hE hm hf hb hN (cx := cx0 E.dr w ok fn.ntmps) id rfl rfl rfl (fun _ _ => id) (ze7 hok hm2 hsz hng) h
  (fun x h1 h2 s h => by cases x <;> first | exact h1 rfl | exact h2 rfl | exact h) fun x s a w' hx hk hR _ => by
  have k2 : Weak s [(u, .box i 0)] obs' := by rcases hx with rfl | rfl <;> exact hk
  obtain ⟨γ', hg⟩ := hR.weak k2
  have hs0 := hg.slots u
  have hsl : (St.of [(u, .box i 0)] obs').sl u = .box i 0 := by
   show (look [(u, AV.box i 0)] u).getD .any = _
   simp only [look, zap]; rfl
  rw [hsl] at hs0
  have hl0 : ∀ b, ¬ LentB γ' [] b := fun b ⟨j, o, h1, _⟩ => by cases h1
  have hok2 : ∀ b, okOf (cx0 E.dr w ok fn.ntmps) (St.of [(u, .box i 0)] obs') γ' w' b -> okM w w' ok γ' γ' [] obs' b := fun b hb => by
   rcases hb with hb | ⟨h1, h2, h3⟩
   ·exact .inl hb
   exact .inr ⟨.inl (h1.elim id False.elim), h2, fun ⟨j, p, g1, g2⟩ => h3 j p g1 g2⟩
  obtain ⟨z, v, g1, g2, _, rfl⟩ := zcc hg (hT t ti ht) hs0 hld
  obtain ⟨b, hb1, hx1⟩ := id hs0
  have hv : (do loadVar t (← asAddr (a.tmps.getD u undef))).run P w' = .ok v w' := by
   rw [hx1] at g1 ⊢
   have g3 : (loadVar t ⟨b, 0, none⟩).run P w' = .ok v w' := by simpa [Instr.loadAt, Instr.sureAddr] using g1
   simpa [asAddr] using g3
  have hrun := zaM (P := P) (fn := fn) (a := a) (w := w') (vs := [v]) (by
   rw [hts, jbx]
   simp only [Sem.run_bind] at hv ⊢
   rw [hv]
   simp)
  refine ⟨_, hrun, v, γ', rfl, ⟨hg.below.os, hg.below.tape, hg.below.output, hg.below.size, fun k hk _ => hg.below.block k hk id⟩, ⟨fun i o hi => ?_, hg.refs, hg.sep, fun i o b hi hb hok' => ?_⟩, fun i o b hi hb => (zav hg hi hb).1.elim id False.elim, ?_⟩
  ·exact (hg.objs i o hi).reO rfl (fun _ _ _ _ _ _ => rfl) (fun _ _ => trivial) hok2
  ·rcases hok' with h1 | ⟨_, _, h3⟩
   ·exact zd8 hg (zav hg hi hb).1 h1
   exact h3 ⟨i, o, hi, hb⟩
  exact M.keep (fun b hb => ⟨hok2 b hb, rfl⟩) (fun _ _ => rfl) g2⟩
section
variable {s:St} {o:Oper} {fo:Operand} {f:FuncId} {K:St->Prop} {E:Env}
theorem CallSt.obA (sl:List (Nat × AV)) (rest:List (Nat × Ob)) {obs':List (Nat × Ob)} {cs:List Cap} (hdr:E.dr=false) {args:Array Operand} {at':Array TypeId} (hop:o.op = .call { callee:=.value fo,args,argTypes:=at' }) {xs:List V1} (h:SpecA PP f xs obs' cs)
  (hw:Weak s sl rest) (hx:toV1c (St.of sl rest) fo args.toList=some (f,xs)) (hno:noOwn (St.of sl rest) args.toList=true) (hi:∀ j∈(AV.aggc cs).refs,(look obs' j).isSome=true) (hc:goodM sl [] obs' rest []=true)
  (hk:K ((St.of sl (obs'++rest)).putO o.dst (.aggc cs))):CallSt E PP s o fo args.toList K:=by
 obtain⟨ex,h1,h2⟩:=zaC hx
 rw[zaf]
 refine .inr (.inr (.inl ⟨_,⟨fun cx a w hD hd hR=>?_⟩,hk⟩))
 obtain⟨γ,hg⟩:=hR.weak hw
 obtain⟨caps,hf,hcm⟩:=zaW h1 (ev_m hg fo).1
 have hm:=(zbk hg h2 ((zbz hg args.toList).append hcm)).2 (zco hno (zbj h1))
 refine .enter (zau hop hf h.1) ?_
 refine (h.2 w _ _ (fun b hb=>zaj hg hb) hm).mono fun en w' ⟨v,γ2,e0,hfr,ho,hn,hres⟩=>?_
 have hl0:∀ (γ:Nat->Value) b,¬ LentB γ [] b:=fun γ b ⟨j,o,h1,_⟩=>by cases h1
 have hM0:∀ b,okM w w' (okOf cx (St.of sl ([]++rest)) γ w) γ2 γ2 [] obs' b ↔ okM w w' (okOf cx (St.of sl ([]++rest)) γ w) γ γ2 [] obs' b:=fun b=>
  ⟨fun hb=>hb.imp id fun hb=>⟨hb.1.imp id fun h=>absurd h (hl0 _ _),hb.2⟩,fun hb=>hb.imp id fun hb=>⟨hb.1.imp id fun h=>absurd h (hl0 _ _),hb.2⟩⟩
 obtain⟨γ',hg',hγ,hM⟩:=RG.lendM (obs:=[]) (pins:=[]) (γ2:=γ2) hg (fun e=>by have:=hD e; rw[hdr] at this; cases this) ⟨hfr.os,hfr.tape,hfr.output,hfr.size,fun k hk _=>hfr.block k hk (hl0 _ _)⟩ (fun i hi=>by cases hi)
  ⟨fun i o hi=>(ho.objs i o hi).reO rfl (fun _ _ _ _ _ _=>rfl) (fun _ _=>trivial) fun b hb=>(hM0 b).1 hb,ho.refs,ho.sep,fun i o b hi hb hk=>ho.out i o b hi hb ((hM0 b).2 hk)⟩ (fun i o b hi hb=>.inl (hn i o b hi hb)) hc
 refine⟨_,e0,γ',hg'.putO hd (M.keep (fun b hb=>⟨hM b ((hM0 b).1 hb),rfl⟩) (fun j hj=>hγ j (hi j hj)) hres) fun j hj=>?_⟩
 show (look (obs'++rest) j).isSome=true
 rw[zan]
 have:=hi j hj
 cases e:look obs' j with
 | some x=>rfl
 | none=>rw[e] at this; cases this
theorem CallSt.lendW (ids:List Nat) {args:Array Operand} {at':Array TypeId} (hop:o.op = .call { callee:=.value fo,args,argTypes:=at' }) {xs ys res res':List V1} (h:SpecG E.dr PP f ys res) (hx:toV1c (s.freezes ids) fo args.toList=some (f,xs)) (he:eqV1s xs ys)
  (hw:∀ w ok v,ResRep w ok res v->ResRep w (fun _=>False) res' v) (hk:K (s.putO o.dst (resAV res'))):CallSt E PP s o fo args.toList K:=by
 obtain⟨ex,h1,h2⟩:=zaC hx
 rw[zaf]
 refine .inr (.inr (.inl ⟨_,⟨fun cx a w hD hd hR=>?_⟩,hk⟩))
 obtain⟨γ,hg⟩:=hR
 obtain⟨γ',h'⟩:=R.freezes ids ⟨γ,hg⟩
 obtain⟨cvs,hcx,hcm⟩:=zaW h1 (ev_m h' fo).1
 have hm:=(zbk h' h2 ((zbz h' args.toList).append hcm)).1
 refine .enter (zau hop hcx h.1) ?_
 refine ((h.eqv he).2 w _ _ (fun b hb=>hb) hm).mono fun en w' ⟨v,e,hb,hres⟩=>⟨v,e,γ,?_⟩
 exact (hg.grow hb.1 fun e=>hb.2 (hD e)).putO hd (zaS (.inl fun b hb=>hb.elim) (hw _ _ _ hres)) (fun j hj=>by rw[zax] at hj; cases hj)
end
theorem ze6 {w:World} {ok:Nat->Prop} {k n:Nat} {f g:Nat->Nat->D} {v:Value} (h:Rep w ok (.slc k n f) v):Rep w (fun _=>False) (.slc 0 n g) v:=by
 rcases h with⟨h,e⟩ | ⟨a,cap,e,h1,h2,_⟩
 ·exact .inl ⟨h,e⟩
 exact .inr ⟨a,cap,e,h1,h2,fun i _ j hj=>absurd hj (qK _)⟩
abbrev lenD (n:Nat):D:=.slc 0 n fun _ _=>.nil
theorem zhN {w:World} {ok:Nat->Prop} {x x':V1} {y:D} {v:Value} (hy:y.flat=true) (hx:∀ u,Rep1 w ok x u->Rep1 w (fun _=>False) x' u) (h:ResRep w ok [x,.d y] v):ResRep w (fun _=>False) [x',.d y] v:=by
 obtain⟨vs,e,h⟩:=h
 cases h with
 | cons a b=>
 cases b with
 | cons c d=>
 cases d
 exact⟨_,e,.cons (hx _ a) (.cons (Rep1.flat (x:=.d y) hy c) .nil)⟩
theorem zhV (ids : List Nat) {f : FuncId} {fn : Func} {c : Code} (hf : PP.funcs[f]? = some fn) (hb : fn.body = some c) (hq : ((fn.name == "runtime.NumGoroutine") || !(codeN fn.ntmps c && Nat.ble fn.ntmps 4294967296)) = false)
  {args : List V1} {obs' : List (Nat × Ob)} {cs : List Cap} (u i t : Nat) {ti : TI} (hts : fn.results.toList = [ResultVar.cell u t]) (ht : TTab t = some ti) (hld : loadE (St.of [(u, .box i 0)] obs') ti (.box i 0) fun z => z = .aggc cs) (hsz : Nat.ble args.length fn.ntmps = true)
  (h : awp PP TTab (EC ids) c (St.of (argSlots 0 args) []) (retA u i obs')) : SpecA PP f args obs' cs := by
 simp only [qL, qO, jP] at hq
 exact zmL (E := EC ids) rfl hT hE hM hf hb hq.1 hq.2.1 u i t hts ht hld (jD hsz) (jD hq.2.2) h
abbrev exP:List D:=[I 9,I 9,lI exS.c.M.G,lT exS.c.T,lZ exS.c.Z,lC exS.k.C,lK exS.k.K,I 0,I 60]
abbrev exOb:List (Nat × Ob):=[(0,.box (exP.map AV.d ++ [.own 25])),(25,.row 93 8 3 (rowRp exR))]
abbrev exCs:List Cap:=exP.map Cap.dat ++ [.own 25]
theorem zjQ:SpecA PP 36 [] exOb exCs:=by
 refine zhV [6] Tryz.func36 rfl (by kernel_rfl) 0 0 37 rfl rfl rfl rfl ?_
 refine⟨⟨by decide,rfl,by decide,by decide⟩,?_⟩
 refine CutOb.at [(0,.box 0 0),(1,.box 1 0)] [(0,.box (List.replicate 10 .any)),(1,.box (exP.map AV.d ++ [.own 25])),(25,.row 93 8 3 (rowRp exR))] ⟨rfl,⟨zaJ rfl rfl,?_,obR rfl ⟨rfl,.inr ⟨rfl,fun i hi j hj=>?_⟩⟩,trivial⟩,wq rfl⟩ ?_
 ·refine⟨⟨rfl,rfl⟩,⟨rfl,rfl⟩,⟨rfl,.inr ⟨rfl,fun i hi j hj=>?_⟩⟩,⟨rfl,_,_,_,_,rfl,rfl,.inr ⟨rfl,fun i hi j hj=>?_⟩⟩,rfl,⟨rfl,_,_,_,_,rfl,rfl,.inr ⟨rfl,fun i hi j hj=>?_⟩⟩,rfl,⟨rfl,rfl⟩,⟨rfl,rfl⟩,rfl,trivial⟩
  ·have hj:j<1:=hj
   obtain rfl:j=0:=by omega
   show D.eqv (I 0) (I ((List.replicate 81 (0:Int)).getD i 0))
   have:(List.replicate 81 (0:Int)).getD i 0=0:=by
    rw[hZ,List.getElem?_replicate]
    split <;> rfl
   rw[this]
   exact⟨rfl,rfl⟩
  ·have hi:i<2:=hi
   have hj:j<4:=hj
   obtain rfl | rfl:i=0 \/ i=1:=by omega
   all_goals match j,hj with
   | 0,_=>exact⟨rfl,rfl⟩
   | 1,_=>exact⟨rfl,rfl⟩
   | 2,_=>exact⟨rfl,rfl⟩
   | 3,_=>exact⟨rfl,rfl⟩
  have hi:i<2:=hi
  have hj:j<8:=hj
  obtain rfl | rfl:i=0 \/ i=1:=by omega
  all_goals match j,hj with
  | 0,_=>exact⟨rfl,rfl⟩
  | 1,_=>exact⟨rfl,rfl⟩
  | 2,_=>exact⟨rfl,rfl⟩
  | 3,_=>exact⟨rfl,rfl⟩
  | 4,_=>exact⟨rfl,rfl⟩
  | 5,_=>exact⟨rfl,rfl⟩
  | 6,_=>exact⟨rfl,rfl⟩
  | 7,_=>exact⟨rfl,rfl⟩
 ·have hi:i<3:=hi
  have hj:j<8:=hj
  obtain rfl | rfl | rfl:i=0 \/ i=1 \/ i=2:=by omega
  all_goals match j,hj with
  | 0,_=>exact⟨rfl,rfl⟩
  | 1,_=>exact⟨rfl,rfl⟩
  | 2,_=>exact⟨rfl,rfl⟩
  | 3,_=>exact⟨rfl,rfl⟩
  | 4,_=>exact⟨rfl,rfl⟩
  | 5,_=>exact⟨rfl,rfl⟩
  | 6,_=>exact⟨rfl,rfl⟩
  | 7,_=>exact⟨rfl,rfl⟩
 exact⟨rfl,⟨obX rfl,obR rfl (dE _),trivial⟩,wq rfl⟩
theorem zmu (l:List Int) (hn:l.length<=1000000):Spec PP 109 [.d (lI l)] [.d (lI l)]:=by
 refine sA Tryz.func109 ?_
 refine fun b hb=>?_
 apply bY <;> intro h1
 ·have h0:=hb h1
  exact⟨⟨_,_,_,_,rfl,h0.symm,.inl rfl⟩,trivial⟩
 refine⟨⟨.inr rfl,by unfold maxLen; omega,by show (0+l.length) * 8<=140737488355328; omega⟩,?_⟩
 exact⟨⟨_,_,_,_,rfl,kU _,.inr ⟨rfl,fun i hi j hj=>dE _⟩⟩,trivial⟩
theorem zmr (l:List Twr) (hn:l.length<=1000000):Spec PP 150 [.d (lT l)] [.d (lT l)]:=by
 refine sA Tryz.func150 ?_
 refine fun b hb=>?_
 apply bY <;> intro h1
 ·have h0:=hb h1
  exact⟨⟨_,_,_,_,rfl,h0.symm,.inl rfl⟩,trivial⟩
 refine⟨⟨.inr rfl,by unfold maxLen; omega,by show (0+l.length) * 32<=140737488355328; omega⟩,?_⟩
 exact⟨⟨_,_,_,_,rfl,kU _,.inr ⟨rfl,fun i hi j hj=>dE _⟩⟩,trivial⟩
theorem zmq (l:List Hz) (hn:l.length<=1000000):Spec PP 151 [.d (lZ l)] [.d (lZ l)]:=by
 refine sA Tryz.func151 ?_
 refine fun b hb=>?_
 apply bY <;> intro h1
 ·have h0:=hb h1
  exact⟨⟨_,_,_,_,rfl,h0.symm,.inl rfl⟩,trivial⟩
 refine⟨⟨.inr rfl,by unfold maxLen; omega,by show (0+l.length) * 24<=140737488355328; omega⟩,?_⟩
 exact⟨⟨_,_,_,_,rfl,kU _,.inr ⟨rfl,fun i hi j hj=>dE _⟩⟩,trivial⟩
theorem zmt (l:List Cir) (hn:l.length<=1000000):Spec PP 152 [.d (lC l)] [.d (lC l)]:=by
 refine sA Tryz.func152 ?_
 refine fun b hb=>?_
 apply bY <;> intro h1
 ·have h0:=hb h1
  exact⟨⟨_,_,_,_,rfl,h0.symm,.inl rfl⟩,trivial⟩
 refine⟨⟨.inr rfl,by unfold maxLen; omega,by show (0+l.length) * 64<=140737488355328; omega⟩,?_⟩
 exact⟨⟨_,_,_,_,rfl,kU _,.inr ⟨rfl,fun i hi j hj=>dE _⟩⟩,trivial⟩
theorem zms (l:List Chk) (hn:l.length<=1000000):Spec PP 153 [.d (lK l)] [.d (lK l)]:=by
 refine sA Tryz.func153 ?_
 refine fun b hb=>?_
 apply bY <;> intro h1
 ·have h0:=hb h1
  exact⟨⟨_,_,_,_,rfl,h0.symm,.inl rfl⟩,trivial⟩
 refine⟨⟨.inr rfl,by unfold maxLen; omega,by show (0+l.length) * 56<=140737488355328; omega⟩,?_⟩
 exact⟨⟨_,_,_,_,rfl,kU _,.inr ⟨rfl,fun i hi j hj=>dE _⟩⟩,trivial⟩
structure CpOk (s:Svc):Prop where
  g:s.c.M.G.length<=1000000
  t:s.c.T.length<=1000000
  z:s.c.Z.length<=1000000
  c:s.k.C.length<=1000000
  k:s.k.K.length<=1000000
def renA (ρ:Nat->Nat):AV->AV
 | .d x=>.d x
 | .own i=>.own (ρ i)
 | .box i o=>.box (ρ i) o
 | _=>.any
def renO (ρ:Nat->Nat):Ob->Ob
 | .box cs=>.box (cs.map (renA ρ))
 | o=>o
def renL (ρ:Nat->Nat):List (Nat × Ob)->List (Nat × Ob)
 | []=>[]
 | (i,o) :: r=>(ρ i,renO ρ o) :: renL ρ r
theorem za3 {ρ:Nat->Nat}:∀ {l:List (Nat × Ob)} {j:Nat} {o':Ob},look (renL ρ l) j=some o' -> ∃ i o,look l i=some o/\j=ρ i/\o'=renO ρ o
 | [],_,_,h=>by cases h
 | (t,p) :: r,j,o',h=>by
  simp only[renL,look] at h
  cases hb:Nat.beq j (ρ t) with
  | true=>rw[hb] at h; cases h; exact⟨t,p,by simp only[look,zap]; rfl,jA hb,rfl⟩
  | false=>
  rw[hb] at h
  obtain⟨i,o,h1,rfl,h3⟩:=za3 (l:=r) h
  refine⟨i,o,?_,rfl,h3⟩
  simp only[look]
  rw[zeI (fun e=>by subst e; rw[zap] at hb; cases hb)]
  exact h1
theorem zdC {ρ:Nat->Nat}:∀ {l:List (Nat × Ob)} {i:Nat},(look l i).isSome=true->(look (renL ρ l) (ρ i)).isSome=true
 | [],_,h=>by cases h
 | (t,p) :: r,i,h=>by
  simp only[renL,look] at h ⊢
  cases hb:Nat.beq i t with
  | true=>obtain rfl:=jA hb; rw[zap]; rfl
  | false=>
  rw[hb] at h
  cases Nat.beq (ρ i) (ρ t) with
  | true=>rfl
  | false=>exact zdC (l:=r) h
section
variable {w:World} {ok:Nat->Prop} {γ:Nat->Value} {ρ σ:Nat->Nat}
theorem zrT {c:AV} {v:Value} (hc:∀ j∈c.refs,σ (ρ j)=j) (h:M w ok γ c v):M w ok (fun j=>γ (σ j)) (renA ρ c) v:=by
 cases c with
 | d x=>exact h
 | own i=>
  show v=γ (σ (ρ i))
  rw[hc i (by simp[AV.refs])]; exact h
 | box i o=>
  obtain⟨b,h1,h2⟩:=h
  exact⟨b,by show γ (σ (ρ i))=_; rw[hc i (by simp[AV.refs])]; exact h1,h2⟩
 | _=>exact trivial
theorem zkj {c:AV} {k:Nat} (h:k∈(renA ρ c).refs):∃ j∈c.refs,k=ρ j:=by
 cases c with
 | own i=>exact⟨i,by simp[AV.refs],by simpa [renA,AV.refs] using h⟩
 | box i o=>exact⟨i,by simp[AV.refs],by simpa [renA,AV.refs] using h⟩
 | _=>simp[renA,AV.refs] at h
theorem OwnS.ren {obs:List (Nat × Ob)} (h:OwnS w ok γ obs) (hσ:∀ i,(look obs i).isSome=true->σ (ρ i)=i):OwnS w ok (fun j=>γ (σ j)) (renL ρ obs) where
  objs:=fun j o' hj=>by
    obtain⟨i,o,h1,rfl,rfl⟩:=za3 hj
    have e:σ (ρ i)=i:=hσ i (by rw[h1]; rfl)
    have hh:=h.objs i o h1
    cases o with
    | box cs=>
      obtain⟨b,vs,T,g1,g2,g3,g4⟩:=hh
      refine⟨b,vs,T,by show γ (σ (ρ i))=_; rw[e]; exact g1,g2,g3,?_⟩
      have hr:=h.refs i cs h1
      clear h1 g1 g3 hj
      induction g4 with
      | nil=>exact .nil
      | cons h5 h6 ih=>exact .cons ⟨zrT (fun j hj=>hσ j (hr _ (qV ..) j hj)) h5.1,h5.2⟩ (ih fun c hc=>hr c (qT _ hc))
    | row e' k n f=>
      obtain⟨xs,g1,g2,g3⟩:=hh
      refine⟨xs,by show w.ownsRow 0 e' k (γ (σ (ρ i))) n xs; rw[e]; exact g1,fun b hb=>trivial,g3⟩
    | mp m ks f=>
      obtain⟨b,es,c,g1,g2,g3⟩:=hh
      exact⟨b,es,c,by show γ (σ (ρ i))=_; rw[e]; exact g1,g2,g3⟩
  refs:=fun j cs hj c hc k hk=>by
    obtain⟨i,o,h1,rfl,h3⟩:=za3 hj
    cases o with
    | box cs'=>
      cases h3
      obtain⟨c',hc',rfl⟩:=kI.1 hc
      obtain⟨j',hj',rfl⟩:=zkj hk
      exact zdC (h.refs i cs' h1 c' hc' j' hj')
    | row _ _ _ _=>cases h3
    | mp _=>cases h3
  sep:=fun j k o o' hj hk hjk b hb hb'=>by
    obtain⟨i,p,h1,rfl,-⟩:=za3 hj
    obtain⟨i',p',h1',rfl,-⟩:=za3 hk
    have hb:blk (γ (σ (ρ i)))=some b:=hb
    have hb':blk (γ (σ (ρ i')))=some b:=hb'
    rw[hσ i (by rw[h1]; rfl)] at hb
    rw[hσ i' (by rw[h1']; rfl)] at hb'
    exact h.sep i i' p p' h1 h1' (fun e=>hjk (by rw[e])) b hb hb'
  out:=fun j o b hj hb=>by
    obtain⟨i,p,h1,rfl,-⟩:=za3 hj
    have hb:blk (γ (σ (ρ i)))=some b:=hb
    rw[hσ i (by rw[h1]; rfl)] at hb
    exact h.out i p b h1 hb
theorem zki {obs:List (Nat × Ob)} (hσ:∀ i,(look obs i).isSome=true->σ (ρ i)=i) {b:Nat}:LentB (fun j=>γ (σ j)) (renL ρ obs) b->LentB γ obs b:=fun⟨j,o,h1,h2⟩=>by
 obtain⟨i,p,g1,rfl,-⟩:=za3 h1
 have h2:blk (γ (σ (ρ i)))=some b:=h2
 rw[hσ i (by rw[g1]; rfl)] at h2
 exact⟨i,p,g1,h2⟩
theorem zk7 {obs:List (Nat × Ob)} (hσ:∀ i,(look obs i).isSome=true->σ (ρ i)=i) {b:Nat}:LentB γ obs b->LentB (fun j=>γ (σ j)) (renL ρ obs) b:=fun⟨i,o,h1,h2⟩=>by
 have:=zdC (ρ:=ρ) (l:=obs) (i:=i) (by rw[h1]; rfl)
 obtain⟨o',e⟩:=qI.1 this
 exact⟨ρ i,o',e,by show blk (γ (σ (ρ i)))=_; rw[hσ i (by rw[h1]; rfl)]; exact h2⟩
end
def ckM (args:List AV) (obs:List (Nat × Ob)):Bool:=args.all fun v=>v.refs.all fun j=>(look obs j).isSome
theorem zhU (ids : List Nat) {f : FuncId} {fn : Func} {c : Code} (hf : PP.funcs[f]? = some fn) (hb : fn.body = some c) (hq : ((fn.name == "runtime.NumGoroutine") || !(codeN fn.ntmps c && Nat.ble fn.ntmps 4294967296)) = false)
  {args : List AV} {obs obs' : List (Nat × Ob)} (ts : List Nat) (pins : List (Nat × Nat)) {res : List V1} (hts : fn.results.toList = ts.map ResultVar.tmp) (hlr : ts.length = res.length) (hck : ckM args obs = true) (hpn : (pins.map Prod.fst ++ ts).Nodup) (hsz : Nat.ble args.length fn.ntmps = true)
  (h : ∀ γ, awp PP TTab (EC ids) c (St.of (slotsM γ 0 args) obs) (retM ts res γ pins obs')) : SpecM PP f args obs obs' (pins.map Prod.snd) res := by
 simp only [qL, qO, jP] at hq
 exact zmK (E := EC ids) hT hE hM hf hb hq.1 hq.2.1 ts hts pins hlr (fun v hv j hj => jC.1 (jC.1 hck v hv) j hj) hpn (jD hsz) (jD hq.2.2) h
def renC (ρ:Nat->Nat):Cap->Cap
 | .own i=>.own (ρ i)
 | .dat x=>.dat x
theorem zjA {cs:List Cap} {i:Nat} (h:Cap.own i∈cs):i∈(AV.aggc cs).refs:=by
 induction cs with
 | nil=>cases h
 | cons c r ih=>
 show i∈capRefs (c :: r)
 cases c with
 | own j=>
  rcases kT.1 h with h | h
  ·cases h; exact qV ..
  ·exact qT _ (ih h)
 | dat x=>
 rcases kT.1 h with h | h
 ·cases h
 exact ih h
theorem ziT {w:World} {ok:Nat->Prop} {γ:Nat->Value} {ρ σ:Nat->Nat}:∀ {cs:List Cap} {us:List Value},All2 (CapM w ok γ) cs us->(∀ i,Cap.own i∈cs->σ (ρ i)=i)->All2 (CapM w ok fun j=>γ (σ j)) (cs.map (renC ρ)) us
 | _,_,.nil,_=>.nil
 | _,_,.cons (x:=c) h5 h6,hc=>by
  refine .cons ?_ (ziT h6 fun i hi=>hc i (qT _ hi))
  cases c with
  | own i=>
   show _=γ (σ (ρ i))
   rw[hc i (qV ..)]; exact h5
  | dat x=>exact h5
theorem SpecA.ren {P:Program} {f:FuncId} {args:List V1} {obs':List (Nat × Ob)} {cs:List Cap} (h:SpecA P f args obs' cs) (ρ σ:Nat->Nat) (hσ:(obs'.all fun p=>Nat.beq (σ (ρ p.1)) p.1)=true) (hc:((AV.aggc cs).refs.all fun i=>Nat.beq (σ (ρ i)) i)=true) :
  SpecA P f args (renL ρ obs') (cs.map (renC ρ)):=by
 have hσ':∀ i,(look obs' i).isSome=true->σ (ρ i)=i:=fun i hi=>by
  obtain⟨o,e⟩:=qI.1 hi
  exact jA (jC.1 hσ _ (zai e))
 have hl0:∀ (γ:Nat->Value) b,¬ LentB γ [] b:=fun γ b ⟨j,o,h1,_⟩=>by cases h1
 refine⟨h.1,fun w ok vs hok hm=>(h.2 w ok vs hok hm).mono fun en w' ⟨v,γ',e,hf,ho,hn,hres⟩=>?_⟩
 have eM:okM w w' ok γ' γ' [] obs'=okM w w' ok (fun j=>γ' (σ j)) (fun j=>γ' (σ j)) [] (renL ρ obs'):=funext fun b=>propext
  ⟨fun hb=>hb.imp id fun hb=>⟨hb.1.imp id fun q=>absurd q (hl0 _ _),hb.2.1,fun q=>hb.2.2 (zki hσ' q)⟩,fun hb=>hb.imp id fun hb=>⟨hb.1.imp id fun q=>absurd q (hl0 _ _),hb.2.1,fun q=>hb.2.2 (zk7 hσ' q)⟩⟩
 refine⟨v,fun j=>γ' (σ j),e,⟨hf.os,hf.tape,hf.output,hf.size,fun k hk _=>hf.block k hk (hl0 _ _)⟩,?_,fun j o b hj hb=>?_,?_⟩
 ·rw[<- eM]; exact ho.ren hσ'
 ·obtain⟨i,p,h1,rfl,-⟩:=za3 hj
  have hb:blk (γ' (σ (ρ i)))=some b:=hb
  rw[hσ' i (by rw[h1]; rfl)] at hb
  exact hn i p b h1 hb
 rw[<- eM]
 obtain⟨us,e1,hall⟩:=hres
 exact⟨us,e1,ziT hall fun i hi=>jA (jC.1 hc i (zjA hi))⟩
section
variable {s:St} {o:Oper} {fo:Operand} {f:FuncId} {K:St->Prop} {E:Env}
theorem CallSt.tkG (ids:List Nat) (hdr:E.dr=false) {args:Array Operand} {at':Array TypeId} (hop:o.op = .call { callee:=.value fo,args,argTypes:=at' }) {pre post po:List V1} {i e k n n':Nat} {g g':Nat->Nat->D} (h:SpecT PP f pre post e k n g n' g')
  (ha:RowArgs (s.freezes ids) fo args.toList f pre i po) (he:eqV1s po post) (hi:(s.freezes ids).ob i=some (.row e k n g)) (hk:K (remk (s.freezes ids) i (.row e k n' g') o.dst)):CallSt E PP s o fo args.toList K:=by
 rw[zaf]
 refine .inr (.inr (.inl ⟨_,⟨fun cx a w hD hd hR=>?_⟩,hk⟩))
 obtain⟨γ,hg⟩:=R.freezes ids hR
 obtain⟨caps,vs,us,xs,h1,h2,h3,h4,h5⟩:=zbG hg ha hi
 refine .enter (zau hop h1 h.1) ?_
 rw[h2]
 refine (h.2 w _ vs us _ xs (fun b hb=>zaj hg hb) h3 (za2 he h4) h5).mono fun en w' ⟨r,he,hgr,hbl,ys,y1,y2,y3⟩=>⟨r,he,?_⟩
 refine zca (o':=.row e k n' g') hg hi hd hgr (fun e=>by have:=hD e; rw[hdr] at this; cases this) (fun b hb=>hbl b hb) (fun ok hok=>⟨ys,by rw[zac]; exact y1,(fun b hb=>?_),y2,fun m hm j hj=>?_⟩) (fun cs e=>by cases e)
 ·rw[zac] at hb
  rcases hbl b hb with h6 | h6
  ·exact (zav hg hi h6).1
  exact .inl (jM hg.below.size h6)
 obtain⟨u,hu,hr⟩:=y3 m hm j hj
 exact⟨u,hu,Rep.keep0 (w:=w') (fun b hb=>hb.elim) hr⟩
end
abbrev dsP (d:Day):List D:=[I d.s.c.M.W,I d.s.c.M.H,lI d.s.c.M.G,lT d.s.c.T,lZ d.s.c.Z,lC d.s.k.C,lK d.s.k.K,I d.Rise,I d.Long]
abbrev owOb (d:Day) (i j:Nat):List (Nat × Ob):=[(i,.box ((dsP d).map AV.d ++ [.own j])),(j,.row 93 8 d.R.length (rowRp d.R))]
abbrev owCs (d:Day) (j:Nat):List Cap:=(dsP d).map Cap.dat ++ [.own j]
theorem zpo (d:Day) (ok:CpOk d.s) (hn:d.R.length<=1000000):SpecA PP 100 [d.v] (owOb d 2 59) (owCs d 59):=by
 refine zhV [] Tryz.func100 rfl (by kernel_rfl) 2 2 37 rfl rfl rfl rfl ?_
 refine oL (List.range 35) (FzOb.no ?_)
 refine CallOb.ro (zmu d.s.c.M.G ok.g) rfl rfl ?_
 refine CallOb.ro (zmr d.s.c.T ok.t) rfl rfl ?_
 refine CallOb.ro (zmq d.s.c.Z ok.z) rfl rfl ?_
 refine oL (List.range 22) (FzOb.no ?_)
 refine CallOb.ro (zmt d.s.k.C ok.c) rfl rfl ?_
 refine CallOb.ro (zms d.s.k.K ok.k) rfl rfl ?_
 refine CallSt.own (zio d.R hn) rfl rfl (fun m j _ _=>zlH _ m j) ?_
 exact⟨rfl,⟨obX rfl,obR rfl (dE _),trivial⟩,wq rfl⟩
theorem zmp (d:Day) (ok:CpOk d.s) (hn:d.R.length<=1000000):SpecA PP 100 [d.v] (owOb d 1002 1059) (owCs d 1059):=
 SpecA.ren (zpo d ok hn) (fun i=>i+1000) (fun i=>i - 1000) rfl rfl
theorem zjs (ids:List Int) (hi:ids.length<=1000000) (r:Rpt):Spec PP 102 [r.v,.d (capB [lI ids])] [B (ids.contains r.ID)]:=by
 refine sA Tryz.func102 ?_
 refine cP (zdx ids r.ID hi) rfl rfl ?_
 exact r1B rfl rfl
theorem zli (d:Day) (ids:List Int) (ok:CpOk d.s) (hn:d.R.length<=1000000) (hi:ids.length<=1000000):Spec PP 39 [d.v,.d (lI ids)] [(witD d ids).v]:=by
 have e:filR (fun r=>ids.contains r.ID) d.R d.R.length=witR ids d.R:=by unfold filR witR; rw[jZ]
 refine zbU [3] Tryz.func39 rfl (by kernel_rfl) rfl ?_
 refine CallSt.obA [(2,.box 2 0),(3,.box 3 0),(4,.box 4 0),(5,.agg d.ds)] [(2,.box (d.ds.map AV.d)),(3,.box [.d (lI ids)]),(4,.box (List.replicate 10 .any))] rfl rfl (zmp d ok hn) ⟨rfl,⟨obD d.ds rfl,obX rfl,zaJ rfl rfl,trivial⟩,wq rfl⟩ rfl rfl (fun j hj=>by
  obtain rfl:j=1059:=kL.1 hj
  rfl) rfl ?_
 refine CallSt.tkG [3] rfl rfl (zj2 (fun r=>ids.contains r.ID) 102 (capB [lI ids]) (zjs ids hi) d.R hn) ⟨⟨[],.tmp 8,[.tmp 9],[],rfl,rfl,rfl,rfl,rfl,rfl,rfl⟩⟩ ?_ rfl ?_
 ·exact⟨⟨rfl,rfl,fun j hj=>by obtain rfl:j=0:=jag.1 hj; exact dE _⟩,trivial⟩
 rw[e]
 refine CutOb.at [(2,.box 2 0),(4,.box 4 0)] [(2,.box ((witD d ids).ds.map AV.d)),(4,.box (List.replicate 10 .any))]
  ⟨rfl,⟨⟨dE _,dE _,dE _,dE _,dE _,dE _,dE _,dE _,dE _,⟨rfl,_,_,_,_,rfl,dE _⟩,trivial⟩,zaJ rfl rfl,trivial⟩,wq rfl⟩ ?_
 exact⟨rtC (a:=4) rfl rfl rfl rfl rfl rfl (zaa _),trivial⟩
theorem zhZ {d:Day} {a b:Int} {r:Rpt} (h:r.ID=a \/ r.ID=b):rstB d a b r=false:=by
 unfold rstB
 rcases h with h | h
 ·rw[jG h]; rfl
 rw[jG h,kO]; rfl
theorem zoG {d:Day} {a b:Int} {r:Rpt} (h1:¬ r.ID=a) (h2:¬ r.ID=b):rstB d a b r=othB d a b r.ID:=by
 unfold rstB
 rw[jH h1,jH h2]; rfl
theorem zsj {d:Day} {a b x:Int} (h:¬ (samR (witD d [x]) a b).2=0):othB d a b x=true:=by unfold othB; rw[jH h]; rfl
theorem zsk {d:Day} {a b x:Int} (h:(samR (witD d [x]) a b).2=0):othB d a b x = !decide ((samR (witD d [x]) a b).1.Ans=(samR d a b).1.Ans):=by unfold othB; rw[jG h,qS]
theorem zlg {f:Nat->Nat->D} {x:Int} (h:D.eqv (f 0 0) (I x)):D.eqv (.slc 1 1 f) (lI [x]):=⟨rfl,.inr ⟨rfl,fun i hi j hj=>by
 have hi:i<1:=hi
 obtain rfl:j=0:=by omega
 obtain rfl:i=0:=by omega
 exact h⟩⟩
theorem zqI (d:Day) (a b:Int) (ok:CpOk d.s) (hn:d.R.length<=1000000):Spec PP 11 [d.v,N a,N b] [.d (lI (rstR d a b).1),.d (.int .i64 (rstR d a b).2)]:=by
 refine sA Tryz.func11 ?_
 refine CallSt.ro (zgm d a b hn) rfl rfl ?_
 apply bY <;> intro h0
 ·have e:rstR d a b=([],(samR d a b).2):=by unfold rstR; rw[kH (by simpa using h0)]
  rw[e]
  exact⟨⟨_,_,_,_,rfl,rfl,.inl rfl⟩,rtI rfl rfl,trivial⟩
 have h0:(samR d a b).2=0:=by simpa using h0
 have e:rstR d a b=(rstL (rstB d a b) d.R,0):=by unfold rstR; rw[kG (fun hh=>hh h0)]
 rw[e]
 refine LoopOb.of (σ:=Nat) (fun i=>([(1,.d (I a)),(2,.d (I b)),(3,.box 3 0),(8,.box 8 0),(10,.own 10),(26,.d (lR d.R)),(27,.d (I d.R.length)),(28,.d (I i))],
   [(3,.box (d.ds.map AV.d)),(8,.box ([I (samR d a b).1.Ans,lII (samR d a b).1.T,lII (samR d a b).1.A].map AV.d)),(10,.row 3 1 (rstK (rstB d a b) (d.R.take i)).length (rowI (rstK (rstB d a b) (d.R.take i))))])) (fun i=>i<=d.R.length) (fun i=>d.R.length - i) 0
  ⟨rfl,⟨obD d.ds rfl,obD [I (samR d a b).1.Ans,lII (samR d a b).1.T,lII (samR d a b).1.A] rfl,obR rfl ⟨rfl,.inl rfl⟩,trivial⟩,wq rfl⟩ (jF _) fun i hi=>?_
 have hi:i<=d.R.length:=hi
 have hl:=ze4 (rstB d a b) (d.R.take i)
 rw[jQ] at hl
 apply bY <;> intro h1
 ·have h1:i<d.R.length:=by have:=dT h1; omega
  have skip:rstB d a b (d.R.getD i default)=false->D.eqv (.slc 1 (rstK (rstB d a b) (d.R.take i)).length (rowI (rstK (rstB d a b) (d.R.take i)))) (.slc 1 (rstK (rstB d a b) (d.R.take (i+1))).length (rowI (rstK (rstB d a b) (d.R.take (i+1))))):=fun h=>by
   rw[zke h1 h]; exact dE _
  refine⟨⟨rfl,by omega,by omega⟩,?_⟩
  apply bY <;> intro h2
  ·have h2:(d.R.getD i default).ID=a:=by simpa using h2
   repeat first | apply sT | apply sF
   refine⟨i6,?_⟩
   exact⟨i+1,⟨rfl,⟨obD d.ds rfl,obD [I (samR d a b).1.Ans,lII (samR d a b).1.T,lII (samR d a b).1.A] rfl,obR rfl (skip (zhZ (.inl h2))),trivial⟩,wq rfl⟩,h1,msr h1⟩
  have h2:¬ (d.R.getD i default).ID=a:=by simpa using h2
  repeat first | apply sT | apply sF
  apply bY <;> intro h3
  ·have h3:(d.R.getD i default).ID=b:=by simpa using h3
   refine⟨i6,?_⟩
   exact⟨i+1,⟨rfl,⟨obD d.ds rfl,obD [I (samR d a b).1.Ans,lII (samR d a b).1.T,lII (samR d a b).1.A] rfl,obR rfl (skip (zhZ (.inr h3))),trivial⟩,wq rfl⟩,h1,msr h1⟩
  have h3:¬ (d.R.getD i default).ID=b:=by simpa using h3
  have hr:=zoG (d:=d) h2 h3
  have push:rstB d a b (d.R.getD i default)=true -> ∀ g:Nat->Nat->D,g 0 0=I (d.R.getD i default).ID->D.eqv (.slc 1 ((rstK (rstB d a b) (d.R.take i)).length+1) (appRow (rstK (rstB d a b) (d.R.take i)).length (rowI (rstK (rstB d a b) (d.R.take i))) g)) (.slc 1 (rstK (rstB d a b) (d.R.take (i+1))).length (rowI (rstK (rstB d a b) (d.R.take (i+1))))):=fun h g hg=>by
   rw[ze3 h1 h]; exact zng hg
  have hs:=zgm (witD d [(d.R.getD i default).ID]) a b (by have:=zeR [(d.R.getD i default).ID] d.R; show (witR _ _).length<=_; omega)
  have oe:=zsj (d:=d) (a:=a) (b:=b) (x:=(d.R.getD i default).ID)
  have oa:=zsk (d:=d) (a:=a) (b:=b) (x:=(d.R.getD i default).ID)
  have hw:=zli d [(d.R.getD i default).ID] ok hn (by simp)
  generalize samR (witD d [(d.R.getD i default).ID]) a b=y at hs oe oa
  refine CallSt.fzE [46] hw rfl ⟨zaa _,zlg (dE _),trivial⟩ rfl ?_
  refine CallSt.ro hs rfl rfl ?_
  apply bY <;> intro h4
  ·have h4:¬ y.2=0:=by simpa using h4
   repeat first | apply sT | apply sF
   refine⟨⟨.inr rfl,by unfold maxLen; omega,by show ((rstK (rstB d a b) (d.R.take i)).length+1) * 8<=140737488355328; omega⟩,?_⟩
   refine⟨i6,?_⟩
   exact⟨i+1,⟨rfl,⟨obD d.ds rfl,obD [I (samR d a b).1.Ans,lII (samR d a b).1.T,lII (samR d a b).1.A] rfl,obR rfl (push (by rw[hr,oe h4]) _ rfl),trivial⟩,wq rfl⟩,h1,msr h1⟩
  have h4:y.2=0:=by simpa using h4
  repeat first | apply sT | apply sF
  apply bY <;> intro h5
  ·have h5:¬ y.1.Ans=(samR d a b).1.Ans:=by simpa using h5
   refine⟨⟨.inr rfl,by unfold maxLen; omega,by show ((rstK (rstB d a b) (d.R.take i)).length+1) * 8<=140737488355328; omega⟩,?_⟩
   refine⟨i6,?_⟩
   exact⟨i+1,⟨rfl,⟨obD d.ds rfl,obD [I (samR d a b).1.Ans,lII (samR d a b).1.T,lII (samR d a b).1.A] rfl,obR rfl (push (by rw[hr,oa h4,jH h5]; rfl) _ rfl),trivial⟩,wq rfl⟩,h1,msr h1⟩
  have h5:y.1.Ans=(samR d a b).1.Ans:=by simpa using h5
  refine⟨i6,?_⟩
  exact⟨i+1,⟨rfl,⟨obD d.ds rfl,obD [I (samR d a b).1.Ans,lII (samR d a b).1.T,lII (samR d a b).1.A] rfl,obR rfl (skip (by rw[hr,oa h4,jG h5]; rfl)),trivial⟩,wq rfl⟩,h1,msr h1⟩
 have h1:i=d.R.length:=by have:=dF h1; omega
 subst h1
 rw[jZ] at hl ⊢
 refine CallSt.rw' rfl (zh5 (rstK (rstB d a b) d.R) (by omega)) ⟨⟨[],.tmp 68,[],[],rfl,rfl,rfl,rfl,rfl,rfl,rfl⟩⟩ rfl ?_
 exact⟨⟨_,_,_,_,rfl,(zh0 _ d.R).symm,.inr ⟨rfl,fun i _ j _=>dE _⟩⟩,rtI rfl rfl,trivial⟩
theorem zs8 {a i:Nat} (ha:a<128) (hi:i<7):((((a:Int).tdiv (IntKind.wrap .i64 (1 * 2 ^ (min ((i:Nat):Int).toNat 64)))).tmod 2)==1)=a.testBit i:=by
 have:=allL (n:=128) (m:=7) (P:=fun a i=>decide (((((a:Int).tdiv (IntKind.wrap .i64 (1 * 2 ^ (min ((i:Nat):Int).toNat 64)))).tmod 2)==1)=a.testBit i)) (by decide +kernel) ha hi
 exact qC this
theorem bQuo {a i:Nat} (ha:a<128) (hi:i<7):IntKind.wrap .i64 (1 * 2 ^ (min ((i:Nat):Int).toNat 64))≠0/\inR .i64 ((a:Int).tdiv (IntKind.wrap .i64 (1 * 2 ^ (min ((i:Nat):Int).toNat 64)))):=by
 rw[bShl (by omega)]
 have h1:0<2 ^ i:=Nat.two_pow_pos i
 have h2:((a:Int).tdiv ((2 ^ i:Nat):Int))=((a / 2 ^ i:Nat):Int):=by rw[Int.ofNat_tdiv]
 have h3:a / 2 ^ i<=a:=Nat.div_le_self _ _
 refine⟨by omega,?_⟩
 rw[h2]
 clear h2
 generalize a / 2 ^ i=q at h3 ⊢
 exact i6
theorem zf6 (ids:List Int) (set:Nat) (hn:ids.length<=7) (hs:set<128):Spec PP 113 [.d (lI ids),N (set:Int)] [.d (lI (memb ids set))]:=by
 refine sA Tryz.func113 ?_
 refine LoopOb.of (σ:=Nat) (fun i=>([(0,.d (lI ids)),(1,.d (I set)),(5,.own 5),(6,.d (I i))],[(5,.row 3 1 (membA ids set i).length (rowI (membA ids set i)))])) (fun i=>i<=ids.length) (fun i=>ids.length - i) 0
  ⟨rfl,⟨obR rfl ⟨rfl,.inl rfl⟩,trivial⟩,wq rfl⟩ (jF _) fun i hi=>?_
 have hi:i<=ids.length:=hi
 have hl:=zbn ids set i
 apply bY <;> intro h1
 ·have h1:i<ids.length:=by have:=dT h1; omega
  refine⟨by omega,?_⟩
  refine⟨bQuo hs (by omega),?_⟩
  refine⟨by decide,?_⟩
  apply bY <;> intro h2
  ·have h2:set.testBit i=true:=by rw[<- zs8 hs (show i<7 by omega)]; exact h2
   refine⟨⟨rfl,by omega,by omega⟩,?_⟩
   refine⟨⟨.inr rfl,by unfold maxLen; omega,by show ((membA ids set i).length+1) * 8<=140737488355328; omega⟩,?_⟩
   refine⟨i6,?_⟩
   refine⟨i+1,⟨rfl,⟨obR rfl ?_,trivial⟩,wq rfl⟩,h1,msr h1⟩
   rw[zbJ h2]
   exact zng rfl
  have h2:set.testBit i=false:=by rw[<- zs8 hs (show i<7 by omega)]; exact h2
  refine⟨i6,?_⟩
  refine⟨i+1,⟨rfl,⟨obR rfl ?_,trivial⟩,wq rfl⟩,h1,msr h1⟩
  rw[zcp h2]
  exact dE _
 have h1:i=ids.length:=by have:=dF h1; omega
 subst h1
 exact⟨⟨_,_,_,_,rfl,rfl,.inr ⟨rfl,fun i _ j _=>dE _⟩⟩,trivial⟩
abbrev lN (l:List Nat):D:=.slc 1 l.length fun i _=>I ((l.getD i 0:Nat):Int)
def fitX (d:Day) (m:Nat):Bool:=decide (0<m) && decide (0<(tldL d (memb (sigL d.R) m)).length)
abbrev lBo (n:Nat) (p:Nat->Bool):D:=.slc 1 n fun i _=>.bool (p i)
theorem zpX {d:Day} (h:DayOk d):Spec PP 59 [d.v] [.d (lBo (2 ^ (sigL d.R).length) (fitX d))]:=by
 have hn:=h.n
 have h7:=sig7 h
 have es:IntKind.wrap .i64 (1 * 2 ^ (min (((sigL d.R).length:Nat):Int).toNat (IntKind.bits .i64)))=((2 ^ (sigL d.R).length:Nat):Int):=bShl h7
 have hp:2 ^ (sigL d.R).length<=2 ^ 7:=jai (by decide) h7
 have h1p:1<=2 ^ (sigL d.R).length:=Nat.one_le_two_pow
 refine sA Tryz.func59 ?_
 refine CallSt.ro (zf7 d (by omega)) rfl rfl ?_
 refine⟨by omega,?_⟩
 have et:(IntKind.wrap .i64 (1 * 2 ^ (min (((sigL d.R).length:Nat):Int).toNat (IntKind.bits .i64)))).toNat=2 ^ (sigL d.R).length:=by rw[es]; exact jac _
 refine⟨⟨by rw[es]; omega,rfl,by rw[et]; show 2 ^ (sigL d.R).length * 1<=16777216; omega,by rw[et]; show 2 ^ (sigL d.R).length * 1<=140737488355328; omega⟩,?_⟩
 refine LoopOb.of (σ:=Nat) (fun m=>([(1,.box 1 0),(3,.d (lI (sigL d.R))),(4,.own 11),(5,.d (I m))],[(1,.box (d.ds.map AV.d)),(11,.row 4 1 (2 ^ (sigL d.R).length) (fun i _=>.bool (decide (i<m) && fitX d i)))])) (fun m=>1<=m/\m<=2 ^ (sigL d.R).length) (fun m=>2 ^ (sigL d.R).length - m) 1
  ⟨rfl,⟨obD d.ds rfl,obR rfl ⟨et,.inr ⟨rfl,fun i hi j hj=>?_⟩⟩,trivial⟩,wq rfl⟩ ⟨jE _,h1p⟩ fun m hm=>?_
 ·obtain rfl:j=0:=jag.1 hj
  show D.eqv (.bool false) (.bool (decide (i<1) && fitX d i))
  have:(decide (i<1) && fitX d i)=false:=by
   unfold fitX
   by_cases e:i=0
   ·subst e; rfl
   rw[jH (by omega),qN]
  rw[this]
  rfl
 obtain⟨hm,hm2⟩:=hm
 apply bY <;> intro h1
 ·have h1:m<2 ^ (sigL d.R).length:=by have:=dT h1; omega
  refine oL (List.range 12) (FzOb.no ?_)
  refine CallOb.ro (zf6 (sigL d.R) m h7 (by omega)) rfl rfl ?_
  refine CallOb.ro (zpS h (memb (sigL d.R) m) (jM (zbn _ _ _) (by omega))) rfl rfl ?_
  refine⟨⟨by omega,by omega⟩,⟨by omega,?_⟩⟩
  refine⟨i6,?_⟩
  refine⟨m+1,⟨rfl,⟨obD d.ds rfl,obR rfl ⟨rfl,.inr ⟨rfl,fun i hi j hj=>?_⟩⟩,trivial⟩,wq rfl⟩,⟨by omega,h1⟩,(show 2 ^ (sigL d.R).length - (m+1)<2 ^ (sigL d.R).length - m by omega)⟩
  obtain rfl:j=0:=jag.1 hj
  have em:((m:Nat):Int).toNat=m:=jac m
  show D.eqv (storeRow (fun i _=>.bool (decide (i<m) && fitX d i)) ((m:Nat):Int).toNat 0 [.bool (decide ((0:Int)<((tldL d (memb (sigL d.R) m)).length:Nat)))] i 0) (.bool (decide (i<m+1) && fitX d i))
  unfold storeRow
  rw[em]
  by_cases e:i=m
  ·subst e
   rw[kH ⟨rfl,jE _,by simp⟩]
   show D.eqv (.bool (decide ((0:Int)<((tldL d (memb (sigL d.R) i)).length:Nat)))) _
   rw[jG (by omega:i<i+1),qS]
   unfold fitX
   rw[jG (by omega:0<i),qS]
   exact kZ.2 (by omega)
  rw[kG fun hh=>e hh.1]
  show D.eqv (.bool (decide (i<m) && fitX d i)) _
  rw[show decide (i<m+1)=decide (i<m) from kZ.2 (by omega)]
  exact dE _
 have h1:m=2 ^ (sigL d.R).length:=by have:=dF h1; omega
 subst h1
 refine⟨⟨_,_,_,_,rfl,rfl,.inr ⟨rfl,fun i hi j hj=>?_⟩⟩,trivial⟩
 show D.eqv (.bool (decide (i<2 ^ (sigL d.R).length) && fitX d i)) (.bool (fitX d i))
 rw[jG hi,qS]
 exact dE _
end Go.Pg
