/- Lemmas, joined by program. -/
import Derived.Test.YtcmghlfakcppkaaGreatJB
import Derived.Deep.Slices
import Derived.Deep.Fields
import Derived.ChangeSame
import Derived.OpenShut
import Derived.ProofKit
import Derived.ChangeOld
import Derived.Below
set_option maxHeartbeats 4000000
set_option linter.all false
set_option maxRecDepth 100000
namespace Go.Pg
open Go.Proofs Go.RowKit
def fstF(l:List Prf)(lo hi:Int):(Int×Int)×Bool:=if idxL (fun x=>ovF x lo hi) l<0 then((0,0),false)else(((l.getD (idxL (fun x=>ovF x lo hi) l).toNat default).ax,(l.getD (idxL (fun x=>ovF x lo hi) l).toNat default).k),true)
theorem zsc(l:List Prf)(lo hi:Int):(fstF l lo hi).2=l.any fun x=>ovF x lo hi:=by
 unfold fstF
 have h:=zbm (fun x=>ovF x lo hi) l default
 split
 ·rename_i h1
  symm
  refine qW.2 fun h2=>?_
  have:=h.2 h2
  omega
 rename_i h1
 exact(h.1 (by omega)).symm
theorem zoc(m:Mp)(a b:Place)(up rise:Int)(hv:validM m=true)(ha:onM m a=true)(hb:onM m b=true)(hu:0<=up/\up<=1000)(hr:0<=rise/\rise<=1000):
  Spec PP 276 [m.v,a.v,N up,b.v,N rise] [.agg [I (fstF (linL m a b) (grd m a+up) (grd m b+rise)).1.1,I (fstF (linL m a b) (grd m a+up) (grd m b+rise)).1.2],B (fstF (linL m a b) (grd m a+up) (grd m b+rise)).2]:=by
 have hok:=zt8 hv ha hb
 have ga:=(zaV hv ha).2
 have gb:=(zaV hv hb).2
 have hlen:(linL m a b).length<=96:=zfW m a b 2
 refine sA Tryz.func276 ?_
 refine cR (zrk m a b hv ha hb) rfl rfl ?_
 generalize linL m a b=l at*
 refine lOf (σ:=Nat) (fun i=>([(2,.d (I up)),(4,.d (I rise)),(5,.box 5 0),(6,.box 6 0),(8,.box 8 0),(10,.box 10 0),(12,.d (lPf l)),(13,.d (I i))],[(5,.box (m.ds.map AV.d)),(6,.box ([I a.X,I a.Y].map AV.d)),(8,.box ([I b.X,I b.Y].map AV.d)),(10,.box ([I 0,I 0].map AV.d))])) (fun i=>i<=l.length/\∀j,j<i->ovF (l.getD j default) (grd m a+up) (grd m b+rise)=false) (fun i=>l.length-i) 0
  ⟨rfl,⟨obD m.ds rfl,obD [I a.X,I a.Y] rfl,obD [I b.X,I b.Y] rfl,obD [I 0,I 0] rfl,trivial⟩,wq rfl⟩ z0L fun i hi=>?_
 obtain⟨hi,hall⟩:=hi
 apply bY<;>intro h1
 ·have h1:i<l.length:=by have:=dT h1;omega
  refine oN 15 ?_
  refine⟨⟨rfl,by omega,by omega⟩,?_⟩
  refine oP (zcG m a hv ha) rfl rfl ?_
  refine⟨i6,?_⟩
  refine oP (zcG m b hv hb) rfl rfl ?_
  refine⟨i6,?_⟩
  refine oP (zri (l.getD i default) (grd m a+up) (grd m b+rise) (hok _ (gd1 h1 default)) (by omega) (by omega)) rfl rfl ?_
  apply bY<;>intro h2
  ·have e:idxL (fun x=>ovF x (grd m a+up) (grd m b+rise)) l=(i:Int):=zaj (p:=fun x=>ovF x (grd m a+up) (grd m b+rise)) default h1 h2 hall
   have e2:fstF l (grd m a+up) (grd m b+rise)=(((l.getD i default).ax,(l.getD i default).k),true):=by unfold fstF;rw[e,kG (by omega)];rfl
   rw[e2]
   refine⟨⟨rfl,by omega,by omega⟩,?_⟩
   exact⟨rtC (a:=10) rfl rfl rfl rfl rfl rfl (zaa _),rtB rfl rfl,trivial⟩
  refine⟨i6,?_⟩
  refine⟨i+1,⟨rfl,⟨obD m.ds rfl,obD [I a.X,I a.Y] rfl,obD [I b.X,I b.Y] rfl,obD [I 0,I 0] rfl,trivial⟩,wq rfl⟩,⟨h1,fun j hj=>?_⟩,(msr (by omega))⟩
  by_cases e:j=i
  ·subst e;exact h2
  exact hall j (by omega)
 have h1:i=l.length:=by have:=dF h1;omega
 subst h1
 have e:idxL (fun x=>ovF x (grd m a+up) (grd m b+rise)) l= -1:=zam (p:=fun x=>ovF x (grd m a+up) (grd m b+rise)) default hall
 have e2:fstF l (grd m a+up) (grd m b+rise)=((0,0),false):=by unfold fstF;rw[e];rfl
 rw[e2]
 exact⟨rtC (a:=10) rfl rfl rfl rfl rfl rfl (zaa _),rtB rfl rfl,trivial⟩
theorem zrg(m:Mp)(t:Twr)(p:Place)(rise:Int)(hv:validM m=true)(ht:onM m t.At=true)(hp:onM m p=true)(hh:0<=t.H/\t.H<=200)(hr:0<=rise/\rise<=200):
  Spec PP 266 [m.v,t.v,p.v,N rise] [B (freeB m t.At t.H p rise)]:=by
 refine sA Tryz.func266 ?_
 refine cP (zoc m t.At p t.H rise hv ht hp (by omega) (by omega)) rfl rfl ?_
 refine r1B rfl ?_
 unfold freeB
 rw[zsc,zoy hv ht hp]
theorem r4_in(c:Ctry)(t:Twr)(p:Place)(rise far:Int)(hv:validM c.M=true)(ht:TwrOk c t)(hp:onM c.M p=true)(hr:0<=rise/\rise<=200)(hf:0<=far/\far<=100):
  Spec PP 252 [c.M.v,t.v,p.v,N rise,N far] [B (seesB c t p rise far)]:=by
 refine sA Tryz.func252 ?_
 refine cP (zrj t.At p far (zjc hv ht.on) (zjc hv hp) hf) rfl rfl ?_
 apply bY<;>intro h1
 ·have h1:nearB t.At p far=true:=h1
  refine cP (zrg c.M t p rise hv ht.on hp ht.h hr) rfl rfl ?_
  refine sT ?_
  refine r1B rfl ?_
  unfold seesB;rw[h1];rfl
 have h1:nearB t.At p far=false:=h1
 refine sF ?_
 refine r1B rfl ?_
 unfold seesB;rw[h1];rfl
theorem zpH{T:List Twr}{i:Nat}(h:i<T.length):towI T (T.getD i default).ID<i↔((T.take i).any fun x=>x.ID==(T.getD i default).ID)=true:=by
 rcases idxL_cases (fun t:Twr=>t.ID==(T.getD i default).ID) T default with⟨_,h2⟩|⟨j,h1,h2,h3,h4⟩
 ·have:=h2 i h
  simp at this
 unfold towI
 rw[h2,kM]
 constructor
 ·intro hj
  have hj:j<i:=by omega
  refine⟨T.getD j default,?_,h3⟩
  have e:(T.take i).getD j default=T.getD j default:=by
   rw[hZ,jS,kH hj,<- hZ]
  rw[<- e]
  exact gd1 (by rw[jQ];omega) default
 rintro⟨x,hx,hp⟩
 obtain⟨q,hq,rfl⟩:=za4 default hx
 rw[jQ]at hq
 have e:(T.take i).getD q default=T.getD q default:=by
  rw[hZ,jS,kH (by omega),<- hZ]
 rw[e]at hp
 rcases jaD q j with h5|h5
 ·rw[h4 q h5]at hp;cases hp
 omega
theorem zdn{Z:List Hz}{j:Nat}(h:(Z.getD j default).From<0\/(Z.getD j default).To<(Z.getD j default).From\/1048576<(Z.getD j default).To\/(Z.getD j default).From<=lastZ Z j\/(Z.getD j default).Far<0\/100<(Z.getD j default).Far):hzE Z j=1:=by
 unfold hzE
 refine kH (jL fun h0=>?_)
 simp only[jX,jY,not_or,jao,kA,zab]at h0
 omega
theorem zuj{Z:List Hz}{j:Nat}(h:¬((Z.getD j default).From<0\/(Z.getD j default).To<(Z.getD j default).From\/1048576<(Z.getD j default).To\/(Z.getD j default).From<=lastZ Z j\/(Z.getD j default).Far<0\/100<(Z.getD j default).Far)):hzE Z j=0:=by
 unfold hzE
 refine kG fun h0=>h ?_
 simp only[jX,jY,kA]at h0
 rcases h0 with((h0|h0)|h0)|h0
 ·have:¬(0<=(Z.getD j default).From/\(Z.getD j default).From<=(Z.getD j default).To):=fun hh=>by rw[zab.2 hh]at h0;cases h0
  omega
 ·omega
 ·omega
 have:¬(0<=(Z.getD j default).Far/\(Z.getD j default).Far<=100):=fun hh=>by rw[zab.2 hh]at h0;cases h0
 omega
abbrev Hz.ds(x:Hz):List D:=[I x.From,I x.To,I x.Far]
theorem ziU(c:Ctry):Spec PP 118 [c.v] [.d (.int .i64 (ctryE c))]:=by
 refine sA Tryz.func118 ?_
 refine cP (zod c.M) rfl rfl ?_
 apply bY<;>intro h0
 ·have h0:validM c.M=false:=by
   have:(!validM c.M)=true:=h0
   simpa using this
  refine r1I rfl ?_
  unfold ctryE;rw[kH h0]
 have h0:validM c.M=true:=by
  have:(!validM c.M)=false:=h0
  simpa using this
 apply bY<;>intro h1
 ·have h1:12<c.T.length:=by have:=dT h1;omega
  repeat first|apply sT|apply sF
  refine r1I rfl ?_
  unfold ctryE;rw[kG (by rw[h0];decide),kH (.inl h1)]
 have h1:¬12<c.T.length:=by have:=dF h1;omega
 repeat first|apply sT|apply sF
 apply bY<;>intro h2
 ·have h2:60<c.Z.length:=by have:=dT h2;omega
  refine r1I rfl ?_
  unfold ctryE;rw[kG (by rw[h0];decide),kH (.inr h2)]
 have h2:¬60<c.Z.length:=by have:=dF h2;omega
 have e0:ctryE c=if err1 (towE c) c.T.length≠0 then err1 (towE c) c.T.length else err1 (hzE c.Z) c.Z.length:=by unfold ctryE;rw[kG (by rw[h0];decide),kG (by omega)]
 refine lOf (σ:=Nat) (fun i=>([(1,.box 1 0),(3,.d (I i))],[(1,bxCt c)])) (fun i=>i<=c.T.length/\∀j,j<i->towE c j=0) (fun i=>c.T.length-i) 0
  ⟨rfl,⟨obCt rfl,trivial⟩,wq rfl⟩ z0L fun i hi=>?_
 obtain⟨hi,ha⟩:=hi
 apply bY<;>intro h3
 ·have h3:i<c.T.length:=by have:=dT h3;omega
  have bad:towE c i≠0->ctryE c=towE c i:=fun h=>by
   have:=zan ha h h3
   rw[e0,kH (by rw[this];exact h),this]
  have bad1:(!within (c.T.getD i default).ID 1 1099511627776|| !onM c.M (c.T.getD i default).At|| !within (c.T.getD i default).H 0 200)=true->ctryE c=1:=fun h=>by
   have:towE c i=1:=by unfold towE;rw[kH h]
   rw[bad (by rw[this];decide),this]
  refine⟨⟨rfl,by omega,by omega⟩,?_⟩
  apply bY<;>intro k1
  ·have k1:(c.T.getD i default).ID<1:=dT k1
   repeat first|apply sT|apply sF
   refine r1I rfl ?_
   rw[bad1 (by unfold within;rw[jH (show ¬1<=(c.T.getD i default).ID by omega)];rfl)]
  have k1:¬(c.T.getD i default).ID<1:=dF k1
  repeat first|apply sT|apply sF
  apply bY<;>intro k2
  ·have k2:1099511627776<(c.T.getD i default).ID:=dT k2
   repeat first|apply sT|apply sF
   refine r1I rfl ?_
   rw[bad1 (by unfold within;rw[jH (show ¬(c.T.getD i default).ID<=1099511627776 by omega),kW];rfl)]
  have k2:¬1099511627776<(c.T.getD i default).ID:=dF k2
  have w1:within (c.T.getD i default).ID 1 1099511627776=true:=zab.2 (by omega)
  repeat first|apply sT|apply sF
  refine cP (ztu c.M (c.T.getD i default).At) rfl rfl ?_
  repeat first|apply sT|apply sF
  apply bY<;>intro k3
  ·have k3:(!onM c.M (c.T.getD i default).At)=true:=k3
   repeat first|apply sT|apply sF
   refine r1I rfl ?_
   rw[bad1 (by rw[k3,k9];rfl)]
  have k3:(!onM c.M (c.T.getD i default).At)=false:=k3
  repeat first|apply sT|apply sF
  refine cP (zlr (c.T.getD i default).H) rfl rfl ?_
  repeat first|apply sT|apply sF
  apply bY<;>intro k4
  ·have k4:(!within (c.T.getD i default).H 0 200)=true:=k4
   refine r1I rfl ?_
   rw[bad1 (by rw[k4,k9])]
  have k4:(!within (c.T.getD i default).H 0 200)=false:=k4
  have eT:towE c i=if((c.T.take i).any fun x=>x.ID==(c.T.getD i default).ID)=true then 6 else 0:=by
   unfold towE;rw[kG (by rw[w1,k3,k4];decide)]
  refine cP (ze2 c (c.T.getD i default).ID (by omega)) rfl rfl ?_
  apply bY<;>intro k5
  ·have k5:towI c.T (c.T.getD i default).ID<i:=dT k5
   have e:towE c i=6:=by rw[eT,kH ((zpH h3).1 k5)]
   refine r1I rfl ?_
   rw[bad (by rw[e];decide),e]
  have k5:¬towI c.T (c.T.getD i default).ID<i:=dF k5
  have e:towE c i=0:=by rw[eT,kG fun h=>k5 ((zpH h3).2 h)]
  refine⟨i6,?_⟩
  refine⟨i+1,⟨rfl,⟨obCt rfl,trivial⟩,wq rfl⟩,⟨h3,fun j hj=>?_⟩,(msr (by omega))⟩
  by_cases q:j=i
  ·subst q;exact e
  exact ha j (by omega)
 have h3:i=c.T.length:=by have:=dF h3;omega
 subst h3
 have e1:ctryE c=err1 (hzE c.Z) c.Z.length:=by rw[e0,zaJ ha];rfl
 clear ha
 refine lOf (σ:=Nat) (fun i=>([(1,.box 1 0),(5,.d (I i))],[(1,bxCt c)])) (fun i=>i<=c.Z.length/\∀j,j<i->hzE c.Z j=0) (fun i=>c.Z.length-i) 0
  ⟨rfl,⟨obCt rfl,trivial⟩,wq rfl⟩ z0L fun i hi=>?_
 obtain⟨hi,ha⟩:=hi
 apply bY<;>intro h3
 ·have h3:i<c.Z.length:=by have:=dT h3;omega
  have bad1:hzE c.Z i=1->ctryE c=1:=fun h=>by rw[e1,zan ha (by rw[h];decide) h3,h]
  refine⟨⟨rfl,by omega,by omega⟩,?_⟩
  refine oN 41 ?_
  apply bY<;>intro k1
  ·have k1:(c.Z.getD i default).From<0:=dT k1
   repeat first|apply sT|apply sF
   refine r1I rfl ?_
   rw[bad1 (zdn (.inl k1))]
  have k1:¬(c.Z.getD i default).From<0:=dF k1
  repeat first|apply sT|apply sF
  apply bY<;>intro k2
  ·have k2:(c.Z.getD i default).To<(c.Z.getD i default).From:=dT k2
   repeat first|apply sT|apply sF
   refine r1I rfl ?_
   rw[bad1 (zdn (.inr (.inl k2)))]
  have k2:¬(c.Z.getD i default).To<(c.Z.getD i default).From:=dF k2
  repeat first|apply sT|apply sF
  apply bY<;>intro k3
  ·have k3:1048576<(c.Z.getD i default).To:=dT k3
   repeat first|apply sT|apply sF
   refine r1I rfl ?_
   rw[bad1 (zdn (.inr (.inr (.inl k3))))]
  have k3:¬1048576<(c.Z.getD i default).To:=dF k3
  repeat first|apply sT|apply sF
  apply bY<;>intro k4
  ·have k4:0<i:=by have:(0:Int)<i:=dT k4;omega
   have eL:lastZ c.Z i=(c.Z.getD (i-1) default).To:=by
    obtain⟨d,rfl⟩:∃d,i=d+1:=⟨i-1,by omega⟩
    rfl
   have hz:((i:Int)-1).toNat=i-1:=by omega
   refine⟨i6,⟨⟨rfl,by omega,by omega⟩,?_⟩⟩
   rw[hz]
   refine sT ?_
   refine sF ?_
   apply bY<;>intro k5
   ·have k5:(c.Z.getD i default).From<=(c.Z.getD (i-1) default).To:=dT k5
    repeat first|apply sT|apply sF
    refine r1I rfl ?_
    rw[bad1 (zdn (.inr (.inr (.inr (.inl (by rw[eL];exact k5))))))]
   have k5:¬(c.Z.getD i default).From<=(c.Z.getD (i-1) default).To:=dF k5
   repeat first|apply sT|apply sF
   apply bY<;>intro k6
   ·have k6:(c.Z.getD i default).Far<0:=dT k6
    repeat first|apply sT|apply sF
    refine r1I rfl ?_
    rw[bad1 (zdn (.inr (.inr (.inr (.inr (.inl k6))))))]
   have k6:¬(c.Z.getD i default).Far<0:=dF k6
   repeat first|apply sT|apply sF
   apply bY<;>intro k7
   ·have k7:100<(c.Z.getD i default).Far:=dT k7
    refine r1I rfl ?_
    rw[bad1 (zdn (.inr (.inr (.inr (.inr (.inr k7))))))]
   have k7:¬100<(c.Z.getD i default).Far:=dF k7
   have e:hzE c.Z i=0:=zuj (by rw[eL];omega)
   refine⟨i6,?_⟩
   refine⟨i+1,⟨rfl,⟨obCt rfl,trivial⟩,wq rfl⟩,⟨h3,fun j hj=>?_⟩,(msr (by omega))⟩
   by_cases q:j=i
   ·subst q;exact e
   exact ha j (by omega)
  have k4:i=0:=by have:¬(0:Int)<i:=dF k4;omega
  subst k4
  repeat first|apply sT|apply sF
  apply bY<;>intro k6
  ·have k6:(c.Z.getD 0 default).Far<0:=dT k6
   repeat first|apply sT|apply sF
   refine r1I rfl ?_
   rw[bad1 (zdn (.inr (.inr (.inr (.inr (.inl k6))))))]
  have k6:¬(c.Z.getD 0 default).Far<0:=dF k6
  repeat first|apply sT|apply sF
  apply bY<;>intro k7
  ·have k7:100<(c.Z.getD 0 default).Far:=dT k7
   refine r1I rfl ?_
   rw[bad1 (zdn (.inr (.inr (.inr (.inr (.inr k7))))))]
  have k7:¬100<(c.Z.getD 0 default).Far:=dF k7
  have e:hzE c.Z 0=0:=zuj (by show ¬(_\/_\/_\/_<=(-1:Int)\/_\/_);omega)
  refine⟨i6,?_⟩
  refine⟨0+1,⟨rfl,⟨obCt rfl,trivial⟩,wq rfl⟩,⟨h3,fun j hj=>?_⟩,(msr (by omega))⟩
  obtain rfl:j=0:=by omega
  exact e
 have h3:i=c.Z.length:=by have:=dF h3;omega
 subst h3
 refine r1I rfl ?_
 rw[e1,zaJ ha]
theorem zrm(c:Ctry)(id:Int)(p:Place)(h t:Int):Spec PP 205 [c.v,N id,p.v,N h,N t] [B (seesE c id p h t).1,.d (.int .i64 (seesE c id p h t).2)]:=by
 refine sA Tryz.func205 ?_
 refine cP (ziU c) rfl rfl ?_
 apply bY<;>intro h0
 ·have e:seesE c id p h t=(false,ctryE c):=by unfold seesE;rw[kH (by simpa using h0)]
  rw[e];exact r2BI rfl rfl rfl rfl
 have h0:ctryE c=0:=by simpa using h0
 have ok:=zes h0
 refine cP (ze2 c id (by have:=ok.t;omega)) rfl rfl ?_
 apply bY<;>intro h1
 ·have h1:towI c.T id<0:=dT h1
  have e1:(towG c.T id).2=false:=by unfold towG;rw[kH h1]
  have e:seesE c id p h t=(false,5):=by unfold seesE;rw[kG (fun hh=>hh h0),kH e1]
  rw[e];exact r2BI rfl rfl rfl rfl
 have h1:¬towI c.T id<0:=dF h1
 have eG:towG c.T id=(c.T.getD (towI c.T id).toNat default,true):=by unfold towG;rw[kG h1]
 have e0:seesE c id p h t=if(!onM c.M p|| !within h 0 200|| !within t 0 1048576)=true then(false,1)else(seesB c (c.T.getD (towI c.T id).toNat default) p h (farZ t c.Z),0):=by unfold seesE;rw[kG (fun hh=>hh h0),kG (by rw[eG];exact fun hh=>by cases hh),eG]
 refine cP (ztu c.M p) rfl rfl ?_
 apply bY<;>intro h2
 ·have h2:(!onM c.M p)=true:=h2
  repeat first|apply sT|apply sF
  rw[e0,kH (by rw[h2];rfl)];exact r2BI rfl rfl rfl rfl
 have h2:(!onM c.M p)=false:=h2
 refine cP (zlr h) rfl rfl ?_
 repeat first|apply sT|apply sF
 apply bY<;>intro h3
 ·have h3:(!within h 0 200)=true:=h3
  repeat first|apply sT|apply sF
  rw[e0,kH (by rw[h3,k9];rfl)];exact r2BI rfl rfl rfl rfl
 have h3:(!within h 0 200)=false:=h3
 refine cP (zls t) rfl rfl ?_
 repeat first|apply sT|apply sF
 apply bY<;>intro h4
 ·have h4:(!within t 0 1048576)=true:=h4
  rw[e0,kH (by rw[h4,k9])];exact r2BI rfl rfl rfl rfl
 have h4:(!within t 0 1048576)=false:=h4
 rw[e0,kG (by rw[h2,h3,h4];decide)]
 have hp:onM c.M p=true:=by simpa using h2
 have hh:within h 0 200=true:=by simpa using h3
 have hw:=zkN ok (id:=id) (by rw[eG])
 rw[eG]at hw
 have ht:within t 0 1048576=true:=by simpa using h4
 have hlt:(towI c.T id).toNat<c.T.length:=by
  rcases idxL_cases (fun x:Twr=>x.ID==id) c.T default with⟨g1,_⟩|⟨i,g1,g2,_⟩
  ·exact absurd (show towI c.T id<0 by unfold towI;rw[g1];decide) h1
  unfold towI;rw[g2];exact g1
 refine oN 15 ?_
 refine⟨⟨rfl,by omega,by omega⟩,?_⟩
 refine oP (ztt c t (by have:=ok.z;omega)) rfl rfl ?_
 refine oP (r4_in c (c.T.getD (towI c.T id).toNat default) p h (farZ t c.Z) ok.m hw hp (zab.1 hh) (zh8 ok.f)) rfl rfl ?_
 exact r2BI rfl rfl rfl rfl
theorem zeE(n lo hi:Int):Spec PP 120 [N n,N lo,N hi] [B (within n lo hi)]:=by
 refine sA Tryz.func120 ?_
 apply bY<;>intro h1
 ·have h1:decide (lo<=n)=true:=h1
  refine sT ?_
  refine r1B rfl ?_
  unfold within;rw[h1];rfl
 have h1:decide (lo<=n)=false:=h1
 refine sF ?_
 refine r1B rfl ?_
 unfold within;rw[h1];rfl
end Go.Pg
namespace Go.Pg
open Go.Proofs Go.RowKit Go.Sort Go.Shelf
theorem zqn{g:Int->Int->Int}(hg:∀x y,g x y=0)(a b c d k:Int):crsH g a b c d k=0:=by
 unfold crsH
 simp only[hg,Int.mul_zero,Int.add_zero,ite_self]
theorem zhR{m:Mp}(hm:∀p,grd m p=0)(a b:Place):∀(n:Nat) (k0 k1:Int),∀p∈ptsF m a b n k0 k1,p.hi=0
 |0,_,_,p,hp=>by cases hp
 |n+1,k0,k1,p,hp=>by
  unfold ptsF at hp
  split at hp
  ·split at hp
   ·rcases qC.1 hp with rfl|hp
    ·exact zqn (g:=fun y x=>grd m ⟨x,y⟩) (fun _ _=>hm _) _ _ _ _ _
    exact zhR hm a b n _ _ p hp
   rcases qC.1 hp with rfl|hp
   ·exact zqn (g:=fun x y=>grd m ⟨x,y⟩) (fun _ _=>hm _) _ _ _ _ _
   exact zhR hm a b n _ _ p hp
  cases hp
theorem zg4{m:Mp}(hm:∀p,grd m p=0)(hv:validM m=true){a b:Place}(ha:onM m a=true)(hb:onM m b=true){ta tb:Int}(h1:0<=ta)(h2:0<=tb):freeB m a ta b tb=true:=by
 unfold freeB
 rw[jY,jay]
 intro p hp
 have ok:=zpY hv ha hb p hp
 have h3:=zhR hm a b _ _ _ p hp
 unfold ovrB abvI
 rw[h3,hm,hm]
 have k1:=wK (show 0<=p.n-p.k by have:=ok.k;omega) (show 0<=0+ta by omega)
 have k2:=wK ok.k.1 (show 0<=0+tb by omega)
 simp only[kA]
 omega
end Go.Pg
namespace Go.Pg
open Go.RowKit Go.ChangeShapes Go.WideShapes Go.Deep
section
variable {H:Type}{enc:TypeId×Value->H}{P:Program}{w:World}{base:Nat}{spare:Nat->Bool}{held:Bool}
def IntFs(P:Program)(fs:Array Field):Prop:=∀(j:Nat) (f:Field),fs[j]?=some f->P.underlying f.type=some (.int .i64)
end
inductive Sh where
  |int (k:IntKind)
  |sl (k:Nat) (f:Nat->Sh)
def Fits:Sh->D->Prop
 | .int k,x=>∃n:Int,(k.min<=n/\n<=k.max)/\x= .int k n
 | .sl k s,x=>∃(n:Nat) (f:Nat->Nat->D),x= .slc k n f/\n<=maxLen/\∀i,i<n->∀j,j<k->Fits (s j) (f i j)
def GdS(w:World)(s:Sh)(v:Value):Prop:=∃x:D,Rep w (fun b=>b<w.heap.size) x v/\Fits s x
def shFs(cells:TypeId->Nat)(g:TypeId->Option (List Sh)):Nat->List Field->Option (List Sh)
 | _,[]=>some []
 |off,f::r=>(g f.type).bind fun a=>bif f.offset==off&&a.length==cells f.type then(shFs cells g (off+a.length) r).map fun b=>a++b else none
def shSt(P:Program)(g:TypeId->Option (List Sh))(t:TypeId)(fs:Array Field):Option (List Sh):=(shFs P.cellsOf g 0 fs.toList).bind fun ks=>bif ks.length==P.cellsOf t then some ks else none
def shSl(P:Program)(g:TypeId->Option (List Sh))(e:TypeId):Option (List Sh):=(g e).bind fun ks=>bif ks.length==P.cellsOf e then some [.sl ks.length fun j=>getD' ks j]else none
where getD':List Sh->Nat->Sh
 | [],_=>.int .i64
 |x::_,0=>x
 | _::r,j+1=>getD' r j
def shOf(P:Program):Nat->TypeId->Option (List Sh)
 |0,_=>none
 |n+1,t=>match P.underlying t with
  |some (.int k)=>some [.int k]
  |some (.slice e)=>shSl P (shOf P n) e
  |some (.struct fs)=>shSt P (shOf P n) t fs
  | _=>none
theorem znO{l:List Sh}{j:Nat}(h:j<l.length):l[j]?=some (shSl.getD' l j):=by
 induction l generalizing j with
 |nil=>cases h
 |cons x r ih=>cases j with
  |zero=>rfl
  |succ j=>simpa [shSl.getD']using ih (by simpa using h)
theorem All2.app'{α β:Type}{R:α->β->Prop}{a c:List α}{b d:List β}(h1:All2 R a b)(h2:All2 R c d):All2 R (a++c) (b++d):=by
 induction h1 with
 |nil=>exact h2
 |cons h _ ih=>exact .cons h ih
theorem zsr{w:World}{a:Addr}{v:Value}(h:w.cell? a=some v):a.block<w.heap.size:=by
 rcases jaD a.block w.heap.size with h1|h1
 ·exact h1
 simp only[World.cell?,jaj h1]at h
 cases h
theorem zqA{k:IntKind}{n:Int}(h:(Lit.int k n).wf=true):k.min<=n/\n<=k.max:=by
 have h:(decide (IntKind.min k<=n)&&decide (n<=IntKind.max k))=true:=h
 simp only[jP,kA]at h
 exact h
section
variable {H:Type}{enc:TypeId×Value->H}{P:Program}{w:World}{base:Nat}{spare:Nat->Bool}{held:Bool}
theorem zgC{g:TypeId->Option (List Sh)}{n:Nat}{cs:List Value}
  (ih:∀t ks,g t=some ks->∀cs x,DataW.trod enc P w base spare held n t cs=some x->All2 (GdS w) ks cs):
  ∀(r:List Field) (off:Nat) (ks:List Sh),shFs P.cellsOf g off r=some ks->(∀f∈r,∃x,DataW.trod enc P w base spare held n f.type ((cs.drop f.offset).take (P.cellsOf f.type))=some x)->All2 (GdS w) ks ((cs.drop off).take ks.length)
 | [],off,ks,h,_=>by
  simp only[shFs,jO]at h
  subst h
  exact .nil
 |f::r,off,ks,h,hx=>by
  unfold shFs at h
  obtain⟨a,ha,h⟩:=jbE.1 h
  cases hc:f.offset==off&&a.length==P.cellsOf f.type with
  |false=>rw[hc]at h;cases h
  |true=>
  rw[hc]at h
  obtain⟨b,hb,rfl⟩:=Option.map_eq_some_iff.1 (show(shFs P.cellsOf g (off+a.length) r).map (fun b=>a++b)=some ks from h)
  simp only[jP,jai]at hc
  obtain⟨x,h1⟩:=hx f (jar ..)
  rw[hc.1,<- hc.2]at h1
  have g1:=ih _ _ ha _ _ h1
  have g2:=zgC ih r (off+a.length) b hb fun f hf=>hx f (jav _ hf)
  rw[jR,List.take_add,List.drop_drop]
  exact g1.app' g2
theorem zfz:∀(n:Nat) (t:TypeId) (ks:List Sh),shOf P n t=some ks->∀(fuel:Nat) (cs:List Value) (x:DataW H×List MemPlace),DataW.trod enc P w base spare held fuel t cs=some x->All2 (GdS w) ks cs
 |0,_,_,h,_,_,_,_=>by cases h
 |n+1,t,ks,h,fuel,cs,x,ht=>by
  unfold shOf at h
  split at h
  ·rename_i k hu
   simp only[jO]at h
   subst h
   obtain⟨m,rfl,_,hw⟩:=DataW.trod_int hu ht
   exact .cons ⟨.int k m,rfl,m,zqA hw,rfl⟩ .nil
  ·rename_i e hu
   unfold shSl at h
   obtain⟨ks',hk,h⟩:=jbE.1 h
   cases hc:ks'.length==P.cellsOf e with
   |false=>rw[hc]at h;cases h
   |true=>
   rw[hc]at h
   simp only[kT,jO]at h
   subst h
   have hc:=jai.1 hc
   obtain⟨v,rfl⟩:∃v,cs=[v]:=by
    rcases open_slice hu ht with⟨rfl,_⟩|⟨ad,len,cap,m,n',D,Pl,rfl,_⟩
    ·exact⟨_,rfl⟩
    exact⟨_,rfl⟩
   refine .cons ?_ .nil
   rcases open_slice hu ht with⟨h1,_⟩|⟨ad,len,cap,m,n',D,Pl,h1,hb,hl,hm,hmm,hx,hi⟩
   ·cases h1
    exact⟨.slc ks'.length 0 fun _ _=>.nil,.inl ⟨rfl,rfl⟩,0,_,rfl,by unfold maxLen;omega,fun i hi=>absurd hi (qJ _)⟩
   cases h1
   have key:∀i,i<len->∀j,j<ks'.length->∃v,w.cell? (ad.add (i*ks'.length+j))=some v/\GdS w (shSl.getD' ks' j) v:=fun i him j hjl=>by
    obtain⟨cs',hcc,ht'⟩:=hi i (by rw[hmm];split<;>omega)
    have hg:=zfz n e ks' hk _ _ _ ht'
    obtain⟨_,hcl,hat⟩:=World.cells?_some hcc
    obtain⟨v,hv,hgv⟩:=hg.get j _ (znO hjl)
    refine⟨v,?_,hgv⟩
    rw[<- Go.Deep.add_add,hc]
    rw[hat j (by omega)];exact hv
   refine⟨.slc ks'.length len fun i j=>if h:i<len/\j<ks'.length then Classical.choose (jaO (key i h.1 j h.2)).2 else .nil,.inr ⟨ad,cap,rfl,hl,hm,fun i hi j hj=>?_⟩,len,_,rfl,by omega,fun i hi j hj=>?_⟩
   ·have hs:=jaO (key i hi j hj)
    have hs2:=jaO hs.2
    refine⟨?_,_,hs.1,?_⟩
    ·have:=zsr hs.1
     rwa [zaK]at this
    dsimp only;rw[dif_pos ⟨hi,hj⟩];exact hs2.1
   dsimp only;rw[dif_pos ⟨hi,hj⟩]
   exact(jaO (jaO (key i hi j hj)).2).2
  ·rename_i fs hu
   unfold shSt at h
   obtain⟨ks',hk,h⟩:=jbE.1 h
   cases hc:ks'.length==P.cellsOf t with
   |false=>rw[hc]at h;cases h
   |true=>
   rw[hc]at h
   simp only[kT,jO]at h
   subst h
   obtain⟨xs,m,rfl,_,hl,hlen,hf⟩:=DataW.trod_struct hu ht
   have key:=zgC (cs:=cs) (n:=m) (fun t ks h cs x hx=>zfz n t ks h m cs x hx) fs.toList 0 ks' hk fun f hf'=>by
    obtain⟨i,hi,rfl⟩:=kP hf'
    have hi':i<fs.size:=by simpa using hi
    have h1:=hf i fs[i] (wL hi')
    rw[kF (show i<xs.length by omega)]at h1
    exact⟨_,by simpa using h1⟩
   rw[List.drop_zero,List.take_of_length_le (by have:=jai.1 hc;omega)]at key
   exact key
  cases h
theorem zei:∀{ks:List Sh}{cs:List Value},All2 (GdS w) ks cs->∃xs:List D,All2 (Rep w (fun b=>b<w.heap.size)) xs cs/\All2 Fits ks xs
 | [],[],.nil=>⟨[],.nil,.nil⟩
 | _::_,_::_,.cons ⟨x,h1,h2⟩ h=>by
  obtain⟨xs,h3,h4⟩:=zei h
  exact⟨x::xs,.cons h1 h3,.cons h2 h4⟩
theorem openS{r:Reach}{b0:Nat}(n:Nat){t:TypeId}{fs:Array Field}{ks:List Sh}{v:Value}{d:DataW H}{p:List MemPlace}(hs:P.underlying t=some (.struct fs))(hk:shOf P n t=some ks)
  (hv:Value.okWide P w r b0 t v)(h:DataW.Trod enc P w base spare held t v d p):∃xs:List D,Rep1 w (fun b=>b<w.heap.size) (.agg xs) v/\All2 Fits ks xs:=by
 obtain⟨cs,rfl,hsz⟩:=okWide_struct hs hv
 obtain⟨fuel,hf⟩:=h
 obtain⟨xs,h1,h2⟩:=zei (zfz n t ks hk fuel _ _ (by simpa [Value.cells]using hf))
 exact⟨xs,⟨cs.toList,by simp,h1⟩,h2⟩
theorem openL{r:Reach}{b0:Nat}(n:Nat){t e:TypeId}{ks:List Sh}{v:Value}{d:DataW H}{p:List MemPlace}(hs:P.underlying t=some (.slice e))(hk:shOf P (n+1) t=some ks)
  (hv:Value.okWide P w r b0 t v)(h:DataW.Trod enc P w base spare held t v d p):∃x:D,Rep1 w (fun b=>b<w.heap.size) (.d x) v/\All2 Fits ks [x]:=by
 obtain⟨a,len,cap,rfl⟩:=okWide_slice hs hv
 obtain⟨fuel,hf⟩:=h
 obtain⟨xs,h1,h2⟩:=zei (zfz (n+1) t ks hk fuel _ _ (by simpa [Value.cells]using hf))
 cases h1 with
 |cons h h'=>cases h';exact⟨_,h,h2⟩
end
theorem fitsL{α:Type}[Inhabited α]{k:Nat}{at_:α->Nat->D}{s:Nat->Sh}{x:D}(mkα:(Nat->Int)->α)(hi:∀j,j<k->s j= .int .i64)(hk:∀g:Nat->Int,∀j,j<k->at_ (mkα g) j=I (g j))(h:Fits (.sl k s) x):
  ∃l:List α,l.length<=maxLen/\(∀a∈l,∃g:Nat->Int,a=mkα g/\∀j,j<k-> -9223372036854775808<=g j/\g j<=9223372036854775807)/\D.eqv x (.slc k l.length fun i=>at_ (l.getD i default)):=by
 obtain⟨n,f,rfl,hn,hf⟩:=h
 have key:∀i,i<n->∀j,j<k->∃z:Int,(-9223372036854775808<=z/\z<=9223372036854775807)/\f i j=I z:=fun i hi' j hj=>by
  have h1:=hf i hi' j hj
  rw[hi j hj]at h1
  exact h1
 let g:Nat->Nat->Int:=fun i j=>if h:i<n/\j<k then Classical.choose (key i h.1 j h.2)else 0
 have hg:∀i,i<n->∀j,j<k->(-9223372036854775808<=g i j/\g i j<=9223372036854775807)/\f i j=I (g i j):=fun i hi' j hj=>by
  have e:g i j=Classical.choose (key i hi' j hj):=dif_pos ⟨hi',hj⟩
  rw[e]
  exact jaO (key i hi' j hj)
 refine⟨(List.range n).map fun i=>mkα (g i),by simpa using hn,fun a ha=>?_,by simp,.inr ⟨rfl,fun i hi' j hj=>?_⟩⟩
 ·obtain⟨i,hi',rfl⟩:=kJ.1 ha
  exact⟨g i,rfl,fun j hj=>(hg i (kK.1 hi') j hj).1⟩
 have e:((List.range n).map fun i=>mkα (g i)).getD i default=mkα (g i):=by
  rw[hZ,jU,wF hi'];rfl
 show D.eqv (f i j) (at_ (((List.range n).map fun i=>mkα (g i)).getD i default) j)
 rw[e,hk _ j hj,(hg i hi' j hj).2]
 exact⟨rfl,rfl⟩
end Go.Pg
namespace Go.Pg
open Go.Proofs Go.RowKit
theorem avBl{s:St}{ob:Nat->Option Ob}{v:AV}{a b:Bool}(h:v= .d (.bool a))(e:a=b):AVle s ob v (.d (.bool b)):=by subst h;subst e;exact dE _
theorem ze0(s:Svc)(id:Int)(hn:s.c.T.length<=1000000):Spec PP 122 [s.v,N id] [N (towI s.c.T id)]:=by
 refine sA Tryz.func122 ?_
 refine lOf (σ:=Nat) (fun i=>([(1,.d (I id)),(2,.box 2 0),(5,.d (I i))],[(2,.box (s.ds.map AV.d))])) (fun i=>i<=s.c.T.length/\∀j,j<i->((s.c.T.getD j default).ID==id)=false) (fun i=>s.c.T.length-i) 0
  ⟨rfl,⟨obD s.ds rfl,trivial⟩,wq rfl⟩ z0L fun i hi=>?_
 obtain⟨hi,ha⟩:=hi
 apply bY<;>intro h1
 ·have h1:i<s.c.T.length:=by have:=dT h1;omega
  refine⟨⟨rfl,by omega,by omega⟩,?_⟩
  apply bY<;>intro h2
  ·refine r1I rfl ?_
   exact(zaj (p:=fun t:Twr=>t.ID==id) default h1 h2 ha).symm
  refine⟨i6,?_⟩
  refine⟨i+1,⟨rfl,⟨obD s.ds rfl,trivial⟩,wq rfl⟩,⟨h1,fun j hj=>?_⟩,(msr (by omega))⟩
  by_cases e:j=i
  ·subst e;exact h2
  exact ha j (by omega)
 have h1:i=s.c.T.length:=by have:=dF h1;omega
 subst h1
 refine r1I rfl ?_
 exact(zam (p:=fun t:Twr=>t.ID==id) default ha).symm
theorem zhI(s:Svc)(id:Int)(hn:s.k.C.length<=1000000):Spec PP 123 [s.v,N id] [N (cirI s.k id)]:=by
 refine sA Tryz.func123 ?_
 refine lOf (σ:=Nat) (fun i=>([(1,.d (I id)),(2,.box 2 0),(5,.d (I i))],[(2,.box (s.ds.map AV.d))])) (fun i=>i<=s.k.C.length/\∀j,j<i->((s.k.C.getD j default).ID==id)=false) (fun i=>s.k.C.length-i) 0
  ⟨rfl,⟨obD s.ds rfl,trivial⟩,wq rfl⟩ z0L fun i hi=>?_
 obtain⟨hi,ha⟩:=hi
 apply bY<;>intro h1
 ·have h1:i<s.k.C.length:=by have:=dT h1;omega
  refine⟨⟨rfl,by omega,by omega⟩,?_⟩
  apply bY<;>intro h2
  ·refine r1I rfl ?_
   exact(zaj (p:=fun t:Cir=>t.ID==id) default h1 h2 ha).symm
  refine⟨i6,?_⟩
  refine⟨i+1,⟨rfl,⟨obD s.ds rfl,trivial⟩,wq rfl⟩,⟨h1,fun j hj=>?_⟩,(msr (by omega))⟩
  by_cases e:j=i
  ·subst e;exact h2
  exact ha j (by omega)
 have h1:i=s.k.C.length:=by have:=dF h1;omega
 subst h1
 refine r1I rfl ?_
 exact(zam (p:=fun t:Cir=>t.ID==id) default ha).symm
theorem tm36(n:Int):(n.tmod 3600+3600).tmod 3600=n%3600:=by
 have h1:=wD n (show(0:Int)<3600 by decide)
 have h2:=wD (-n) (show(0:Int)<3600 by decide)
 rw[jbx]at h2
 rw[wE (by omega)]
 rw[Int.tmod_eq_emod]
 split
 ·show(n%3600-0+3600)%3600=n%3600
  omega
 show(n%3600-3600+3600)%3600=n%3600
 omega
theorem zdB(n:Int)(hn:-1000000000000<=n/\n<=1000000000000):Spec PP 195 [N n] [N (n%3600)]:=by
 have h1:=wD n (show(0:Int)<3600 by decide)
 have h2:=wD (-n) (show(0:Int)<3600 by decide)
 rw[jbx]at h2
 refine sA Tryz.func195 ?_
 refine⟨by decide,⟨i6,⟨by decide,?_⟩⟩⟩
 exact r1I rfl (tm36 n)
theorem zpv{α:Type}{p:α->Bool}{l:List α}{j:Nat}(h:j<l.length)(d:α):(l.take (j+1)).any p=((l.take j).any p||p (l.getD j d)):=by
 rw[zav h d,List.any_append,List.any_cons,List.any_nil,qZ]
theorem zfE(s:Svc):Spec PP 80 [s.v] [.d (.int .i64 (svcE s))]:=by
 refine sA Tryz.func80 ?_
 refine cP (ziU s.c) rfl rfl ?_
 apply bY<;>intro h0
 ·have h0:ctryE s.c≠0:=by simpa using h0
  refine r1I rfl ?_
  unfold svcE;rw[kH h0]
 have h0:ctryE s.c=0:=by simpa using h0
 have ok0:=zes h0
 refine cP (zfF s.k) rfl rfl ?_
 apply bY<;>intro h1
 ·have h1:cirsE s.k≠0:=by simpa using h1
  refine r1I rfl ?_
  unfold svcE;rw[kG (fun hh=>hh h0),kH h1]
 have h1:cirsE s.k=0:=by simpa using h1
 have ok1:=zbP h1
 have e0:svcE s=err1 (svc1E s) s.k.C.length:=by unfold svcE;rw[kG (fun hh=>hh h0),kG (fun hh=>hh h1)]
 have hn:=ok1.n
 have ht:=ok0.t
 refine lOf (σ:=Nat) (fun i=>([(1,.box 1 0),(4,.d (I i))],[(1,.box (s.ds.map AV.d))])) (fun i=>i<=s.k.C.length/\∀j,j<i->svc1E s j=0) (fun i=>s.k.C.length-i) 0
  ⟨rfl,⟨obD s.ds rfl,trivial⟩,wq rfl⟩ z0L fun i hi=>?_
 obtain⟨hi,ha⟩:=hi
 apply bY<;>intro h3
 ·have h3:i<s.k.C.length:=by have:=dT h3;omega
  refine lOf (σ:=Nat) (fun j=>([(1,.box 1 0),(4,.d (I i)),(5,.d (.bool ((s.c.T.take j).any fun w=>decide (w.At=(s.k.C.getD i default).At)))),(6,.d (I j))],[(1,.box (s.ds.map AV.d))])) (fun j=>j<=s.c.T.length) (fun j=>s.c.T.length-j) 0
   ⟨rfl,⟨obD s.ds rfl,trivial⟩,wq rfl⟩ (jF _) fun j hj=>?_
  have hj:j<=s.c.T.length:=hj
  apply bY<;>intro h4
  ·have h4:j<s.c.T.length:=by have:=dT h4;omega
   have eA:=zpv (p:=fun w:Twr=>decide (w.At=(s.k.C.getD i default).At)) h4 default
   refine oN 19 ?_
   apply bY<;>intro h5
   ·have h5:((s.c.T.take j).any fun w=>decide (w.At=(s.k.C.getD i default).At))=true:=h5
    repeat first|apply sT|apply sF
    refine⟨i6,?_⟩
    exact⟨j+1,⟨rfl,⟨obD s.ds rfl,trivial⟩,avQ rfl,avR _ rfl,avBl rfl (by rw[eA,h5];rfl),avI rfl rfl,trivial⟩,h4,(msr (by omega))⟩
   have h5:((s.c.T.take j).any fun w=>decide (w.At=(s.k.C.getD i default).At))=false:=h5
   refine⟨⟨rfl,by omega,by omega⟩,⟨⟨rfl,by omega,by omega⟩,?_⟩⟩
   repeat first|apply sT|apply sF
   refine⟨i6,?_⟩
   exact⟨j+1,⟨rfl,⟨obD s.ds rfl,trivial⟩,avQ rfl,avR _ rfl,avBl rfl (by rw[eA,h5,jaC];exact eqPW _ _),avI rfl rfl,trivial⟩,h4,(msr (by omega))⟩
  have h4:j=s.c.T.length:=by have:=dF h4;omega
  subst h4
  rw[jZ]
  apply bY<;>intro h5
  ·have h5:(s.c.T.any fun w=>decide (w.At=(s.k.C.getD i default).At))=false:=by simpa using h5
   have e:svc1E s i=5:=by unfold svc1E;rw[kG (by rw[h5];decide)]
   refine r1I rfl ?_
   rw[e0,zan ha (by rw[e];decide) h3,e]
  have h5:(s.c.T.any fun w=>decide (w.At=(s.k.C.getD i default).At))=true:=by simpa using h5
  have e:svc1E s i=0:=by unfold svc1E;rw[kH h5]
  refine⟨i6,?_⟩
  refine⟨i+1,⟨rfl,⟨obD s.ds rfl,trivial⟩,wq rfl⟩,⟨h3,fun j hj=>?_⟩,(msr (by omega))⟩
  by_cases q:j=i
  ·subst q;exact e
  exact ha j (by omega)
 have h3:i=s.k.C.length:=by have:=dF h3;omega
 subst h3
 refine r1I rfl ?_
 rw[e0,zaJ ha]
theorem zjy{r:Rpt}(h:frmC r=true):frmB r=false:=by unfold frmB;rw[h];rfl
theorem zuw{r:Rpt}(h:within r.Kind 1 2=false):frmB r=false:=by
 have h1:r.Kind≠1:=fun e=>by
  have:within r.Kind 1 2=true:=zab.2 (by omega)
  rw[this]at h;cases h
 have h2:r.Kind≠2:=fun e=>by
  have:within r.Kind 1 2=true:=zab.2 (by omega)
  rw[this]at h;cases h
 unfold frmB;rw[kG h1,kG h2,kW]
theorem zlj(r:Rpt):Spec PP 121 [r.v] [B (frmB r)]:=by
 refine sA Tryz.func121 ?_
 refine cP (zeE r.ID 1 1099511627776) rfl rfl ?_
 apply bY<;>intro k0
 ·have k0:(!within r.ID 1 1099511627776)=true:=k0
  repeat first|apply sT|apply sF
  exact r1B rfl (zjy (by unfold frmC;rw[k0];rfl)).symm
 have k0:(!within r.ID 1 1099511627776)=false:=k0
 refine cP (zeE r.Kind 1 2) rfl rfl ?_
 repeat first|apply sT|apply sF
 apply bY<;>intro k1
 ·have k1:(!within r.Kind 1 2)=true:=k1
  repeat first|apply sT|apply sF
  exact r1B rfl (zuw (by simpa using k1)).symm
 have k1:(!within r.Kind 1 2)=false:=k1
 refine cP (zeE r.Tick 0 1048576) rfl rfl ?_
 repeat first|apply sT|apply sF
 apply bY<;>intro k2
 ·have k2:(!within r.Tick 0 1048576)=true:=k2
  repeat first|apply sT|apply sF
  exact r1B rfl (zjy (by unfold frmC;rw[k0,k2];rfl)).symm
 have k2:(!within r.Tick 0 1048576)=false:=k2
 refine cP (zeE r.From 0 3599) rfl rfl ?_
 repeat first|apply sT|apply sF
 apply bY<;>intro k3
 ·have k3:(!within r.From 0 3599)=true:=k3
  repeat first|apply sT|apply sF
  exact r1B rfl (zjy (by unfold frmC;rw[k0,k2,k3];rfl)).symm
 have k3:(!within r.From 0 3599)=false:=k3
 refine cP (zeE r.Slack 1 100) rfl rfl ?_
 repeat first|apply sT|apply sF
 apply bY<;>intro k4
 ·have k4:(!within r.Slack 1 100)=true:=k4
  repeat first|apply sT|apply sF
  exact r1B rfl (zjy (by unfold frmC;rw[k0,k2,k3,k4];rfl)).symm
 have k4:(!within r.Slack 1 100)=false:=k4
 have e0:frmB r=if r.Kind=1 then decide (r.To=0)else if r.Kind=2 then within r.To 0 3599&&decide ((r.To-r.From)%3600<=900)else false:=by
  unfold frmB frmC;rw[k0,k2,k3,k4];rfl
 have hk:=zab.1 (show within r.Kind 1 2=true by simpa using k1)
 have hf:=zab.1 (show within r.From 0 3599=true by simpa using k3)
 apply bY<;>intro h1
 ·have h1:r.Kind=1:=by simpa using h1
  refine r1B rfl ?_
  rw[e0,kH h1,kQ];simp
 have h1:r.Kind≠1:=by simpa using h1
 rw[kG h1,kH (show r.Kind=2 by omega)]at e0
 refine cP (zeE r.To 0 3599) rfl rfl ?_
 apply bY<;>intro h3
 ·have h4:=zab.1 h3
  refine⟨i6,?_⟩
  refine cP (zdB (r.To-r.From) (by omega)) rfl rfl ?_
  repeat first|apply sT|apply sF
  refine r1B rfl ?_
  rw[e0,h3];rfl
 repeat first|apply sT|apply sF
 refine r1B rfl ?_
 rw[e0,h3];rfl
theorem zj4(b:Brn):Spec PP 81 [b.v] [B (brnB b)]:=by
 refine sA Tryz.func81 ?_
 refine cP (zeE b.From 0 1048576) rfl rfl ?_
 apply bY<;>intro h1
 ·have h1':=zab.1 h1
  refine cP (zeE b.To b.From 1048576) rfl rfl ?_
  repeat first|apply sT|apply sF
  apply bY<;>intro h2
  ·have h2':=zab.1 h2
   refine cP (zeE b.Rise 0 200) rfl rfl ?_
   repeat first|apply sT|apply sF
   refine r1B rfl ?_
   unfold brnB;rw[jG (by omega),jG (by omega),jG (by omega)];rfl
  have h2':¬(b.From<=b.To/\b.To<=1048576):=fun hh=>by rw[zab.2 hh]at h2;cases h2
  repeat first|apply sT|apply sF
  refine r1B rfl ?_
  unfold brnB
  by_cases h3:b.From<=b.To
  ·rw[jH (p:=b.To<=1048576) (fun h4=>h2' ⟨h3,h4⟩),kW];rfl
  rw[jH h3,kW];rfl
 have h1':¬(0<=b.From/\b.From<=1048576):=fun hh=>by rw[zab.2 hh]at h1;cases h1
 repeat first|apply sT|apply sF
 refine r1B rfl ?_
 unfold brnB
 by_cases h3:0<=b.From
 ·by_cases h4:b.From<=b.To
  ·rw[jH (p:=b.To<=1048576) (by omega),kW];rfl
  rw[jH h4,kW];rfl
 rw[jH h3];rfl
theorem ziA{T:List Twr}{id:Int}(h:¬towI T id<0):towG T id=(T.getD (towI T id).toNat default,true):=by unfold towG;rw[kG h]
theorem r6_at(s:Svc)(r:Rpt)(hn:s.c.T.length<=1000000)(h:¬towI s.c.T r.Tower<0):Spec PP 129 [s.v,r.v] [(towG s.c.T r.Tower).1.At.v]:=by
 have h1:=zdQ h
 refine sA Tryz.func129 ?_
 refine oN 12 ?_
 refine oP (ze0 s r.Tower hn) rfl rfl ?_
 refine⟨⟨rfl,by show 0<=max 0 (towI s.c.T r.Tower);omega,by show max 0 (towI s.c.T r.Tower)<s.c.T.length;omega⟩,?_⟩
 have e:s.c.T.getD (max 0 (towI s.c.T r.Tower)).toNat default=(towG s.c.T r.Tower).1:=by rw[ziA h,show max 0 (towI s.c.T r.Tower)=towI s.c.T r.Tower by omega]
 exact r1C rfl rfl rfl rfl rfl rfl (zbR (jI (fun t:Twr=>t.At.X) e) (jI (fun t:Twr=>t.At.Y) e))
theorem zlk(s:Svc)(b:Brn)(r:Rpt)(p:Place):Spec PP 127 [s.v,b.v,r.v,p.v] [B (lookB s b r p)]:=by
 refine sA Tryz.func127 ?_
 refine cP (zeE r.Tick b.From b.To) rfl rfl ?_
 apply bY<;>intro h1
 ·have h1:within r.Tick b.From b.To=false:=by simpa using h1
  refine r1B rfl ?_
  unfold lookB;rw[h1,kW]
 have h1:within r.Tick b.From b.To=true:=by simpa using h1
 refine cP (zrm s.c r.Tower p b.Rise r.Tick) rfl rfl ?_
 apply bY<;>intro h2
 ·have h2:(seesE s.c r.Tower p b.Rise r.Tick).2=0:=by simpa using h2
  repeat first|apply sT|apply sF
  refine r1B rfl ?_
  unfold lookB;rw[h1,jG h2,jac];rfl
 have h2:(seesE s.c r.Tower p b.Rise r.Tick).2≠0:=by simpa using h2
 repeat first|apply sT|apply sF
 refine r1B rfl ?_
 unfold lookB;rw[jH h2];rfl
theorem zgF(s:Svc)(r:Rpt)(hT:s.c.T.length<=1000000)(hC:s.k.C.length<=1000000):Spec PP 82 [s.v,r.v] [.d (.int .i64 (rptE s r))]:=by
 refine sA Tryz.func82 ?_
 refine cP (zlj r) rfl rfl ?_
 apply bY<;>intro h1
 ·refine r1I rfl ?_
  unfold rptE;rw[kH (by simpa using h1)]
 have h1:frmB r=true:=by simpa using h1
 refine cP (ze0 s r.Tower hT) rfl rfl ?_
 refine cP (zhI s r.C hC) rfl rfl ?_
 apply bY<;>intro h2
 ·have h2:towI s.c.T r.Tower<0:=dT h2
  repeat first|apply sT|apply sF
  refine r1I rfl ?_
  have h3:(towG s.c.T r.Tower).2=false:=by unfold towG;rw[kH h2]
  unfold rptE;rw[kG (by rw[h1];decide),kH (.inl h3)]
 have h2:¬towI s.c.T r.Tower<0:=dF h2
 repeat first|apply sT|apply sF
 apply bY<;>intro h3
 ·have h3:cirI s.k r.C<0:=dT h3
  refine r1I rfl ?_
  unfold rptE;rw[kG (by rw[h1];decide),kH (.inr h3)]
 have h3:¬cirI s.k r.C<0:=dF h3
 obtain⟨h4,h5⟩:=zaS h3
 obtain⟨g4,g5⟩:=zdQ h2
 have eT:=ziA h2
 have e0:rptE s r=if(s.k.C.getD (cirI s.k r.C).toNat default).At≠(s.c.T.getD (towI s.c.T r.Tower).toNat default).At then 1 else if(zerR s.k r.C r.Tick).2≠0 then(zerR s.k r.C r.Tick).2 else if r.Kind=1 then(wdgR s.k (rdgO r)).2 else 0:=by
  unfold rptE;rw[kG (by rw[h1];decide),kG (by rw[eT];simp;omega),eT]
 refine oN 15 ?_
 refine⟨⟨rfl,by show 0<=towI s.c.T r.Tower;omega,by show towI s.c.T r.Tower<s.c.T.length;omega⟩,⟨⟨rfl,by show 0<=cirI s.k r.C;omega,by show cirI s.k r.C<s.k.C.length;omega⟩,?_⟩⟩
 apply bY<;>intro h6
 ·have h6:(s.k.C.getD (cirI s.k r.C).toNat default).At≠(s.c.T.getD (towI s.c.T r.Tower).toNat default).At:=by
   have:=(jI (!·) (eqPW (s.c.T.getD (towI s.c.T r.Tower).toNat default).At (s.k.C.getD (cirI s.k r.C).toNat default).At)).symm.trans h6
   have h7:¬(s.c.T.getD (towI s.c.T r.Tower).toNat default).At=(s.k.C.getD (cirI s.k r.C).toNat default).At:=by simpa using this
   exact fun e=>h7 e.symm
  refine r1I rfl ?_
  rw[e0,kH h6]
 have h6:(s.k.C.getD (cirI s.k r.C).toNat default).At=(s.c.T.getD (towI s.c.T r.Tower).toNat default).At:=by
  have:=(jI (!·) (eqPW (s.c.T.getD (towI s.c.T r.Tower).toNat default).At (s.k.C.getD (cirI s.k r.C).toNat default).At)).symm.trans h6
  have h7:(s.c.T.getD (towI s.c.T r.Tower).toNat default).At=(s.k.C.getD (cirI s.k r.C).toNat default).At:=by simpa using this
  exact h7.symm
 refine cP (zhL s.k r.C r.Tick) rfl rfl ?_
 apply bY<;>intro h7
 ·have h7:(zerR s.k r.C r.Tick).2≠0:=by simpa using h7
  repeat first|apply sT|apply sF
  refine r1I rfl ?_
  rw[e0,kG (fun hh=>hh h6),kH h7]
 have h7:(zerR s.k r.C r.Tick).2=0:=by simpa using h7
 repeat first|apply sT|apply sF
 apply bY<;>intro h8
 ·have h8:r.Kind=2:=by simpa using h8
  refine r1I rfl ?_
  rw[e0,kG (fun hh=>hh h6),kG (fun hh=>hh h7),kG (by omega)];exact h7
 have h8:r.Kind≠2:=by simpa using h8
 have h9:r.Kind=1:=by
  refine jL fun h10=>?_
  have:=zuw (r:=r) (by
   cases hw:within r.Kind 1 2 with
   |false=>rfl
   |true=>have:=zab.1 hw;omega)
  rw[h1]at this;cases this
 refine cP (ziT s.k (rdgO r)) rfl rfl ?_
 refine r1I rfl ?_
 rw[e0,kG (fun hh=>hh h6),kG (fun hh=>hh h7),kH h9]
structure RptOk(s:Svc)(r:Rpt):Prop where
  f:frmB r=true
  t:¬towI s.c.T r.Tower<0
  w:r.Kind=1->(wdgR s.k (rdgO r)).2=0
theorem ztk{s:Svc}{r:Rpt}(h:rptE s r=0):RptOk s r:=by
 unfold rptE at h
 split at h
 ·cases h
 rename_i h1
 split at h
 ·cases h
 rename_i h2
 split at h
 ·cases h
 split at h
 ·rename_i h4;exact absurd h h4
 refine⟨by simpa using h1,fun h3=>h2 (.inl (by unfold towG;rw[kH h3])),fun hk=>?_⟩
 rw[kH hk]at h;exact h
theorem zll(s:Svc)(r:Rpt)(h:RptOk s r):Spec PP 128 [s.v,r.v] [(secR s r).1.v,B (secR s r).2]:=by
 refine sA Tryz.func128 ?_
 apply bY<;>intro h1
 ·have h1:r.Kind=1:=by simpa using h1
  have e:secR s r=((wdgR s.k (rdgO r)).1,true):=by unfold secR;rw[kH h1,jG (h.w h1)]
  refine cP (ziT s.k (rdgO r)) rfl rfl ?_
  rw[e]
  exact⟨rtC (a:=4) rfl rfl rfl rfl rfl rfl (zaa _),rtB rfl rfl,trivial⟩
 have h1:r.Kind≠1:=by simpa using h1
 have e0:secR s r=blkR s r:=by unfold secR;rw[kG h1]
 rw[e0]
 obtain⟨b1,b2,b3⟩:=zux h.f h1
 have zb:=zix s.k r.C r.Tick
 refine cP (zhL s.k r.C r.Tick) rfl rfl ?_
 refine oN 16 ?_
 refine⟨i6,?_⟩
 refine oP (zdB (r.To-r.From) (by omega)) rfl rfl ?_
 refine⟨i6,⟨i6,⟨i6,?_⟩⟩⟩
 apply bY<;>intro h2
 ·have e:blkR s r=(⟨0,0⟩,false):=by unfold blkR;rw[kH (dT h2)]
  rw[e]
  exact⟨rtC (a:=4) rfl rfl rfl rfl rfl rfl (zaa _),rtB rfl rfl,trivial⟩
 have e:blkR s r=(⟨(r.From+r.Slack-(zerR s.k r.C r.Tick).1.Lo)%3600,(r.To-r.Slack-(zerR s.k r.C r.Tick).1.Hi)%3600⟩,true):=by unfold blkR;rw[kG (dF h2)]
 rw[e]
 refine oN 21 ?_
 refine⟨i6,⟨i6,?_⟩⟩
 refine oP (zdB (r.From+r.Slack-(zerR s.k r.C r.Tick).1.Lo) (by omega)) rfl rfl ?_
 refine⟨i6,⟨i6,?_⟩⟩
 refine oP (zdB (r.To-r.Slack-(zerR s.k r.C r.Tick).1.Hi) (by omega)) rfl rfl ?_
 exact⟨rtC (a:=4) rfl rfl rfl rfl rfl rfl (zaa _),rtB rfl rfl,trivial⟩
abbrev madD(s:Svc)(r:Rpt):List D:=[I r.ID,I r.Kind,I r.Tower,I r.C,I r.Tick,I r.From,I r.To,I r.Slack,I (secR s r).1.F,I (secR s r).1.T,.bool (secR s r).2,I (towG s.c.T r.Tower).1.At.X,I (towG s.c.T r.Tower).1.At.Y]
theorem zrd(s:Svc)(r:Rpt)(hn:s.c.T.length<=1000000)(h:RptOk s r):Spec PP 85 [s.v,r.v] [.agg (madD s r)]:=by
 refine sA Tryz.func85 ?_
 refine cP (zll s r h) rfl rfl ?_
 refine oN 8 ?_
 refine oP (r6_at s r hn h.t) rfl rfl ?_
 exact r1C rfl rfl rfl rfl rfl rfl (zaa _)
theorem zln(s:Svc)(b:Brn)(r:Rpt)(p:Place):Spec PP 84 [s.v,b.v,.agg (madD s r),p.v] [B (allB s b r p)]:=by
 have e4:seenB s b r p=((secR s r).2&&liesW (secR s r).1 (towG s.c.T r.Tower).1.At p&&lookB s b r p):=rfl
 refine sA Tryz.func84 ?_
 have tail:∀(v:Bool),v=((secR s r).2&&liesW (secR s r).1 (towG s.c.T r.Tower).1.At p)->seenB s b r p=(v&&lookB s b r p):=fun v hv=>by rw[hv,e4]
 apply bY<;>intro h1
 ·have h1:(secR s r).2=true:=h1
  refine cP (zrf (secR s r).1 (towG s.c.T r.Tower).1.At p) rfl rfl ?_
  repeat first|apply sT|apply sF
  apply bY<;>intro hk
  ·have hk:r.Kind=1:=by simpa using hk
   have e:allB s b r p=seenB s b r p:=by unfold allB;rw[kH hk]
   apply bY<;>intro h2
   ·have h2:liesW (secR s r).1 (towG s.c.T r.Tower).1.At p=true:=h2
    refine cP (zlk s b r p) rfl rfl ?_
    repeat first|apply sT|apply sF
    refine r1B rfl ?_
    rw[e,tail true (by rw[h1,h2];rfl)];rfl
   have h2:liesW (secR s r).1 (towG s.c.T r.Tower).1.At p=false:=h2
   repeat first|apply sT|apply sF
   refine r1B rfl ?_
   rw[e,tail false (by rw[h1,h2];rfl)];rfl
  have hk:r.Kind≠1:=by simpa using hk
  have e:allB s b r p= !seenB s b r p:=by unfold allB;rw[kG hk]
  apply bY<;>intro h2
  ·have h2:liesW (secR s r).1 (towG s.c.T r.Tower).1.At p=false:=by simpa using h2
   repeat first|apply sT|apply sF
   refine r1B rfl ?_
   rw[e,tail false (by rw[h1,h2];rfl)];rfl
  have h2:liesW (secR s r).1 (towG s.c.T r.Tower).1.At p=true:=by simpa using h2
  refine cP (zlk s b r p) rfl rfl ?_
  repeat first|apply sT|apply sF
  refine r1B rfl ?_
  rw[e,tail true (by rw[h1,h2];rfl)];rfl
 have h1:(secR s r).2=false:=h1
 repeat first|apply sT|apply sF
 apply bY<;>intro hk
 ·have hk:r.Kind=1:=by simpa using hk
  have e:allB s b r p=seenB s b r p:=by unfold allB;rw[kH hk]
  repeat first|apply sT|apply sF
  refine r1B rfl ?_
  rw[e,tail false (by rw[h1];rfl)];rfl
 have hk:r.Kind≠1:=by simpa using hk
 have e:allB s b r p= !seenB s b r p:=by unfold allB;rw[kG hk]
 repeat first|apply sT|apply sF
 refine r1B rfl ?_
 rw[e,tail false (by rw[h1];rfl)];rfl
theorem zlm(s:Svc)(l:List Rpt)(hT:s.c.T.length<=1000000)(hC:s.k.C.length<=1000000):Spec PP 207 [s.v,.d (lR l)] [.d (.int .i64 (if 24<l.length then 2 else err1 (rp1E s l) l.length))]:=by
 refine sA Tryz.func207 ?_
 apply bY<;>intro h2
 ·have h2:24<l.length:=by have:(24:Int)<l.length:=dT h2;omega
  refine r1I rfl ?_
  rw[kH h2]
 have h2:¬24<l.length:=by have:¬(24:Int)<l.length:=dF h2;omega
 rw[kG h2]
 refine lOf (σ:=Nat) (fun i=>([(1,.d (lR l)),(2,.box 2 0),(5,.d (I i))],[(2,.box (s.ds.map AV.d))])) (fun i=>i<=l.length/\∀j,j<i->rp1E s l j=0) (fun i=>l.length-i) 0
  ⟨rfl,⟨obD s.ds rfl,trivial⟩,wq rfl⟩ z0L fun i hi=>?_
 obtain⟨hi,ha⟩:=hi
 apply bY<;>intro h3
 ·have h3:i<l.length:=by have:=dT h3;omega
  refine oN 7 ?_
  refine⟨⟨rfl,by omega,by omega⟩,?_⟩
  refine oP (zgF s (l.getD i default) hT hC) rfl rfl ?_
  apply bY<;>intro h4
  ·have h4:rptE s (l.getD i default)≠0:=by simpa using h4
   have e1:rp1E s l i=rptE s (l.getD i default):=by unfold rp1E;rw[kH h4]
   refine r1I rfl ?_
   rw[zan ha (by rw[e1];exact h4) h3,e1]
  have h4:rptE s (l.getD i default)=0:=by simpa using h4
  refine lOf (σ:=Nat) (fun j=>([(1,.d (lR l)),(2,.box 2 0),(5,.d (I i)),(7,.d (I j))],[(2,.box (s.ds.map AV.d))])) (fun j=>j<=i/\∀z,z<j->(l.getD z default).ID≠(l.getD i default).ID) (fun j=>i-j) 0
   ⟨rfl,⟨obD s.ds rfl,trivial⟩,wq rfl⟩ z0L fun j hj=>?_
  obtain⟨hj,hb⟩:=hj
  apply bY<;>intro h5
  ·have h5:j<i:=by have:=dT h5;omega
   refine oN 11 ?_
   refine⟨⟨rfl,by omega,by omega⟩,⟨⟨rfl,by omega,by omega⟩,?_⟩⟩
   apply bY<;>intro h6
   ·have h6:(l.getD j default).ID=(l.getD i default).ID:=by simpa using h6
    have e1:rp1E s l i=6:=by unfold rp1E;rw[kG (fun hh=>hh h4),kH ((zmx hi _).2 ⟨j,h5,h6⟩)]
    refine r1I rfl ?_
    rw[zan ha (by rw[e1];decide) h3,e1]
   have h6:(l.getD j default).ID≠(l.getD i default).ID:=by simpa using h6
   refine⟨i6,?_⟩
   refine⟨j+1,⟨rfl,⟨obD s.ds rfl,trivial⟩,wq rfl⟩,⟨h5,fun z hz=>?_⟩,(msr (by omega))⟩
   by_cases q:z=j
   ·subst q;exact h6
   exact hb z (by omega)
  have h5:j=i:=by have:=dF h5;omega
  subst h5
  have hc:((l.take j).map Rpt.ID).contains (l.getD j default).ID=false:=by
   cases hh:((l.take j).map Rpt.ID).contains (l.getD j default).ID with
   |false=>rfl
   |true=>obtain⟨z,hz,e⟩:=(zmx hi _).1 hh;exact absurd e (hb z hz)
  have e1:rp1E s l j=0:=by unfold rp1E;rw[kG (fun hh=>hh h4),kG (by rw[hc];decide)]
  refine⟨i6,?_⟩
  refine⟨j+1,⟨rfl,⟨obD s.ds rfl,trivial⟩,wq rfl⟩,⟨h3,fun z hz=>?_⟩,(msr (by omega))⟩
  by_cases q:z=j
  ·subst q;exact e1
  exact ha z (by omega)
 have h3:i=l.length:=by have:=dF h3;omega
 subst h3
 refine r1I rfl ?_
 rw[zaJ ha]
theorem zj5(s:Svc)(b:Brn)(l:List Rpt):Spec PP 135 [s.v,b.v,.d (lR l)] [.d (.int .i64 (givE s b l))]:=by
 refine sA Tryz.func135 ?_
 refine cP (zfE s) rfl rfl ?_
 apply bY<;>intro h0
 ·refine r1I rfl ?_
  unfold givE;rw[kH (by simpa using h0)]
 have h0:svcE s=0:=by simpa using h0
 have ok:=zcl h0
 refine cP (zj4 b) rfl rfl ?_
 apply bY<;>intro h1
 ·refine r1I rfl ?_
  unfold givE;rw[kG (fun hh=>hh h0),kH (by simpa using h1)]
 have h1:brnB b=true:=by simpa using h1
 refine cP (zlm s l (by have:=ok.c.t;omega) (by have:=ok.k.n;omega)) rfl rfl ?_
 refine r1I rfl ?_
 have e1:givE s b l=if brnB b=false then 1 else if 24<l.length then 2 else err1 (rp1E s l) l.length:=by unfold givE;rw[kG (fun hh=>hh h0)]
 have e2:¬brnB b=false:=by rw[h1];decide
 rw[e1,kG e2]
theorem pushG{α:Type}[Inhabited α]{k:Nat}{at_:α->Nat->D}{vs:List α}{p:α}{g:Nat->Nat->D}(hg:∀j,j<k->D.eqv (g 0 j) (at_ p j)):
  D.eqv (.slc k (vs.length+1) (appRow vs.length (fun i=>at_ (vs.getD i default)) g)) (.slc k (vs++[p]).length (fun i=>at_ ((vs++[p]).getD i default))):=by
 refine⟨by simp,.inr ⟨rfl,fun i hi j hj=>?_⟩⟩
 show D.eqv (appRow vs.length (fun i=>at_ (vs.getD i default)) g i j) (at_ ((vs++[p]).getD i default) j)
 unfold appRow
 by_cases h:i<vs.length
 ·rw[kH h,hZ,jJ h,<- hZ]
  exact dE _
 have e:i=vs.length:=by omega
 subst e
 rw[kG h,kE,hZ,jK (jE _),kE]
 exact hg j hj
def madAt(s:Svc)(r:Rpt):Nat->D
 |0=>I r.ID
 |1=>I r.Kind
 |2=>I r.Tower
 |3=>I r.C
 |4=>I r.Tick
 |5=>I r.From
 |6=>I r.To
 |7=>I r.Slack
 |8=>I (secR s r).1.F
 |9=>I (secR s r).1.T
 |10=>.bool (secR s r).2
 |11=>I (towG s.c.T r.Tower).1.At.X
 | _=>I (towG s.c.T r.Tower).1.At.Y
abbrev rowM(s:Svc)(l:List Rpt):Nat->Nat->D:=fun i=>madAt s (l.getD i default)
abbrev lM(s:Svc)(l:List Rpt):D:=.slc 13 l.length (rowM s l)
theorem zrL(s:Svc)(r:Rpt):∀j,j<13->D.eqv (getD' (madD s r) (0*13+j)) (madAt s r j)
 |0,_=>⟨rfl,rfl⟩
 |1,_=>⟨rfl,rfl⟩
 |2,_=>⟨rfl,rfl⟩
 |3,_=>⟨rfl,rfl⟩
 |4,_=>⟨rfl,rfl⟩
 |5,_=>⟨rfl,rfl⟩
 |6,_=>⟨rfl,rfl⟩
 |7,_=>⟨rfl,rfl⟩
 |8,_=>⟨rfl,rfl⟩
 |9,_=>⟨rfl,rfl⟩
 |10,_=>dE _
 |11,_=>⟨rfl,rfl⟩
 |12,_=>⟨rfl,rfl⟩
theorem zto(s:Svc)(l:List Rpt)(hT:s.c.T.length<=1000000)(hl:l.length<=24)(hr:∀i,i<l.length->RptOk s (l.getD i default)):Spec PP 208 [s.v,.d (lR l)] [.d (lM s l)]:=by
 refine sA Tryz.func208 ?_
 refine lOf (σ:=Nat) (fun i=>([(1,.d (lR l)),(2,.box 2 0),(5,.own 5),(6,.d (I i))],[(2,.box (s.ds.map AV.d)),(5,.row 162 13 (l.take i).length (rowM s (l.take i)))])) (fun i=>i<=l.length) (fun i=>l.length-i) 0
  ⟨rfl,⟨obD s.ds rfl,obR rfl ⟨rfl,.inl rfl⟩,trivial⟩,wq rfl⟩ (jF _) fun i hi=>?_
 have hi:i<=l.length:=hi
 apply bY<;>intro h3
 ·have h3:i<l.length:=by have:=dT h3;omega
  have hlen:(l.take i).length=i:=by rw[jQ];omega
  refine oN 10 ?_
  refine⟨⟨rfl,by omega,by omega⟩,?_⟩
  refine oP (zrd s (l.getD i default) hT (hr i h3)) rfl rfl ?_
  refine⟨⟨.inr rfl,by unfold maxLen;omega,by show((l.take i).length+1)*104<=140737488355328;omega⟩,?_⟩
  refine⟨i6,?_⟩
  refine⟨i+1,⟨rfl,⟨obD s.ds rfl,obR rfl ?_,trivial⟩,wq rfl⟩,h3,(msr (by omega))⟩
  rw[zav h3 default]
  exact pushG (fun j hj=>zrL s (l.getD i default) j hj)
 have h3:i=l.length:=by have:=dF h3;omega
 subst h3
 refine⟨⟨_,_,_,_,rfl,?_⟩,trivial⟩
 rw[jZ]
 exact dE _
def mapK(m:Mp)(k:Nat):List Place:=(List.range k).map (plc m)
theorem zfU(m:Mp)(k:Nat):(mapK m k).length=k:=by unfold mapK;simp
theorem zt2(m:Mp)(k:Nat):mapK m (k+1)=mapK m k++[plc m k]:=by unfold mapK;rw[qU,jT];rfl
theorem zou{m:Mp}{n k:Nat}(h:k<n):(mapK m n).getD k default=plc m k:=by
 unfold mapK
 rw[hZ,jU,wF h];rfl
theorem zi5{m:Mp}{y x:Nat}(hx:x<m.w):plc m (y*m.w+x)=⟨(x:Int),(y:Int)⟩:=by
 unfold plc
 have e1:(y*m.w+x)%m.w=x:=by rw[Nat.add_comm,Nat.add_mul_mod_self_right,jaI hx]
 have e2:(y*m.w+x)/m.w=y:=by rw[Nat.add_comm,Nat.add_mul_div_right _ _ (by omega),jbn hx,qB]
 rw[e1,e2]
theorem ztp(s:Svc)(hv:validM s.c.M=true):Spec PP 209 [s.v] [.d (lP (mapK s.c.M (s.c.M.w*s.c.M.h)))]:=by
 obtain⟨bw,bh,-,-⟩:=zaf hv
 have ew:((s.c.M.w:Nat):Int)=s.c.M.W:=by show((s.c.M.W.toNat:Nat):Int)=s.c.M.W;omega
 have eh:((s.c.M.h:Nat):Int)=s.c.M.H:=by show((s.c.M.H.toNat:Nat):Int)=s.c.M.H;omega
 refine sA Tryz.func209 ?_
 refine lOf (σ:=Nat) (fun y=>([(1,.box 1 0),(3,.own 3),(4,.d (I y))],[(1,.box (s.ds.map AV.d)),(3,.row 60 2 (mapK s.c.M (y*s.c.M.w)).length (rowP (mapK s.c.M (y*s.c.M.w))))])) (fun y=>y<=s.c.M.h) (fun y=>s.c.M.h-y) 0
  ⟨rfl,⟨obD s.ds rfl,obR rfl ⟨by rw[zfU];omega,.inl rfl⟩,trivial⟩,wq rfl⟩ (jF _) fun y hy=>?_
 have hy:y<=s.c.M.h:=hy
 apply bY<;>intro h1
 ·have h1:y<s.c.M.h:=by have:=dT h1;omega
  have hm:y*s.c.M.w<=48*49:=jbj (by omega) (by omega)
  refine lOf (σ:=Nat) (fun x=>([(1,.box 1 0),(3,.own 3),(4,.d (I y)),(5,.d (I x))],[(1,.box (s.ds.map AV.d)),(3,.row 60 2 (mapK s.c.M (y*s.c.M.w+x)).length (rowP (mapK s.c.M (y*s.c.M.w+x))))])) (fun x=>x<=s.c.M.w) (fun x=>s.c.M.w-x) 0
   ⟨rfl,⟨obD s.ds rfl,obR rfl (dE _),trivial⟩,wq rfl⟩ (jF _) fun x hx=>?_
  have hx:x<=s.c.M.w:=hx
  apply bY<;>intro h2
  ·have h2:x<s.c.M.w:=by have:=dT h2;omega
   have hl:=zfU s.c.M (y*s.c.M.w+x)
   refine⟨⟨.inr rfl,by unfold maxLen;omega,by show((mapK s.c.M (y*s.c.M.w+x)).length+1)*16<=140737488355328;omega⟩,?_⟩
   refine⟨i6,?_⟩
   refine⟨x+1,⟨rfl,⟨obD s.ds rfl,obR rfl ?_,trivial⟩,wq rfl⟩,h2,(msr (by omega))⟩
   rw[show y*s.c.M.w+(x+1)=y*s.c.M.w+x+1 by omega,zt2,zi5 h2]
   exact zkb (at2 rfl rfl)
  have h2:x=s.c.M.w:=by have:=dF h2;omega
  subst h2
  refine⟨i6,?_⟩
  refine⟨y+1,⟨rfl,⟨obD s.ds rfl,obR rfl ?_,trivial⟩,wq rfl⟩,h1,(msr (by omega))⟩
  rw[Nat.succ_mul];exact dE _
 have h1:y=s.c.M.h:=by have:=dF h1;omega
 refine⟨⟨_,_,_,_,rfl,?_⟩,trivial⟩
 rw[h1,qM]
 exact dE _
def fstT(s:Svc)(b:Brn)(l:List Rpt)(p:Place):Int:=idxL (fun r=>!allB s b r p) l
theorem zn7(s:Svc)(b:Brn)(l:List Rpt)(p:Place)(hl:l.length<=24):Spec PP 210 [s.v,b.v,.d (lM s l),p.v] [N (fstT s b l p)]:=by
 refine sA Tryz.func210 ?_
 refine lOf (σ:=Nat) (fun i=>([(2,.d (lM s l)),(4,.box 4 0),(5,.box 5 0),(7,.box 7 0),(9,.d (I i))],[(4,.box (s.ds.map AV.d)),(5,.box (b.ds.map AV.d)),(7,.box ([I p.X,I p.Y].map AV.d))])) (fun i=>i<=l.length/\∀j,j<i->(!allB s b (l.getD j default) p)=false) (fun i=>l.length-i) 0
  ⟨rfl,⟨obD s.ds rfl,obD b.ds rfl,obD [I p.X,I p.Y] rfl,trivial⟩,wq rfl⟩ z0L fun i hi=>?_
 obtain⟨hi,ha⟩:=hi
 apply bY<;>intro h1
 ·have h1:i<l.length:=by have:=dT h1;omega
  refine oN 9 ?_
  refine⟨⟨rfl,by omega,by omega⟩,?_⟩
  refine oP (zln s b (l.getD i default) p) rfl rfl ?_
  apply bY<;>intro h2
  ·refine r1I rfl ?_
   exact(zaj (p:=fun r:Rpt=>!allB s b r p) default h1 h2 ha).symm
  refine⟨i6,?_⟩
  refine⟨i+1,⟨rfl,⟨obD s.ds rfl,obD b.ds rfl,obD [I p.X,I p.Y] rfl,trivial⟩,wq rfl⟩,⟨h1,fun j hj=>?_⟩,(msr (by omega))⟩
  by_cases e:j=i
  ·subst e;exact h2
  exact ha j (by omega)
 have h1:i=l.length:=by have:=dF h1;omega
 subst h1
 refine r1I rfl ?_
 exact(zam (p:=fun r:Rpt=>!allB s b r p) default ha).symm
def telR(s:Svc)(b:Brn)(l:List Rpt)(k:Nat):List Rsn:=((List.range k).filter fun n=>!decide (fstT s b l (plc s.c.M n)<0)).map fun n=>⟨plc s.c.M n,(l.getD (fstT s b l (plc s.c.M n)).toNat default).ID⟩
theorem znB{s:Svc}{b:Brn}{l:List Rpt}{k:Nat}(h:¬fstT s b l (plc s.c.M k)<0):telR s b l (k+1)=telR s b l k++[⟨plc s.c.M k,(l.getD (fstT s b l (plc s.c.M k)).toNat default).ID⟩]:=by
 unfold telR
 rw[qU,kV,jT,qA (p:=fun n=>!decide (fstT s b l (plc s.c.M n)<0)) (by rw[jH h];rfl)];rfl
theorem zqP{s:Svc}{b:Brn}{l:List Rpt}{k:Nat}(h:fstT s b l (plc s.c.M k)<0):telR s b l (k+1)=telR s b l k:=by
 unfold telR
 rw[qU,kV,jT,qF (p:=fun n=>!decide (fstT s b l (plc s.c.M n)<0)) (by rw[jG h];decide)];simp
theorem znC(s:Svc)(b:Brn)(l:List Rpt)(k:Nat):(telR s b l k).length<=k:=by
 unfold telR
 have:=qD (fun n=>!decide (fstT s b l (plc s.c.M n)<0)) (List.range k)
 simpa using this
def telP(s:Svc)(b:Brn)(l:List Rpt)(n:Nat):Bool:=decide (fstT s b l (plc s.c.M n)<0)
theorem zsi{w:World}{ok:Nat->Prop}{x y:D}{v u:Value}{q:Bool}(h:eqD x y=some q)(hv:Rep w ok x v)(hu:Rep w ok y u):∃k a b,v= .int k a/\u= .int k b/\q=(a==b):=by
 cases x with
 |int k a=>
  cases y with
  |int k' b=>
   have hv':v= .int k a:=hv
   have hu':u= .int k' b:=hu
   simp only[eqD]at h
   cases hk:kbeq k k' with
   |false=>simp[hk]at h
   |true=>
    have:=zhZ hk
    subst this
    simp only[hk,kT,jO]at h
    exact⟨k,a,b,hv',hu',h.symm⟩
  | _=>simp[eqD]at h
 | _=>simp[eqD]at h
theorem zh9{P:Program}{t:TypeId}{fs gs:Array Field}{f1 f2:Field}{k:IntKind}(hu:P.underlying t=some (.struct fs))(hf:fs.toList=[f1,f2])(n1:f1.name≠ "_")(n2:f2.name≠ "_")(o1:f1.offset=0)(o2:f2.offset=2)
  (hg:P.underlying f1.type=some (.struct gs))(ha:intF P 0 gs.toList=true)(hgs:gs.size=2)(hst:P.stoodInHeld f1.type=false)(hi:(P.info? f1.type).map (fun i=>i.size)=some 2)(hc:P.underlying f2.type=some (.int k))
  (h3:P.stoodInHeld t=false)(h4:P.eqGuardType P.depth t=false)(hsz:∀ti,TI.of P t=some ti->ti.size=3):EqFact P t:=by
 intro w ok xs ys vs us b x y ⟨ti,hti,hlen⟩ hb hv hw
 have hl:xs.length=3:=by rw [hlen,hsz ti hti]
 obtain⟨x0,x1,x2,rfl⟩: ∃x0 x1 x2,xs=[x0,x1,x2]:=by
  match xs,hl with
  | [x0,x1,x2],_=>exact⟨x0,x1,x2,rfl⟩
 have e1: ∃q0 q1 q2 y0 y1 y2,ys=[y0,y1,y2]/\eqD x0 y0=some q0/\eqD x1 y1=some q1/\eqD x2 y2=some q2/\b=(q0&&(q1&&(q2&&true))):=by
  match ys,hb with
  | [],hb=>simp [eqDs]at hb
  | [y0],hb=>
   simp only [eqDs]at hb
   cases h0:eqD x0 y0<;>simp [h0]at hb
  | [y0,y1],hb=>
   simp only [eqDs]at hb
   cases h0:eqD x0 y0<;>cases h1:eqD x1 y1<;>simp [h0,h1]at hb
  | [y0,y1,y2],hb=>
   simp only [eqDs]at hb
   cases h0:eqD x0 y0<;>cases h1:eqD x1 y1<;>cases h2:eqD x2 y2<;>simp [h0,h1,h2]at hb
   exact⟨_,_,_,y0,y1,y2,rfl,h0,h1,h2,by rw [<- hb];simp⟩
  |y0::y1::y2::y3::r,hb=>
   simp only [eqDs]at hb
   cases h0:eqD x0 y0<;>cases h1:eqD x1 y1<;>cases h2:eqD x2 y2<;>simp [h0,h1,h2]at hb
 obtain⟨q0,q1,q2,y0,y1,y2,rfl,h0,h1,h2,rfl⟩:=e1
 cases hv with|cons v0 hv=>
 cases hv with|cons v1 hv=>
 cases hv with|cons v2 hv=>
 cases hv
 cases hw with|cons u0 hw=>
 cases hw with|cons u1 hw=>
 cases hw with|cons u2 hw=>
 cases hw
 rename_i a0 a1 a2 b0 b1 b2
 obtain⟨k2,m,n,rfl,rfl,rfl⟩:=zsi h2 v2 u2
 have hfo:P.fieldsOf t=fs:=by simp [Program.fieldsOf,hu]
 have hgo:P.fieldsOf f1.type=gs:=by simp [Program.fieldsOf,hg]
 have ht:P.underlying t=some (.struct (P.fieldsOf t)):=by rw [hfo];exact hu
 have htg:P.underlying f1.type=some (.struct (P.fieldsOf f1.type)):=by rw [hgo];exact hg
 have in1:(Op.equalIn 9999 f1.type (.agg #[a0,a1]) (.agg #[b0,b1])).run P w= .ok (q0&&(q1&&true)) w:=by
  rw [run_equalIn_struct w 9998 f1.type _ _ htg hst,hgo]
  exact zjD gs.toList 0 [x0,x1] [y0,y1] [a0,a1] [b0,b1] ok _ ha (by simp [hgs]) (by simp [eqDs,h0,h1]) (.cons v0 (.cons v1 .nil)) (.cons u0 (.cons u1 .nil))
 have ag1:(isAgg f1.type).run P w= .ok true w:=by simp [isAgg,run_underlying hg]
 have ag2:(isAgg f2.type).run P w= .ok false w:=by simp [isAgg,run_underlying hc]
 obtain⟨i,hi,hz⟩: ∃i,P.info? f1.type=some i/\i.size=2:=by
  cases hh:P.info? f1.type with
  |none=>simp [hh]at hi
  |some i=>simp [hh]at hi;exact⟨i,rfl,hi⟩
 have sz1:(sizeOf f1.type).run P w= .ok 2 w:=by simp [sizeOf,typeInfo,hi,hz]
 have p1:(part f1.type #[a0,a1,.int k2 m] f1.offset).run P w= .ok (.agg #[a0,a1]) w:=by simp [part,ag1,sz1,o1]
 have p2:(part f1.type #[b0,b1,.int k2 n] f1.offset).run P w= .ok (.agg #[b0,b1]) w:=by simp [part,ag1,sz1,o1]
 have p3:(part f2.type #[a0,a1,.int k2 m] f2.offset).run P w= .ok (.int k2 m) w:=by simp [part,ag2,o2]
 have p4:(part f2.type #[b0,b1,.int k2 n] f2.offset).run P w= .ok (.int k2 n) w:=by simp [part,ag2,o2]
 have in2:=run_equalIn_int w 9998 f2.type k2 k m n hc
 have hq:(Op.equalIn 10000 t (.agg #[a0,a1,.int k2 m]) (.agg #[b0,b1,.int k2 n])).run P w= .ok (q0&&(q1&&((m==n)&&true))) w:=by
  rw [run_equalIn_struct w 9999 t _ _ ht h3,hfo,hf]
  simp only [Op.eqFields,n1,n2,ne_eq,not_false_eq_true,jbe,Sem.run_bind,p1,p2,p3,p4,in1,in2,Result.andThen_ok]
  cases q0<;>cases q1<;>simp [p3,p4,in2,Sem.run_bind]<;>cases hmn:(m==n)<;>simp_all
 constructor
 ·simp only [Sem.run_bind,run_eqGuard_agg w _ t x y _ _ h4,Result.andThen_ok,run_eql_struct,hq]
 simp only [Sem.run_bind,run_eqGuard_agg w _ t x y _ _ h4,Result.andThen_ok,run_neq_struct,hq]
def ER:Env:=⟨fun t=>ET t||Nat.beq t 177,false,0,fun _ _=>False,false,fun _=>false⟩
theorem tiR:TI.of PP 177=some ⟨3,true,24,[.int .i64 0,.int .i64 0,.int .i64 0],.struct [(0,60),(2,3)]⟩:=hT _ _ (by kernel_rfl)
theorem eqR:EqFact PP 177:=
 zh9 Tryz.underlying177 rfl (by decide) (by decide) rfl rfl Tryz.underlying60 (by kernel_rfl) rfl (by kernel_rfl) (by kernel_rfl) Tryz.underlying3 (by kernel_rfl) (by kernel_rfl) fun ti h=>by
  have:=h.symm.trans tiR
  simp only[jO]at this
  subst this;rfl
theorem hER:∀t,ER.eq t=true->EqFact PP t:=fun t h=>by
 have h:(ET t||Nat.beq t 177)=true:=h
 rcases jX _ _▸h with h1|h1
 ·exact hE t h1
 have:=jA h1
 subst this
 exact eqR
theorem znL{f:FuncId}{fn:Func}{c:Code}(hf:PP.funcs[f]?=some fn)(hb:fn.body=some c)(hq:((fn.name== "runtime.NumGoroutine")|| !(codeN fn.ntmps c&&Nat.ble fn.ntmps 4294967296))=false)
  {args res:List V1}(hsz:Nat.ble args.length fn.ntmps=true)(h:awp PP TTab ER c (St.of (argSlots 0 args) []) (retK TTab fn.results.toList res)):Spec PP f args res:=by
 simp only [qN,qQ,jP]at hq
 exact zfv (E:=ER) hT hER hM hf hb hq.1 hq.2.1 (jD hsz) (jD hq.2.2) h
def obTel(s:Svc)(b:Brn)(l:List Rpt)(k:Nat):List (Nat×Ob):=[(3,.box (s.ds.map AV.d)),(4,.box (b.ds.map AV.d)),(6,.box [.nilsl,.nilsl,.d (I 0)]),(7,.box [.own 33,.own 34,.d (I 0)]),(33,.row 60 2 (plsK s.c.M (telP s b l) k).length (rowP (plsK s.c.M (telP s b l) k))),(34,.row 177 3 (telR s b l k).length (rowS (telR s b l k)))]
theorem zuu{s:Svc}{b:Brn}{l:List Rpt}{p:Place}(h:¬fstT s b l p<0):0<=fstT s b l p/\fstT s b l p<l.length:=by
 rcases idxL_cases (fun r:Rpt=>!allB s b r p) l default with⟨e,-⟩|⟨i,hi,e,-,-⟩
 ·exact absurd (show fstT s b l p<0 by unfold fstT;rw[e];decide) h
 have:fstT s b l p=(i:Int):=e
 omega
theorem zrc(s:Svc)(b:Brn)(l:List Rpt)(hv:validM s.c.M=true)(hT:s.c.T.length<=1000000)(hl:l.length<=24)(hr:∀i,i<l.length->RptOk s (l.getD i default)):
  Spec PP 136 [s.v,b.v,.d (lR l)] [.agg [lP (plsL s.c.M (telP s b l)),lRs (telR s b l s.n),I 0]]:=by
 obtain⟨bw,bh,-,-⟩:=zaf hv
 have hn:s.n<=49*49:=jbj (by show s.c.M.W.toNat<=49;omega) (by show s.c.M.H.toNat<=49;omega)
 refine zb9 [11] Tryz.func136 rfl (by kernel_rfl) rfl ?_
 refine cR (zto s l hT hl hr) rfl rfl ?_
 refine cR (ztp s hv) rfl rfl ?_
 refine lOf (σ:=Nat) (fun k=>([(2,.d (lR l)),(3,.box 3 0),(4,.box 4 0),(6,.box 6 0),(7,.box 7 0),(8,.d (lM s l)),(9,.d (lP (mapK s.c.M s.n))),(10,.d (I k))],obTel s b l k)) (fun k=>k<=s.n) (fun k=>s.n-k) 0
  ⟨rfl,⟨obD s.ds rfl,obD b.ds rfl,obX rfl,⟨avNl rfl rfl rfl,avNl rfl rfl rfl,dE _,trivial⟩,obZ rfl rfl,obZ rfl rfl,trivial⟩,wq rfl⟩ (jF _) fun k hk=>?_
 have hk:k<=s.n:=hk
 have hml:=zfU s.c.M s.n
 apply bY<;>intro h1
 ·have h1:k<s.n:=by have:=dT h1;rw[hml]at this;omega
  have hg:=zou (m:=s.c.M) h1
  have hpl:=zbH s.c.M (telP s b l) k
  have hrl:=znC s b l k
  refine oN 9 ?_
  refine⟨⟨rfl,by omega,by rw[hml];omega⟩,?_⟩
  refine CallOb.pureE (zn7 s b l (plc s.c.M k) hl) rfl ⟨zaa _,zaa _,dE _,zbR (jI Place.X hg) (jI Place.Y hg),trivial⟩ rfl ?_
  apply bY<;>intro h2
  ·have h2:fstT s b l (plc s.c.M k)<0:=dT h2
   refine oN 10 ?_
   refine⟨⟨rfl,by omega,by rw[hml];omega⟩,?_⟩
   refine⟨⟨.inr rfl,by unfold maxLen;omega,by show((plsK s.c.M (telP s b l) k).length+1)*16<=140737488355328;omega⟩,?_⟩
   refine⟨i6,?_⟩
   refine⟨k+1,⟨rfl,⟨obD s.ds rfl,obD b.ds rfl,obX rfl,⟨rfl,rfl,dE _,trivial⟩,obR rfl ?_,obR rfl ?_,trivial⟩,wq rfl⟩,h1,(msr (by omega))⟩
   ·rw[zcH (P:=telP s b l) (jG h2)]
    exact zkb (at2 (jI (fun p:Place=>I p.X) hg) (jI (fun p:Place=>I p.Y) hg))
   rw[zqP h2];exact dE _
  have h2:¬fstT s b l (plc s.c.M k)<0:=dF h2
  have h3:=zuu h2
  refine oN 16 ?_
  refine⟨⟨rfl,by omega,by rw[hml];omega⟩,⟨⟨rfl,by omega,by omega⟩,?_⟩⟩
  refine⟨⟨.inr rfl,by unfold maxLen;omega,by show((telR s b l k).length+1)*24<=140737488355328;omega⟩,?_⟩
  refine⟨i6,?_⟩
  refine⟨k+1,⟨rfl,⟨obD s.ds rfl,obD b.ds rfl,obX rfl,⟨rfl,rfl,dE _,trivial⟩,obR rfl ?_,obR rfl ?_,trivial⟩,wq rfl⟩,h1,(msr (by omega))⟩
  ·rw[zd2 (P:=telP s b l) (jH h2)];exact dE _
  rw[znB h2]
  exact ztw (at3 (jI (fun p:Place=>I p.X) hg) (jI (fun p:Place=>I p.Y) hg) rfl)
 have h1:k=s.n:=by have:=dF h1;rw[hml]at this;omega
 subst h1
 refine kAt [(6,.box 6 0),(7,.box 7 0)] [(6,.box [.nilsl,.nilsl,.d (I 0)]),(7,.box [.d (lP (plsL s.c.M (telP s b l))),.d (lRs (telR s b l s.n)),.d (I 0)])] ⟨rfl,⟨obX rfl,⟨avOw rfl rfl rfl (dE _),avOw rfl rfl rfl (dE _),dE _,trivial⟩,trivial⟩,wq rfl⟩ ?_
 exact r1C rfl rfl rfl rfl rfl rfl (zaa _)
theorem zmI{s:Svc}{b:Brn}{l:List Rpt}{n:Nat}(h:n<s.n):fstT s b l (plc s.c.M n)=fstI (l.map (alwP s b)) n:=by
 have key:∀(l:List Rpt) (k:Nat),idxA (fun r=>!allB s b r (plc s.c.M n)) l k=idxA (fun P:Nat->Bool=>!P n) (l.map (alwP s b)) k:=fun l=>by
  induction l with
  |nil=>intro k;rfl
  |cons r t ih=>
  intro k
  have e:alwP s b r n=allB s b r (plc s.c.M n):=by
   show(decide (n<s.n)&&allB s b r (plc s.c.M n))=_
   rw[jG h,qE]
  show(if(!allB s b r (plc s.c.M n))=true then(k:Int)else idxA _ t (k+1))=(if(!alwP s b r n)=true then(k:Int)else idxA _ (t.map (alwP s b)) (k+1))
  rw[e,ih]
 exact key l 0
theorem zsb{s:Svc}{b:Brn}{l:List Rpt}{n:Nat}(h:n<s.n):telP s b l n=metP (l.map (alwP s b)) n:=by
 unfold telP
 rw[zmI h]
 have h1:=zbm (fun P:Nat->Bool=>!P n) (l.map (alwP s b)) default
 have e:metP (l.map (alwP s b)) n= !((l.map (alwP s b)).any fun P=>!P n):=by
  unfold metP
  rw[List.not_any_eq_all_not]
  simp
 rw[e]
 cases hh:(l.map (alwP s b)).any fun P=>!P n with
 |true=>exact jH (by have:=h1.2 hh;show ¬idxL _ _<0;omega)
 |false=>exact jG (by
  refine jL fun g=>?_
  have:0<=idxL (fun P:Nat->Bool=>!P n) (l.map (alwP s b)):=by
   have:¬idxL (fun P:Nat->Bool=>!P n) (l.map (alwP s b))<0:=g
   omega
  rw[h1.1 this]at hh;cases hh)
theorem zfc{k:Nat}{p q:Nat->Bool}(h:∀n,n<k->p n=q n):(List.range k).filter p=(List.range k).filter q:=
 ja4 fun n hn=>h n (kK.1 hn)
theorem znA(s:Svc)(b:Brn)(l:List Rpt):plsL s.c.M (telP s b l)=plsL s.c.M (metP (l.map (alwP s b))):=by
 unfold plsL plsK
 rw[zfc fun n hn=>zsb hn]
theorem znz(s:Svc)(b:Brn)(l:List Rpt):telR s b l s.n=rsnK s l (l.map (alwP s b)) s.n:=by
 unfold telR rsnK
 have e:((List.range s.n).filter fun n=>!decide (fstT s b l (plc s.c.M n)<0))=(List.range s.n).filter fun n=>decide (0<=fstI (l.map (alwP s b)) n):=zfc fun n hn=>by
  rw[zmI hn,<- decide_not]
  exact qI.2 (by omega)
 rw[e]
 refine qH fun n hn=>?_
 have hn:=kK.1 (kS.1 hn).1
 rw[zmI hn];rfl
theorem zre(s:Svc)(b:Brn)(l:List Rpt):Spec PP 93 [s.v,b.v,.d (lR l)] [.agg [lP (plcR s b l).1,lRs (rsnR s b l).1,I (givE s b l)]]:=by
 refine sA Tryz.func93 ?_
 refine cP (zj5 s b l) rfl rfl ?_
 apply bY<;>intro h0
 ·have h0:givE s b l≠0:=by simpa using h0
  have e1:plcR s b l=([],givE s b l):=by unfold plcR;rw[kH h0]
  have e2:rsnR s b l=([],givE s b l):=by unfold rsnR;rw[kH h0]
  rw[e1,e2]
  exact r1C rfl rfl rfl rfl rfl rfl ⟨rfl,rfl,⟨rfl,rfl⟩,trivial⟩
 have h0:givE s b l=0:=by simpa using h0
 have ok:=zfa h0
 have e1:plcR s b l=(plsL s.c.M (metP (l.map (alwP s b))),0):=by unfold plcR;rw[kG (fun hh=>hh h0)]
 have e2:rsnR s b l=(rsnK s l (l.map (alwP s b)) s.n,0):=by unfold rsnR;rw[kG (fun hh=>hh h0)]
 rw[e1,e2,h0]
 have ht:=zrc s b l ok.s.c.m (by have:=ok.s.c.t;omega) ok.n (fun i hi=>ztk (ok.r i hi).2)
 rw[znA,znz]at ht
 refine cR ht rfl rfl ?_
 exact r1C rfl rfl rfl rfl rfl rfl (zaa _)
end Go.Pg
namespace Go.Pg
open Go.Proofs Go.RowKit Go.Sort Go.Shelf
theorem zn6(l:List Int)(x:Int)(hn:l.length<=1000000):Spec PP 49 [.d (lI l),N x] [N (idxL (· ==x) l)]:=by
 refine sA Tryz.func49 ?_
 refine lOf (σ:=Nat) (fun i=>([(0,.d (lI l)),(1,.d (I x)),(5,.d (I i))],[])) (fun i=>i<=l.length/\∀j,j<i->(l.getD j 0==x)=false) (fun i=>l.length-i) 0
  ⟨rfl,trivial,wq rfl⟩ z0L fun i hi=>?_
 obtain⟨hi,ha⟩:=hi
 apply bY<;>intro h1
 ·have h1:i<l.length:=by have:=dT h1;omega
  refine⟨⟨rfl,by omega,by omega⟩,?_⟩
  apply bY<;>intro h2
  ·have h2:(l.getD i 0==x)=true:=h2
   refine r1I rfl ?_
   exact(zaj 0 h1 h2 ha).symm
  have h2:(l.getD i 0==x)=false:=h2
  refine⟨i6,?_⟩
  refine⟨i+1,⟨rfl,trivial,wq rfl⟩,⟨h1,fun j hj=>?_⟩,msr h1⟩
  by_cases e:j=i
  ·subst e;exact h2
  exact ha j (by omega)
 have h1:i=l.length:=by have:=dF h1;omega
 subst h1
 refine r1I rfl ?_
 exact(zam 0 ha).symm
theorem zmu(l:List Int)(x:Int):decide (0<=idxL (· ==x) l)=l.contains x:=by
 rw[kQ,kX,<- znk]
 exact zbm (· ==x) l 0
theorem rdR8(r:Rpt):∀j,j<8->D.eqv (rowOf 8 r.ds 0 j) (r.at j):=fun j hj=>by
 have e:rowOf 8 r.ds 0 j=getD' r.ds j:=by show getD' r.ds (0*8+j)=_;rw[Nat.zero_mul,qB]
 rw[e]
 match j,hj with
 |0,_=>exact dE _
 |1,_=>exact dE _
 |2,_=>exact dE _
 |3,_=>exact dE _
 |4,_=>exact dE _
 |5,_=>exact dE _
 |6,_=>exact dE _
 |7,_=>exact dE _
theorem zq9(d:Day)(ids:List Int)(hn:d.R.length<=1000000)(hi:ids.length<=1000000):Spec PP 95 [d.v,.d (lI ids)] [.d (lR (lstD d ids))]:=by
 have e:filR (offB ids) d.R d.R.length=lstD d ids:=by unfold filR lstD;rw[jZ]
 refine sA Tryz.func95 ?_
 refine lOf (σ:=Nat) (fun i=>([(1,.d (lI ids)),(2,.box 2 0),(5,.own 5),(6,.d (I i))],[(2,.box (d.ds.map AV.d)),(5,.row 90 8 (filR (offB ids) d.R i).length (rowRp (filR (offB ids) d.R i)))])) (fun i=>i<=d.R.length) (fun i=>d.R.length-i) 0
  ⟨rfl,⟨obD d.ds rfl,obR rfl ⟨by unfold filR;rfl,.inl rfl⟩,trivial⟩,wq rfl⟩ (jF _) fun i hi'=>?_
 have hi':i<=d.R.length:=hi'
 have hl:=zo6 (offB ids) d.R i
 apply bY<;>intro h1
 ·have h1:i<d.R.length:=by have:=dT h1;omega
  have es:=zb0 (offB ids) d.R h1
  refine⟨⟨rfl,by omega,by omega⟩,?_⟩
  have yes:offB ids (d.R.getD i default)=false->filR (offB ids) d.R (i+1)=filR (offB ids) d.R i++[d.R.getD i default]:=fun h=>by rw[es,kG (by rw[h];decide)]
  have no:offB ids (d.R.getD i default)=true->filR (offB ids) d.R (i+1)=filR (offB ids) d.R i:=fun h=>by rw[es,kH h,jat]
  apply bY<;>intro h2
  ·have h2:((d.R.getD i default).Kind==1)=false:=by simpa using h2
   have ho:offB ids (d.R.getD i default)=false:=by unfold offB;rw[h2,qK]
   repeat first|apply sT|apply sF
   refine⟨⟨.inr rfl,by unfold maxLen;omega,by show((filR (offB ids) d.R i).length+1)*64<=140737488355328;omega⟩,?_⟩
   refine⟨i6,?_⟩
   refine⟨i+1,⟨rfl,⟨obD d.ds rfl,obR rfl ?_,trivial⟩,wq rfl⟩,h1,msr h1⟩
   rw[yes ho]
   exact ztx (rdR8 _)
  have h2:((d.R.getD i default).Kind==1)=true:=by simpa using h2
  refine cP (zn6 ids (d.R.getD i default).ID hi) rfl rfl ?_
  repeat first|apply sT|apply sF
  apply bY<;>intro h3
  ·have h3:ids.contains (d.R.getD i default).ID=true:=by rw[<- zmu];exact h3
   have ho:offB ids (d.R.getD i default)=false:=by unfold offB;rw[h3];simp
   refine⟨⟨.inr rfl,by unfold maxLen;omega,by show((filR (offB ids) d.R i).length+1)*64<=140737488355328;omega⟩,?_⟩
   refine⟨i6,?_⟩
   refine⟨i+1,⟨rfl,⟨obD d.ds rfl,obR rfl ?_,trivial⟩,wq rfl⟩,h1,msr h1⟩
   rw[yes ho]
   exact ztx (rdR8 _)
  have h3:ids.contains (d.R.getD i default).ID=false:=by rw[<- zmu];exact h3
  have ho:offB ids (d.R.getD i default)=true:=by unfold offB;rw[h2,h3];rfl
  refine⟨i6,?_⟩
  refine⟨i+1,⟨rfl,⟨obD d.ds rfl,obR rfl ?_,trivial⟩,wq rfl⟩,h1,msr h1⟩
  rw[no ho]
  exact dE _
 have h1:i=d.R.length:=by have:=dF h1;omega
 subst h1
 rw[e]
 exact⟨⟨_,_,_,_,rfl,rfl,.inr ⟨rfl,fun i _ j _=>dE _⟩⟩,trivial⟩
def brn2(ids:List Int)(x:Int×Int)(r:Rpt):Int×Int:=if ids.contains r.ID=true then(min x.1 r.Tick,max x.2 r.Tick)else x
def brnT(ids:List Int)(l:List Rpt):Int×Int:=l.foldl (brn2 ids) (1048576,0)
def brn7(d:Day)(ids:List Int):Brn:=⟨(brnT ids d.R).1,(brnT ids d.R).2,d.Rise⟩
theorem zeu(ids:List Int)(l:List Rpt){i:Nat}(h:i<l.length):brnT ids (l.take (i+1))=brn2 ids (brnT ids (l.take i)) (l.getD i default):=by
 unfold brnT
 rw[zav h default,wJ];rfl
theorem zlf(d:Day)(ids:List Int)(hn:d.R.length<=1000000)(hi:ids.length<=1000000):Spec PP 94 [d.v,.d (lI ids)] [(brn7 d ids).v]:=by
 refine sA Tryz.func94 ?_
 refine lOf (σ:=Nat) (fun i=>([(1,.d (lI ids)),(2,.box 2 0),(4,.box 4 0),(5,.box 5 0),(6,.d (I i))],
   [(2,.box (d.ds.map AV.d)),(4,.box ([I 0,I 0,I 0].map AV.d)),(5,.box ([I (brnT ids (d.R.take i)).1,I (brnT ids (d.R.take i)).2,I d.Rise].map AV.d))])) (fun i=>i<=d.R.length) (fun i=>d.R.length-i) 0
  ⟨rfl,⟨obD d.ds rfl,obD [I 0,I 0,I 0] rfl,obD [I 1048576,I 0,I d.Rise] rfl,trivial⟩,wq rfl⟩ (jF _) fun i hi'=>?_
 have hi':i<=d.R.length:=hi'
 apply bY<;>intro h1
 ·have h1:i<d.R.length:=by have:=dT h1;omega
  have es:=zeu ids d.R h1
  refine⟨⟨rfl,by omega,by omega⟩,?_⟩
  refine cP (zn6 ids (d.R.getD i default).ID hi) rfl rfl ?_
  apply bY<;>intro h2
  ·have h2:ids.contains (d.R.getD i default).ID=true:=by rw[<- zmu];exact h2
   have e:brnT ids (d.R.take (i+1))=(min (brnT ids (d.R.take i)).1 (d.R.getD i default).Tick,max (brnT ids (d.R.take i)).2 (d.R.getD i default).Tick):=by rw[es];unfold brn2;rw[kH h2]
   refine⟨i6,?_⟩
   refine⟨i+1,⟨rfl,⟨obD d.ds rfl,obD [I 0,I 0,I 0] rfl,?_,trivial⟩,wq rfl⟩,h1,msr h1⟩
   rw[e];exact obD [I _,I _,I _] rfl
  have h2:ids.contains (d.R.getD i default).ID=false:=by rw[<- zmu];exact h2
  have e:brnT ids (d.R.take (i+1))=brnT ids (d.R.take i):=by rw[es];unfold brn2;rw[kG (by rw[h2];decide)]
  refine⟨i6,?_⟩
  refine⟨i+1,⟨rfl,⟨obD d.ds rfl,obD [I 0,I 0,I 0] rfl,?_,trivial⟩,wq rfl⟩,h1,msr h1⟩
  rw[e];exact obD [I _,I _,I _] rfl
 have h1:i=d.R.length:=by have:=dF h1;omega
 subst h1
 rw[jZ]
 exact⟨rtC (a:=4) rfl rfl rfl rfl rfl rfl (zaa _),trivial⟩
theorem zna{d:Day}(h:DayOk d)(ids:List Int):∀i,i<=d.R.length->0<=(brnT ids (d.R.take i)).1/\(brnT ids (d.R.take i)).1<=1048576/\0<=(brnT ids (d.R.take i)).2/\(brnT ids (d.R.take i)).2<=1048576
 |0,_=>by simp[brnT]
 |i+1,hi=>by
  obtain⟨a1,a2,a3,a4⟩:=zna h ids i (by omega)
  obtain⟨b1,b2⟩:=h.tick (show i<d.R.length by omega)
  rw[zeu ids d.R (by omega)]
  unfold brn2
  split
  ·show 0<=min _ _/\min _ _<=_/\0<=max _ _/\max _ _<=_
   omega
  exact⟨a1,a2,a3,a4⟩
theorem zsE{d:Day}(h:DayOk d)(ids:List Int):inR .i64 ((brn7 d ids).To-(brn7 d ids).From):=by
 have:=zna h ids d.R.length (jE _)
 rw[jZ]at this
 show inR .i64 ((brnT ids d.R).2-(brnT ids d.R).1)
 exact i6
theorem zjN{d:Day}(h:DayOk d)(ids:List Int):∀i,i<=d.R.length->if((d.R.take i).any fun r=>ids.contains r.ID)=true then brnS ids (d.R.take i)=(true,(brnT ids (d.R.take i)).1,(brnT ids (d.R.take i)).2)else brnS ids (d.R.take i)=(false,0,0)/\brnT ids (d.R.take i)=(1048576,0)
 |0,_=>by simp[brnS,brnT]
 |i+1,hi=>by
  have ih:=zjN h ids i (by omega)
  obtain⟨b1,b2⟩:=h.tick (show i<d.R.length by omega)
  have ea:((d.R.take (i+1)).any fun r=>ids.contains r.ID)=(((d.R.take i).any fun r=>ids.contains r.ID)||ids.contains (d.R.getD i default).ID):=by
   rw[zav (by omega) default,List.any_append];simp
  rw[zcT ids d.R (by omega),zeu ids d.R (by omega),ea]
  generalize brnS ids (d.R.take i)=u at ih⊢
  generalize brnT ids (d.R.take i)=v at ih⊢
  cases ha:((d.R.take i).any fun r=>ids.contains r.ID)with
  |true=>
   rw[ha,kH rfl]at ih
   rw[kH (by rfl),ih]
   unfold brn1 brn2
   cases hc:ids.contains (d.R.getD i default).ID<;>rfl
  |false=>
  rw[ha,kG (by decide)]at ih
  obtain⟨rfl,rfl⟩:=ih
  cases hc:ids.contains (d.R.getD i default).ID with
  |true=>
   rw[kH (by rfl)]
   unfold brn1 brn2
   rw[kH hc,kH hc]
   show(true,min _ _,max _ _)=(true,min _ _,max _ _)
   congr 2
   ·show min (d.R.getD i default).Tick (d.R.getD i default).Tick=min 1048576 (d.R.getD i default).Tick
    omega
   ·show max (d.R.getD i default).Tick (d.R.getD i default).Tick=max 0 (d.R.getD i default).Tick
    omega
  |false=>
  rw[kG (by decide)]
  unfold brn1 brn2
  rw[kG (by rw[hc];decide),kG (by rw[hc];decide)]
  exact⟨rfl,rfl⟩
theorem zsF{d:Day}(h:DayOk d){ids:List Int}(ha:(d.R.any fun r=>ids.contains r.ID)=true):brn7 d ids=brnD d ids:=by
 have:=zjN h ids d.R.length (jE _)
 rw[jZ,kH ha]at this
 unfold brn7 brnD
 rw[this]
theorem zq8{d:Day}(h:DayOk d)(ids:List Int)(hi:ids.length<=1000000):Spec PP 92 [d.v,.d (lI ids)] [B (decide (d.Long<(brn7 d ids).To-(brn7 d ids).From))]:=by
 refine sA Tryz.func92 ?_
 refine cP (zlf d ids (by have:=h.n;omega) hi) rfl rfl ?_
 refine⟨zsE h ids,?_⟩
 exact r1B rfl rfl
def tldL(d:Day)(ids:List Int):List Place:=if d.Long<(brn7 d ids).To-(brn7 d ids).From then []else(plcR d.s (brn7 d ids) (lstD d ids)).1
def tldR(d:Day)(ids:List Int):List Rsn:=if d.Long<(brn7 d ids).To-(brn7 d ids).From then []else(rsnR d.s (brn7 d ids) (lstD d ids)).1
def tldE(d:Day)(ids:List Int):Int:=if d.Long<(brn7 d ids).To-(brn7 d ids).From then 0 else givE d.s (brn7 d ids) (lstD d ids)
theorem zld{d:Day}(h:DayOk d)(ids:List Int)(hi:ids.length<=1000000):Spec PP 52 [d.v,.d (lI ids)] [.agg [lP (tldL d ids),lRs (tldR d ids),I (tldE d ids)]]:=by
 have hn:=h.n
 refine sA Tryz.func52 ?_
 refine cP (zq8 h ids hi) rfl rfl ?_
 unfold tldL tldR tldE
 apply bY<;>intro h1
 ·have h1:=kU h1
  rw[kH h1,kH h1,kH h1]
  exact⟨rtC (a:=4) rfl rfl rfl rfl rfl rfl ⟨rfl,rfl,⟨rfl,rfl⟩,trivial⟩,trivial⟩
 have h1:=jab h1
 rw[kG h1,kG h1,kG h1]
 refine oN 10 ?_
 refine oP (zlf d ids (by omega) hi) rfl rfl ?_
 refine oRo (zq9 d ids (by omega) hi) rfl rfl ?_
 refine oRo (zre d.s (brn7 d ids) (lstD d ids)) rfl rfl ?_
 exact⟨rtC (a:=4) rfl rfl rfl rfl rfl rfl (zaa _),trivial⟩
abbrev leI(x y:Int):Bool:=decide (x<=y)
def Srt(l:List Int):Prop:=l.Pairwise fun x y=>leI x y=true
theorem zdS{l m:List Int}(h1:Srt l)(h2:Srt m)(hp:l.Perm m):l=m:=
 List.Perm.eq_of_pairwise (le:=fun x y=>leI x y=true) (fun a b _ _ h3 h4=>by
  have h3:=kU h3
  have h4:=kU h4
  omega) h1 h2 hp
theorem ziI(l:List Rpt):Srt (sigL l):=
 List.pairwise_mergeSort (le:=fun x y=>decide (x<=y)) (fun a b c h1 h2=>by
  have h1:=kU h1
  have h2:=kU h2
  exact jG (by omega)) (fun a b=>by
  rw[jX,kX,kX]
  omega) _
def insK(l:List Int)(x:Int)(k:Nat):List Int:=l.take k++x::l.drop k
theorem zec(l:List Int)(x:Int)(k:Nat):(insK l x k).Perm (l++[x]):=by
 unfold insK
 have h1:(l.take k++x::l.drop k).Perm (x::(l.take k++l.drop k)):=List.perm_middle
 rw[List.take_append_drop]at h1
 exact h1.trans (List.perm_append_comm (l₁:=[x]) (l₂:=l))
theorem zjm{l:List Int}{x:Int}{k:Nat}(hk:k<=l.length)(hs:Srt l)(h1:∀j,k<=j->j<l.length->x<l.getD j 0)(h2:0<k->l.getD (k-1) 0<=x):Srt (insK l x k):=by
 have hd:=hs
 unfold Srt at hd
 rw[<- List.take_append_drop k l,List.pairwise_append]at hd
 obtain⟨d1,d2,d3⟩:=hd
 have g:∀i j,i<j->j<l.length->l.getD i 0<=l.getD j 0:=fun i j hij hj=>by
  have:=kN.1 hs i j (by omega) hj hij
  have:=kU this
  rw[hZ,hZ,kF hj,kF (by omega)]
  exact this
 have lo:∀y∈l.take k,y<=x:=fun y hy=>by
  obtain⟨j,hj,rfl⟩:=kP hy
  rw[jQ]at hj
  rw[ja3]
  have e:l[j]'(by omega)=l.getD j 0:=by rw[hZ,kF (by omega)];rfl
  rw[e]
  have h3:=h2 (by omega)
  by_cases q:j=k-1
  ·rw[q];exact h3
  have:=g j (k-1) (by omega) (by omega);omega
 have hi:∀y∈l.drop k,x<=y:=fun y hy=>by
  obtain⟨j,hj,rfl⟩:=kP hy
  rw[jag]at hj
  rw[List.getElem_drop]
  have e:l[k+j]'(by omega)=l.getD (k+j) 0:=by rw[hZ,kF (by omega)];rfl
  rw[e]
  have:=h1 (k+j) (by omega) (by omega)
  omega
 unfold Srt insK
 rw[List.pairwise_append]
 refine⟨d1,List.pairwise_cons.2 ⟨fun y hy=>jG (hi y hy),d2⟩,fun a ha c hc=>?_⟩
 rcases qC.1 hc with rfl|hc
 ·exact jG (lo a ha)
 have:=lo a ha
 have:=hi c hc
 exact jG (by omega)
theorem zoQ(l:List Int)(x:Int){k:Nat}(hk:k<=l.length)(m:Nat):(insK l x k).getD m 0=if m<k then l.getD m 0 else if m=k then x else l.getD (m-1) 0:=by
 unfold insK
 rw[hZ]
 by_cases h1:m<k
 ·rw[kH h1,jJ (by rw[jQ];omega),jS,kH h1,<- hZ]
 rw[kG h1,jK (by rw[jQ];omega),jQ]
 rw[show min k l.length=k by omega]
 by_cases h2:m=k
 ·rw[kH h2,h2,kE];rfl
 rw[kG h2]
 obtain⟨d,hd⟩:∃d,m-k=d+1:=⟨m-k-1,by omega⟩
 rw[hd,wG,wC,show k+d=m-1 by omega,<- hZ]
theorem zjn{l:List Int}{x:Int}{k:Nat}(hk:k<=l.length){n n':Nat}{F f:Nat->Nat->D}(hn:n=k)(hn':n'=k)(hF:∀a,a<k->F a 0=I (l.getD a 0))(h:f 0 0=I x):
  D.eqv (.slc 1 (n+1+(l.length-n')) (appRow (n+1) (appRow n F f) fun a _=>I (l.getD (n'+a) 0))) (lI (insK l x k)):=by
 subst hn
 subst hn'
 refine⟨by rw[(zec l x n').length_eq,jR,qR];omega,.inr ⟨rfl,fun m hm j hj=>?_⟩⟩
 obtain rfl:j=0:=by omega
 show D.eqv (appRow (n'+1) (appRow n' F f) (fun a _=>I (l.getD (n'+a) 0)) m 0) (I ((insK l x n').getD m 0))
 rw[zoQ l x hk]
 unfold appRow
 by_cases h1:m<n'
 ·rw[kH (by omega),kH h1,kH h1,hF m h1];exact dE _
 by_cases h2:m=n'
 ·rw[kH (by omega),kG h1,kG h1,kH h2,h2,kE,h];exact dE _
 rw[kG (by omega),kG h1,kG h2]
 show D.eqv (I (l.getD (n'+(m-(n'+1))) 0)) _
 rw[show n'+(m-(n'+1))=m-1 by omega];exact dE _
theorem zdY(d:Day)(hn:d.R.length<=1000000):Spec PP 28 [d.v] [.d (lI (sigL d.R))]:=by
 refine sA Tryz.func28 ?_
 refine lOf (σ:=List Int×Nat) (fun x=>([(1,.box 1 0),(3,.d (lI x.1)),(4,.d (I x.2))],[(1,.box (d.ds.map AV.d))])) (fun x=>x.2<=d.R.length/\Srt x.1/\x.1.Perm (sigK (d.R.take x.2))) (fun x=>d.R.length-x.2) ([],0)
  ⟨rfl,⟨obD d.ds rfl,trivial⟩,avQ rfl,avOw rfl rfl rfl ⟨rfl,.inl rfl⟩,avQ rfl,trivial⟩ ⟨jF _,List.Pairwise.nil,List.Perm.refl _⟩ fun⟨U,i⟩ ⟨hi,hs,hp⟩=>?_
 have hi:i<=d.R.length:=hi
 have hs:Srt U:=hs
 have hp:U.Perm (sigK (d.R.take i)):=hp
 have hU:U.length<=i:=by
  rw[hp.length_eq]
  have:=zcC (d.R.take i)
  rw[jQ]at this;omega
 apply bY<;>intro h1
 ·have h1:i<d.R.length:=by have:(i:Int)<d.R.length:=dT h1;omega
  refine⟨⟨rfl,by omega,by show(i:Int)<d.R.length;omega⟩,?_⟩
  apply bY<;>intro h2
  ·have h2:isSg (d.R.getD i default)=false:=by simpa [isSg]using h2
   refine⟨i6,?_⟩
   refine⟨(U,i+1),⟨rfl,⟨obD d.ds rfl,trivial⟩,wq rfl⟩,⟨h1,hs,by rw[zkZ h1 h2];exact hp⟩,msr h1⟩
  have h2:isSg (d.R.getD i default)=true:=by simpa [isSg]using h2
  refine lOf (σ:=Nat) (fun k=>([(1,.box 1 0),(3,.d (lI U)),(4,.d (I i)),(5,.d (I k))],[(1,.box (d.ds.map AV.d))])) (fun k=>k<=U.length/\∀j,k<=j->j<U.length->(d.R.getD i default).ID<U.getD j 0) (fun k=>k) U.length
   ⟨rfl,⟨obD d.ds rfl,trivial⟩,wq rfl⟩ ⟨jE _,fun j h3 h4=>absurd h4 (by omega)⟩ fun k hk=>?_
  obtain⟨hk,ha⟩:=hk
  refine oN 16 ?_
  apply bY<;>intro h3
  ·have h3:0<k:=by have:=dT h3;omega
   refine⟨i6,?_⟩
   refine⟨⟨rfl,by omega,by omega⟩,?_⟩
   refine⟨⟨rfl,by omega,by show(i:Int)<d.R.length;omega⟩,?_⟩
   have ek:((k:Int)-1).toNat=k-1:=by omega
   repeat first|apply sT|apply sF
   apply bY<;>intro h4
   ·have h4:(d.R.getD i default).ID<U.getD (k-1) 0:=by have h4:=dT h4;rw[ek]at h4;exact h4
    refine⟨i6,?_⟩
    refine⟨k-1,⟨rfl,⟨obD d.ds rfl,trivial⟩,avQ rfl,avQ rfl,avQ rfl,avI rfl (by omega),trivial⟩,⟨by omega,fun j h5 h6=>?_⟩,by omega⟩
    by_cases e:j=k-1
    ·rw[e];exact h4
    exact ha j (by omega) h6
   have h4:U.getD (k-1) 0<=(d.R.getD i default).ID:=by have h4:=dF h4;rw[ek]at h4;have:¬(d.R.getD i default).ID<U.getD (k-1) 0:=h4;omega
   refine⟨⟨.inr rfl,by omega,by omega⟩,?_⟩
   refine⟨⟨.inr rfl,by simp only[maxLen];omega,by dsimp only;omega⟩,?_⟩
   refine⟨⟨rfl,by omega,by show(i:Int)<d.R.length;omega⟩,?_⟩
   refine⟨⟨.inr rfl,by simp only[maxLen];omega,by dsimp only;omega⟩,?_⟩
   refine⟨⟨.inr rfl,by omega,by omega⟩,?_⟩
   refine⟨⟨.inr rfl,by simp only[maxLen];omega,by dsimp only;omega⟩,?_⟩
   refine⟨i6,?_⟩
   refine⟨(insK U (d.R.getD i default).ID k,i+1),⟨rfl,⟨obD d.ds rfl,trivial⟩,avQ rfl,avOw rfl rfl rfl ?_,avQ rfl,trivial⟩,⟨h1,zjm hk hs ha (fun _=>h4),?_⟩,msr h1⟩
   ·exact zjn hk (by omega) (by omega) (fun a _=>rfl) rfl
   rw[zfx h1 h2]
   exact(zec _ _ _).trans (hp.append_right _)
  have h3:k=0:=by have:=dF h3;omega
  repeat first|apply sT|apply sF
  refine⟨⟨.inr rfl,by omega,by omega⟩,?_⟩
  refine⟨⟨.inr rfl,by simp only[maxLen];omega,by dsimp only;omega⟩,?_⟩
  refine⟨⟨rfl,by omega,by show(i:Int)<d.R.length;omega⟩,?_⟩
  refine⟨⟨.inr rfl,by simp only[maxLen];omega,by dsimp only;omega⟩,?_⟩
  refine⟨⟨.inr rfl,by omega,by omega⟩,?_⟩
  refine⟨⟨.inr rfl,by simp only[maxLen];omega,by dsimp only;omega⟩,?_⟩
  refine⟨i6,?_⟩
  refine⟨(insK U (d.R.getD i default).ID k,i+1),⟨rfl,⟨obD d.ds rfl,trivial⟩,avQ rfl,avOw rfl rfl rfl ?_,avQ rfl,trivial⟩,⟨h1,zjm hk hs ha (fun h=>by omega),?_⟩,msr h1⟩
  ·exact zjn hk (by omega) (by omega) (fun a _=>rfl) rfl
  rw[zfx h1 h2]
  exact(zec _ _ _).trans (hp.append_right _)
 have h1:i=d.R.length:=by have:¬(i:Int)<d.R.length:=dF h1;omega
 subst h1
 rw[jZ]at hp
 rw[zdS (ziI d.R) hs ((jaL _ _).trans hp.symm)]
 exact⟨dE _,trivial⟩
theorem zuO{a i:Nat}(ha:a<128)(hi:i<7):((((a:Int).tdiv (IntKind.wrap .i64 (1*2^(min ((i:Nat):Int).toNat 64)))).tmod 2)==1)=a.testBit i:=by
 have:=al7L (n:=128) (m:=7) (P:=fun a i=>decide (((((a:Int).tdiv (IntKind.wrap .i64 (1*2^(min ((i:Nat):Int).toNat 64)))).tmod 2)==1)=a.testBit i)) (by decide+kernel) ha hi
 exact kU this
theorem bQuo{a i:Nat}(ha:a<128)(hi:i<7):IntKind.wrap .i64 (1*2^(min ((i:Nat):Int).toNat 64))≠0/\inR .i64 ((a:Int).tdiv (IntKind.wrap .i64 (1*2^(min ((i:Nat):Int).toNat 64)))):=by
 rw[bShl (by omega)]
 have h1:0<2^i:=Nat.two_pow_pos i
 have h2:((a:Int).tdiv ((2^i:Nat):Int))=((a/2^i:Nat):Int):=by rw[Int.ofNat_tdiv]
 have h3:a/2^i<=a:=Nat.div_le_self _ _
 refine⟨by omega,?_⟩
 rw[h2]
 clear h2
 generalize a/2^i=q at h3⊢
 exact i6
theorem zdX(ids:List Int)(set:Nat)(hn:ids.length<=7)(hs:set<128):Spec PP 50 [.d (lI ids),N (set:Int)] [.d (lI (memb ids set))]:=by
 refine sA Tryz.func50 ?_
 refine lOf (σ:=Nat) (fun i=>([(0,.d (lI ids)),(1,.d (I set)),(5,.own 5),(6,.d (I i))],[(5,.row 3 1 (membA ids set i).length (rowI (membA ids set i)))])) (fun i=>i<=ids.length) (fun i=>ids.length-i) 0
  ⟨rfl,⟨obR rfl ⟨rfl,.inl rfl⟩,trivial⟩,wq rfl⟩ (jF _) fun i hi=>?_
 have hi:i<=ids.length:=hi
 have hl:=zbl ids set i
 apply bY<;>intro h1
 ·have h1:i<ids.length:=by have:=dT h1;omega
  refine⟨by omega,?_⟩
  refine⟨bQuo hs (by omega),?_⟩
  refine⟨by decide,?_⟩
  apply bY<;>intro h2
  ·have h2:set.testBit i=true:=by rw[<- zuO hs (show i<7 by omega)];exact h2
   refine⟨⟨rfl,by omega,by omega⟩,?_⟩
   refine⟨⟨.inr rfl,by unfold maxLen;omega,by show((membA ids set i).length+1)*8<=140737488355328;omega⟩,?_⟩
   refine⟨i6,?_⟩
   refine⟨i+1,⟨rfl,⟨obR rfl ?_,trivial⟩,wq rfl⟩,h1,msr h1⟩
   rw[zbW h2]
   exact zlu rfl
  have h2:set.testBit i=false:=by rw[<- zuO hs (show i<7 by omega)];exact h2
  refine⟨i6,?_⟩
  refine⟨i+1,⟨rfl,⟨obR rfl ?_,trivial⟩,wq rfl⟩,h1,msr h1⟩
  rw[zcK h2]
  exact dE _
 have h1:i=ids.length:=by have:=dF h1;omega
 subst h1
 exact⟨⟨_,_,_,_,rfl,rfl,.inr ⟨rfl,fun i _ j _=>dE _⟩⟩,trivial⟩
def EYC{τ:Type}(xs:List τ)(enc:τ->List V1)(cuts:List Nat)(l:Nat):Env:=⟨ET,false,l,fun n vs=>∃x,xs[n]?=some x/\vs=enc x,true,fun i=>cuts.any (Nat.beq i)⟩
theorem zkA{τ:Type}{xs:List τ}{enc:τ->List V1}(k:Nat)(vs:List V1):(∃x,xs[k]?=some x/\vs=enc x)↔(xs.map enc)[k]?=some vs:=by
 rw[jU]
 cases xs[k]? with
 |none=>simp
 |some x=>simp;exact eq_comm
theorem ziF(cuts:List Nat){f:FuncId}{fn:Func}{c:Code}(hf:PP.funcs[f]?=some fn)(hb:fn.body=some c)(hq:((fn.name== "runtime.NumGoroutine")|| !(codeN fn.ntmps c&&Nat.ble fn.ntmps 4294967296))=false)
  {τ:Type}{xs:List τ}{enc:τ->List V1}{n m:Nat}(args:Nat->List AV){obs obs':Nat->List (Nat×Ob)}(ts:List Nat)(hts:fn.results.toList=ts.map ResultVar.tmp)(pins:List (Nat×Nat)){res resF:List V1}(hlr:ts.length=res.length)(hlF:ts.length=resF.length)(hfl:resF.all V1.flat=true)
  (hr:∀l,∀v∈args l,∀j∈v.refs,(look (obs l) j).isSome=true)(hpn:(G::(pins.map Prod.fst++ts)).Nodup)(hsz:∀l,Nat.ble (args l).length fn.ntmps=true)
  (h:∀l γ,awp PP TTab (EYC xs enc cuts l) c (St.of ((G,.gho (some n))::slotsM γ 0 (args l)) (obs l)) (retYM ts res resF γ pins (n+m) (obs' l))):SpecY PP f (xs.map enc) n m args obs obs' (pins.map Prod.snd) res resF:=by
 simp only [qN,qQ,jP]at hq
 exact ziE hT (eq:=ET) hE hM hf hb hq.1 hq.2.1 (jD hq.2.2) args ts hts pins hlr hlF hfl hr hpn (fun l=>jD (hsz l)) (yd:=fun n vs=>∃x,xs[n]?=some x/\vs=enc x) zkA (fun i=>cuts.any (Nat.beq i)) (fun _ _ _ _ hk=>hk) h
section
variable {s:St}{o:Oper}{fo:Operand}{K:St->Prop}{args:List Operand}{τ:Type}{xs:List τ}{enc:τ->List V1}{cuts:List Nat}{l:Nat}
theorem CallSt.ydC{d n:Nat}{x:τ}(sl:List (Nat×AV))(ob:List (Nat×Ob))(hd:o.dst=some d)(hf:ev s fo= .yl l)(hg:s.sl G= .gho (some n))(hG:look sl G=none)(hw:Weak s sl ob)(hx:xs[n]?=some x)(hv:toV1s s (args.map (ev s))=some (enc x))
  (hno:(args.map (ev s)).all (fun v=>!v.isOwn)=true)(k1:K ((St.of ((G,.gho (some (n+1)))::sl) ob).put d (.d (.bool true))))(k2:K ((St.of ((G,.gho none)::stillS sl) []).put d (.d (.bool false)))):CallSt (EYC xs enc cuts l) PP s o fo args K:=by
 rw[zag]
 exact .inr (.inr (.inr (.inl ⟨⟨n,d,sl,ob,_,hd,hf,hg,hG,hw,hv,hno,⟨x,hx,rfl⟩,k1,k2⟩⟩)))
theorem CallSt.cy{n m:Nat}{f:FuncId}{ex:List AV}{ags:Nat->List AV}{obs obs':Nat->List (Nat×Ob)}{pins:List Nat}{res resF:List V1}(sl:List (Nat×AV))(rest:List (Nat×Ob))(h:SpecY PP f (xs.map enc) n m ags obs obs' pins res resF)
  (hg:s.sl G= .gho (some n))(hG:look sl G=none)(hw:Weak s sl (obs l++rest))(hc:calleeM (ev (St.of sl (obs l++rest)) fo)=some (f,ex))(ha:(args.map (ev (St.of sl (obs l++rest)))++ex).map (fixA (obs l))=ags l)(hm:closM (obs l)=true)(hgm:goodM sl (obs l) (obs' l) rest pins=true)
  (k1:K ((St.of ((G,.gho (some (n+m)))::sl) (obs' l++rest)).putO o.dst (resAV res)))(k2:K ((St.of ((G,.gho none)::stillS sl) []).putO o.dst (resAV resF))):CallSt (EYC xs enc cuts l) PP s o fo args K:=by
 rw[zag]
 exact .inr (.inr (.inr (.inr ⟨⟨_,n,m,f,ex,ags,sl,rest,obs,obs',pins,res,resF,zkA,h,hg,hG,hw,hc,ha,hm,hgm,k1,k2⟩⟩)))
end
theorem zmO{P:Program}{a:Act}{w:World}{o:Oper}{fo:Operand}{f:FuncId}{args:Array Operand}{at':Array TypeId}(hop:o.op= .call { callee:=.value fo,args,argTypes:=at' }){u:Value}(hfo:a.eval fo= .func (.func f) #[u] #[])(hent:Ent P f):
  (execOp a.eval o).run P w= .ok (.enter f (u::args.toList.map a.eval).toArray) w:=by
 have:(u::args.toList.map a.eval).toArray= #[u]++args.map a.eval++ #[]:=by simp
 rw[this]
 simp[execOp,hop,resolve,hfo,Deferred.ofValue,invoke,zaF hent]
section
variable {s:St}{o:Oper}{fo:Operand}{K:St->Prop}{E:Env}
theorem CallSt.bn{f:FuncId}{args:Array Operand}{at':Array TypeId}(hop:o.op= .call { callee:=.value fo,args,argTypes:=at' }){m:Nat}{g:Nat->D}(hf:ev s fo= .d (.bnd f m g)){xs res:List V1}(hx:toV1s s (args.toList.map (ev s))=some xs)
  (h:SpecG E.dr PP f (.agg ((List.range m).map g)::xs) res)(hr:res.all V1.flat=true)(hk:K (s.putO o.dst (resAV res))):CallSt E PP s o fo args.toList K:=by
 rw[zag]
 refine .inr (.inr (.inl ⟨_,⟨fun cx a w hD hd hR=>?_⟩,hk⟩))
 obtain⟨γ,hg⟩:=hR
 have hc:=(ev_m hg fo).1
 rw[hf]at hc
 obtain⟨vs,hv,hl,h3⟩:=hc
 have hm:=(zbw hg hx (zbN hg args.toList)).1
 have hb:All2 (Rep w fun b=>b<w.heap.size) ((List.range m).map g) vs:=.map_left (All2.of_get (by simp[hl]) fun j q y hx hy=>by
  have hj:j<m:=by have:=(kC.1 hx).1;simpa using this
  rw[wF hj]at hx
  cases hx
  obtain⟨u,hu,hr⟩:=h3 j hj
  rw[hy]at hu;cases hu
  exact Rep.keep (fun b hb=>⟨zal hg hb,rfl⟩) hr)
 refine .enter (zmO hop hv h.1) ?_
 refine(h.2 w _ _ (fun b hb=>hb) (.cons ⟨vs,rfl,hb⟩ hm)).mono fun en w' ⟨v,e,hb,hres⟩=>⟨v,e,γ,?_⟩
 exact(hg.grow hb.1 fun e=>hb.2 (hD e)).putO hd (zaX (.inl fun b hb=>hb.elim) (zdW hr hres)) (fun j hj=>by rw[zaB]at hj;cases hj)
inductive PosC(pv:D)(ok:List Int->Bool):Prop
 |clo (g0:FuncId) (c0:D) (e:pv=cloB g0 [c0]) (h:∀s:List Int,s.length<=7->Spec PP g0 [.d (lI s),.d c0] [B (ok s)])
 |bnd (f:FuncId) (m:Nat) (g:Nat->D) (e:pv= .bnd f m g) (h:∀s:List Int,s.length<=7->Spec PP f [.agg ((List.range m).map g),.d (lI s)] [B (ok s)])
end
abbrev rowII(ss:List (List Int)):Nat->Nat->D:=fun i _=>lI (ss.getD i [])
theorem ztb{ss:List (List Int)}{k k':Nat}{s':List Int}{y:D}(hk:k<ss.length)(e1:k'=k)(hy:D.eqv y (lI s')):D.eqv (.slc 1 ss.length (storeRow (rowII ss) k' 0 [y])) (.slc 1 (ss.set k s').length (rowII (ss.set k s'))):=by
 subst e1
 refine⟨List.length_set.symm,.inr ⟨rfl,fun i hi j hj=>?_⟩⟩
 show D.eqv (storeRow (rowII ss) k' 0 [y] i j) (lI ((ss.set k' s').getD i []))
 rw[zbn ss k' i s' [] hk]
 obtain rfl:j=0:=by omega
 unfold storeRow
 by_cases h:i=k'
 ·rw[kH h,kH ⟨h,jE _,by simp⟩]
  exact hy
 rw[kG h,kG fun hh=>h hh.1]
 exact dE _
theorem zgJ{ss:List (List Int)}{s:List Int}{n:Nat}{g:Nat->Nat->D}(hn:n=ss.length)(hg:D.eqv (g 0 0) (lI s)):D.eqv (.slc 1 (n+1) (appRow n (rowII ss) g)) (.slc 1 (ss++[s]).length (rowII (ss++[s]))):=by
 subst hn
 refine⟨by simp,.inr ⟨rfl,fun i hi j hj=>?_⟩⟩
 show D.eqv (appRow ss.length (rowII ss) g i j) (lI ((ss++[s]).getD i []))
 obtain rfl:j=0:=by omega
 unfold appRow
 by_cases h:i<ss.length
 ·rw[kH h,hZ (l:=ss++[s]),jJ h,<- hZ]
  exact dE _
 have e:i=ss.length:=by omega
 subst e
 rw[kG h,kE,hZ,jK (jE _),kE]
 exact hg
theorem zok(l:List Int)(hn:l.length<=1000000):SpecO PP 39 [.d (lI l)] 3 1 l.length (rowI l):=by
 refine zdx Tryz.func39 rfl (by kernel_rfl) rfl ?_
 refine fun b hb=>?_
 apply bY<;>intro h1
 ·have h0:=hb h1
  refine⟨rfl,rfl,h0.symm,fun i hi=>?_⟩
  omega
 refine⟨⟨.inr rfl,by unfold maxLen;omega,by show(0+l.length)*8<=140737488355328;omega⟩,?_⟩
 refine⟨rfl,rfl,qB _,fun i hi j hj=>?_⟩
 exact dE _
theorem zlF(l:List Int)(hn:l.length<=1000000):Spec PP 39 [.d (lI l)] [.d (lI l)]:=by
 refine sA Tryz.func39 ?_
 refine fun b hb=>?_
 apply bY<;>intro h1
 ·have h0:=hb h1
  exact⟨⟨_,_,_,_,rfl,h0.symm,.inl rfl⟩,trivial⟩
 refine⟨⟨.inr rfl,by unfold maxLen;omega,by show(0+l.length)*8<=140737488355328;omega⟩,?_⟩
 exact⟨⟨_,_,_,_,rfl,qB _,.inr ⟨rfl,fun i hi j hj=>dE _⟩⟩,trivial⟩
def Sub{α:Type}(L:List α)(n:Nat)(L':List α):Prop:=∃u,u.length=n/\u++L'<+:L
theorem Sub.pre{α:Type}{L L' L2:List α}{n:Nat}(h:Sub L n L')(hp:L2<+:L'):Sub L n L2:=by
 obtain⟨u,h1,h2⟩:=h
 exact⟨u,h1,List.IsPrefix.trans ((List.prefix_append_right_inj _).2 hp) h2⟩
theorem Sub.snd{α:Type}{L L1 L2:List α}{n:Nat}(h:Sub L n (L1++L2)):Sub L (n+L1.length) L2:=by
 obtain⟨u,h1,h2⟩:=h
 exact⟨u++L1,by rw[jR,h1],by rw[List.append_assoc];exact h2⟩
theorem Sub.get{α:Type}{L L':List α}{x:α}{n:Nat}(h:Sub L n (x::L')):L[n]?=some x:=by
 obtain⟨u,rfl,t,h2⟩:=h
 rw[<- h2]
 simp
def prtK{α:Type}(ok:List α->Bool)(a:α)(r:List α)(ss:List (List α))(k:Nat):List (List (List α)):=(List.range k).flatMap fun k=>prt ok r (ss.set k (ss.getD k []++[a]))
theorem zd1{α:Type}(ok:List α->Bool)(a:α)(r:List α)(ss:List (List α))(k:Nat):prtK ok a r ss (k+1)=prtK ok a r ss k++prt ok r (ss.set k (ss.getD k []++[a])):=by
 unfold prtK
 rw[qU,jba];simp
theorem zi1{α:Type}(ok:List α->Bool)(a:α)(r:List α)(ss:List (List α)):∀{k m:Nat},k<=m->prtK ok a r ss k<+:prtK ok a r ss m
  |k,0,h=>by obtain rfl:k=0:=by omega
             exact List.prefix_rfl
  |k,m+1,h=>by
   by_cases e:k=m+1
   · subst e;exact List.prefix_rfl
   rw [zd1]
   exact List.IsPrefix.trans (zi1 ok a r ss (by omega)) (List.prefix_append _ _)
theorem zog{α:Type}(ok:List α->Bool)(a:α)(r:List α)(ss:List (List α)):prt ok (a::r) ss=prtK ok a r ss ss.length++prt ok r (ss++[[a]]):=rfl
section
variable (ids:List Int)(pv:D)(ok:List Int->Bool)
abbrev enP(p:List (List Int)):List V1:=[.d (lII p)]
abbrev allP:List (List (List Int)):=prt ok ids []
abbrev posD:D:=capB [pv]
def putCaps:List Cap:=[.dat (capB [lI ids]),.own 4,.dat (posD pv),.own 3,.own 5]
def putObs(ss:List (List Int))(l:Nat):List (Nat×Ob):=[(4,.box [.own 100]),(100,.row 22 1 ss.length (rowII ss)),(3,.box [.yl l]),(5,.box [.clo 188 (putCaps ids pv)])]
def putArgs(i:Nat)(_:Nat):List AV:=[.d (I i),.d (capB [lI ids]),.box 4 0,.d (posD pv),.box 3 0,.box 5 0]
end
abbrev lN(l:List Nat):D:=.slc 1 l.length fun i _=>I ((l.getD i 0:Nat):Int)
end Go.Pg
