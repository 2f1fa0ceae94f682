/- Lemmas, joined by program. -/
import Derived.Test.YtcmghlfakcppkaaGreatJC
set_option maxHeartbeats 4000000
set_option linter.all false
set_option maxRecDepth 100000
namespace Go.Pg
open Go.Proofs Go.RowKit Go.Sort Go.Shelf
theorem zqs{d:Day}{ids:List Int}(h:askE d ids=0):DayOk d:=by
 unfold askE at h
 split at h
 ·rename_i h1;exact absurd h h1
 rename_i h1;exact zaN (jL h1)
def celR(d:Day)(ids:List Int):List Place×Int:=if askE d ids≠0 then([],askE d ids)else(plsD d ids,0)
theorem zug(d:Day)(ids:List Int)(hn:d.R.length<=1000000)(hi:ids.length<=1000000):Spec PP 25 [d.v,.d (lI ids)] [.d (lP (celR d ids).1),.d (.int .i64 (celR d ids).2)]:=by
 refine sA Tryz.func25 ?_
 refine cP (zmq d ids hn hi) rfl rfl ?_
 unfold celR
 apply bY<;>intro h0
 ·rw[kH (by simpa using h0)]
  exact⟨⟨_,_,_,_,rfl,rfl,.inl rfl⟩,rtI rfl rfl,trivial⟩
 have h0:askE d ids=0:=by simpa using h0
 rw[kG (fun hh=>hh h0)]
 refine cR (zf3 (zqs h0) ids hi) rfl rfl ?_
 exact⟨dE _,rtI rfl rfl,trivial⟩
theorem zkj(d:Day)(ids:List Int)(hn:d.R.length<=1000000)(hi:ids.length<=1000000):Spec PP 26 [d.v,.d (lI ids)] [B (decide (0<(celR d ids).1.length)),.d (.int .i64 (celR d ids).2)]:=by
 refine sA Tryz.func26 ?_
 refine cR (zug d ids hn hi) rfl rfl ?_
 exact⟨rtB rfl (qI.2 (by omega)),rtI rfl rfl,trivial⟩
def parE(d:Day)(a b:Int):Int:=if dayE d≠0 then dayE d else if partB [a,b] (sigL d.R)=false then 5 else if a=b then 1 else 0
theorem zue(d:Day)(a b:Int)(hn:d.R.length<=1000000):Spec PP 40 [d.v,N a,N b] [.d (.int .i64 (parE d a b))]:=by
 refine sA Tryz.func40 ?_
 refine cP (zcu d hn) rfl rfl ?_
 unfold parE
 apply bY<;>intro h0
 ·rw[kH (by simpa using h0)]
  exact r1I rfl rfl
 have h0:dayE d=0:=by simpa using h0
 rw[kG (fun hh=>hh h0)]
 have hs:(sigL d.R).length<=1000000:=by rw[zbt];exact jM (zcC _) hn
 refine cR (za7 d hn) rfl rfl ?_
 refine fEq [15] (zqc [a,b] (sigL d.R) (by simp) hs) rfl ⟨⟨rfl,.inr ⟨rfl,fun i hi j hj=>?_⟩⟩,dE _,trivial⟩ rfl ?_
 ·match i,hi,j,hj with
  |0,_,0,_=>exact⟨rfl,rfl⟩
  |1,_,0,_=>exact⟨rfl,rfl⟩
 apply bY<;>intro h1
 ·rw[kH (by simpa using h1)]
  exact r1I rfl rfl
 rw[kG (by simpa using h1)]
 apply bY<;>intro h2
 ·rw[kH (by simpa using h2)]
  exact r1I rfl rfl
 rw[kG (by simpa using h2)]
 exact r1I rfl rfl
abbrev lPP(l:List (List (List Int))):D:=.slc 1 l.length fun i _=>lII (l.getD i [])
def bthB(a b:Int)(s:List Int):Bool:=s.contains a&&s.contains b
def togB(a b:Int)(p:List (List Int)):Bool:=p.any (bthB a b)
theorem zh0(a b:Int)(s:List Int)(hs:s.length<=1000000):Spec PP 115 [.d (lI s),.d (capB [I a]),.d (capB [I b])] [B (bthB a b s)]:=by
 refine sA Tryz.func115 ?_
 refine cP (zdj s a hs) rfl rfl ?_
 apply bY<;>intro h1
 ·have h1:s.contains a=true:=h1
  refine cP (zdj s b hs) rfl rfl ?_
  repeat first|apply sT|apply sF
  exact r1B rfl (by unfold bthB;rw[h1,qE])
 have h1:s.contains a=false:=h1
 repeat first|apply sT|apply sF
 exact r1B rfl (by unfold bthB;rw[h1,qK])
theorem zki(p:List (List Int))(a b:Int)(hp:p.length<=1000000)(hs:∀s∈p,s.length<=1000000):Spec PP 76 [.d (lII p),N a,N b] [B (togB a b p)]:=by
 refine sA Tryz.func76 ?_
 refine fEq [4,5] (znQ p 115 (capB [I a]) (capB [I b]) (bthB a b) hp fun i hi=>zh0 a b _ (hs _ ?_)) rfl ⟨dE _,⟨rfl,rfl,capB2 _ _ rfl rfl⟩,trivial⟩ rfl ?_
 ·rw[hZ,kF hi];exact kR hi
 exact r1B rfl rfl
structure Vdt where
  Ans:Int
  T:List (List Int)
  A:List (List Int)
  deriving Inhabited
abbrev Vdt.v(x:Vdt):V1:=.agg [I x.Ans,lII x.T,lII x.A]
def fstP(p:List (List Int)->Bool)(l:List (List (List Int))):List (List Int):=(l.find? p).getD []
def vdtR(l:List (List (List Int)))(a b:Int):Vdt:=
 ⟨if l.any (togB a b)=true then(if(l.any fun p=>!togB a b p)=true then 3 else 2)else 1,fstP (togB a b) l,fstP (fun p=>!togB a b p) l⟩
theorem zg3(p:List (List Int)->Bool){l:List (List (List Int))}{i:Nat}(h:i<l.length):fstP p (l.take (i+1))=if(l.take i).any p=true then fstP p (l.take i)else if p (l.getD i [])=true then l.getD i []else []:=by
 unfold fstP
 rw[zav h [],List.find?_append]
 cases hf:(l.take i).find? p with
 |some x=>
  rw[kH (kM.2 ⟨x,List.mem_of_find?_eq_some hf,List.find?_some hf⟩)];rfl
 |none=>
 rw[kG fun ha=>by
  obtain⟨x,h1,h2⟩:=kM.1 ha
  exact List.find?_eq_none.1 hf x h1 h2]
 rw[List.find?_cons]
 cases p (l.getD i [])<;>rfl
theorem zjT(p:List (List Int)->Bool){l:List (List (List Int))}{i:Nat}(h:i<l.length):(l.take (i+1)).any p=((l.take i).any p||p (l.getD i [])):=by
 rw[zav h [],List.any_append];simp
theorem zsd{p:List (List Int)->Bool}{l:List (List (List Int))}(h:l.any p=false):fstP p l=[]:=by
 unfold fstP
 rw[List.find?_eq_none.2 fun x hx hp=>by have:=jay.1 h x hx;exact this hp];rfl
theorem zbA{p:List (List Int)->Bool}{l:List (List (List Int))}{i:Nat}(h:i<l.length)(h2:(l.take i).any p=true\/p (l.getD i [])=false):fstP p (l.take (i+1))=fstP p (l.take i):=by
 rw[zg3 p h]
 by_cases h3:(l.take i).any p=true
 ·rw[kH h3]
 rw[kG h3,kG (by rw[h2.resolve_left h3];decide),zsd (by simpa using h3)]
theorem zjx{p:List (List Int)->Bool}{l:List (List (List Int))}{i:Nat}(h:i<l.length)(h2:(l.take i).any p=false)(h3:p (l.getD i [])=true):fstP p (l.take (i+1))=l.getD i []:=by
 rw[zg3 p h,kG (by rw[h2];decide),kH h3]
theorem zgV(l:List (List (List Int)))(a b:Int)(hl:l.length<=1000000)(hp:∀p∈l,p.length<=1000000/\∀s∈p,s.length<=1000000):Spec PP 32 [.d (lPP l),N a,N b] [(vdtR l a b).v]:=by
 refine sA Tryz.func32 ?_
 refine lOf (σ:=Nat) (fun i=>([(1,.d (I a)),(2,.d (I b)),(6,.box 6 0),(7,.box 7 0),(8,.d (.bool ((l.take i).any (togB a b)))),(9,.d (.bool ((l.take i).any fun p=>!togB a b p))),(12,.d (lPP l)),(13,.d (I l.length)),(14,.d (I i))],
   [(6,.box (List.replicate 3 .any)),(7,.box ([I 0,lII (fstP (togB a b) (l.take i)),lII (fstP (fun p=>!togB a b p) (l.take i))].map AV.d))])) (fun i=>i<=l.length) (fun i=>l.length-i) 0
  ⟨rfl,⟨zaz rfl rfl,⟨dE _,rfl,rfl,trivial⟩,trivial⟩,wq rfl⟩ (jF _) fun i hi=>?_
 have hi:i<=l.length:=hi
 apply bY<;>intro h1
 ·have h1:i<l.length:=by have:=dT h1;omega
  have hm:l.getD i []∈l:=by rw[hZ,kF h1];exact kR h1
  obtain⟨g1,g2⟩:=hp _ hm
  have a1:=zjT (togB a b) h1
  have a2:=zjT (fun p=>!togB a b p) h1
  refine⟨⟨rfl,by omega,by omega⟩,?_⟩
  refine cP (zki (l.getD i []) a b g1 g2) rfl rfl ?_
  apply bY<;>intro h2
  ·have h2:togB a b (l.getD i [])=true:=h2
   have h2':(!togB a b (l.getD i []))=false:=by rw[h2];rfl
   rw[h2,k9]at a1
   rw[h2',qZ]at a2
   apply bY<;>intro h3
   ·have h3:(l.take i).any (togB a b)=false:=by simpa using h3
    refine⟨i6,?_⟩
    refine⟨i+1,⟨rfl,⟨zaz rfl rfl,?_,trivial⟩,?_⟩,h1,msr h1⟩
    ·rw[zjx (p:=togB a b) h1 h3 h2,zbA (p:=fun p=>!togB a b p) h1 (.inr h2')];exact⟨dE _,dE _,dE _,trivial⟩
    rw[a1,a2];exact wq rfl
   have h3:(l.take i).any (togB a b)=true:=by simpa using h3
   refine⟨i6,?_⟩
   refine⟨i+1,⟨rfl,⟨zaz rfl rfl,?_,trivial⟩,?_⟩,h1,msr h1⟩
   ·rw[zbA (p:=togB a b) h1 (.inl h3),zbA (p:=fun p=>!togB a b p) h1 (.inr h2')];exact⟨dE _,dE _,dE _,trivial⟩
   rw[a1.trans h3.symm,a2];exact wq rfl
  have h2:togB a b (l.getD i [])=false:=h2
  have h2':(!togB a b (l.getD i []))=true:=by rw[h2];rfl
  rw[h2,qZ]at a1
  rw[h2',k9]at a2
  apply bY<;>intro h3
  ·have h3:((l.take i).any fun p=>!togB a b p)=false:=by simpa using h3
   refine⟨i6,?_⟩
   refine⟨i+1,⟨rfl,⟨zaz rfl rfl,?_,trivial⟩,?_⟩,h1,msr h1⟩
   ·rw[zbA (p:=togB a b) h1 (.inr h2),zjx (p:=fun p=>!togB a b p) h1 h3 h2'];exact⟨dE _,dE _,dE _,trivial⟩
   rw[a1,a2];exact wq rfl
  have h3:((l.take i).any fun p=>!togB a b p)=true:=by simpa using h3
  refine⟨i6,?_⟩
  refine⟨i+1,⟨rfl,⟨zaz rfl rfl,?_,trivial⟩,?_⟩,h1,msr h1⟩
  ·rw[zbA (p:=togB a b) h1 (.inr h2),zbA (p:=fun p=>!togB a b p) h1 (.inl h3)];exact⟨dE _,dE _,dE _,trivial⟩
  rw[a1,a2.trans h3.symm];exact wq rfl
 have h1:i=l.length:=by have:=dF h1;omega
 subst h1
 rw[jZ]
 unfold vdtR
 apply bY<;>intro h2
 ·have h2:l.any (togB a b)=true:=h2
  rw[kH h2]
  repeat first|apply sT|apply sF
  apply bY<;>intro h3
  ·have h3:(l.any fun p=>!togB a b p)=true:=h3
   rw[kH h3]
   exact⟨rtC (a:=6) rfl rfl rfl rfl rfl rfl (zaa _),trivial⟩
  have h3:(l.any fun p=>!togB a b p)=false:=h3
  rw[kG (by rw[h3];decide)]
  refine sYe h2 ?_
  exact⟨rtC (a:=6) rfl rfl rfl rfl rfl rfl (zaa _),trivial⟩
 have h2:l.any (togB a b)=false:=h2
 rw[kG (by rw[h2];decide)]
 repeat first|apply sT|apply sF
 refine sNo h2 ?_
 exact⟨rtC (a:=6) rfl rfl rfl rfl rfl rfl (zaa _),trivial⟩
theorem zeF(s:Svc)(r:Rpt):Spec PP 91 [s.v,r.v] [.d (.int .i64 (crpE s r))]:=by
 refine sA Tryz.func91 ?_
 refine cP (zfE s) rfl rfl ?_
 apply bY<;>intro h0
 ·have h0:svcE s≠0:=by simpa using h0
  refine r1I rfl ?_
  unfold crpE;rw[kH h0]
 have h0:svcE s=0:=by simpa using h0
 have ok:=zcl h0
 refine cP (zgF s r (by have:=ok.c.t;omega) (by have:=ok.k.n;omega)) rfl rfl ?_
 refine r1I rfl ?_
 unfold crpE;rw[kG (fun hh=>hh h0)]
theorem ziS(d:Day)(hn:d.R.length<=1000000):Spec PP 51 [d.v] [.d (.int .i64 (dayE d))]:=by
 refine sA Tryz.func51 ?_
 refine cP (zfE d.s) rfl rfl ?_
 apply bY<;>intro h0
 ·refine r1I rfl ?_
  unfold dayE;rw[kH (by simpa using h0)]
 have h0:svcE d.s=0:=by simpa using h0
 have bad:(!within d.Rise 0 200|| !within d.Long 0 1440)=true->dayE d=1:=fun h=>by unfold dayE;rw[kG (fun hh=>hh h0),kH h]
 apply bY<;>intro h1
 ·have h1:d.Rise<0:=dT h1
  repeat first|apply sT|apply sF
  refine r1I rfl (bad ?_).symm
  unfold within;rw[jH (by omega:¬0<=d.Rise)];rfl
 have h1:¬d.Rise<0:=dF h1
 repeat first|apply sT|apply sF
 apply bY<;>intro h2
 ·have h2:200<d.Rise:=dT h2
  repeat first|apply sT|apply sF
  refine r1I rfl (bad ?_).symm
  unfold within;rw[jH (by omega:¬d.Rise<=200),kW];rfl
 have h2:¬200<d.Rise:=dF h2
 repeat first|apply sT|apply sF
 apply bY<;>intro h3
 ·have h3:d.Long<0:=dT h3
  repeat first|apply sT|apply sF
  refine r1I rfl (bad ?_).symm
  unfold within;rw[jH (by omega:¬0<=d.Long),qK,Bool.not_false,k9]
 have h3:¬d.Long<0:=dF h3
 repeat first|apply sT|apply sF
 apply bY<;>intro h4
 ·have h4:1440<d.Long:=dT h4
  repeat first|apply sT|apply sF
  refine r1I rfl (bad ?_).symm
  unfold within;rw[jH (by omega:¬d.Long<=1440),kW,Bool.not_false,k9]
 have h4:¬1440<d.Long:=dF h4
 have w1:within d.Rise 0 200=true:=by unfold within;rw[jG (by omega:0<=d.Rise),jG (by omega:d.Rise<=200)];rfl
 have w2:within d.Long 0 1440=true:=by unfold within;rw[jG (by omega:0<=d.Long),jG (by omega:d.Long<=1440)];rfl
 refine cR (zdY d hn) rfl rfl ?_
 have e1:(sigL d.R).length=(sigK d.R).length:=zbt d.R
 have eg:dayE d=if 7<(sigK d.R).length\/10+(sigK d.R).length<d.R.length then 2 else err1 (day1E d) d.R.length:=by
  unfold dayE;rw[kG (fun hh=>hh h0),kG (by rw[w1,w2];decide)]
 rw[eg]
 apply bY<;>intro h5
 ·have h5:7<(sigK d.R).length:=by have:(7:Int)<(sigL d.R).length:=dT h5;omega
  repeat first|apply sT|apply sF
  refine r1I rfl ?_
  rw[kH (.inl h5)]
 have h5:¬7<(sigK d.R).length:=by have:¬(7:Int)<(sigL d.R).length:=dF h5;omega
 refine⟨i6,?_⟩
 repeat first|apply sT|apply sF
 apply bY<;>intro h6
 ·have h6:10+(sigK d.R).length<d.R.length:=by have:(10:Int)<(d.R.length:Int)-(sigL d.R).length:=dT h6;omega
  refine r1I rfl ?_
  rw[kH (.inr h6)]
 have h6:¬10+(sigK d.R).length<d.R.length:=by have:¬(10:Int)<(d.R.length:Int)-(sigL d.R).length:=dF h6;omega
 rw[kG (fun h=>h.elim h5 h6)]
 have hl:d.R.length<=17:=by omega
 refine lOf (σ:=Nat) (fun i=>([(1,.box 1 0),(5,.d (I i))],[(1,.box (d.ds.map AV.d))])) (fun i=>i<=d.R.length/\∀j,j<i->day1E d j=0) (fun i=>d.R.length-i) 0
  ⟨rfl,⟨obD d.ds rfl,trivial⟩,wq rfl⟩ z0L fun i hi=>?_
 obtain⟨hi,ha⟩:=hi
 apply bY<;>intro h7
 ·have h7:i<d.R.length:=by have:=dT h7;omega
  refine oN 9 ?_
  refine⟨⟨rfl,by omega,by omega⟩,?_⟩
  refine oP (zeF d.s (d.R.getD i default)) rfl rfl ?_
  apply bY<;>intro h8
  ·have h8:crpE d.s (d.R.getD i default)≠0:=by simpa using h8
   have e2:day1E d i=crpE d.s (d.R.getD i default):=by unfold day1E;rw[kH h8]
   refine r1I rfl ?_
   rw[zan ha (by rw[e2];exact h8) h7,e2]
  have h8:crpE d.s (d.R.getD i default)=0:=by simpa using h8
  refine lOf (σ:=Nat) (fun k=>([(1,.box 1 0),(5,.d (I i)),(6,.d (I k))],[(1,.box (d.ds.map AV.d))])) (fun k=>k<=i/\∀j,j<k->((d.R.getD j default).ID==(d.R.getD i default).ID)=false) (fun k=>i-k) 0
   ⟨rfl,⟨obD d.ds rfl,trivial⟩,wq rfl⟩ z0L fun k hk=>?_
  obtain⟨hk,hb⟩:=hk
  apply bY<;>intro h9
  ·have h9:k<i:=by have:=dT h9;omega
   refine oN 13 ?_
   refine⟨⟨rfl,by omega,by omega⟩,?_⟩
   refine⟨⟨rfl,by omega,by omega⟩,?_⟩
   apply bY<;>intro h10
   ·have h10:((d.R.getD k default).ID==(d.R.getD i default).ID)=true:=h10
    have hm:d.R.getD k default∈d.R.take i:=by
     rw[hZ,kF (by omega)]
     have:(d.R.take i)[k]'(by rw[jQ];omega)=d.R[k]'(by omega):=ja3
     show d.R[k]'(by omega)∈_
     rw[<- this]
     exact kR _
    have e2:day1E d i=6:=by unfold day1E;rw[kG (fun hh=>hh h8),kH (kM.2 ⟨_,hm,h10⟩)]
    refine r1I rfl ?_
    rw[zan ha (by rw[e2];decide) h7,e2]
   have h10:((d.R.getD k default).ID==(d.R.getD i default).ID)=false:=h10
   refine⟨i6,?_⟩
   refine⟨k+1,⟨rfl,⟨obD d.ds rfl,trivial⟩,wq rfl⟩,⟨h9,fun j hj=>?_⟩,msr h9⟩
   by_cases e:j=k
   ·subst e;exact h10
   exact hb j (by omega)
  have h9:k=i:=by have:=dF h9;omega
  subst h9
  have e2:day1E d k=0:=by
   unfold day1E
   rw[kG (fun hh=>hh h8),kG fun hh=>?_]
   obtain⟨x,hx,hq⟩:=kM.1 hh
   obtain⟨j,hj,rfl⟩:=kP hx
   rw[jQ]at hj
   have:=hb j (by omega)
   rw[hZ,kF (by omega:j<d.R.length)]at this
   rw[ja3]at hq
   exact absurd hq (by rw[show(d.R[j].ID==(d.R.getD k default).ID)=false from this];decide)
  refine⟨i6,?_⟩
  refine⟨k+1,⟨rfl,⟨obD d.ds rfl,trivial⟩,wq rfl⟩,⟨h7,fun j hj=>?_⟩,msr h7⟩
  by_cases e:j=k
  ·subst e;exact e2
  exact ha j (by omega)
 have h7:i=d.R.length:=by have:=dF h7;omega
 subst h7
 refine r1I rfl ?_
 rw[zaJ ha]
theorem zlE{a b:List Int}:partB a b=true↔∀j,j<a.length->b.contains (a.getD j 0)=true:=by
 unfold partB
 rw[jC]
 constructor
 ·intro h j hj
  rw[hZ,kF hj]
  exact h _ (kR hj)
 intro h x hx
 obtain⟨j,hj,rfl⟩:=kP hx
 have:=h j hj
 rw[hZ,kF hj]at this
 exact this
theorem ziK{l:List Rpt}{x:Int}(h:x∈sigK l):∃r∈l,r.ID=x:=by
 unfold sigK at h
 obtain⟨r,hr,e⟩:=kJ.1 h
 exact⟨r,(kS.1 hr).1,e⟩
theorem ziJ{l:List Rpt}{x:Int}:x∈sigL l↔x∈sigK l:=(jaL _ _).mem_iff
theorem zsI{d:Day}{ids:List Int}(h:askE d ids=0):(d.R.any fun r=>ids.contains r.ID)=true:=by
 unfold askE at h
 split at h
 ·rename_i h1;exact absurd h h1
 split at h
 ·cases h
 rename_i h2
 split at h
 ·cases h
 rename_i h3
 have hs:setB ids=true:=by simpa using h2
 have hp:partB ids (sigL d.R)=true:=by simpa using h3
 have hl:0<ids.length:=by unfold setB at hs;simp at hs;exact hs.2
 have h4:=zlE.1 hp 0 hl
 obtain⟨r,hr,e⟩:=ziK (ziJ.1 (kD.1 h4))
 refine kM.2 ⟨r,hr,kD.2 ?_⟩
 rw[e,hZ,kF hl]
 exact kR hl
theorem zkR{d:Day}(h:DayOk d){ids:List Int}(ha:(d.R.any fun r=>ids.contains r.ID)=true):tldL d ids=plsD d ids:=by
 unfold tldL plsD
 rw[zsF h ha]
 by_cases g:(brnD d ids).To-(brnD d ids).From<=d.Long
 ·rw[kH g,kG (by omega)]
 rw[kG g,kH (by omega)]
theorem eqP7(p q:Place):(p.X==q.X&&(p.Y==q.Y&&true))=(p==q):=by
 have e:(p==q)=decide (p=q):=rfl
 rw[e,kQ]
 obtain⟨a,b⟩:=p
 obtain⟨a',b'⟩:=q
 simp
theorem zkJ(a b:List Place)(hn:a.length<=1000000):Spec PP 23 [.d (lP a),.d (lP b)] [B (decide (a=b))]:=by
 refine znL Tryz.func23 rfl (by kernel_rfl) rfl ?_
 apply bY<;>intro h0
 ·have h0:¬a.length=b.length:=fun e=>by
   have:¬(a.length:Int)=b.length:=by simpa using h0
   exact this (by rw[e])
  refine r1B rfl ?_
  exact(jH fun e=>h0 (by rw[e])).symm
 have h0:a.length=b.length:=by
  have:(a.length:Int)=b.length:=by simpa using h0
  omega
 refine lOf (σ:=Nat) (fun i=>([(0,.d (lP a)),(1,.d (lP b)),(5,.d (I i))],[])) (fun i=>i<=a.length/\∀j,j<i->a.getD j default=b.getD j default) (fun i=>a.length-i) 0
  ⟨rfl,trivial,wq rfl⟩ z0L fun i hi=>?_
 obtain⟨hi,ha⟩:=hi
 apply bY<;>intro h1
 ·have h1:i<a.length:=by have:=dT h1;omega
  refine oN 9 ?_
  refine⟨⟨rfl,by omega,by omega⟩,?_⟩
  refine⟨⟨rfl,by omega,by omega⟩,?_⟩
  apply bY<;>intro h3
  ·have h3:(a.getD i default==b.getD i default)=false:=by
    have h3:=(jI (!·) (eqP7 (a.getD i default) (b.getD i default))).symm.trans h3
    simpa using h3
   refine r1B rfl ?_
   refine(jH fun e=>?_).symm
   subst e
   simp at h3
  have h3:(a.getD i default==b.getD i default)=true:=by
   have h3:=(jI (!·) (eqP7 (a.getD i default) (b.getD i default))).symm.trans h3
   simpa using h3
  refine⟨i6,?_⟩
  refine⟨i+1,⟨rfl,trivial,wq rfl⟩,⟨h1,fun j hj=>?_⟩,msr h1⟩
  by_cases e:j=i
  ·subst e;exact eq_of_beq h3
  exact ha j (by omega)
 have h1:i=a.length:=by have:=dF h1;omega
 subst h1
 refine r1B rfl ?_
 symm
 refine jG ?_
 apply List.ext_getElem h0
 intro j hj hj'
 have:=ha j hj
 rw[hZ,hZ,kF hj,kF hj']at this
 exact this
def sml7(d:Day):Prop:=d.s.c.M.G.length<=81/\d.s.c.T.length<=4/\d.s.c.Z.length<=8/\d.s.k.C.length<=4/\d.s.k.K.length<=12/\d.R.length<=40
instance decSml7(d:Day):Decidable (sml7 d):=by unfold sml7;infer_instance
def few7(d:Day):Prop:=sml7 d/\(((sigK d.R).length<=5/\d.R.length<=4+(sigK d.R).length)\/7<(sigK d.R).length\/10+(sigK d.R).length<d.R.length)
instance decFew7(d:Day):Decidable (few7 d):=by unfold few7;infer_instance
theorem zsU(d:Day):Spec PP 7 [d.v] [B (decide (few7 d))]:=by
 refine sA Tryz.func7 ?_
 have no:¬sml7 d->false=decide (few7 d):=fun h=>(jH fun hh=>h hh.1).symm
 apply bY<;>intro g0
 ·have g:(81:Int)<d.s.c.M.G.length:=dT g0
  repeat first|apply sT|apply sF
  exact r1B rfl (no fun hh=>by unfold sml7 at hh;omega)
 have g0:¬81<d.s.c.M.G.length:=by have:¬(81:Int)<d.s.c.M.G.length:=dF g0;omega
 repeat first|apply sT|apply sF
 apply bY<;>intro g1
 ·have g:(4:Int)<d.s.c.T.length:=dT g1
  repeat first|apply sT|apply sF
  exact r1B rfl (no fun hh=>by unfold sml7 at hh;omega)
 have g1:¬4<d.s.c.T.length:=by have:¬(4:Int)<d.s.c.T.length:=dF g1;omega
 repeat first|apply sT|apply sF
 apply bY<;>intro g2
 ·have g:(8:Int)<d.s.c.Z.length:=dT g2
  repeat first|apply sT|apply sF
  exact r1B rfl (no fun hh=>by unfold sml7 at hh;omega)
 have g2:¬8<d.s.c.Z.length:=by have:¬(8:Int)<d.s.c.Z.length:=dF g2;omega
 repeat first|apply sT|apply sF
 apply bY<;>intro g3
 ·have g:(4:Int)<d.s.k.C.length:=dT g3
  repeat first|apply sT|apply sF
  exact r1B rfl (no fun hh=>by unfold sml7 at hh;omega)
 have g3:¬4<d.s.k.C.length:=by have:¬(4:Int)<d.s.k.C.length:=dF g3;omega
 repeat first|apply sT|apply sF
 apply bY<;>intro g4
 ·have g:(12:Int)<d.s.k.K.length:=dT g4
  repeat first|apply sT|apply sF
  exact r1B rfl (no fun hh=>by unfold sml7 at hh;omega)
 have g4:¬12<d.s.k.K.length:=by have:¬(12:Int)<d.s.k.K.length:=dF g4;omega
 repeat first|apply sT|apply sF
 apply bY<;>intro g5
 ·have g:(40:Int)<d.R.length:=dT g5
  repeat first|apply sT|apply sF
  exact r1B rfl (no fun hh=>by unfold sml7 at hh;omega)
 have g5:¬40<d.R.length:=by have:¬(40:Int)<d.R.length:=dF g5;omega
 have hs:sml7 d:=⟨by omega,by omega,by omega,by omega,by omega,by omega⟩
 have e1:(sigL d.R).length=(sigK d.R).length:=zbt d.R
 refine cR (zdY d (by omega)) rfl rfl ?_
 have hk:=zcC d.R
 have yes:(((sigK d.R).length<=5/\d.R.length<=4+(sigK d.R).length)\/7<(sigK d.R).length\/10+(sigK d.R).length<d.R.length)->true=decide (few7 d):=fun h=>(jG (⟨hs,h⟩:few7 d)).symm
 apply bY<;>intro h1
 ·have h1:(sigK d.R).length<=5:=by have:((sigL d.R).length:Int)<=5:=dT h1;omega
  refine⟨i6,?_⟩
  repeat first|apply sT|apply sF
  apply bY<;>intro h2
  ·have h2:d.R.length<=4+(sigK d.R).length:=by have:(d.R.length:Int)-(sigL d.R).length<=4:=dT h2;omega
   repeat first|apply sT|apply sF
   exact r1B rfl (yes (.inl ⟨h1,h2⟩))
  have h2:¬d.R.length<=4+(sigK d.R).length:=by have:¬(d.R.length:Int)-(sigL d.R).length<=4:=dF h2;omega
  repeat first|apply sT|apply sF
  refine sNo (jH (by omega)) ?_
  refine⟨i6,?_⟩
  repeat first|apply sT|apply sF
  refine r1B rfl ?_
  refine qI.2 ⟨fun h=>⟨hs,.inr (.inr (by omega))⟩,fun h=>?_⟩
  rcases h.2 with h3|h3|h3
  ·exact absurd h3.2 h2
  ·omega
  omega
 have h1:¬(sigK d.R).length<=5:=by have:¬((sigL d.R).length:Int)<=5:=dF h1;omega
 repeat first|apply sT|apply sF
 apply bY<;>intro h2
 ·have h2:7<(sigK d.R).length:=by have:(7:Int)<(sigL d.R).length:=dT h2;omega
  repeat first|apply sT|apply sF
  exact r1B rfl (yes (.inr (.inl h2)))
 have h2:¬7<(sigK d.R).length:=by have:¬(7:Int)<(sigL d.R).length:=dF h2;omega
 repeat first|apply sT|apply sF
 refine⟨i6,?_⟩
 repeat first|apply sT|apply sF
 refine r1B rfl ?_
 refine qI.2 ⟨fun h=>⟨hs,.inr (.inr (by omega))⟩,fun h=>?_⟩
 rcases h.2 with h3|h3|h3
 ·exact absurd h3.1 h1
 ·exact absurd h3 h2
 omega
def fitX(d:Day)(m:Nat):Bool:=decide (0<m)&&decide (0<(tldL d (memb (sigL d.R) m)).length)
abbrev lBo(n:Nat)(p:Nat->Bool):D:=.slc 1 n fun i _=>.bool (p i)
theorem zra{d:Day}(h:DayOk d):Spec PP 90 [d.v] [.d (lBo (2^(sigL d.R).length) (fitX d))]:=by
 have hn:=h.n
 have h7:=sig7 h
 have es:IntKind.wrap .i64 (1*2^(min (((sigL d.R).length:Nat):Int).toNat (IntKind.bits .i64)))=((2^(sigL d.R).length:Nat):Int):=bShl h7
 have hp:2^(sigL d.R).length<=2^7:=jah (by decide) h7
 have h1p:1<=2^(sigL d.R).length:=Nat.one_le_two_pow
 refine sA Tryz.func90 ?_
 refine cR (zdY d (by omega)) rfl rfl ?_
 refine⟨by omega,?_⟩
 have et:(IntKind.wrap .i64 (1*2^(min (((sigL d.R).length:Nat):Int).toNat (IntKind.bits .i64)))).toNat=2^(sigL d.R).length:=by rw[es];exact wB _
 refine⟨⟨by rw[es];omega,rfl,by rw[et];show 2^(sigL d.R).length*1<=16777216;omega,by rw[et];show 2^(sigL d.R).length*1<=140737488355328;omega⟩,?_⟩
 refine lOf (σ:=Nat) (fun m=>([(1,.box 1 0),(3,.d (lI (sigL d.R))),(4,.own 11),(5,.d (I m))],[(1,.box (d.ds.map AV.d)),(11,.row 4 1 (2^(sigL d.R).length) (fun i _=>.bool (decide (i<m)&&fitX d i)))])) (fun m=>1<=m/\m<=2^(sigL d.R).length) (fun m=>2^(sigL d.R).length-m) 1
  ⟨rfl,⟨obD d.ds rfl,obR rfl ⟨et,.inr ⟨rfl,fun i hi j hj=>?_⟩⟩,trivial⟩,wq rfl⟩ ⟨jE _,h1p⟩ fun m hm=>?_
 ·obtain rfl:j=0:=jap.1 hj
  show D.eqv (.bool false) (.bool (decide (i<1)&&fitX d i))
  have:(decide (i<1)&&fitX d i)=false:=by
   unfold fitX
   by_cases e:i=0
   ·subst e;rfl
   rw[jH (by omega),qK]
  rw[this]
  rfl
 obtain⟨hm,hm2⟩:=hm
 apply bY<;>intro h1
 ·have h1:m<2^(sigL d.R).length:=by have:=dT h1;omega
  refine oN 12 ?_
  refine oRo (zdX (sigL d.R) m h7 (by omega)) rfl rfl ?_
  refine oRo (zld h (memb (sigL d.R) m) (jM (zbl _ _ _) (by omega))) rfl rfl ?_
  refine⟨⟨by omega,by omega⟩,⟨by omega,?_⟩⟩
  refine⟨i6,?_⟩
  refine⟨m+1,⟨rfl,⟨obD d.ds rfl,obR rfl ⟨rfl,.inr ⟨rfl,fun i hi j hj=>?_⟩⟩,trivial⟩,wq rfl⟩,⟨by omega,h1⟩,(show 2^(sigL d.R).length-(m+1)<2^(sigL d.R).length-m by omega)⟩
  obtain rfl:j=0:=jap.1 hj
  have em:((m:Nat):Int).toNat=m:=wB m
  show D.eqv (storeRow (fun i _=>.bool (decide (i<m)&&fitX d i)) ((m:Nat):Int).toNat 0 [.bool (decide ((0:Int)<((tldL d (memb (sigL d.R) m)).length:Nat)))] i 0) (.bool (decide (i<m+1)&&fitX d i))
  unfold storeRow
  rw[em]
  by_cases e:i=m
  ·subst e
   rw[kH ⟨rfl,jE _,by simp⟩]
   show D.eqv (.bool (decide ((0:Int)<((tldL d (memb (sigL d.R) i)).length:Nat)))) _
   rw[jG (by omega:i<i+1),qE]
   unfold fitX
   rw[jG (by omega:0<i),qE]
   exact qI.2 (by omega)
  rw[kG fun hh=>e hh.1]
  show D.eqv (.bool (decide (i<m)&&fitX d i)) _
  rw[show decide (i<m+1)=decide (i<m)from qI.2 (by omega)]
  exact dE _
 have h1:m=2^(sigL d.R).length:=by have:=dF h1;omega
 subst h1
 refine⟨⟨_,_,_,_,rfl,rfl,.inr ⟨rfl,fun i hi j hj=>?_⟩⟩,trivial⟩
 show D.eqv (.bool (decide (i<2^(sigL d.R).length)&&fitX d i)) (.bool (fitX d i))
 rw[jG hi,qE]
 exact dE _
abbrev rowN(l:List Nat):Nat->Nat->D:=fun i _=>I ((l.getD i 0:Nat):Int)
theorem pushN{l:List Nat}{x n:Nat}{g:Nat->Nat->D}(hn:n=l.length)(hg:D.eqv (g 0 0) (I x)):D.eqv (.slc 1 (n+1) (appRow n (rowN l) g)) (.slc 1 (l++[x]).length (rowN (l++[x]))):=by
 subst hn
 refine⟨by simp,.inr ⟨rfl,fun i hi j hj=>?_⟩⟩
 obtain rfl:j=0:=by omega
 show D.eqv (appRow l.length (rowN l) g i 0) (I (((l++[x]).getD i 0:Nat):Int))
 unfold appRow
 by_cases h:i<l.length
 ·rw[kH h,hZ,jJ h,<- hZ]
  exact dE _
 have e:i=l.length:=by omega
 subst e
 rw[kG h,kE,hZ,jK (jE _),kE]
 exact hg
def mst(ix:List Nat):Nat:=ix.foldl (fun a k=>max a (k+1)) 0
theorem zcb(ix:List Nat)(k:Nat):mst (ix++[k])=max (mst ix) (k+1):=by unfold mst;rw[wJ];rfl
def bit1(o:List Nat)(i k:Nat):List Nat:=if k<o.length then o.set k (o.getD k 0+2^i)else o++[2^i]
def bitK(ix:List Nat)(i:Nat):List Nat:=(List.range i).foldl (fun o i=>bit1 o i (ix.getD i 0)) []
def bitX(ix:List Nat):List Nat:=bitK ix ix.length
theorem zbB(ix:List Nat)(i:Nat):bitK ix (i+1)=bit1 (bitK ix i) i (ix.getD i 0):=by
 unfold bitK
 rw[qU,wJ];rfl
def Rg(ix:List Nat):Prop:=∀i,i<ix.length->ix.getD i 0<=mst (ix.take i)
theorem Rg.snoc{ix:List Nat}{k:Nat}(h:Rg ix)(hk:k<=mst ix):Rg (ix++[k]):=fun i hi=>by
 rw[jR,qR]at hi
 by_cases e:i<ix.length
 ·rw[hZ,jJ e,<- hZ,List.take_append_of_le_length (by omega)]
  exact h i e
 have e:i=ix.length:=by omega
 subst e
 rw[hZ,jK (jE _),kE,List.take_append_of_le_length (jE _),jZ]
 exact hk
theorem zcJ{ix:List Nat}{i:Nat}(h:i<ix.length):mst (ix.take (i+1))=max (mst (ix.take i)) (ix.getD i 0+1):=by rw[zav h 0,zcb]
theorem zba{ix:List Nat}(h:Rg ix):∀i,i<=ix.length->(bitK ix i).length=mst (ix.take i)
 |0,_=>rfl
 |i+1,hi=>by
  have ih:=zba h i (by omega)
  have:=h i (by omega)
  rw[zbB,zcJ (by omega)]
  unfold bit1
  split
  ·rw[jal];omega
  rw[jR,qR];omega
theorem zaT(ix:List Nat):∀i,∀x∈bitK ix i,0<x/\x<2^i
 |0,x,h=>by cases h
 |i+1,x,h=>by
  rw[zbB]at h
  have hp:2^(i+1)=2^i+2^i:=by rw[Nat.pow_succ];omega
  have h1:=Nat.two_pow_pos i
  unfold bit1 at h
  split at h
  ·rename_i hk
   rcases jbB h with h|rfl
   ·have:=zaT ix i x h;omega
   have:(bitK ix i).getD (ix.getD i 0) 0∈bitK ix i:=by rw[hZ,kF hk];exact kR hk
   have:=zaT ix i _ this;omega
  rcases kL.1 h with h|h
  ·have:=zaT ix i x h;omega
  rw[kI.1 h];omega
theorem zgN(ix:List Nat){i:Nat}(h:Rg ix)(hi:i<=ix.length):mst (ix.take i)<=i:=by
 induction i with
 |zero=>simp[mst]
 |succ i ih=>
 have:=ih (by omega)
 have:=h i (by omega)
 rw[zcJ (by omega)];omega
theorem zjt{l:List Nat}{k j x:Nat}(hk:k<l.length):(l.set k x).getD j 0=if j=k then x else l.getD j 0:=by
 rw[hZ,List.getElem?_set]
 by_cases e:j=k
 ·subst e;rw[kH rfl,kH hk,kH rfl];rfl
 rw[kG (fun h=>e h.symm),kG e,<- hZ]
theorem setN{l:List Nat}{k x:Nat}{n:Nat}{f:Nat->Nat->D}(hk:k<l.length)(hf:D.eqv (.slc 1 n f) (.slc 1 l.length (rowN l))):D.eqv (.slc 1 n (storeRow f k 0 [I (x:Int)])) (.slc 1 (l.set k x).length (rowN (l.set k x))):=by
 obtain⟨e,h⟩:=hf
 refine⟨by rw[jal];exact e,.inr ⟨rfl,fun i hi j hj=>?_⟩⟩
 obtain rfl:j=0:=by omega
 show D.eqv (storeRow f k 0 [I (x:Int)] i 0) (I (((l.set k x).getD i 0:Nat):Int))
 rw[zjt hk]
 unfold storeRow
 by_cases e1:i=k
 ·subst e1
  rw[kH ⟨rfl,jE _,by simp⟩,kH rfl]
  exact dE _
 rw[kG (fun hh=>e1 hh.1),kG e1]
 rcases h with h|⟨_,h⟩
 ·omega
 exact h i hi 0 (by omega)
theorem zby(ix:List Nat)(hr:Rg ix)(hn:ix.length<=7):Spec PP 48 [.d (lN ix)] [.d (lN (bitX ix))]:=by
 refine zb9 [7] Tryz.func48 rfl (by kernel_rfl) rfl ?_
 refine lOf (σ:=Nat) (fun i=>([(0,.d (lN ix)),(3,.own 3),(4,.d (I i))],[(3,.row 3 1 (bitK ix i).length (rowN (bitK ix i)))])) (fun i=>i<=ix.length) (fun i=>ix.length-i) 0
  ⟨rfl,⟨obR rfl ⟨rfl,.inl rfl⟩,trivial⟩,wq rfl⟩ (jF _) fun i hi=>?_
 have hi:i<=ix.length:=hi
 have hl:=zba hr i hi
 have hm:=zgN ix hr hi
 apply bY<;>intro h1
 ·have h1:i<ix.length:=by have:=dT h1;omega
  have hk:=hr i h1
  have es:IntKind.wrap .i64 (1*2^(min ((i:Nat):Int).toNat (IntKind.bits .i64)))=((2^i:Nat):Int):=bShl (by omega)
  have h2i:2^i<=2^7:=jah (by decide) (by omega)
  have e1:((i:Nat):Int).toNat=i:=wB i
  refine⟨⟨rfl,by omega,by omega⟩,?_⟩
  apply bY<;>intro h2
  ·have h2:ix.getD i 0=(bitK ix i).length:=by
    have h2:((ix.getD i 0:Nat):Int)=((bitK ix i).length:Int):=by simpa using h2
    omega
   have eb:bitK ix (i+1)=(bitK ix i++[0]).set (ix.getD i 0) ((bitK ix i++[0]).getD (ix.getD i 0) 0+2^i):=by
    rw[zbB,bit1,kG (by omega),h2,List.set_append_right _ _ (jE _),kE,hZ,jK (jE _),kE]
    show _=_++[0+2^i]
    rw[qB]
   refine⟨⟨.inr rfl,by unfold maxLen;omega,by show((bitK ix i).length+1)*8<=140737488355328;omega⟩,?_⟩
   refine kAt [(0,.d (lN ix)),(3,.own 3),(4,.d (I i))] [(3,.row 3 1 (bitK ix i++[0]).length (rowN (bitK ix i++[0])))] ⟨rfl,⟨obR rfl (pushN (l:=bitK ix i) (x:=0) rfl (by exact⟨rfl,rfl⟩)),trivial⟩,wq rfl⟩ ?_
   have hlo:ix.getD i 0<(bitK ix i++[0]).length:=by rw[h2,jR];exact Nat.lt_succ_self _
   have hx:(bitK ix i++[0]).getD (ix.getD i 0) 0<2^i:=by rw[h2,hZ,jK (jE _),kE];exact Nat.two_pow_pos i
   generalize bitK ix i++[0]=o at hlo hx eb
   refine oN 17 ?_
   refine⟨⟨rfl,by omega,by omega⟩,?_⟩
   refine⟨⟨rfl,by omega,by omega⟩,?_⟩
   refine⟨⟨by omega,by show((ix.getD i 0:Nat):Int)<(o.length:Int);omega⟩,?_⟩
   refine⟨by show(((ix.getD i 0:Nat):Int)).toNat<o.length;omega,?_⟩
   refine⟨by omega,?_⟩
   refine⟨by rw[es];show inR .i64 (((o.getD (((ix.getD i 0:Nat):Int)).toNat 0:Nat):Int)+((2^i:Nat):Int));rw[wB];exact i6,?_⟩
   refine⟨⟨by omega,by show((ix.getD i 0:Nat):Int)<(o.length:Int);omega⟩,?_⟩
   refine⟨by show(((ix.getD i 0:Nat):Int)).toNat<o.length;omega,?_⟩
   refine⟨i6,?_⟩
   refine⟨i+1,⟨rfl,⟨obR rfl ?_,trivial⟩,wq rfl⟩,h1,msr h1⟩
   rw[eb]
   have:=setN (x:=o.getD (ix.getD i 0) 0+2^i) hlo (dE (.slc 1 o.length (rowN o)))
   rw[Int.natCast_add]at this
   rw[<- es]at this
   exact this
  have h2:ix.getD i 0<(bitK ix i).length:=by
   have h2:¬((ix.getD i 0:Nat):Int)=((bitK ix i).length:Int):=by simpa using h2
   omega
  have eb:bitK ix (i+1)=(bitK ix i).set (ix.getD i 0) ((bitK ix i).getD (ix.getD i 0) 0+2^i):=by rw[zbB,bit1,kH h2]
  refine kAt [(0,.d (lN ix)),(3,.own 3),(4,.d (I i))] [(3,.row 3 1 (bitK ix i).length (rowN (bitK ix i)))] ⟨rfl,⟨obR rfl (dE _),trivial⟩,wq rfl⟩ ?_
  have hlo:ix.getD i 0<(bitK ix i).length:=by omega
  have hx:(bitK ix i).getD (ix.getD i 0) 0<2^i:=by have:(bitK ix i).getD (ix.getD i 0) 0∈bitK ix i:=(by rw[hZ,kF (by omega)];exact kR _);exact(zaT ix i _ this).2
  generalize bitK ix i=o at hlo hx eb
  refine oN 17 ?_
  refine⟨⟨rfl,by omega,by omega⟩,?_⟩
  refine⟨⟨rfl,by omega,by omega⟩,?_⟩
  refine⟨⟨by omega,by show((ix.getD i 0:Nat):Int)<(o.length:Int);omega⟩,?_⟩
  refine⟨by show(((ix.getD i 0:Nat):Int)).toNat<o.length;omega,?_⟩
  refine⟨by omega,?_⟩
  refine⟨by rw[es];show inR .i64 (((o.getD (((ix.getD i 0:Nat):Int)).toNat 0:Nat):Int)+((2^i:Nat):Int));rw[wB];exact i6,?_⟩
  refine⟨⟨by omega,by show((ix.getD i 0:Nat):Int)<(o.length:Int);omega⟩,?_⟩
  refine⟨by show(((ix.getD i 0:Nat):Int)).toNat<o.length;omega,?_⟩
  refine⟨i6,?_⟩
  refine⟨i+1,⟨rfl,⟨obR rfl ?_,trivial⟩,wq rfl⟩,h1,msr h1⟩
  rw[eb]
  have:=setN (x:=o.getD (ix.getD i 0) 0+2^i) hlo (dE (.slc 1 o.length (rowN o)))
  rw[Int.natCast_add]at this
  rw[<- es]at this
  exact this
 have h1:i=ix.length:=by have:=dF h1;omega
 subst h1
 exact⟨⟨_,_,_,_,rfl,rfl,.inr ⟨rfl,fun i _ j _=>dE _⟩⟩,trivial⟩
def SpecN(P:Program)(f:FuncId)(args:List V1)(obs':List (Nat×Ob))(i:Nat)(res:List V1):Prop:=
 Ent P f/\∀(w:World) (ok:Nat->Prop) (vs:List Value),(∀b,ok b->b<w.heap.size)->All2 (Rep1 w ok) args vs->
  Calls P f vs.toArray w fun en w'=>∃b γ' us,en= .returned (.tuple (.pointer (some ⟨b,0,none⟩)::us).toArray)/\γ' i= .pointer (some ⟨b,0,none⟩)/\FrM w w' γ' []/\OwnS w' (okM w w' ok γ' γ' [] obs') γ' obs'/\
   (∀i o b,look obs' i=some o->blk (γ' i)=some b->w.heap.size<=b)/\All2 (Rep1 w' (okM w w' ok γ' γ' [] obs')) res us
theorem SpecN.eqv{P:Program}{f:FuncId}{xs ys:List V1}{obs':List (Nat×Ob)}{i:Nat}{res:List V1}(h:SpecN P f ys obs' i res)(he:eqV1s xs ys):SpecN P f xs obs' i res:=
 ⟨h.1,fun w ok vs hok hv=>h.2 w ok vs hok (zbj he hv)⟩
def ckM(args:List AV)(obs:List (Nat×Ob)):Bool:=args.all fun v=>v.refs.all fun j=>(look obs j).isSome
theorem ziG(ids:List Nat){f:FuncId}{fn:Func}{c:Code}(hf:PP.funcs[f]?=some fn)(hb:fn.body=some c)(hq:((fn.name== "runtime.NumGoroutine")|| !(codeN fn.ntmps c&&Nat.ble fn.ntmps 4294967296))=false)
  {args:List AV}{obs obs':List (Nat×Ob)}(ts:List Nat)(pins:List (Nat×Nat)){res:List V1}(hts:fn.results.toList=ts.map ResultVar.tmp)(hlr:ts.length=res.length)(hck:ckM args obs=true)(hpn:(pins.map Prod.fst++ts).Nodup)(hsz:Nat.ble args.length fn.ntmps=true)
  (h:∀γ,awp PP TTab (EC ids) c (St.of (slotsM γ 0 args) obs) (retM ts res γ pins obs')):SpecM PP f args obs obs' (pins.map Prod.snd) res:=by
 simp only [qN,qQ,jP]at hq
 exact znK (E:=EC ids) hT hE hM hf hb hq.1 hq.2.1 ts hts pins hlr (fun v hv j hj=>jC.1 (jC.1 hck v hv) j hj) hpn (jD hsz) (jD hq.2.2) h
abbrev lNN(l:List (List Nat)):D:=.slc 1 l.length fun i _=>lN (l.getD i [])
abbrev rowNN(l:List (List Nat)):Nat->Nat->D:=fun i _=>lN (l.getD i [])
theorem zpX{l:List (List Nat)}{x:List Nat}{n:Nat}{g:Nat->Nat->D}(hn:n=l.length)(hg:D.eqv (g 0 0) (lN x)):D.eqv (.slc 1 (n+1) (appRow n (rowNN l) g)) (.slc 1 (l++[x]).length (rowNN (l++[x]))):=by
 subst hn
 refine⟨by simp,.inr ⟨rfl,fun i hi j hj=>?_⟩⟩
 obtain rfl:j=0:=by omega
 show D.eqv (appRow l.length (rowNN l) g i 0) (lN ((l++[x]).getD i []))
 unfold appRow
 by_cases h:i<l.length
 ·rw[kH h,hZ,jJ h,<- hZ]
  exact dE _
 have e:i=l.length:=by omega
 subst e
 rw[kG h,kE,hZ,jK (jE _),kE]
 exact hg
def gwX(p:Nat->Bool)(r:Nat)(ix:List Nat):List (List Nat):=((rgs r (mst ix)).map (ix++ ·)).filter fun iy=>(bitX iy).all p
def gwK(p:Nat->Bool)(r:Nat)(ix:List Nat)(k:Nat):List (List Nat):=(List.range k).flatMap fun j=>gwX p r (ix++[j])
theorem zjs(p:Nat->Bool)(r:Nat)(ix:List Nat)(k:Nat):gwK p r ix (k+1)=gwK p r ix k++gwX p r (ix++[k]):=by
 unfold gwK
 rw[qU,jba];simp
theorem zdA(r m:Nat):rgs (r+1) m=(List.range (m+1)).flatMap fun k=>(rgs r (max m (k+1))).map (k:: ·):=by
 show _++_=_
 rw[qU,jba,List.flatMap_cons,List.flatMap_nil,jat,Nat.max_eq_right (Nat.le_succ m)]
 congr 1
 exact zbL fun k hk=>by rw[Nat.max_eq_left (kK.1 hk)]
theorem zoT(p:Nat->Bool)(r:Nat)(ix:List Nat):gwX p (r+1) ix=gwK p r ix (mst ix+1):=by
 unfold gwX gwK
 rw[zdA,List.map_flatMap,List.filter_flatMap]
 refine zbL fun k hk=>?_
 unfold gwX
 rw[zcb,jbb]
 congr 2
 funext iy
 show ix++k::iy=ix++[k]++iy
 simp
theorem zmy(p:Nat->Bool)(r:Nat)(ix:List Nat):(gwX p r ix).length<=(rgs r (mst ix)).length:=by
 unfold gwX
 exact jM (qD _ _) (by rw[kO];exact jE _)
def gwN(r:Nat)(ix:List Nat)(k:Nat):Nat:=((List.range k).flatMap fun j=>rgs r (mst (ix++[j]))).length
theorem zf6(r:Nat)(ix:List Nat)(k:Nat):gwN r ix (k+1)=gwN r ix k+(rgs r (mst (ix++[k]))).length:=by
 unfold gwN
 rw[qU,jba,jR];simp
theorem zjr(r:Nat)(ix:List Nat):∀{k m:Nat},k<=m->gwN r ix k<=gwN r ix m
 |k,0,h=>by rw[Nat.le_zero.1 h];exact jE _
 |k,m+1,h=>by
  by_cases e:k=m+1
  ·subst e;exact jE _
  have:=zjr r ix (show k<=m by omega)
  rw[zf6];omega
theorem zr5(r:Nat)(ix:List Nat):gwN r ix (mst ix+1)=(rgs (r+1) (mst ix)).length:=by
 unfold gwN
 rw[zdA,List.length_flatMap,List.length_flatMap]
 congr 1
 refine qH fun k _=>?_
 rw[zcb,kO]
theorem zmz(p:Nat->Bool)(r:Nat)(ix:List Nat):∀k,(gwK p r ix k).length<=gwN r ix k
 |0=>jF _
 |k+1=>by
  have:=zmz p r ix k
  have:=zmy p r (ix++[k])
  rw[zjs,zf6,jR];omega
abbrev obG(L:List (List Nat)):List (Nat×Ob):=[(5,.box [.own 42]),(42,.row 22 1 L.length (rowNN L))]
theorem snocN{l:List Nat}{k n:Nat}{F f:Nat->Nat->D}(hn:n=l.length)(hF:∀a,a<l.length->F a 0=I ((l.getD a 0:Nat):Int))(h:f 0 0=I (k:Int)):D.eqv (.slc 1 (n+1) (appRow n F f)) (lN (l++[k])):=by
 subst hn
 refine⟨by simp,.inr ⟨rfl,fun i hi j hj=>?_⟩⟩
 obtain rfl:j=0:=by omega
 show D.eqv (appRow l.length F f i 0) (I (((l++[k]).getD i 0:Nat):Int))
 unfold appRow
 by_cases h1:i<l.length
 ·rw[kH h1,hF i h1,hZ,hZ,jJ h1]
  exact dE _
 have e:i=l.length:=by omega
 subst e
 rw[kG h1,kE,h,hZ,jK (jE _),kE]
 exact dE _
theorem wkA{s:St}{sl:List (Nat×AV)}{obs rest l:List (Nat×Ob)}(e:obs++rest=l)(h:Weak s sl l):Weak s sl (obs++rest):=e▸h
theorem zp6(p:Nat->Bool)(n:Nat)(hn:n<=7):∀(r:Nat) (ix:List Nat) (L:List (List Nat)),ix.length+r=n->Rg ix->L.length+(rgs r (mst ix)).length<=1000000->
  SpecM PP 206 [.d (lBo (2^n) p),.d (lN ix),.d (I n),.box 5 0] (obG L) (obG (L++gwX p r ix)) [5] []
 |0,ix,L,hl,hr,hb=>by
  have hl:ix.length=n:=hl
  have hlen:(rgs 0 (mst ix)).length=1:=rfl
  have eg:gwX p 0 ix=if(bitX ix).all p=true then [ix]else []:=by
   show List.filter _ [ix++[]]=_
   rw[jat]
   cases h:(bitX ix).all p<;>simp[h]
  refine ziG [2000000040,2000000069] Tryz.func206 rfl (by kernel_rfl) [] [(3,5)] rfl rfl rfl (by decide) rfl fun γ=>?_
  refine sYe (by rw[hl];simp) ?_
  refine cR (zby ix hr (by omega)) rfl rfl ?_
  have hx:∀x∈bitX ix,x<2^n:=fun x hx=>by rw[<- hl];exact(zaT ix _ x hx).2
  have hbl:(bitX ix).length<=7:=by
   have:=zba hr ix.length (jE _)
   have h2:=zgN ix hr (jE _)
   show(bitK ix ix.length).length<=7
   omega
  refine lOf (σ:=Nat) (fun i=>([(0,.d (lBo (2^n) p)),(1,.d (lN ix)),(3,.pbox 5 (γ 5)),(8,.d (lN (bitX ix))),(9,.d (I i))],obG L)) (fun i=>i<=(bitX ix).length/\∀j,j<i->p ((bitX ix).getD j 0)=true) (fun i=>(bitX ix).length-i) 0
   ⟨rfl,⟨obX rfl,obR rfl (dE _),trivial⟩,wq rfl⟩ z0L fun i hi=>?_
  obtain⟨hi,ha⟩:=hi
  apply bY<;>intro h1
  ·have h1:i<(bitX ix).length:=by have:=dT h1;omega
   have hb1:(bitX ix).getD i 0<2^n:=hx _ (by rw[hZ,kF h1];exact kR h1)
   refine⟨⟨rfl,by omega,by omega⟩,?_⟩
   refine⟨⟨rfl,by omega,by show(((bitX ix).getD i 0:Nat):Int)<((2^n:Nat):Int);omega⟩,?_⟩
   apply bY<;>intro h2
   ·have h2:p ((bitX ix).getD i 0)=false:=by
     have h2:(!p ((bitX ix).getD i 0))=true:=h2
     simpa using h2
    have e0:¬(bitX ix).all p=true:=fun hh=>by
     have:=jC.1 hh ((bitX ix).getD i 0) (by rw[hZ,kF h1];exact kR h1)
     rw[h2]at this;cases this
    rw[eg,kG e0,jat]
    exact⟨rfl,⟨obX rfl,obR rfl (dE _),trivial⟩,⟨rfl,rfl⟩,trivial⟩
   have h2:p ((bitX ix).getD i 0)=true:=by
    have h2:(!p ((bitX ix).getD i 0))=false:=h2
    simpa using h2
   refine⟨i6,?_⟩
   refine⟨i+1,⟨rfl,⟨obX rfl,obR rfl (dE _),trivial⟩,wq rfl⟩,⟨h1,fun j hj=>?_⟩,msr h1⟩
   by_cases e:j=i
   ·subst e;exact h2
   exact ha j (by omega)
  have h1:i=(bitX ix).length:=by have:=dF h1;omega
  subst h1
  have e1:(bitX ix).all p=true:=jC.2 fun x hx=>by
   obtain⟨j,hj,rfl⟩:=kP hx
   have:=ha j hj
   rwa [hZ,kF hj]at this
  rw[eg,kH e1]
  refine oL [5,1000,1001,1002,1003,4,6,7,8,9,10] (fNo ?_)
  refine⟨rfl,⟨rfl,⟨rfl,⟨rfl,⟨rfl,⟨rfl,⟨rfl,⟨rfl,?_⟩⟩⟩⟩⟩⟩⟩⟩
  refine⟨⟨.inr rfl,by unfold maxLen;omega,by show(0+ix.length)*8<=140737488355328;omega⟩,?_⟩
  refine⟨⟨.inr rfl,by unfold maxLen;omega,by show(L.length+1)*24<=140737488355328;omega⟩,?_⟩
  refine⟨rfl,⟨obX rfl,obR rfl (zpX rfl ?_),trivial⟩,⟨rfl,rfl⟩,trivial⟩
  refine⟨qB _,.inr ⟨rfl,fun i _ j _=>dE _⟩⟩
 |r+1,ix,L,hl,hr,hb=>by
  have hmx:=zgN ix hr (jE _)
  rw[jZ]at hmx
  have hlt:ix.length<n:=by omega
  refine ziG [2000000069] Tryz.func206 rfl (by kernel_rfl) [] [(3,5)] rfl rfl rfl (by decide) rfl fun γ=>?_
  refine sNo (by simp;omega) ?_
  refine lOf (σ:=Nat) (fun i=>([(0,.d (lBo (2^n) p)),(1,.d (lN ix)),(2,.d (I n)),(3,.pbox 5 (γ 5)),(10,.d (I (mst (ix.take i)))),(11,.d (I i))],obG L)) (fun i=>i<=ix.length) (fun i=>ix.length-i) 0
   ⟨rfl,⟨obX rfl,obR rfl (dE _),trivial⟩,wq rfl⟩ (jF _) fun i hi=>?_
  have hi:i<=ix.length:=hi
  apply bY<;>intro h1
  ·have h1:i<ix.length:=by have:=dT h1;omega
   have hk:=hr i h1
   have hm:=zgN ix hr hi
   refine⟨⟨rfl,by omega,by omega⟩,?_⟩
   refine⟨by show inR .i64 (((ix.getD i 0:Nat):Int)+1);exact i6,?_⟩
   refine⟨i6,?_⟩
   refine⟨i+1,⟨rfl,⟨obX rfl,obR rfl (dE _),trivial⟩,avQ rfl,avQ rfl,avQ rfl,avQ rfl,avI rfl ?_,avQ rfl,trivial⟩,h1,msr h1⟩
   rw[zcJ h1]
   show max ((mst (ix.take i):Nat):Int) (((ix.getD i 0:Nat):Int)+1)=_
   omega
  have h1:i=ix.length:=by have:=dF h1;omega
  subst h1
  rw[jZ]
  refine lOf (σ:=Nat) (fun k=>([(0,.d (lBo (2^n) p)),(1,.d (lN ix)),(2,.d (I n)),(3,.pbox 5 (γ 5)),(10,.d (I (mst ix))),(12,.d (I k))],obG (L++gwK p r ix k))) (fun k=>k<=mst ix+1) (fun k=>mst ix+1-k) 0
   ⟨rfl,⟨obX rfl,obR rfl (by rw[show gwK p r ix 0=[]from rfl,jat];exact dE _),trivial⟩,wq rfl⟩ (jF _) fun k hk=>?_
  have hk:k<=mst ix+1:=hk
  apply bY<;>intro h1
  ·have h1:k<=mst ix:=by have:(k:Int)<=(mst ix:Int):=dT h1;omega
   have b1:=zmz p r ix k
   have b2:=zjr r ix (show k+1<=mst ix+1 by omega)
   rw[zr5,zf6]at b2
   refine⟨⟨.inr rfl,by unfold maxLen;omega,by show(0+ix.length)*8<=140737488355328;omega⟩,?_⟩
   refine⟨⟨.inr rfl,by unfold maxLen;omega,by show(0+ix.length+1)*8<=140737488355328;omega⟩,?_⟩
   refine CallSt.ob [(0,.d (lBo (2^n) p)),(1,.d (lN ix)),(2,.d (I n)),(3,.pbox 5 (γ 5)),(10,.d (I (mst ix))),(12,.d (I k)),(65,.d (lBo (2^n) p)),(69,.d (lN (ix++[k]))),(70,.d (I n)),(71,.box 5 0)] (obG (L++gwK p r ix k)) [] rfl rfl
    (zp6 p n hn r (ix++[k]) (L++gwK p r ix k) (by rw[jR,qR];omega) (hr.snoc h1) (by rw[jR];omega))
    (wkA (l:=obG (L++gwK p r ix k)) rfl ⟨rfl,⟨obX rfl,obR rfl (dE _),trivial⟩,avQ rfl,avQ rfl,avQ rfl,avQ rfl,avQ rfl,avQ rfl,avQ rfl,avE rfl (snocN (qB _) (fun a _=>rfl) rfl),avQ rfl,avQ rfl,trivial⟩) ⟨⟨[],rfl,rfl⟩⟩ rfl rfl ?_
   refine⟨i6,?_⟩
   refine⟨k+1,⟨rfl,⟨obX rfl,obR rfl ?_,trivial⟩,wq rfl⟩,by show k+1<=mst ix+1;omega,by show mst ix+1-(k+1)<mst ix+1-k;omega⟩
   rw[zjs,<- List.append_assoc]
   exact dE _
  have h1:k=mst ix+1:=by have:¬(k:Int)<=(mst ix:Int):=dF h1;omega
  subst h1
  rw[zoT]
  exact⟨rfl,⟨obX rfl,obR rfl (dE _),trivial⟩,⟨rfl,rfl⟩,trivial⟩
theorem SpecM.nil{P:Program}{f:FuncId}{a b c:AV}{k:Nat}{g:Nat->Nat->D}{obs obs':List (Nat×Ob)}{pins:List Nat}{res:List V1}(h:SpecM P f [a,.d (.slc k 0 g),b,c] obs obs' pins res):SpecM P f [a,.nilsl,b,c] obs obs' pins res:=
 ⟨h.1,fun w ok γ vs h1 h2 h3=>h.2 w ok γ vs h1 h2 (by
  cases h3 with
  |cons x h3=>
  cases h3 with
  |cons y h3=>exact .cons x (.cons (.inl ⟨y,rfl⟩) h3))⟩
theorem rgs7{n:Nat}(h:n<=7):(rgs n 0).length<=1000000:=by
 have:∀n,n<8->(rgs n 0).length<=1000000:=by decide+kernel
 exact this n (by omega)
theorem ztn(p:Nat->Bool)(n:Nat)(hn:n<=7):Spec PP 132 [.d (lBo (2^n) p),N n] [.d (lNN (gwX p n []))]:=by
 refine sA Tryz.func132 ?_
 have hg:=zp6 p n hn n [] [] (qB _) (fun i hi=>absurd hi (qJ _)) (by have:=rgs7 hn;show 0+(rgs n 0).length<=_;omega)
 refine CallSt.ob [(5,.box 5 0),(6,.d (lBo (2^n) p)),(7,.d (I n))] (obG []) [] rfl rfl hg.nil
  (wkA (l:=obG []) rfl ⟨rfl,⟨⟨⟨rfl,_,_,_,rfl⟩,trivial⟩,rfl,trivial⟩,wq rfl⟩) ⟨⟨[],rfl,rfl⟩⟩ rfl rfl ?_
 exact⟨⟨_,_,_,_,rfl,rfl,.inr ⟨rfl,fun i _ j _=>dE _⟩⟩,trivial⟩
theorem ziN:∀(r:Nat) (ix:List Nat),Rg ix->∀iy∈rgs r (mst ix),Rg (ix++iy)/\iy.length=r
 |0,ix,h,iy,hy=>by
  obtain rfl:=kI.1 hy
  rw[jat]
  exact⟨h,rfl⟩
 |r+1,ix,h,iy,hy=>by
  rw[zdA]at hy
  obtain⟨k,hk,hy⟩:=List.mem_flatMap.1 hy
  obtain⟨iz,hz,rfl⟩:=kJ.1 hy
  have hk:=kK.1 hk
  rw[<- zcb]at hz
  have:=ziN r (ix++[k]) (h.snoc (by omega)) iz hz
  rw[List.append_assoc]at this
  exact⟨this.1,by rw[jbp,this.2]⟩
theorem zla:Rg []:=fun i hi=>absurd hi (qJ _)
theorem zcN{p:Nat->Bool}{n:Nat}{ix:List Nat}(h:ix∈gwX p n []):Rg ix/\ix.length=n:=by
 obtain⟨h,_⟩:=kS.1 h
 obtain⟨iy,hy,rfl⟩:=kJ.1 h
 exact ziN n [] zla iy hy
def Rgs(l:List (List Nat)):Prop:=∀x∈l,Rg x/\x.length<=7
theorem zjq{p:Nat->Bool}{n:Nat}(hn:n<=7):Rgs (gwX p n []):=fun x hx=>⟨(zcN hx).1,by rw[(zcN hx).2];exact hn⟩
theorem zg0{p:Nat->Bool}{n:Nat}(hn:n<=7):(gwX p n []).length<=1000000:=jM (zmy p n []) (rgs7 hn)
theorem Rgs.get{l:List (List Nat)}(h:Rgs l){i:Nat}(hi:i<l.length):Rg (l.getD i [])/\(l.getD i []).length<=7:=by
 rw[hZ,kF hi];exact h _ (kR hi)
theorem zev{ix:List Nat}(h:Rg ix)(hn:ix.length<=7):(bitX ix).length<=7:=by
 have h1:=zba h ix.length (jE _)
 have h2:=zgN ix h (jE _)
 show(bitK ix ix.length).length<=7
 omega
def wthX(k:Int)(l:List (List Nat)):List (List Nat):=l.filter fun x=>((bitX x).length:Int)==k
theorem zgp(k:Int)(l:List (List Nat))(x:List Nat):wthX k (l++[x])=if(((bitX x).length:Int)==k)=true then wthX k l++[x]else wthX k l:=by
 unfold wthX
 rw[kV]
 by_cases h:(((bitX x).length:Int)==k)=true
 ·rw[kH h,qA (by exact h)];rfl
 rw[kG h,qF (by exact h)];simp
theorem zq7(l:List (List Nat))(k:Int)(hR:Rgs l)(hn:l.length<=1000000):Spec PP 133 [.d (lNN l),N k] [.d (lNN (wthX k l))]:=by
 refine sA Tryz.func133 ?_
 refine lOf (σ:=Nat) (fun i=>([(0,.d (lNN l)),(1,.d (I k)),(5,.own 5),(6,.d (I i))],[(5,.row 22 1 (wthX k (l.take i)).length (rowNN (wthX k (l.take i))))])) (fun i=>i<=l.length) (fun i=>l.length-i) 0
  ⟨rfl,⟨obR rfl ⟨rfl,.inl rfl⟩,trivial⟩,wq rfl⟩ (jF _) fun i hi=>?_
 have hi:i<=l.length:=hi
 have hl:(wthX k (l.take i)).length<=l.length:=jM (qD _ _) (by rw[jQ];omega)
 apply bY<;>intro h1
 ·have h1:i<l.length:=by have:=dT h1;omega
  have hg:=hR.get h1
  refine⟨⟨rfl,by omega,by omega⟩,?_⟩
  refine cR (zby (l.getD i []) hg.1 hg.2) rfl rfl ?_
  apply bY<;>intro h2
  ·have h2:(((bitX (l.getD i [])).length:Int)==k)=true:=h2
   refine⟨⟨rfl,by omega,by omega⟩,?_⟩
   refine⟨⟨.inr rfl,by unfold maxLen;omega,by show((wthX k (l.take i)).length+1)*24<=140737488355328;omega⟩,?_⟩
   refine⟨i6,?_⟩
   refine⟨i+1,⟨rfl,⟨obR rfl ?_,trivial⟩,wq rfl⟩,h1,msr h1⟩
   rw[zav h1 [],zgp,kH h2]
   exact zpX rfl (dE _)
  have h2:(((bitX (l.getD i [])).length:Int)==k)=false:=h2
  refine⟨i6,?_⟩
  refine⟨i+1,⟨rfl,⟨obR rfl ?_,trivial⟩,wq rfl⟩,h1,msr h1⟩
  rw[zav h1 [],zgp,kG (by rw[h2];decide)]
  exact dE _
 have h1:i=l.length:=by have:=dF h1;omega
 subst h1
 rw[jZ]
 exact⟨⟨_,_,_,_,rfl,rfl,.inr ⟨rfl,fun i _ j _=>dE _⟩⟩,trivial⟩
def few1(o:Int)(x:List Nat):Int:=if o<0\/((bitX x).length:Int)<o then((bitX x).length:Int)else o
def fewN(l:List (List Nat)):Int:=l.foldl few1 (-1)
theorem zmN(l:List (List Nat))(x:List Nat):fewN (l++[x])=few1 (fewN l) x:=by unfold fewN;rw[wJ];rfl
theorem zle(l:List (List Nat))(hR:Rgs l)(hn:l.length<=1000000):Spec PP 134 [.d (lNN l)] [N (fewN l)]:=by
 refine sA Tryz.func134 ?_
 refine lOf (σ:=Nat) (fun i=>([(0,.d (lNN l)),(3,.d (I (fewN (l.take i)))),(4,.d (I i))],[])) (fun i=>i<=l.length) (fun i=>l.length-i) 0
  ⟨rfl,trivial,wq rfl⟩ (jF _) fun i hi=>?_
 have hi:i<=l.length:=hi
 apply bY<;>intro h1
 ·have h1:i<l.length:=by have:=dT h1;omega
  have hg:=hR.get h1
  have hb:=zev hg.1 hg.2
  have es:fewN (l.take (i+1))=few1 (fewN (l.take i)) (l.getD i []):=by rw[zav h1 [],zmN]
  refine⟨⟨rfl,by omega,by omega⟩,?_⟩
  refine cR (zby (l.getD i []) hg.1 hg.2) rfl rfl ?_
  apply bY<;>intro h2
  ·have h2:fewN (l.take i)<0:=dT h2
   repeat first|apply sT|apply sF
   refine⟨i6,?_⟩
   refine⟨i+1,⟨rfl,trivial,avQ rfl,avI rfl ?_,avQ rfl,trivial⟩,h1,msr h1⟩
   rw[es,few1,kH (.inl h2)]
  have h2:¬fewN (l.take i)<0:=dF h2
  repeat first|apply sT|apply sF
  apply bY<;>intro h3
  ·have h3:((bitX (l.getD i [])).length:Int)<fewN (l.take i):=dT h3
   refine⟨i6,?_⟩
   refine⟨i+1,⟨rfl,trivial,avQ rfl,avI rfl ?_,avQ rfl,trivial⟩,h1,msr h1⟩
   rw[es,few1,kH (.inr h3)]
  have h3:¬((bitX (l.getD i [])).length:Int)<fewN (l.take i):=dF h3
  refine⟨i6,?_⟩
  refine⟨i+1,⟨rfl,trivial,avQ rfl,avI rfl ?_,avQ rfl,trivial⟩,h1,msr h1⟩
  rw[es,few1,kG (fun hh=>hh.elim h2 h3)]
 have h1:i=l.length:=by have:=dF h1;omega
 subst h1
 rw[jZ]
 exact r1I rfl rfl
def setX(ids:List Int)(ix:List Nat):List (List Int):=(bitX ix).map (memb ids)
def bstX(p:Nat->Bool)(n:Nat):List (List Nat):=wthX (fewN (gwX p n [])) (gwX p n [])
theorem zrb(p:Nat->Bool)(n:Nat)(hn:n<=7):Spec PP 89 [.d (lBo (2^n) p),N n] [.d (lNN (bstX p n))]:=by
 refine sA Tryz.func89 ?_
 refine cR (ztn p n hn) rfl rfl ?_
 refine cP (zle _ (zjq hn) (zg0 hn)) rfl rfl ?_
 refine cR (zq7 _ _ (zjq hn) (zg0 hn)) rfl rfl ?_
 exact⟨dE _,trivial⟩
theorem DayOk.nodL{d:Day}(h:DayOk d)(ids:List Int):((lstD d ids).map Rpt.ID).Nodup:=List.Nodup.sublist (List.Sublist.map _ (jbu ..)) h.nodR
theorem DayOk.rpt{d:Day}(h:DayOk d){r:Rpt}(hr:r∈d.R):rptE d.s r=0/\frmB r=true/\0<=r.Tick/\r.Tick<=1048576:=by
 obtain⟨i,hi,rfl⟩:=kP hr
 have e:d.R.getD i default=d.R[i]:=by rw[hZ,kF hi];rfl
 have h1:=zuF (h.rp i hi)
 have h2:=h.tick hi
 rw[e]at h1 h2
 exact⟨h1.2.1,h1.2.2,h2⟩
theorem zm9(ids:List Int)(l:List Rpt):∀i,i<=l.length->((brnS ids (l.take i)).1=true↔∃r∈l.take i,ids.contains r.ID=true)/\((brnS ids (l.take i)).1=true->
  (∀r∈l.take i,ids.contains r.ID=true->(brnS ids (l.take i)).2.1<=r.Tick/\r.Tick<=(brnS ids (l.take i)).2.2)/\(∃r∈l.take i,ids.contains r.ID=true/\r.Tick=(brnS ids (l.take i)).2.1)/\∃r∈l.take i,ids.contains r.ID=true/\r.Tick=(brnS ids (l.take i)).2.2)
 |0,_=>by simp[brnS]
 |i+1,hi=>by
  obtain⟨a1,a2⟩:=zm9 ids l i (by omega)
  rw[zcT ids l (by omega),zav (show i<l.length by omega) default]
  generalize brnS ids (l.take i)=x at a1 a2
  generalize l.getD i default=r
  generalize l.take i=t at a1 a2
  unfold brn1
  by_cases hc:ids.contains r.ID=true
  ·rw[kH hc]
   refine⟨⟨fun _=>⟨r,by simp,hc⟩,fun _=>rfl⟩,fun _=>?_⟩
   by_cases hx:x.1=true
   ·obtain⟨b1,⟨p,hp,hp1,hp2⟩,⟨q,hq,hq1,hq2⟩⟩:=a2 hx
    simp only[hx,jbe]
    refine⟨fun r' hr' hc'=>?_,?_,?_⟩
    ·rcases kL.1 hr' with h|h
     ·have:=b1 r' h hc';omega
     rw[kI.1 h];omega
    ·by_cases hm:x.2.1<=r.Tick
     ·exact⟨p,qV _ hp,hp1,by rw[hp2];omega⟩
     exact⟨r,by simp,hc,by omega⟩
    by_cases hm:r.Tick<=x.2.2
    ·exact⟨q,qV _ hq,hq1,by rw[hq2];omega⟩
    exact⟨r,by simp,hc,by omega⟩
   simp only[hx,jaG]
   refine⟨fun r' hr' hc'=>?_,⟨r,by simp,hc,by simp⟩,⟨r,by simp,hc,by simp⟩⟩
   rcases kL.1 hr' with h|h
   ·exact absurd (a1.2 ⟨r',h,hc'⟩) hx
   rw[kI.1 h];simp
  rw[kG hc]
  refine⟨a1.trans ⟨fun⟨p,hp,hc'⟩=>⟨p,qV _ hp,hc'⟩,fun⟨p,hp,hc'⟩=>?_⟩,fun hx=>?_⟩
  ·rcases kL.1 hp with h|h
   ·exact⟨p,h,hc'⟩
   rw[kI.1 h]at hc';exact absurd hc' hc
  obtain⟨b1,⟨p,hp,hp1,hp2⟩,⟨q,hq,hq1,hq2⟩⟩:=a2 hx
  refine⟨fun r' hr' hc'=>?_,⟨p,qV _ hp,hp1,hp2⟩,⟨q,qV _ hq,hq1,hq2⟩⟩
  rcases kL.1 hr' with h|h
  ·exact b1 r' h hc'
  rw[kI.1 h]at hc';exact absurd hc' hc
theorem zdM{d:Day}{ids:List Int}(hB:(d.R.any fun r=>ids.contains r.ID)=true):
  (∀r∈d.R,ids.contains r.ID=true->(brnD d ids).From<=r.Tick/\r.Tick<=(brnD d ids).To)/\(∃r∈d.R,ids.contains r.ID=true/\r.Tick=(brnD d ids).From)/\∃r∈d.R,ids.contains r.ID=true/\r.Tick=(brnD d ids).To:=by
 have:=zm9 ids d.R d.R.length (jE _)
 rw[jZ]at this
 obtain⟨r,hr,hc⟩:=kM.1 hB
 exact this.2 (this.1.2 ⟨r,hr,hc⟩)
theorem zsD{d:Day}(h:DayOk d){ids:List Int}(hB:(d.R.any fun r=>ids.contains r.ID)=true):brnB (brnD d ids)=true:=by
 obtain⟨h1,⟨r,hr,hc,e⟩,⟨q,hq,hq1,hq2⟩⟩:=zdM hB
 have g1:=(h.rpt hr).2.2
 have g2:=(h.rpt hq).2.2
 have g3:=(h1 r hr hc).2
 unfold brnB
 rw[show(brnD d ids).Rise=d.Rise from rfl,h.rise,jG (by omega),jG (by omega),jG (by omega)]
 rfl
theorem zjO{d:Day}{A B:List Int}(hs:∀x,B.contains x=true->A.contains x=true)(hB:(d.R.any fun r=>B.contains r.ID)=true):(brnD d A).From<=(brnD d B).From/\(brnD d B).To<=(brnD d A).To:=by
 have hA:(d.R.any fun r=>A.contains r.ID)=true:=by
  obtain⟨r,hr,hc⟩:=kM.1 hB
  exact kM.2 ⟨r,hr,hs _ hc⟩
 obtain⟨h1,_,_⟩:=zdM hA
 obtain⟨_,⟨r,hr,hc,e⟩,⟨q,hq,hq1,hq2⟩⟩:=zdM hB
 have g1:=(h1 r hr (hs _ hc)).1
 have g2:=(h1 q hq (hs _ hq1)).2
 omega
theorem zr7{d:Day}(h:DayOk d){b:Brn}(hb:brnB b=true)(ids:List Int):givE d.s b (lstD d ids)=0:=by
 have hn:=h.n
 have hl:=zow d ids
 unfold givE
 rw[kG (fun hh=>hh h.s),kG (by rw[hb];decide),kG (by omega)]
 refine zaJ fun i hi=>?_
 have hm:(lstD d ids).getD i default=(lstD d ids)[i]:=by rw[hZ,kF hi];rfl
 have hr:(lstD d ids)[i]∈d.R:=(kS.1 (kR hi)).1
 unfold rp1E
 rw[kG (fun hh=>hh (by rw[hm];exact(h.rpt hr).1)),kG fun hc=>?_]
 have hc:=kD.1 hc
 rw[hm]at hc
 obtain⟨x,hx,e⟩:=kJ.1 hc
 obtain⟨j,hj,rfl⟩:=kP hx
 rw[jQ]at hj
 rw[ja3]at e
 have:=kN.1 (h.nodL ids) j i (by rw[kO];omega) (by rw[kO];exact hi) (by omega)
 simp only[List.getElem_map]at this
 exact this e
theorem zp1{d:Day}(h:DayOk d){ids:List Int}(hB:(d.R.any fun r=>ids.contains r.ID)=true):
  plsD d ids=if(brnD d ids).To-(brnD d ids).From<=d.Long then plsL d.s.c.M (metP ((lstD d ids).map (alwP d.s (brnD d ids))))else []:=by
 have e:plcR d.s (brnD d ids) (lstD d ids)=(plsL d.s.c.M (metP ((lstD d ids).map (alwP d.s (brnD d ids)))),0):=by
  unfold plcR
  rw[kG (fun hh=>hh (zr7 h (zsD h hB) ids))]
 unfold plsD
 rw[e]
theorem ziM{s:Svc}{b b':Brn}{r:Rpt}{p:Place}(hr:b.Rise=b'.Rise)(hw:within r.Tick b.From b.To=true->within r.Tick b'.From b'.To=true)(h:seenB s b r p=true):seenB s b' r p=true:=by
 unfold seenB lookB at*
 simp only[jP]at*
 rw[<- hr]
 exact⟨h.1,h.2.1,hw h.2.2⟩
theorem zpw{d:Day}(h:DayOk d){A B:List Int}(hs:∀x,B.contains x=true->A.contains x=true)(hB:(d.R.any fun r=>B.contains r.ID)=true){r:Rpt}(hr:r∈lstD d B){n:Nat}(ha:alwP d.s (brnD d A) r n=true):alwP d.s (brnD d B) r n=true:=by
 obtain⟨m1,m2⟩:=zjO hs hB
 obtain⟨hr1,hr2⟩:=kS.1 hr
 unfold alwP alwK at*
 simp only[jP]at*
 refine⟨ha.1,?_⟩
 have ha:=ha.2
 unfold allB at*
 by_cases hk:r.Kind=1
 ·rw[kH hk]at*
  refine ziM (b:=brnD d A) (b':=brnD d B) rfl (fun _=>?_) ha
  have hc:B.contains r.ID=true:=by
   unfold offB at hr2
   simpa [hk]using hr2
  have:=(zdM hB).1 r hr1 hc
  unfold within
  simpa using this
 rw[kG hk]at*
 rw[jY]at*
 rw[qW]at*
 intro hh
 refine ha (ziM (b:=brnD d B) (b':=brnD d A) rfl (fun hw=>?_) hh)
 unfold within at*
 simp only[jP,kA]at*
 omega
theorem zi3{m:Mp}{P:Nat->Bool}{p:Place}:p∈plsL m P↔∃n,n<m.w*m.h/\P n=true/\plc m n=p:=by
 unfold plsL plsK
 rw[kJ]
 constructor
 ·rintro⟨n,hn,e⟩
  rw[kS,kK]at hn
  exact⟨n,hn.1,hn.2,e⟩
 rintro⟨n,h1,h2,e⟩
 exact⟨n,kS.2 ⟨kK.2 h1,h2⟩,e⟩
theorem zly{d:Day}(h:DayOk d){A B:List Int}(hs:∀x,B.contains x=true->A.contains x=true)(hB:(d.R.any fun r=>B.contains r.ID)=true){p:Place}(hp:p∈plsD d A):p∈plsD d B:=by
 have hA:(d.R.any fun r=>A.contains r.ID)=true:=by
  obtain⟨r,hr,hc⟩:=kM.1 hB
  exact kM.2 ⟨r,hr,hs _ hc⟩
 obtain⟨m1,m2⟩:=zjO hs hB
 rw[zp1 h hA]at hp
 rw[zp1 h hB]
 split at hp
 ·rename_i g
  rw[kH (by omega)]
  obtain⟨n,h1,h2,e⟩:=zi3.1 hp
  refine zi3.2 ⟨n,h1,?_,e⟩
  unfold metP at*
  rw[jC]at*
  intro P hP
  obtain⟨r,hr,rfl⟩:=kJ.1 hP
  have hr':r∈lstD d A:=by
   obtain⟨g1,g2⟩:=kS.1 hr
   refine kS.2 ⟨g1,?_⟩
   unfold offB at*
   cases e1:A.contains r.ID with
   |true=>simp
   |false=>
   have:B.contains r.ID=false:=by rw[qW];intro hh;rw[hs _ hh]at e1;cases e1
   rw[this]at g2
   exact g2
  exact zpw h hs hB hr (h2 _ (kJ.2 ⟨r,hr',rfl⟩))
 cases hp
theorem zuC{d:Day}(h:few7 d):d.R.length<=40:=h.1.2.2.2.2.2
def exR:List Rpt:=[⟨1,1,1,1,100,450,0,10⟩,⟨2,1,2,2,110,1350,0,10⟩,⟨3,1,1,1,300,450,0,10⟩]
def exS:Svc:=⟨⟨⟨9,9,List.replicate 81 0⟩,[⟨1,⟨0,0⟩,0⟩,⟨2,⟨8,0⟩,0⟩],[]⟩,⟨[⟨1,⟨0,0⟩,0,1000,0,0,0⟩,⟨2,⟨8,0⟩,0,1000,0,0,0⟩],[]⟩⟩
def exD:Day:=⟨exS,0,60,exR⟩
theorem grdE(p:Place):grd exS.c.M p=0:=by
 show(List.replicate 81 (0:Int)).getD _ 0=0
 rw[hZ,List.getElem?_replicate]
 split<;>rfl
theorem valE:validM exS.c.M=true:=by unfold validM;decide+kernel
theorem ztc(id:Int)(h:id=1\/id=2)(p:Place)(hp:onM exS.c.M p=true)(t:Int)(ht:within t 0 1048576=true):seesE exS.c id p 0 t=(true,0):=by
 have e0:ctryE exS.c=0:=by unfold ctryE;rw[kG (by rw[valE];decide+kernel)];unfold towE hzE onM;decide+kernel
 have e1:(towG exS.c.T id)=(if id=1 then⟨1,⟨0,0⟩,0⟩else⟨2,⟨8,0⟩,0⟩,true):=by rcases h with rfl|rfl<;>decide+kernel
 have e2:farZ t exS.c.Z=100:=rfl
 have op:=zad.1 hp
 have ox:0<=p.X/\p.X<9:=op.1
 have oy:0<=p.Y/\p.Y<9:=op.2
 unfold seesE
 have e1':(towG exS.c.T id).2=true:=by rcases h with rfl|rfl<;>decide+kernel
 rw[kG (fun hh=>hh e0),kG (by rw[e1'];decide+kernel),kG (by rw[hp,ht];decide+kernel),e2]
 have e3:seesB exS.c (towG exS.c.T id).1 p 0 100=true:=by
  unfold seesB
  have on1:onM exS.c.M ⟨0,0⟩=true:=by unfold onM;decide+kernel
  have on2:onM exS.c.M ⟨8,0⟩=true:=by unfold onM;decide+kernel
  have m1:=mulB (a:=p.X) (b:=p.X) (x:=20) (y:=20) (by omega) (by omega)
  have m2:=mulB (a:=p.Y) (b:=p.Y) (x:=20) (y:=20) (by omega) (by omega)
  have m3:=mulB (a:=8-p.X) (b:=8-p.X) (x:=20) (y:=20) (by omega) (by omega)
  rw[e1]
  rcases h with rfl|rfl
  ·show(nearB ⟨0,0⟩ p 100&&freeB exS.c.M ⟨0,0⟩ 0 p 0)=true
   rw[zg4 grdE valE on1 hp (by decide+kernel) (by decide+kernel),jac]
   unfold nearB
   refine jG ?_
   show(0-p.X)*(0-p.X)+(0-p.Y)*(0-p.Y)<=100*100
   have a1:(0-p.X)*(0-p.X)=p.X*p.X:=by rw[Int.zero_sub,Int.neg_mul_neg]
   have a2:(0-p.Y)*(0-p.Y)=p.Y*p.Y:=by rw[Int.zero_sub,Int.neg_mul_neg]
   omega
  show(nearB ⟨8,0⟩ p 100&&freeB exS.c.M ⟨8,0⟩ 0 p 0)=true
  rw[zg4 grdE valE on2 hp (by decide+kernel) (by decide+kernel),jac]
  unfold nearB
  refine jG ?_
  show(8-p.X)*(8-p.X)+(0-p.Y)*(0-p.Y)<=100*100
  have a2:(0-p.Y)*(0-p.Y)=p.Y*p.Y:=by rw[Int.zero_sub,Int.neg_mul_neg]
  omega
 rw[e3]
theorem thsE(x:Cir):thsL exS.k x=[thg0 x]:=by
 show [thg0 x].mergeSort _=[thg0 x]
 exact List.mergeSort_singleton _
theorem zerE(id t:Int)(h:id=1\/id=2)(ht:within t 0 1000=true):zerR exS.k id t=(⟨0,0⟩,0):=by
 have bt:=zab.1 ht
 have e0:cirsE exS.k=0:=by decide+kernel
 have e1:cirI exS.k id=if id=1 then 0 else 1:=by rcases h with rfl|rfl<;>decide+kernel
 have go:∀x:Cir,x.Drift=0->x.Lo=0->x.Hi=0->knw exS.k id [t]=(x,[thg0 x],0)->zerR exS.k id t=(⟨0,0⟩,0):=fun x d1 d2 d3 hk=>by
  have ec:clsL x [thg0 x]=[]:=by
   unfold clsL clsU clsI
   have en:noneB (thg0 x)=false:=by unfold noneB;exact jH (by show ¬x.Hi<x.Lo;omega)
   simp[qU,en,clsJ]
  have ea:atR exS.k id t=(x,[thg0 x],0):=by
   unfold atR;rw[hk];dsimp only;rw[kH rfl];unfold agrE;rw[kH ec]
  have ed:drf x x.From t=0:=by unfold drf;rw[d1];simp
  unfold zerR
  rw[ea,kG (fun hh=>hh rfl)]
  dsimp only
  unfold zer
  simp only[jaE,List.foldl_nil,zStep,thg0,ed,d2,d3]
  simp
 rcases h with rfl|rfl
 ·refine go ⟨1,⟨0,0⟩,0,1000,0,0,0⟩ rfl rfl rfl ?_
  unfold knw
  rw[kG (fun hh=>hh e0),e1,kG (by decide+kernel),kH (by show(within t 0 1000&&true)=true;rw[ht];rfl),thsE];rfl
 refine go ⟨2,⟨8,0⟩,0,1000,0,0,0⟩ rfl rfl rfl ?_
 unfold knw
 rw[kG (fun hh=>hh e0),e1,kG (by decide+kernel),kH (by show(within t 0 1000&&true)=true;rw[ht];rfl),thsE];rfl
theorem wdgE(r:Rpt)(hc:r.C=1\/r.C=2)(ht:within r.Tick 0 1000=true)(hs:within r.From 0 3599=true)(hl:r.Slack=10):wdgR exS.k (rdgO r)=(wdg (r.From-10) 20,0):=by
 have e1:cirsE exS.k=0:=by decide+kernel
 have e2:rdgE exS.k (rdgO r)=0:=by
  unfold rdgE rdgO
  rw[kG (fun hh=>hh e1)]
  rw[kG]
  dsimp only
  rw[hs,hl];decide+kernel
 have e3:zerR exS.k (rdgO r).C (rdgO r).Tick=(⟨0,0⟩,0):=zerE r.C r.Tick hc ht
 unfold wdgR
 rw[kG (fun hh=>hh e2),e3,kG (fun hh=>hh rfl)]
 show(if(900:Int)<2*r.Slack+0-0 then _ else(wdg (r.From-r.Slack-0) (2*r.Slack+0-0),(0:Int)))=_
 rw[hl,kG (by decide+kernel)]
 congr 2
 omega
theorem blkE(r:Rpt)(hc:r.C=1\/r.C=2)(ht:within r.Tick 0 1000=true)(h:¬(r.To-r.From)%3600<2*r.Slack+0-0):blkR exS r=(⟨(r.From+r.Slack)%3600,(r.To-r.Slack)%3600⟩,true):=by
 have e3:=zerE r.C r.Tick hc ht
 unfold blkR
 rw[e3]
 dsimp only
 rw[kG h]
 simp
def lieE(w:Wdg)(a:Place)(n:Nat):Bool:=decide (n<81)&&liesW w a ⟨((n%9:Nat):Int),((n/9:Nat):Int)⟩
def notE(w:Wdg)(a:Place)(n:Nat):Bool:=decide (n<81)&& !liesW w a ⟨((n%9:Nat):Int),((n/9:Nat):Int)⟩
theorem plcE{n:Nat}(h:n<81):onM exS.c.M (plc exS.c.M n)=true:=zp2 valE h
theorem zl7(b:Brn)(hr:b.Rise=0)(r:Rpt)(hw:r.Tower=1\/r.Tower=2)(ht:within r.Tick 0 1048576=true){n:Nat}(h:n<81):lookB exS b r (plc exS.c.M n)=within r.Tick b.From b.To:=by
 unfold lookB
 rw[hr,ztc r.Tower hw _ (plcE h) r.Tick ht]
 show(true&&true&&within r.Tick b.From b.To)=_
 cases within r.Tick b.From b.To<;>rfl
theorem znl(b:Brn)(hr:b.Rise=0)(r:Rpt)(w:Wdg)(a:Place)(hk:r.Kind=1)(hw:r.Tower=1\/r.Tower=2)(ht:within r.Tick 0 1048576=true)(hb:within r.Tick b.From b.To=true)(hs:secR exS r=(w,true))(ha:(towG exS.c.T r.Tower).1.At=a):alwP exS b r=lieE w a:=by
 funext n
 unfold alwP alwK lieE
 show(decide (n<81)&&_)=_
 by_cases h:n<81
 ·refine jI (decide (n<81)&& ·) ?_
  unfold allB seenB
  rw[kH hk,hs,ha,zl7 b hr r hw ht h,hb,jac];rfl
 rw[jH h];rfl
theorem zuW(b:Brn)(hr:b.Rise=0)(r:Rpt)(w:Wdg)(a:Place)(hk:r.Kind≠1)(hw:r.Tower=1\/r.Tower=2)(ht:within r.Tick 0 1048576=true)(hb:within r.Tick b.From b.To=true)(hs:secR exS r=(w,true))(ha:(towG exS.c.T r.Tower).1.At=a):alwP exS b r=notE w a:=by
 funext n
 unfold alwP alwK notE
 show(decide (n<81)&&_)=_
 by_cases h:n<81
 ·refine jI (decide (n<81)&& ·) ?_
  unfold allB seenB
  rw[kG hk,hs,ha,zl7 b hr r hw ht h,hb,jac];rfl
 rw[jH h];rfl
def xq1:Rpt:=⟨1,1,1,1,100,450,0,10⟩
def xq2:Rpt:=⟨2,1,2,2,110,1350,0,10⟩
def xq3:Rpt:=⟨3,1,1,1,300,450,0,10⟩
def xq4:Rpt:=⟨4,2,1,1,105,400,500,10⟩
def exD4:Day:=⟨exS,0,60,[xq1,xq2,xq3,xq4]⟩
theorem svcEx:svcE exS=0:=by
 have e0:ctryE exS.c=0:=by unfold ctryE;rw[kG (by rw[valE];decide+kernel)];unfold towE hzE onM;decide+kernel
 have e1:cirsE exS.k=0:=by decide+kernel
 unfold svcE
 rw[kG (fun hh=>hh e0),kG (fun hh=>hh e1)]
 decide+kernel
theorem znV(r:Rpt)(hf:frmB r=true)(hc:r.C=1\/r.C=2)(ht:within r.Tick 0 1000=true)(hw:r.Tower=r.C)(hk:r.Kind=1->within r.From 0 3599=true/\r.Slack=10):rptE exS r=0:=by
 have e3:=zerE r.C r.Tick hc ht
 unfold rptE
 rw[kG (by rw[hf];decide+kernel),hw,e3]
 have e4:¬((towG exS.c.T r.C).2=false\/cirI exS.k r.C<0):=by rcases hc with e|e<;>rw[e]<;>decide+kernel
 have e5:(exS.k.C.getD (cirI exS.k r.C).toNat default).At=(towG exS.c.T r.C).1.At:=by rcases hc with e|e<;>rw[e]<;>decide+kernel
 rw[kG e4,kG (fun hh=>hh e5),kG (fun hh=>hh rfl)]
 split
 ·rename_i h1
  rw[wdgE r hc ht (hk h1).1 (hk h1).2]
 rfl
theorem sx1:secR exS xq1=(⟨440,460⟩,true):=by
 unfold secR
 rw[kH (by rfl),wdgE xq1 (.inl rfl) (by decide+kernel) (by decide+kernel) rfl];decide+kernel
theorem sx2:secR exS xq2=(⟨1340,1360⟩,true):=by
 unfold secR
 rw[kH (by rfl),wdgE xq2 (.inr rfl) (by decide+kernel) (by decide+kernel) rfl];decide+kernel
theorem sx3:secR exS xq3=(⟨440,460⟩,true):=by
 unfold secR
 rw[kH (by rfl),wdgE xq3 (.inl rfl) (by decide+kernel) (by decide+kernel) rfl];decide+kernel
theorem sx4:secR exS xq4=(⟨410,490⟩,true):=by
 unfold secR
 rw[kG (by decide+kernel),blkE xq4 (.inl rfl) (by decide+kernel) (by decide+kernel)];decide+kernel
theorem rx1:rptE exS xq1=0:=znV xq1 (by decide+kernel) (.inl rfl) (by decide+kernel) rfl fun _=>⟨by decide+kernel,rfl⟩
theorem rx2:rptE exS xq2=0:=znV xq2 (by decide+kernel) (.inr rfl) (by decide+kernel) rfl fun _=>⟨by decide+kernel,rfl⟩
theorem rx3:rptE exS xq3=0:=znV xq3 (by decide+kernel) (.inl rfl) (by decide+kernel) rfl fun _=>⟨by decide+kernel,rfl⟩
theorem rx4:rptE exS xq4=0:=znV xq4 (by decide+kernel) (.inl rfl) (by decide+kernel) rfl fun h=>absurd h (by decide+kernel)
abbrev B1:Nat->Bool:=lieE ⟨440,460⟩ ⟨0,0⟩
abbrev B2:Nat->Bool:=lieE ⟨1340,1360⟩ ⟨8,0⟩
abbrev B4:Nat->Bool:=notE ⟨410,490⟩ ⟨0,0⟩
def fullE(n:Nat):Bool:=decide (n<81)
theorem zuV(b:Brn)(hr:b.Rise=0)(r:Rpt)(hk:r.Kind≠1)(hw:r.Tower=1\/r.Tower=2)(ht:within r.Tick 0 1048576=true)(hb:within r.Tick b.From b.To=false):alwP exS b r=fullE:=by
 funext n
 unfold alwP alwK fullE
 show(decide (n<81)&&_)=_
 by_cases h:n<81
 ·rw[jG h,qE]
  unfold allB seenB
  rw[kG hk]
  show(!(_&&lookB exS b r (plc exS.c.M n)))=true
  rw[zl7 b hr r hw ht h,hb,kW];rfl
 rw[jH h];rfl
theorem a1(b:Brn)(hr:b.Rise=0)(hb:within 100 b.From b.To=true):alwP exS b xq1=B1:=znl b hr xq1 _ _ rfl (.inl rfl) (by decide+kernel) hb sx1 (by decide+kernel)
theorem a2(b:Brn)(hr:b.Rise=0)(hb:within 110 b.From b.To=true):alwP exS b xq2=B2:=znl b hr xq2 _ _ rfl (.inr rfl) (by decide+kernel) hb sx2 (by decide+kernel)
theorem a3(b:Brn)(hr:b.Rise=0)(hb:within 300 b.From b.To=true):alwP exS b xq3=B1:=znl b hr xq3 _ _ rfl (.inl rfl) (by decide+kernel) hb sx3 (by decide+kernel)
theorem a4y(b:Brn)(hr:b.Rise=0)(hb:within 105 b.From b.To=true):alwP exS b xq4=B4:=zuW b hr xq4 _ _ (by decide+kernel) (.inl rfl) (by decide+kernel) hb sx4 (by decide+kernel)
theorem a4n(b:Brn)(hr:b.Rise=0)(hb:within 105 b.From b.To=false):alwP exS b xq4=fullE:=zuV b hr xq4 (by decide+kernel) (.inl rfl) (by decide+kernel) hb
theorem zun(b:Brn)(hb:brnB b=true)(l:List Rpt)(h24:¬24<l.length)(h:∀r∈l,rptE exS r=0)(hd:(l.map Rpt.ID).Nodup):givE exS b l=0:=by
 unfold givE
 rw[kG (fun hh=>hh svcEx),kG (by rw[hb];decide),kG h24]
 refine zaJ fun i hi=>?_
 have hm:l.getD i default=l[i]:=by rw[hZ,kF hi];rfl
 unfold rp1E
 rw[kG (fun hh=>hh (by rw[hm];exact h _ (kR hi))),kG fun hc=>?_]
 have hc:=kD.1 hc
 rw[hm]at hc
 obtain⟨x,hx,e⟩:=kJ.1 hc
 obtain⟨j,hj,rfl⟩:=kP hx
 rw[jQ]at hj
 rw[ja3]at e
 have:=kN.1 hd j i (by rw[kO];omega) (by rw[kO];exact hi) (by omega)
 simp only[List.getElem_map]at this
 exact this e
theorem ztH{b:Brn}{l:List Rpt}{As:List (Nat->Bool)}(hb:brnB b=true)(h24:¬24<l.length)(h:∀r∈l,rptE exS r=0)(hd:(l.map Rpt.ID).Nodup)(ha:l.map (alwP exS b)=As):(plcR exS b l).1=plsL exS.c.M (metP As):=by
 unfold plcR
 rw[kG (fun hh=>hh (zun b hb l h24 h hd)),ha]
theorem sig3:sigL exR=[1,2,3]:=by
 unfold sigL
 rw[List.mergeSort_of_pairwise (by decide+kernel)]
 decide+kernel
theorem sig4:sigL [xq1,xq2,xq3,xq4]=[1,2,3]:=by
 unfold sigL
 rw[List.mergeSort_of_pairwise (by decide+kernel)]
 decide+kernel
theorem zbS{d:Day}{ids:List Int}{b:Brn}{l:List Rpt}{As:List (Nat->Bool)}{L:List Place}(hs:d.s=exS)(hl:d.Long=60)(eb:brnD d ids=b)(el:lstD d ids=l)(sh:b.To-b.From<=60)(hb:brnB b=true)(h24:¬24<l.length)(h:∀r∈l,rptE exS r=0)(hd:(l.map Rpt.ID).Nodup)(ha:l.map (alwP exS b)=As)(hL:plsL exS.c.M (metP As)=L):plsD d ids=L:=by
 unfold plsD
 rw[eb,el,hs,hl,kH sh,ztH hb h24 h hd ha,hL]
theorem zc4{d:Day}{ids:List Int}{b:Brn}(hl:d.Long=60)(eb:brnD d ids=b)(sh:¬b.To-b.From<=60):plsD d ids=[]:=by
 unfold plsD
 rw[eb,hl,kG sh]
theorem zt1(m:Nat):memb [1,2,3] m=memb [1,2,3] (m%8):=by
 unfold memb membA
 congr 1
 refine ja4 fun i hi=>?_
 have hi:i<3:=kK.1 hi
 show m.testBit i=(m%2^3).testBit i
 rw[Nat.testBit_mod_two_pow,jG hi,qE]
abbrev L1:List Place:=[⟨1,1⟩,⟨2,2⟩,⟨3,3⟩,⟨4,4⟩,⟨5,5⟩,⟨6,6⟩,⟨7,7⟩,⟨8,8⟩]
abbrev L2:List Place:=[⟨7,1⟩,⟨6,2⟩,⟨5,3⟩,⟨4,4⟩,⟨3,5⟩,⟨2,6⟩,⟨1,7⟩,⟨0,8⟩]
theorem m1:plsL exS.c.M (metP [B1])=L1:=by decide+kernel
theorem m2:plsL exS.c.M (metP [B2])=L2:=by decide+kernel
theorem m12:plsL exS.c.M (metP [B1,B2])=[⟨4,4⟩]:=by decide+kernel
theorem m1f:plsL exS.c.M (metP [B1,fullE])=L1:=by decide+kernel
theorem m2f:plsL exS.c.M (metP [B2,fullE])=L2:=by decide+kernel
theorem m124:plsL exS.c.M (metP [B1,B2,B4])=[]:=by decide+kernel
theorem c1:plsD exD [1]=L1:=zbS (b:=⟨100,100,0⟩) (l:=[xq1]) (As:=[B1]) rfl rfl (by decide+kernel) (by decide+kernel) (by decide+kernel) (by decide+kernel) (by decide+kernel) (fun r hr=>by rw[kI.1 hr];exact rx1) (by decide+kernel) (by
  simp only[kY,ja1]
  rw[a1 _ rfl (by decide+kernel)]) m1
theorem c2:plsD exD [2]=L2:=zbS (b:=⟨110,110,0⟩) (l:=[xq2]) (As:=[B2]) rfl rfl (by decide+kernel) (by decide+kernel) (by decide+kernel) (by decide+kernel) (by decide+kernel) (fun r hr=>by rw[kI.1 hr];exact rx2) (by decide+kernel) (by
  simp only[kY,ja1]
  rw[a2 _ rfl (by decide+kernel)]) m2
theorem c3:plsD exD [1,2]=[⟨4,4⟩]:=zbS (b:=⟨100,110,0⟩) (l:=[xq1,xq2]) (As:=[B1,B2]) rfl rfl (by decide+kernel) (by decide+kernel) (by decide+kernel) (by decide+kernel) (by decide+kernel) (fun r hr=>by
  simp only[qC,jam,jbs]at hr
  rcases hr with rfl|rfl
  ·exact rx1
  ·exact rx2
  ) (by decide+kernel) (by
  simp only[kY,ja1]
  rw[a1 _ rfl (by decide+kernel),a2 _ rfl (by decide+kernel)]) m12
theorem c4:plsD exD [3]=L1:=zbS (b:=⟨300,300,0⟩) (l:=[xq3]) (As:=[B1]) rfl rfl (by decide+kernel) (by decide+kernel) (by decide+kernel) (by decide+kernel) (by decide+kernel) (fun r hr=>by rw[kI.1 hr];exact rx3) (by decide+kernel) (by
  simp only[kY,ja1]
  rw[a3 _ rfl (by decide+kernel)]) m1
theorem e1:plsD exD4 [1]=L1:=zbS (b:=⟨100,100,0⟩) (l:=[xq1,xq4]) (As:=[B1,fullE]) rfl rfl (by decide+kernel) (by decide+kernel) (by decide+kernel) (by decide+kernel) (by decide+kernel) (fun r hr=>by
  simp only[qC,jam,jbs]at hr
  rcases hr with rfl|rfl
  ·exact rx1
  ·exact rx4
  ) (by decide+kernel) (by
  simp only[kY,ja1]
  rw[a1 _ rfl (by decide+kernel),a4n _ rfl (by decide+kernel)]) m1f
theorem e2:plsD exD4 [2]=L2:=zbS (b:=⟨110,110,0⟩) (l:=[xq2,xq4]) (As:=[B2,fullE]) rfl rfl (by decide+kernel) (by decide+kernel) (by decide+kernel) (by decide+kernel) (by decide+kernel) (fun r hr=>by
  simp only[qC,jam,jbs]at hr
  rcases hr with rfl|rfl
  ·exact rx2
  ·exact rx4
  ) (by decide+kernel) (by
  simp only[kY,ja1]
  rw[a2 _ rfl (by decide+kernel),a4n _ rfl (by decide+kernel)]) m2f
theorem e3:plsD exD4 [1,2]=[]:=zbS (b:=⟨100,110,0⟩) (l:=[xq1,xq2,xq4]) (As:=[B1,B2,B4]) rfl rfl (by decide+kernel) (by decide+kernel) (by decide+kernel) (by decide+kernel) (by decide+kernel) (fun r hr=>by
  simp only[qC,jam,jbs]at hr
  rcases hr with rfl|rfl|rfl
  ·exact rx1
  ·exact rx2
  ·exact rx4
  ) (by decide+kernel) (by
  simp only[kY,ja1]
  rw[a1 _ rfl (by decide+kernel),a2 _ rfl (by decide+kernel),a4y _ rfl (by decide+kernel)]) m124
theorem e4:plsD exD4 [3]=L1:=zbS (b:=⟨300,300,0⟩) (l:=[xq3,xq4]) (As:=[B1,fullE]) rfl rfl (by decide+kernel) (by decide+kernel) (by decide+kernel) (by decide+kernel) (by decide+kernel) (fun r hr=>by
  simp only[qC,jam,jbs]at hr
  rcases hr with rfl|rfl
  ·exact rx3
  ·exact rx4
  ) (by decide+kernel) (by
  simp only[kY,ja1]
  rw[a3 _ rfl (by decide+kernel),a4n _ rfl (by decide+kernel)]) m1f
theorem c5:plsD exD [1,3]=[]:=zc4 (b:=⟨100,300,0⟩) rfl (by decide+kernel) (by decide+kernel)
theorem c6:plsD exD [2,3]=[]:=zc4 (b:=⟨110,300,0⟩) rfl (by decide+kernel) (by decide+kernel)
theorem c7:plsD exD [1,2,3]=[]:=zc4 (b:=⟨100,300,0⟩) rfl (by decide+kernel) (by decide+kernel)
theorem e5:plsD exD4 [1,3]=[]:=zc4 (b:=⟨100,300,0⟩) rfl (by decide+kernel) (by decide+kernel)
theorem e6:plsD exD4 [2,3]=[]:=zc4 (b:=⟨110,300,0⟩) rfl (by decide+kernel) (by decide+kernel)
theorem e7:plsD exD4 [1,2,3]=[]:=zc4 (b:=⟨100,300,0⟩) rfl (by decide+kernel) (by decide+kernel)
def T3(m:Nat):List Place:=match m%8 with
 |1=>L1|2=>L2|3=>[⟨4,4⟩]|4=>L1|0=>plsD exD []| _=>[]
def T4(m:Nat):List Place:=match m%8 with
 |1=>L1|2=>L2|4=>L1|0=>plsD exD4 []| _=>[]
theorem cel3(m:Nat):celD exD m=T3 m:=by
 have h:celD exD m=plsD exD (memb [1,2,3] (m%8)):=by
  show plsD exD (memb (sigL exR) m)=_
  rw[sig3,zt1]
 rw[h]
 have h8:m%8<8:=jau _ (by decide)
 unfold T3
 generalize m%8=k at h8
 match k,h8 with
 |0,_=>rfl
 |1,_=>exact c1
 |2,_=>exact c2
 |3,_=>exact c3
 |4,_=>exact c4
 |5,_=>exact c5
 |6,_=>exact c6
 |7,_=>exact c7
theorem cel4(m:Nat):celD exD4 m=T4 m:=by
 have h:celD exD4 m=plsD exD4 (memb [1,2,3] (m%8)):=by
  show plsD exD4 (memb (sigL [xq1,xq2,xq3,xq4]) m)=_
  rw[sig4,zt1]
 rw[h]
 have h8:m%8<8:=jau _ (by decide)
 unfold T4
 generalize m%8=k at h8
 match k,h8 with
 |0,_=>rfl
 |1,_=>exact e1
 |2,_=>exact e2
 |3,_=>exact e3
 |4,_=>exact e4
 |5,_=>exact e5
 |6,_=>exact e6
 |7,_=>exact e7
section
variable (ids:List Int)(pv:D)(ok:List Int->Bool)
abbrev putSl(γ:Nat->Value)(i:Nat):List (Nat×AV):=[(0,.d (I i)),(1,.d (capB [lI ids])),(2,.pbox 4 (γ 4)),(3,.d (posD pv)),(4,.pbox 3 (γ 3)),(5,.pbox 5 (γ 5))]
theorem ziW(i:Nat)(ss:List (List Int)):∀l,∀v∈putArgs ids pv i l,∀j∈v.refs,(look (putObs ids pv ss l) j).isSome=true:=by
 intro l v hv j hj
 simp only[putArgs,qC,jam,jbs]at hv
 rcases hv with rfl|rfl|rfl|rfl|rfl|rfl
 ·cases hj
 ·cases hj
 ·obtain rfl:j=4:=by simpa [AV.refs]using hj
  rfl
 ·cases hj
 ·obtain rfl:j=3:=by simpa [AV.refs]using hj
  rfl
 obtain rfl:j=5:=by simpa [AV.refs]using hj
 rfl
theorem ztM(hn:ids.length<=7)(hok:PosC pv ok)(ss:List (List Int))(n:Nat)(hs:ss.length<=7)(hl:∀s∈ss,s.length<=7)(hsub:Sub (allP ids ok) n (prt ok [] ss)):
  SpecY PP 188 ((allP ids ok).map enP) n (prt ok [] ss).length (putArgs ids pv ids.length) (putObs ids pv ss) (putObs ids pv ss) [4,3,5] [B true] [B false]:=by
 refine ziF [10] Tryz.func188 rfl (by kernel_rfl) (putArgs ids pv ids.length) [7] rfl [(2,4),(4,3),(5,5)] rfl rfl rfl (ziW ids pv _ ss) (by decide) (fun _=>rfl) fun l γ=>?_
 refine sYe (by simp) ?_
 refine lOf (σ:=Nat) (fun j=>([(G,.gho (some n)),(0,.d (I ids.length)),(1,.d (capB [lI ids])),(2,.pbox 4 (γ 4)),(3,.d (posD pv)),(4,.pbox 3 (γ 3)),(5,.pbox 5 (γ 5)),(8,.own 17),(18,.own 100),(19,.d (I ss.length)),(20,.d (I j))],
   [(4,.box [.own 100]),(100,.row 22 1 ss.length (rowII ss)),(3,.box [.yl l]),(5,.box [.clo 188 (putCaps ids pv)]),(17,.row 22 1 (ss.take j).length (rowII (ss.take j)))])) (fun j=>j<=ss.length/\∀q,q<j->ok (ss.getD q [])=true) (fun j=>ss.length-j) 0
  ⟨rfl,⟨obX rfl,obR rfl (dE _),obX rfl,obX rfl,obR rfl ⟨rfl,.inl rfl⟩,trivial⟩,wq rfl⟩ z0L fun j hj=>?_
 obtain⟨hj,ha⟩:=hj
 have lt:(ss.take j).length=j:=by rw[jQ];omega
 apply bY<;>intro h2
 ·have h2:j<ss.length:=by have:=dT h2;omega
  have ej:((j:Nat):Int).toNat=j:=wB j
  have hm:ss.getD j []∈ss:=by rw[hZ,kF h2];exact kR h2
  refine⟨⟨by omega,by omega⟩,⟨by omega,?_⟩⟩
  rcases hok with⟨g0,c0,rfl,hok⟩|⟨f0,m0,g0,rfl,hok⟩
  all_goals
   have hc:=hok (ss.getD (j:Int).toNat []) (by rw[ej];exact hl _ hm)
   first|refine cP hc rfl rfl ?_|refine CallSt.bn rfl rfl rfl hc rfl ?_
   apply bY<;>intro h3
   ·have h3:ok (ss.getD j [])=false:=by rw[ej]at h3;simpa using h3
    have em:prt ok [] ss=[]:=kG fun h=>by rw[jC.1 h _ hm]at h3;cases h3
    exact .inl ⟨rfl,⟨obX rfl,obR rfl (dE _),obX rfl,obX rfl,trivial⟩,avG rfl (by rw[em];rfl),avQ rfl,avQ rfl,avQ rfl,avQ rfl,trivial⟩
   have h3:ok (ss.getD j [])=true:=by rw[ej]at h3;simpa using h3
   refine cR (zlF (ss.getD (j:Int).toNat []) (by rw[ej];have:=hl _ hm;omega)) rfl rfl ?_
   refine⟨⟨.inr rfl,by unfold maxLen;omega,by show((ss.take j).length+1)*24<=140737488355328;omega⟩,?_⟩
   refine⟨i6,?_⟩
   refine⟨j+1,⟨rfl,⟨obX rfl,obR rfl (dE _),obX rfl,obX rfl,obR rfl ?_,trivial⟩,wq rfl⟩,⟨h2,fun q hq=>?_⟩,msr h2⟩
   ·rw[zav h2 []]
    refine zgJ rfl ?_
    show D.eqv (lI (ss.getD (j:Int).toNat [])) _
    rw[ej];exact dE _
   by_cases e:q=j
   ·subst e;exact h3
   exact ha q (by omega)
 have h2:j=ss.length:=by have:=dF h2;omega
 subst h2
 rw[jZ]
 have em:prt ok [] ss=[ss]:=kH (jC.2 fun s hs=>by
  obtain⟨q,hq,rfl⟩:=kP hs
  have:=ha q hq
  rw[hZ,kF hq]at this
  exact this)
 refine kAt [(G,.gho (some n)),(0,.d (I ids.length)),(1,.d (capB [lI ids])),(2,.pbox 4 (γ 4)),(3,.d (posD pv)),(4,.pbox 3 (γ 3)),(5,.pbox 5 (γ 5)),(8,.d (lII ss))] (putObs ids pv ss l) ⟨rfl,⟨obX rfl,obR rfl (dE _),obX rfl,obX rfl,trivial⟩,avQ rfl,avQ rfl,avQ rfl,avQ rfl,avQ rfl,avQ rfl,avQ rfl,avOw rfl rfl rfl (dE _),trivial⟩ ?_
 refine CallSt.ydC (d:=36) (putSl ids pv γ ids.length) (putObs ids pv ss l) rfl rfl rfl rfl ⟨rfl,⟨obX rfl,obR rfl (dE _),obX rfl,obX rfl,trivial⟩,wq rfl⟩ (by rw[em]at hsub;exact hsub.get) rfl rfl ?_ ?_
 ·exact .inl ⟨rfl,⟨obX rfl,obR rfl (dE _),obX rfl,obX rfl,trivial⟩,avG rfl (by rw[em];rfl),avQ rfl,avQ rfl,avQ rfl,avQ rfl,trivial⟩
 exact .inr ⟨rfl,trivial,avQ rfl,avQ rfl,trivial⟩
end
section
variable (ids:List Int)(pv:D)(ok:List Int->Bool)
theorem ztL(hn:ids.length<=7)(i:Nat)(hi:i<ids.length)(ss:List (List Int))(n:Nat)(hs:ss.length<=i)(hl:∀s∈ss,s.length<=i)(hsub:Sub (allP ids ok) n (prt ok (ids.drop i) ss))
  (ih:∀(ss:List (List Int)) (n:Nat),ss.length<=i+1->(∀s∈ss,s.length<=i+1)->Sub (allP ids ok) n (prt ok (ids.drop (i+1)) ss)->SpecY PP 188 ((allP ids ok).map enP) n (prt ok (ids.drop (i+1)) ss).length (putArgs ids pv (i+1)) (putObs ids pv ss) (putObs ids pv ss) [4,3,5] [B true] [B false]):
  SpecY PP 188 ((allP ids ok).map enP) n (prt ok (ids.drop i) ss).length (putArgs ids pv i) (putObs ids pv ss) (putObs ids pv ss) [4,3,5] [B true] [B false]:=by
 have ed:ids.drop i=ids.getD i 0::ids.drop (i+1):=by rw[qO hi,hZ,kF hi];rfl
 rw[ed]at hsub⊢
 rw[zog]at hsub⊢
 refine ziF [] Tryz.func188 rfl (by kernel_rfl) (putArgs ids pv i) [7] rfl [(2,4),(4,3),(5,5)] rfl rfl rfl (ziW ids pv _ ss) (by decide) (fun _=>rfl) fun l γ=>?_
 refine sNo (by simp;omega) ?_
 refine lOf (σ:=Nat) (fun q=>([(G,.gho (some (n+(prtK ok (ids.getD i 0) (ids.drop (i+1)) ss q).length))),(0,.d (I i)),(1,.d (capB [lI ids])),(2,.pbox 4 (γ 4)),(3,.d (posD pv)),(4,.pbox 3 (γ 3)),(5,.pbox 5 (γ 5)),(38,.d (I ss.length)),(39,.d (I q))],
   [(4,.box [.own 100]),(100,.row 22 1 ss.length (rowII ss)),(3,.box [.yl l]),(5,.box [.clo 188 (putCaps ids pv)])])) (fun q=>q<=ss.length) (fun q=>ss.length-q) 0
  ⟨rfl,⟨obX rfl,obR rfl (dE _),obX rfl,obX rfl,trivial⟩,wq rfl⟩ (jF _) fun q hq=>?_
 have hq:q<=ss.length:=hq
 apply bY<;>intro h2
 ·have h2:q<ss.length:=by have:=dT h2;omega
  have eq:((q:Nat):Int).toNat=q:=wB q
  have hm:ss.getD q []∈ss:=by rw[hZ,kF h2];exact kR h2
  have hml:=hl _ hm
  refine⟨⟨by omega,by omega⟩,⟨by omega,?_⟩⟩
  refine oL [2,4,5,6,7,8,1000,1001,6003,9,10,5011] (fNo ?_)
  refine⟨⟨rfl,by omega,by omega⟩,?_⟩
  refine⟨rfl,rfl,?_⟩
  refine⟨rfl,rfl,?_⟩
  refine⟨⟨_,_,_,_,_,_,rfl,rfl,rfl,rfl,?_⟩⟩
  rw[zar]
  refine⟨_,_,_,_,_,none,rfl,zok (ss.getD (q:Int).toNat []) (by rw[eq];omega),fun m j _ _=>rfl,?_⟩
  refine⟨⟨.inr rfl,by unfold maxLen;rw[eq];omega,by show((ss.getD (q:Int).toNat []).length+1)*8<=140737488355328;rw[eq];omega⟩,?_⟩
  refine⟨⟨by omega,by omega⟩,?_⟩
  refine FzOb.fz [49] ?_
  refine⟨by omega,?_⟩
  refine⟨i6,?_⟩
  have hset:(ss.set q (ss.getD q []++[ids.getD i 0])).length<=i+1:=by rw[jal];omega
  have hsl:∀s∈ss.set q (ss.getD q []++[ids.getD i 0]),s.length<=i+1:=fun s hs=>by
   rcases jbB hs with hs|rfl
   ·have:=hl s hs;omega
   rw[jR,qR];omega
  have hsub':Sub (allP ids ok) (n+(prtK ok (ids.getD i 0) (ids.drop (i+1)) ss q).length) (prt ok (ids.drop (i+1)) (ss.set q (ss.getD q []++[ids.getD i 0]))):=by
   refine(hsub.pre (L2:=prtK ok (ids.getD i 0) (ids.drop (i+1)) ss q++prt ok (ids.drop (i+1)) (ss.set q (ss.getD q []++[ids.getD i 0]))) ?_).snd
   rw[<- zd1]
   exact List.IsPrefix.trans (zi1 ok _ _ ss h2) (List.prefix_append _ _)
  refine CallSt.cy [(0,.d (I i)),(1,.d (capB [lI ids])),(2,.pbox 4 (γ 4)),(3,.d (posD pv)),(4,.pbox 3 (γ 3)),(5,.pbox 5 (γ 5)),(11,.d (I q)),(12,.d (lI (ss.getD q []))),(38,.d (I ss.length)),(39,.d (I q)),(57,.clo 188 (putCaps ids pv)),(59,.d (I ((i+1:Nat):Int)))] []
   (ih (ss.set q (ss.getD q []++[ids.getD i 0])) _ hset hsl hsub') rfl rfl ⟨rfl,⟨obX rfl,obR rfl ?_,obX rfl,obX rfl,trivial⟩,avQ rfl,avQ rfl,avQ rfl,avQ rfl,avQ rfl,avQ rfl,avQ rfl,?_,avQ rfl,avQ rfl,avQ rfl,avQ rfl,trivial⟩ rfl rfl rfl rfl ?_ ?_
  ·refine ztb h2 eq ?_
   refine⟨by rw[eq,jR];rfl,.inr ⟨rfl,fun u hu v hv=>?_⟩⟩
   show D.eqv (appRow _ (rowI (ss.getD (q:Int).toNat [])) _ u v) (I ((ss.getD q []++[ids.getD i 0]).getD u 0))
   rw[eq]
   unfold appRow
   by_cases hh:u<(ss.getD q []).length
   ·rw[kH hh,hZ (l:=ss.getD q []++[ids.getD i 0]),jJ hh,<- hZ]
    exact dE _
   have hu:u<(ss.getD (q:Int).toNat []).length+1:=hu
   rw[eq]at hu
   have e:u=(ss.getD q []).length:=by omega
   obtain rfl:v=0:=jap.1 hv
   rw[kG hh,hZ (l:=ss.getD q []++[ids.getD i 0]),jK (by omega),e,kE]
   show D.eqv (I (ids.getD i 0)) (I (ids.getD i 0))
   exact dE _
  ·show D.eqv (lI (ss.getD (q:Int).toNat [])) (lI (ss.getD q []))
   rw[eq];exact dE _
  ·refine sF ?_
   have ls:(ss.set q (ss.getD q []++[ids.getD i 0])).length=ss.length:=jal
   refine⟨⟨by omega,by rw[ls];omega⟩,⟨by rw[ls,eq];exact h2,?_⟩⟩
   refine⟨i6,?_⟩
   refine⟨q+1,⟨rfl,⟨obX rfl,obR rfl ?_,obX rfl,obX rfl,trivial⟩,avG rfl ?_,avQ rfl,avQ rfl,avQ rfl,avQ rfl,avQ rfl,avQ rfl,avQ rfl,avQ rfl,trivial⟩,h2,msr h2⟩
   ·have h3:q<(ss.set q (ss.getD q []++[ids.getD i 0])).length:=by rw[ls];exact h2
    have h4:=ztb (ss:=ss.set q (ss.getD q []++[ids.getD i 0])) (s':=ss.getD q []) h3 eq (dE _)
    have h5:(ss.set q (ss.getD q []++[ids.getD i 0])).set q (ss.getD q [])=ss:=by
     rw[List.set_set,hZ,kF h2]
     exact List.set_getElem_self h2
    rw[h5]at h4
    exact h4
   rw[zd1,jR,jaz]
  refine sT ?_
  exact .inr ⟨rfl,trivial,avQ rfl,avQ rfl,trivial⟩
 have h2:q=ss.length:=by have:=dF h2;omega
 subst h2
 refine oN 9 ?_
 refine⟨⟨rfl,by omega,by omega⟩,?_⟩
 refine⟨⟨.inr rfl,by unfold maxLen;omega,by show(ss.length+1)*24<=140737488355328;omega⟩,?_⟩
 refine⟨i6,?_⟩
 refine CallSt.cy [(0,.d (I i)),(1,.d (capB [lI ids])),(2,.pbox 4 (γ 4)),(3,.d (posD pv)),(4,.pbox 3 (γ 3)),(5,.pbox 5 (γ 5)),(75,.clo 188 (putCaps ids pv)),(77,.d (I ((i+1:Nat):Int)))] []
  (ih (ss++[[ids.getD i 0]]) _ (by rw[jR,qR];omega) (fun s hs=>by
   rcases kL.1 hs with hs|hs
   ·have:=hl s hs;omega
   obtain rfl:=kI.1 hs;rw[qR];omega) hsub.snd) rfl rfl ⟨rfl,⟨obX rfl,obR rfl ?_,obX rfl,obX rfl,trivial⟩,avQ rfl,avQ rfl,avQ rfl,avQ rfl,avQ rfl,avQ rfl,avQ rfl,avQ rfl,trivial⟩ rfl rfl rfl rfl ?_ ?_
 ·refine zgJ rfl ⟨rfl,.inr ⟨rfl,fun u hu v hv=>?_⟩⟩
  obtain rfl:v=0:=jap.1 hv
  obtain rfl:u=0:=jap.1 hu
  show D.eqv (I (ids.getD i 0)) (I (ids.getD i 0))
  exact dE _
 ·refine sF ?_
  have ll:(ss++[[ids.getD i 0]]).length=ss.length+1:=by rw[jR,qR]
  refine⟨i6,?_⟩
  refine⟨⟨by rw[ll];omega,by rw[ll];omega⟩,?_⟩
  refine .inl ⟨rfl,⟨obX rfl,obR rfl ?_,obX rfl,obX rfl,trivial⟩,avG rfl ?_,avQ rfl,avQ rfl,avQ rfl,avQ rfl,trivial⟩
  ·refine⟨by rw[ll];omega,.inr ⟨rfl,fun u hu v hv=>?_⟩⟩
   rw[ll]at hu
   have hu:u<ss.length:=by omega
   show D.eqv (lI ((ss++[[ids.getD i 0]]).getD u [])) (lI (ss.getD u []))
   rw[hZ (l:=ss++[[ids.getD i 0]]),jJ hu,<- hZ]
   exact dE _
  rw[jR,jaz]
 refine sT ?_
 exact .inr ⟨rfl,trivial,avQ rfl,avQ rfl,trivial⟩
end
section
variable (ids:List Int)(pv:D)(ok:List Int->Bool)
theorem ztN(hn:ids.length<=7)(hok:PosC pv ok):∀(k i:Nat) (ss:List (List Int)) (n:Nat),i+k=ids.length->ss.length<=i->(∀s∈ss,s.length<=i)->Sub (allP ids ok) n (prt ok (ids.drop i) ss)->
  SpecY PP 188 ((allP ids ok).map enP) n (prt ok (ids.drop i) ss).length (putArgs ids pv i) (putObs ids pv ss) (putObs ids pv ss) [4,3,5] [B true] [B false]
 |0,i,ss,n,hi,hs,hl,hsub=>by
  obtain rfl:i=ids.length:=by omega
  rw[ja9]at hsub⊢
  exact ztM ids pv ok hn hok ss n (by omega) (fun s h=>by have:=hl s h;omega) hsub
 |k+1,i,ss,n,hi,hs,hl,hsub=>ztL ids pv ok hn i (by omega) ss n hs hl hsub fun ss n hs hl hsub=>ztN hn hok k (i+1) ss n (by omega) hs hl hsub
def prtCap(j:Nat):D:=getD' [capB [lI ids],posD pv] j
theorem zfN(hn:ids.length<=7)(hok:PosC pv ok):SeqC PP 187 2 (prtCap ids pv) enP (allP ids ok):=by
 refine zfA Tryz.func187 rfl (by kernel_rfl) rfl rfl enP _ fun l=>?_
 refine CallSt.cy (cuts:=[]) [(7,.clo 188 (putCaps ids pv))] [] (ztN ids pv ok hn hok ids.length 0 [] 0 (qB _) (jE _) (fun s h=>by cases h) ⟨[],rfl,List.prefix_rfl⟩) rfl rfl
  ⟨rfl,⟨⟨⟨rfl,_,_,_,rfl⟩,trivial⟩,rfl,obX rfl,obX rfl,trivial⟩,wq rfl⟩ rfl rfl rfl rfl ?_ ?_
 ·exact .inl (jI (fun n=>AV.gho (some n)) (qB _))
 exact .inr rfl
theorem zgM(hp:(∃g c,pv=cloB g [c])\/∃f m g,pv= .bnd f m g):Spec PP 113 [.d (lI ids),.d pv] [.d (cloB 187 [capB [lI ids],posD pv])]:=by
 rcases hp with⟨g0,c0,rfl⟩|⟨f0,m0,g0,rfl⟩
 all_goals
  refine sA Tryz.func113 ?_
  refine⟨⟨rfl,rfl,fun j hj=>?_⟩,trivial⟩
  match j,hj with
  |0,_=>exact⟨_,rfl,rfl,_,_,rfl,rfl,rfl,fun j hj=>dE _⟩
  |1,_=>exact⟨_,rfl,rfl,_,_,rfl,rfl,rfl,fun j hj=>dE _⟩
end
def bitA(ids s:List Int)(i:Nat):Nat:=(List.range i).foldl (fun b k=>if s.contains (ids.getD k 0)=true then onS b k else b) 0
theorem zcU(ids s:List Int)(i:Nat):bitA ids s (i+1)=if s.contains (ids.getD i 0)=true then onS (bitA ids s i) i else bitA ids s i:=by
 unfold bitA
 rw[qU,wJ];rfl
theorem zne(ids s:List Int):∀i,i<=7->bitA ids s i<128
 |0,_=>by show 0<128;decide
 |i+1,h=>by
  have:=zne ids s i (by omega)
  rw[zcU]
  split
  ·exact ztU this (by omega)
  exact this
def bitS(ids s:List Int):Nat:=bitA ids s ids.length
abbrev lkC(d:Day)(ks:List Nat):List D:=d.ds++[lI (sigL d.R),cmap d ks]
theorem zuf(d:Day)(ks:List Nat)(hn:(sigL d.R).length<=7)(s:List Int)(hs:s.length<=1000000):Spec PP 114 [.d (lI s),.d (capB (lkC d ks))] [B (fitK d ks (bitS (sigL d.R) s))]:=by
 refine sA Tryz.func114 ?_
 refine lOf (σ:=Nat) (fun i=>([(0,.d (lI s)),(1,avOf (.d (capB (lkC d ks)))),(4,.d (I (bitA (sigL d.R) s i))),(8,.d (lI (sigL d.R))),(9,.d (I (sigL d.R).length)),(10,.d (I i))],[])) (fun i=>i<=(sigL d.R).length) (fun i=>(sigL d.R).length-i) 0
  ⟨rfl,trivial,wq rfl⟩ (jF _) fun i hi=>?_
 have hi:i<=(sigL d.R).length:=hi
 apply bY<;>intro h1
 ·have h1:i<(sigL d.R).length:=by have:=dT h1;omega
  have hb:=zne (sigL d.R) s i (by omega)
  refine⟨⟨rfl,by omega,by omega⟩,?_⟩
  refine cP (zdj s ((sigL d.R).getD i 0) hs) rfl rfl ?_
  apply bY<;>intro h2
  ·have h2:s.contains ((sigL d.R).getD i 0)=true:=h2
   refine⟨by omega,?_⟩
   refine⟨i6,?_⟩
   refine⟨i+1,⟨rfl,trivial,avQ rfl,avQ rfl,?_,avQ rfl,avQ rfl,avQ rfl,trivial⟩,h1,msr h1⟩
   rw[zcU,kH h2]
   exact avQ (jI (fun n=>AV.d (.int .i64 n)) (bOn hb (by omega)))
  have h2:s.contains ((sigL d.R).getD i 0)=false:=h2
  refine⟨i6,?_⟩
  refine⟨i+1,⟨rfl,trivial,?_⟩,h1,msr h1⟩
  rw[zcU,kG (by rw[h2];decide)]
  exact wq rfl
 have h1:i=(sigL d.R).length:=by have:=dF h1;omega
 subst h1
 refine cP (ze6 d ks (bitS (sigL d.R) s)) rfl rfl ?_
 exact r1B rfl rfl
abbrev allCs(d:Day)(ks:List Nat):List D:=[capB [lI (sigL d.R)],posD (cloB 114 [capB (lkC d ks)])]
theorem j_all(d:Day)(ks:List Nat):Spec PP 75 [lkV d ks] [.d (cloB 187 (allCs d ks))]:=by
 refine sA Tryz.func75 ?_
 refine fEq [1] (zgM (sigL d.R) (cloB 114 [capB (lkC d ks)]) (.inl ⟨_,_,rfl⟩)) rfl ⟨dE _,⟨rfl,rfl,fun j hj=>by obtain rfl:j=0:=jap.1 hj;exact dE _⟩,trivial⟩ rfl ?_
 exact⟨dE _,trivial⟩
abbrev parts(d:Day):List (List (List Int)):=prt (fun s=>fitK d (ksD d) (bitS (sigL d.R) s)) (sigL d.R) []
theorem zoJ{d:Day}(h:DayOk d):SeqC PP 187 2 (prtCap (sigL d.R) (cloB 114 [capB (lkC d (ksD d))])) enP (parts d):=
 zfN (sigL d.R) _ _ (sig7 h) (.clo _ _ rfl fun s hs=>zuf d (ksD d) (sig7 h) s (by omega))
theorem zhS{α:Type}{ok:List α->Bool}:∀{r:List α}{ss:List (List α)}{B:Nat}{x:List (List α)},x∈prt ok r ss->(∀s∈ss,s.length<=B)->x.length<=ss.length+r.length/\∀s∈x,s.length<=B+r.length+1
 | [],ss,B,x,h,hb=>by
  unfold prt at h
  split at h
  ·obtain rfl:=kI.1 h
   exact⟨jE _,fun s hs=>by have:=hb s hs;simp;omega⟩
  ·cases h
 |a::r,ss,B,x,h,hb=>by
  unfold prt at h
  rcases kL.1 h with h|h
  ·obtain⟨k,hk,h⟩:=List.mem_flatMap.1 h
   have hk:=kK.1 hk
   obtain⟨h1,h2⟩:=zhS (B:=B+1) h fun s hs=>by
    rcases jbB hs with hs|rfl
    ·have:=hb s hs;omega
    have hm:ss.getD k []∈ss:=by rw[hZ,kF hk];exact kR hk
    have:=hb _ hm
    rw[jR,qR];omega
   rw[jal]at h1
   exact⟨by simp;omega,fun s hs=>by have:=h2 s hs;simp;omega⟩
  obtain⟨h1,h2⟩:=zhS (B:=B+1) h fun s hs=>by
   rcases kL.1 hs with hs|hs
   ·have:=hb s hs;omega
   obtain rfl:=kI.1 hs;simp
  rw[jR]at h1
  exact⟨by simp at h1⊢;omega,fun s hs=>by have:=h2 s hs;simp;omega⟩
theorem zrt{α:Type}(ok:List α->Bool)(r:List α)(h:r.length<=7):(prt ok r []).length<=877:=by
 rw[zd0]
 refine jM (qD _ _) ?_
 rw[kO]
 have:∀n,n<8->(rgs n 0).length<=877:=by decide+kernel
 exact this _ (by omega)
theorem zbU{d:Day}(h:DayOk d):(parts d).length<=877:=zrt _ _ (sig7 h)
theorem zbT{d:Day}(h:DayOk d){x:List (List Int)}(hx:x∈parts d):x.length<=7/\∀s∈x,s.length<=8:=by
 have:=sig7 h
 obtain⟨h1,h2⟩:=zhS (B:=0) hx (fun s hs=>by cases hs)
 exact⟨by simp at h1;omega,fun s hs=>by have:=h2 s hs;omega⟩
def bst0(out:List (List (List Int)))(p:List (List Int)):List (List (List Int)):=if decide (0<out.length)&&decide (p.length<(out.getD 0 []).length)then []else out
def bst1(out:List (List (List Int)))(p:List (List Int)):List (List (List Int)):=if decide ((bst0 out p).length=0)||decide (p.length=((bst0 out p).getD 0 []).length)then bst0 out p++[p]else bst0 out p
def bstL(l:List (List (List Int))):List (List (List Int)):=l.foldl bst1 []
theorem zb4(l:List (List (List Int)))(p:List (List Int)):bstL (l++[p])=bst1 (bstL l) p:=by unfold bstL;rw[wJ];rfl
theorem zpn(o:List (List (List Int)))(p:List (List Int)):(bst0 o p).length<=o.length:=by
 unfold bst0
 split
 ·exact jF _
 exact jE _
theorem zpm(o:List (List (List Int)))(p:List (List Int)):(bst1 o p).length<=o.length+1:=by
 have:=zpn o p
 unfold bst1
 split
 ·rw[jR];simp;omega
 omega
theorem zjL:∀(l o:List (List (List Int))),(l.foldl bst1 o).length<=o.length+l.length
 | [],o=>jE _
 |p::l,o=>by
  have h1:=zjL l (bst1 o p)
  have h2:=zpm o p
  rw[jaE,jbp]
  omega
theorem zcS(l:List (List (List Int))):(bstL l).length<=l.length:=by
 have:=zjL l []
 unfold bstL
 simpa using this
abbrev rowPP(l:List (List (List Int))):Nat->Nat->D:=fun i _=>lII (l.getD i [])
theorem zpW{l:List (List (List Int))}{p:List (List Int)}{g:Nat->Nat->D}(hg:D.eqv (g 0 0) (lII p)):D.eqv (.slc 1 (l.length+1) (appRow l.length (rowPP l) g)) (.slc 1 (l++[p]).length (rowPP (l++[p]))):=by
 refine⟨by simp,.inr ⟨rfl,fun i hi j hj=>?_⟩⟩
 show D.eqv (appRow l.length (rowPP l) g i j) (lII ((l++[p]).getD i []))
 obtain rfl:j=0:=by omega
 unfold appRow
 by_cases h:i<l.length
 ·rw[kH h,hZ (l:=l++[p]),jJ h,<- hZ]
  exact dE _
 have e:i=l.length:=by omega
 subst e
 rw[kG h,kE,hZ,jK (jE _),kE]
 exact hg
theorem nz_no{n:Nat}(h:0<n):((n:Int)==0)=false:=by simp;omega
theorem ztZ{n:Nat}(h:n=0):((n:Int)==0)=true:=by subst h;rfl
def obBst(pre:List (List (List Int))):List (Nat×Ob):=[(3,.box [.own 34]),(34,.row 43 1 (bstL pre).length (rowPP (bstL pre)))]
theorem ztO(g:FuncId)(c1 c2:D)(xs:List (List (List Int)))(hx:xs.length<=1000)(hseq:SeqC PP g 2 (getD' [c1,c2]) enP xs):Spec PP 74 [.d (cloB g [c1,c2])] [.d (lPP (bstL xs))]:=by
 refine sA Tryz.func74 ?_
 refine CodeOb.rangeAt hseq rfl (fun _=>rfl) (by decide) [(3,.box 3 0)] [(3,0)] obBst rfl (fun _=>rfl) ?_ (Iv:=fun _=>True) trivial (fun v pre x hx' _=>?_) (fun _=>?_)
 ·exact⟨rfl,⟨obN rfl rfl rfl,obZ rfl rfl,trivial⟩,wq rfl⟩
 ·have hpl:pre.length<1000:=by
   have:=hx'.length_le
   rw[jR]at this;simp at this;omega
  have hlen:=zcS pre
  have push:∀o:List (List (List Int)),o.length<=1000->bst1 (bstL pre) x=o++[x]->bst1 (bstL pre) x=o++[x]:=fun _ _ h=>h
  apply bY<;>intro h1
  ·have h1:0<(bstL pre).length:=by have:=dT h1;omega
   refine⟨⟨by omega,by omega⟩,⟨by omega,?_⟩⟩
   repeat first|apply sT|apply sF
   apply bY<;>intro h2
   ·have h2:x.length<((bstL pre).getD 0 []).length:=by have:(x.length:Int)<((bstL pre).getD 0 []).length:=dT h2;omega
    have e0:bst0 (bstL pre) x=[]:=by unfold bst0;rw[kH (by rw[jG h1,jG h2];rfl)]
    have e1:bst1 (bstL pre) x=[]++[x]:=by unfold bst1;rw[e0];rfl
    repeat first|apply sT|apply sF
    refine⟨⟨.inr rfl,by unfold maxLen;omega,by show(0+1)*24<=140737488355328;omega⟩,?_⟩
    refine⟨trivial,rfl,⟨obO rfl,obR rfl ?_,trivial⟩,wq rfl⟩
    rw[zb4,e1]
    refine⟨rfl,.inr ⟨rfl,fun u hu w hw=>?_⟩⟩
    obtain rfl:w=0:=jap.1 hw
    obtain rfl:u=0:=jap.1 hu
    exact dE _
   have h2:¬x.length<((bstL pre).getD 0 []).length:=by have:¬(x.length:Int)<((bstL pre).getD 0 []).length:=dF h2;omega
   have e0:bst0 (bstL pre) x=bstL pre:=by unfold bst0;rw[kG (by rw[jH h2,kW];decide)]
   refine sNo (nz_no h1) ?_
   refine⟨⟨by omega,by omega⟩,⟨by omega,?_⟩⟩
   repeat first|apply sT|apply sF
   apply bY<;>intro h3
   ·have h3:x.length=((bstL pre).getD 0 []).length:=by
     have:(x.length:Int)=((bstL pre).getD 0 []).length:=by simpa using h3
     omega
    have e1:bst1 (bstL pre) x=bstL pre++[x]:=by unfold bst1;rw[e0,kH (by rw[jG h3,k9])]
    refine⟨⟨.inr rfl,by unfold maxLen;omega,by show((bstL pre).length+1)*24<=140737488355328;omega⟩,?_⟩
    refine⟨trivial,rfl,⟨obO rfl,obR rfl ?_,trivial⟩,wq rfl⟩
    rw[zb4,e1]
    exact zpW (dE _)
   have h3:¬x.length=((bstL pre).getD 0 []).length:=fun e=>by
    have:¬(x.length:Int)=((bstL pre).getD 0 []).length:=by simpa using h3
    exact this (by rw[e])
   have e1:bst1 (bstL pre) x=bstL pre:=by unfold bst1;rw[e0,kG (by rw[jH h3,jH (by omega)];decide)]
   refine⟨trivial,rfl,⟨obO rfl,obR rfl ?_,trivial⟩,wq rfl⟩
   rw[zb4,e1]
   exact dE _
  have h1:(bstL pre).length=0:=by have:=dF h1;omega
  have e0:bst0 (bstL pre) x=bstL pre:=by unfold bst0;rw[kG (by rw[jH (by omega),qK];decide)]
  have e1:bst1 (bstL pre) x=bstL pre++[x]:=by unfold bst1;rw[e0,kH (by rw[jG h1,qS])]
  repeat first|apply sT|apply sF
  refine sYe (ztZ h1) ?_
  repeat first|apply sT|apply sF
  refine⟨⟨.inr rfl,by unfold maxLen;omega,by show((bstL pre).length+1)*24<=140737488355328;omega⟩,?_⟩
  refine⟨trivial,rfl,⟨obO rfl,obR rfl ?_,trivial⟩,wq rfl⟩
  rw[zb4,e1]
  exact zpW (dE _)
 refine⟨⟨_,_,_,_,rfl,?_⟩,trivial⟩
 exact dE _
theorem zjM{o:List (List (List Int))}{p q:List (List Int)}(h:q∈bst0 o p):q∈o:=by
 unfold bst0 at h
 split at h
 ·cases h
 exact h
theorem bst1_mem{o:List (List (List Int))}{p q:List (List Int)}(h:q∈bst1 o p):q∈o\/q=p:=by
 unfold bst1 at h
 split at h
 ·rcases kL.1 h with h|h
  ·exact .inl (zjM h)
  exact .inr (kI.1 h)
 exact .inl (zjM h)
theorem bstF_mem{q:List (List Int)}:∀{l o:List (List (List Int))},q∈l.foldl bst1 o->q∈o\/q∈l
 | [],o,h=>.inl h
 |p::l,o,h=>by
  rcases bstF_mem (l:=l) h with h|h
  ·rcases bst1_mem h with h|rfl
   ·exact .inl h
   exact .inr (jar ..)
  exact .inr (jav _ h)
theorem zcj{q:List (List Int)}{l:List (List (List Int))}(h:q∈bstL l):q∈l:=(bstF_mem h).resolve_left fun h=>by cases h
abbrev bsts(d:Day):List (List (List Int)):=bstL (parts d)
def bsR(d:Day):List (List (List Int))×Int:=if(bsts d).length=0 then([],9)else(bsts d,0)
theorem zeb{d:Day}(h:DayOk d):Spec PP 31 [d.v] [.d (lPP (bsR d).1),.d (.int .i64 (bsR d).2)]:=by
 refine sA Tryz.func31 ?_
 refine cR (zqd h) rfl rfl ?_
 refine cR (j_all d (ksD d)) rfl rfl ?_
 refine cR (ztO 187 _ _ (parts d) (by have:=zbU h;omega) (zoJ h)) rfl rfl ?_
 unfold bsR
 apply bY<;>intro h1
 ·have h1:(bsts d).length=0:=by
   have:((bsts d).length:Int)=0:=by simpa using h1
   omega
  rw[kH h1]
  exact⟨⟨_,_,_,_,rfl,rfl,.inl rfl⟩,rtI rfl rfl,trivial⟩
 have h1:¬(bsts d).length=0:=fun e=>by
  have:¬((bsts d).length:Int)=0:=by simpa using h1
  exact this (by rw[e];rfl)
 rw[kG h1]
 exact⟨dE _,rtI rfl rfl,trivial⟩
def fewR(d:Day):Int×Int:=if dayE d≠0 then(0,dayE d)else if(bsts d).length=0 then(0,9)else(((bsts d).getD 0 []).length,0)
theorem zjk(d:Day)(hn:d.R.length<=1000000):Spec PP 16 [d.v] [N (fewR d).1,.d (.int .i64 (fewR d).2)]:=by
 refine sA Tryz.func16 ?_
 refine cP (zcu d hn) rfl rfl ?_
 unfold fewR
 apply bY<;>intro h0
 ·rw[kH (by simpa using h0)]
  exact⟨rtI rfl rfl,rtI rfl rfl,trivial⟩
 have h0:dayE d=0:=by simpa using h0
 rw[kG (fun hh=>hh h0)]
 refine cR (zeb (zaN h0)) rfl rfl ?_
 by_cases h1:(bsts d).length=0
 ·have e:bsR d=([],9):=by unfold bsR;rw[kH h1]
  rw[e,kH h1]
  refine sT ?_
  exact⟨rtI rfl rfl,rtI rfl rfl,trivial⟩
 have e:bsR d=(bsts d,0):=by unfold bsR;rw[kG h1]
 rw[e,kG h1]
 refine sF ?_
 refine⟨⟨rfl,by omega,by show(0:Int)<((bsts d).length:Int);omega⟩,?_⟩
 exact⟨rtI rfl rfl,rtI rfl rfl,trivial⟩
def samR(d:Day)(a b:Int):Vdt×Int:=if parE d a b≠0 then(⟨0,[],[]⟩,parE d a b)else if(bsts d).length=0 then(⟨0,[],[]⟩,9)else(vdtR (bsts d) a b,0)
theorem ztK{d:Day}{a b:Int}(h:parE d a b=0):DayOk d:=by
 unfold parE at h
 split at h
 ·rename_i h1;exact absurd h h1
 rename_i h1;exact zaN (jL h1)
theorem zmr(d:Day)(a b:Int)(hn:d.R.length<=1000000):Spec PP 12 [d.v,N a,N b] [(samR d a b).1.v,.d (.int .i64 (samR d a b).2)]:=by
 refine sA Tryz.func12 ?_
 refine cP (zue d a b hn) rfl rfl ?_
 unfold samR
 apply bY<;>intro h0
 ·rw[kH (by simpa using h0)]
  exact⟨rtC (a:=6) rfl rfl rfl rfl rfl rfl ⟨⟨rfl,rfl⟩,rfl,rfl,trivial⟩,rtI rfl rfl,trivial⟩
 have h0:parE d a b=0:=by simpa using h0
 have h:=ztK h0
 rw[kG (fun hh=>hh h0)]
 refine cR (zeb h) rfl rfl ?_
 by_cases h1:(bsts d).length=0
 ·have e:bsR d=([],9):=by unfold bsR;rw[kH h1]
  rw[e,kH h1]
  refine sT ?_
  exact⟨rtC (a:=6) rfl rfl rfl rfl rfl rfl ⟨⟨rfl,rfl⟩,rfl,rfl,trivial⟩,rtI rfl rfl,trivial⟩
 have e:bsR d=(bsts d,0):=by unfold bsR;rw[kG h1]
 rw[e,kG h1]
 refine sF ?_
 refine cR (zgV (bsts d) a b (by have:(bsts d).length<=(parts d).length:=zcS (parts d);have:=zbU h;omega) fun p hp=>by
  have:=zbT h (zcj hp)
  exact⟨by omega,fun s hs=>by have:=this.2 s hs;omega⟩) rfl rfl ?_
 exact⟨rtC (a:=6) rfl rfl rfl rfl rfl rfl (zaa _),rtI rfl rfl,trivial⟩
def fltP(k:Int)(l:List (List (List Int))):List (List (List Int)):=l.filter fun p=>((p.length:Int)==k)
theorem zmJ(k:Int)(l:List (List (List Int)))(p:List (List Int)):fltP k (l++[p])=if((p.length:Int)==k)=true then fltP k l++[p]else fltP k l:=by
 unfold fltP
 rw[kV]
 by_cases h:((p.length:Int)==k)=true
 ·rw[kH h,qA (by exact h)];rfl
 rw[kG h,qF (by exact h)];simp
def fitT(T:Nat->List Place)(ks:List Nat)(m:Nat):Bool:=ks.contains m&&decide (0<(T m).length)
def partT(T:Nat->List Place)(n:Nat)(ks:List Nat)(set:Nat):Bool:=(List.range n).all fun i=>(offS set i==set)||(offS set i==0)||fitT T ks (offS set i)
def growT(T:Nat->List Place)(n:Nat)(ks:List Nat)(set:Nat):Bool:=(List.range n).any fun i=>(onS set i != set)&&fitT T ks (onS set i)
def keysT(T:Nat->List Place)(n:Nat):Nat->List Nat
 |0=>[]
 |m+1=>if m≠0/\partT T n (keysT T n m) m=true then keysT T n m++[m]else keysT T n m
section
variable {d:Day}{T:Nat->List Place}(h:∀m,celD d m=T m){ids:List Int}(hi:sigL d.R=ids)
include h
theorem zmL:fitK d=fitT T:=by
 funext ks m
 unfold fitK fitT
 rw[h]
include hi
theorem zp3(ks:List Nat)(m:Nat):partK d ks m=partT T ids.length ks m:=by
 unfold partK partT parK
 rw[zmL h,hi]
theorem zum(ks:List Nat)(m:Nat):growK d ks m=growT T ids.length ks m:=by
 unfold growK growT groK
 rw[zmL h,hi]
theorem zji:∀m,keysD d m=keysT T ids.length m
 |0=>rfl
 |m+1=>by
  unfold keysD keysT
  rw[zji m,zp3 h hi]
theorem zlD:parts d=prt (fun s=>fitT T (keysT T ids.length (2^ids.length)) (bitS ids s)) ids []:=by
 unfold parts ksD
 rw[zmL h,zji h hi,hi]
end
theorem p3:parts exD=[[[1,2],[3]],[[1],[2],[3]]]:=by
 rw[zlD cel3 sig3]
 decide+kernel
theorem p47:parts exD4=[[[1],[2],[3]]]:=by
 rw[zlD cel4 sig4]
 decide+kernel
theorem dE3:dayE exD=0:=by decide+kernel
theorem dE4:dayE exD4=0:=by decide+kernel
theorem zsW:fewR exD=(2,0):=by
 unfold fewR bsts
 rw[kG (fun hh=>hh dE3),p3]
 decide+kernel
theorem zsV:fewR exD4=(3,0):=by
 unfold fewR bsts
 rw[kG (fun hh=>hh dE4),p47]
 decide+kernel
theorem par3(a b:Int)(h:partB [a,b] [1,2,3]=true)(hn:a≠b):parE exD a b=0:=by
 unfold parE
 rw[kG (fun hh=>hh dE3),show sigL exD.R=[1,2,3]from sig3,kG (by rw[h];decide),kG hn]
theorem par4(a b:Int)(h:partB [a,b] [1,2,3]=true)(hn:a≠b):parE exD4 a b=0:=by
 unfold parE
 rw[kG (fun hh=>hh dE4),show sigL exD4.R=[1,2,3]from sig4,kG (by rw[h];decide),kG hn]
theorem zgv:(samR exD 1 2).1.Ans=2/\(samR exD 1 2).2=0:=by
 unfold samR bsts
 rw[kG (fun hh=>hh (par3 1 2 (by decide+kernel) (by decide))),p3]
 decide+kernel
theorem zgu:(samR exD 1 3).1.Ans=1/\(samR exD 1 3).2=0:=by
 unfold samR bsts
 rw[kG (fun hh=>hh (par3 1 3 (by decide+kernel) (by decide))),p3]
 decide+kernel
theorem zgt:(samR exD4 1 2).1.Ans=1/\(samR exD4 1 2).2=0:=by
 unfold samR bsts
 rw[kG (fun hh=>hh (par4 1 2 (by decide+kernel) (by decide))),p47]
 decide+kernel
theorem ask3(ids:List Int)(h1:setB ids=true)(h2:partB ids [1,2,3]=true):askE exD ids=0:=by
 unfold askE
 rw[kG (fun hh=>hh dE3),kG (by rw[h1];decide),show sigL exD.R=[1,2,3]from sig3,kG (by rw[h2];decide)]
theorem zns:celR exD [1,3]=([],0):=by
 unfold celR
 rw[kG (fun hh=>hh (ask3 [1,3] (by decide+kernel) (by decide+kernel))),c5]
theorem zkK:(tabR exD).1.length=2/\(tabR exD).2.1.length=2/\(tabR exD).2.2=0:=by
 have e:tabR exD=(srtF (tabA (greB exD (ksD exD)) (fitF exD) (2^(sigL exD.R).length)),srtM (tabA (leaB exD (ksD exD)) (misF exD) (2^(sigL exD.R).length)),0):=by unfold tabR;rw[kG (fun hh=>hh dE3)]
 have g:∀m,greB exD (ksD exD) m=(fitT T3 (keysT T3 3 8) m&& !growT T3 3 (keysT T3 3 8) m):=fun m=>by
  unfold greB ksD
  rw[zmL cel3,zum cel3 sig3,zji cel3 sig3,show sigL exD.R=[1,2,3]from sig3];rfl
 have l:∀m,leaB exD (ksD exD) m=(!fitT T3 (keysT T3 3 8) m&&partT T3 3 (keysT T3 3 8) m):=fun m=>by
  unfold leaB ksD
  rw[zmL cel3,zp3 cel3 sig3,zji cel3 sig3,show sigL exD.R=[1,2,3]from sig3];rfl
 have hl:∀{α:Type} (p:Nat->Bool) (f:Nat->α) (n:Nat),(tabA p f n).length=(tabA p id n).length:=fun p f n=>by rw[zcA p f,kO]
 rw[e]
 refine⟨?_,?_,rfl⟩
 ·show(srtF _).length=2
  unfold srtF
  rw[qX,hl,show sigL exD.R=[1,2,3]from sig3,show greB exD (ksD exD)=_ from funext g]
  decide+kernel
 show(srtM _).length=2
 unfold srtM
 rw[qX,hl,show sigL exD.R=[1,2,3]from sig3,show leaB exD (ksD exD)=_ from funext l]
 decide+kernel
def SpecA(P:Program)(f:FuncId)(args:List V1)(obs':List (Nat×Ob))(cs:List Cap):Prop:=
 Ent P f/\∀(w:World) (ok:Nat->Prop) (vs:List Value),(∀b,ok b->b<w.heap.size)->All2 (Rep1 w ok) args vs->
  Calls P f vs.toArray w fun en w'=>∃v γ',en= .returned v/\FrM w w' γ' []/\OwnS w' (okM w w' ok γ' γ' [] obs') γ' obs'/\
   (∀i o b,look obs' i=some o->blk (γ' i)=some b->w.heap.size<=b)/\M w' (okM w w' ok γ' γ' [] obs') γ' (.aggc cs) v
def retA(a i:Nat)(obs':List (Nat×Ob)):KK:=fun e s=>match e with
 | .normal=>Weak s [(a,.box i 0)] obs'
 | .ret=>Weak s [(a,.box i 0)] obs'
 | _=>False
theorem znM{P:Program}{T:TT}{E:Env}(hdr:E.dr=false)(hT:∀t i,T t=some i->TI.of P t=some i)(hE:∀t,E.eq t=true->EqFact P t)(hm:P.follows .mixedOrders=true)
  {f:FuncId}{fn:Func}{c:Code}(hf:P.funcs[f]?=some fn)(hb:fn.body=some c)(hn:(fn.name== "runtime.NumGoroutine")=false)(hN:codeN fn.ntmps c=true)
  {args:List V1}{obs':List (Nat×Ob)}{cs:List Cap}(u i t:Nat){ti:TI}(hts:fn.results.toList=[ResultVar.cell u t])(ht:T t=some ti)(hld:loadE (St.of [(u,.box i 0)] obs') ti (.box i 0) fun z=>z= .aggc cs)(hsz:args.length<=fn.ntmps)(hng:fn.ntmps<=G)
  (h:awp P T E c (St.of (argSlots 0 args) []) (retA u i obs')):SpecA P f args obs' cs:=
 ⟨⟨fn,hf,hn,by rw [hb];rfl⟩,fun w ok vs hok hm2=>zh6 hT hE hm hf hb hN (cx:=cx0 E.dr w ok fn.ntmps) id rfl rfl rfl (fun _ _=>id) (zfC hok hm2 hsz hng) h
  (fun x h1 h2 s h=>by cases x<;>first|exact h1 rfl|exact h2 rfl|exact h) fun x s a w' hx hk hR _=>by
  have k2:Weak s [(u,.box i 0)] obs':=by rcases hx with rfl|rfl<;>exact hk
  obtain⟨γ',hg⟩:=hR.weak k2
  have hs0:=hg.slots u
  have hsl:(St.of [(u,.box i 0)] obs').sl u= .box i 0:=by
   show(look [(u,AV.box i 0)] u).getD .any=_
   simp only [look,zay];rfl
  rw [hsl]at hs0
  have hl0:∀b,¬LentB γ' [] b:=fun b ⟨j,o,h1,_⟩=>by cases h1
  have hok2:∀b,okOf (cx0 E.dr w ok fn.ntmps) (St.of [(u,.box i 0)] obs') γ' w' b->okM w w' ok γ' γ' [] obs' b:=fun b hb=>by
   rcases hb with hb|⟨h1,h2,h3⟩
   ·exact .inl hb
   exact .inr ⟨.inl (h1.elim id False.elim),h2,fun ⟨j,p,g1,g2⟩=>h3 j p g1 g2⟩
  obtain⟨z,v,g1,g2,_,rfl⟩:=zct hg (hT t ti ht) hs0 hld
  obtain⟨b,hb1,hx1⟩:=id hs0
  have hv:(do loadVar t (← asAddr (a.tmps.getD u undef))).run P w'= .ok v w':=by
   rw [hx1]at g1⊢
   have g3:(loadVar t ⟨b,0,none⟩).run P w'= .ok v w':=by simpa [Instr.loadAt,Instr.sureAddr]using g1
   simpa [asAddr]using g3
  have hrun:=zaQ (P:=P) (fn:=fn) (a:=a) (w:=w') (vs:=[v]) (by
   rw [hts,jbC]
   simp only [Sem.run_bind]at hv⊢
   rw [hv]
   simp)
  refine⟨_,hrun,v,γ',rfl,⟨hg.below.os,hg.below.tape,hg.below.output,hg.below.size,fun k hk _=>hg.below.block k hk id⟩,⟨fun i o hi=> ?_,hg.refs,hg.sep,fun i o b hi hb hok'=> ?_⟩,fun i o b hi hb=>(zax hg hi hb).1.elim id False.elim,?_⟩
  ·exact(hg.objs i o hi).reO rfl (fun _ _ _ _ _ _=>rfl) (fun _ _=>trivial) hok2
  ·rcases hok' with h1|⟨_,_,h3⟩
   ·exact zeB hg (zax hg hi hb).1 h1
   exact h3 ⟨i,o,hi,hb⟩
  exact M.keep (fun b hb=>⟨hok2 b hb,rfl⟩) (fun _ _=>rfl) g2⟩
section
variable {s:St}{o:Oper}{fo:Operand}{f:FuncId}{K:St->Prop}{E:Env}
theorem CallSt.obA(sl:List (Nat×AV))(rest:List (Nat×Ob)){obs':List (Nat×Ob)}{cs:List Cap}(hdr:E.dr=false){args:Array Operand}{at':Array TypeId}(hop:o.op= .call { callee:=.value fo,args,argTypes:=at' }){xs:List V1}(h:SpecA PP f xs obs' cs)
  (hw:Weak s sl rest)(hx:toV1c (St.of sl rest) fo args.toList=some (f,xs))(hno:noOwn (St.of sl rest) args.toList=true)(hi:∀j∈(AV.aggc cs).refs,(look obs' j).isSome=true)(hc:goodM sl [] obs' rest []=true)
  (hk:K ((St.of sl (obs'++rest)).putO o.dst (.aggc cs))):CallSt E PP s o fo args.toList K:=by
 obtain⟨ex,h1,h2⟩:=zaH hx
 rw[zag]
 refine .inr (.inr (.inl ⟨_,⟨fun cx a w hD hd hR=>?_⟩,hk⟩))
 obtain⟨γ,hg⟩:=hR.weak hw
 obtain⟨caps,hf,hcm⟩:=za1 h1 (ev_m hg fo).1
 have hm:=(zbw hg h2 ((zbN hg args.toList).append hcm)).2 (zcI hno (zbv h1))
 refine .enter (zaD hop hf h.1) ?_
 refine(h.2 w _ _ (fun b hb=>zal hg hb) hm).mono fun en w' ⟨v,γ2,e0,hfr,ho,hn,hres⟩=>?_
 have hl0:∀(γ:Nat->Value) b,¬LentB γ [] b:=fun γ b ⟨j,o,h1,_⟩=>by cases h1
 have hM0:∀b,okM w w' (okOf cx (St.of sl ([]++rest)) γ w) γ2 γ2 [] obs' b↔okM w w' (okOf cx (St.of sl ([]++rest)) γ w) γ γ2 [] obs' b:=fun b=>
  ⟨fun hb=>hb.imp id fun hb=>⟨hb.1.imp id fun h=>absurd h (hl0 _ _),hb.2⟩,fun hb=>hb.imp id fun hb=>⟨hb.1.imp id fun h=>absurd h (hl0 _ _),hb.2⟩⟩
 obtain⟨γ',hg',hγ,hM⟩:=RG.lendM (obs:=[]) (pins:=[]) (γ2:=γ2) hg (fun e=>by have:=hD e;rw[hdr]at this;cases this) ⟨hfr.os,hfr.tape,hfr.output,hfr.size,fun k hk _=>hfr.block k hk (hl0 _ _)⟩ (fun i hi=>by cases hi)
  ⟨fun i o hi=>(ho.objs i o hi).reO rfl (fun _ _ _ _ _ _=>rfl) (fun _ _=>trivial) fun b hb=>(hM0 b).1 hb,ho.refs,ho.sep,fun i o b hi hb hk=>ho.out i o b hi hb ((hM0 b).2 hk)⟩ (fun i o b hi hb=>.inl (hn i o b hi hb)) hc
 refine⟨_,e0,γ',hg'.putO hd (M.keep (fun b hb=>⟨hM b ((hM0 b).1 hb),rfl⟩) (fun j hj=>hγ j (hi j hj)) hres) fun j hj=>?_⟩
 show(look (obs'++rest) j).isSome=true
 rw[zap]
 have:=hi j hj
 cases e:look obs' j with
 |some x=>rfl
 |none=>rw[e]at this;cases this
theorem CallSt.lendW(ids:List Nat){args:Array Operand}{at':Array TypeId}(hop:o.op= .call { callee:=.value fo,args,argTypes:=at' }){xs ys res res':List V1}(h:SpecG E.dr PP f ys res)(hx:toV1c (s.freezes ids) fo args.toList=some (f,xs))(he:eqV1s xs ys)
  (hw:∀w ok v,ResRep w ok res v->ResRep w (fun _=>False) res' v)(hk:K (s.putO o.dst (resAV res'))):CallSt E PP s o fo args.toList K:=by
 obtain⟨ex,h1,h2⟩:=zaH hx
 rw[zag]
 refine .inr (.inr (.inl ⟨_,⟨fun cx a w hD hd hR=>?_⟩,hk⟩))
 obtain⟨γ,hg⟩:=hR
 obtain⟨γ',h'⟩:=R.freezes ids ⟨γ,hg⟩
 obtain⟨cvs,hcx,hcm⟩:=za1 h1 (ev_m h' fo).1
 have hm:=(zbw h' h2 ((zbN h' args.toList).append hcm)).1
 refine .enter (zaD hop hcx h.1) ?_
 refine((h.eqv he).2 w _ _ (fun b hb=>hb) hm).mono fun en w' ⟨v,e,hb,hres⟩=>⟨v,e,γ,?_⟩
 exact(hg.grow hb.1 fun e=>hb.2 (hD e)).putO hd (zaX (.inl fun b hb=>hb.elim) (hw _ _ _ hres)) (fun j hj=>by rw[zaB]at hj;cases hj)
end
theorem zfB{w:World}{ok:Nat->Prop}{k n:Nat}{f g:Nat->Nat->D}{v:Value}(h:Rep w ok (.slc k n f) v):Rep w (fun _=>False) (.slc 0 n g) v:=by
 rcases h with⟨h,e⟩|⟨a,cap,e,h1,h2,_⟩
 ·exact .inl ⟨h,e⟩
 exact .inr ⟨a,cap,e,h1,h2,fun i _ j hj=>absurd hj (qJ _)⟩
abbrev lenD(n:Nat):D:=.slc 0 n fun _ _=>.nil
theorem ziz{w:World}{ok:Nat->Prop}{x x':V1}{y:D}{v:Value}(hy:y.flat=true)(hx:∀u,Rep1 w ok x u->Rep1 w (fun _=>False) x' u)(h:ResRep w ok [x,.d y] v):ResRep w (fun _=>False) [x',.d y] v:=by
 obtain⟨vs,e,h⟩:=h
 cases h with
 |cons a b=>
 cases b with
 |cons c d=>
 cases d
 exact⟨_,e,.cons (hx _ a) (.cons (Rep1.flat (x:=.d y) hy c) .nil)⟩
end Go.Pg
