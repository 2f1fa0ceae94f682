/- Lemmas, joined by program. -/
import Derived.Test.YtcmghlfakcppkaaGreatJ6
import Derived.Shelf.SlSortCmp.NoneTotal
import Derived.Test.YtcmghlfakcppkaaGreatChecked
import Derived.KernelRfl
set_option maxHeartbeats 4000000
set_option linter.all false
namespace Go.Pg
open Go.RowKit Go.Proofs Go.Shelf Go.Sort Go.Lib
theorem zcO{w w':World}(h:Below w.heap.size w w')(hd:w.drawn<=w'.drawn):∃q os,w'=grow (w.drewN q) os:=by
 refine⟨w'.drawn-w.drawn,w'.heap.extract w.heap.size w'.heap.size,?_⟩
 have hh:w.heap++w'.heap.extract w.heap.size w'.heap.size=w'.heap:=by
  apply Array.ext_getElem?
  intro k
  by_cases hk:k<w.heap.size
  ·rw[jaN hk,h.block k hk]
  rw[Array.getElem?_append_right (by omega),Array.getElem?_extract]
  have hs:=h.size
  by_cases hk2:k<w'.heap.size
  ·rw[kH (by omega)];congr 1;omega
  rw[kG (by omega),jaj (by omega)]
 obtain⟨heap,tape,drawn,os,output⟩:=w
 obtain⟨heap',tape',drawn',os',output'⟩:=w'
 have h1:=h.os
 have h2:=h.tape
 have h3:=h.output
 simp only at h1 h2 h3 hh hd
 subst h1 h2 h3
 simp only[grow,World.drewN,hh]
 congr 1
 omega
structure Ints(α:Type)(k:Nat) where
  lst:α->List Int
  len:∀x,(lst x).length=k
  at_:α->Nat->D
  hat:∀x j,j<k->at_ x j= .int .i64 ((lst x).getD j 0)
section
variable {α:Type}[Inhabited α]{k:Nat}(A:Ints α k)
def Ints.enc(x:α):List Value:=(A.lst x).map (Value.int .i64)
theorem Ints.enc_len(x:α):(A.enc x).length=k:=by simp[Ints.enc,A.len]
theorem Ints.enc_one(x:α):∀v∈A.enc x,v.oneCell'=true:=fun v hv=>by
 obtain⟨n,_,rfl⟩:=kJ.1 hv;rfl
theorem Ints.enc_get(x:α){j:Nat}(hj:j<k):(A.enc x)[j]?=some (.int .i64 ((A.lst x).getD j 0)):=by
 have:j<(A.lst x).length:=by rw[A.len];exact hj
 simp[Ints.enc,jU,kF this,hZ]
theorem Ints.rep(x:α){j:Nat}(hj:j<k){w:World}{ok:Nat->Prop}{v:Value}:Rep w ok (A.at_ x j) v↔v= .int .i64 ((A.lst x).getD j 0):=by
 rw[A.hat x j hj];exact jbH
theorem Ints.flat_get(d:Array α){t:Nat}(h:t<d.size*k):(flatK A.enc k d)[t]! = .int .i64 ((A.lst d[t/k]!).getD (t%k) 0):=by
 have hk:0<k:=by
  rcases jaq k with h0|h0
  ·subst h0;simp at h
  exact h0
 rw[get_flatK _ _ _ _ h]
 have:=A.enc_get d[t/k]! (jau t hk)
 rw[List.getElem!_eq_getElem?_getD,this];rfl
theorem Ints.flat_size(d:Array α):(flatK A.enc k d).size=d.size*k:=by simp[flatK]
def Ints.row(l:List α):Nat->Nat->D:=fun i=>A.at_ (l.getD i default)
theorem zbE(l:List α){i:Nat}(h:i<l.length):l.toArray[i]! =l.getD i default:=by
 simp[hZ,h]
theorem Ints.holds{w:World}{ok:Nat->Prop}{e g cap:Nat}{cur:Array Value}{l:List α}{xs:List Value}(hh:w.heap[g]?=some (.cells cur e (0,0)))(ht:cur.toList.take (l.length*k)=xs)
  (hr:∀m,m<l.length->∀j,j<k->∃u,xs[m*k+j]?=some u/\Rep w ok (A.row l m j) u):HoldsK A.enc k w g 0 l.toArray:=by
 intro t ht'
 rw[A.flat_size]at ht'
 simp only[jaT]at ht'
 have hk:0<k:=by
  rcases jaq k with h0|h0
  ·subst h0;simp at ht'
  exact h0
 have hm:t/k<l.length:=jaR (by rwa [qM]at ht')
 obtain⟨u,hu,hrep⟩:=hr (t/k) hm (t%k) (jau t hk)
 rw[show A.row l (t/k) (t%k)=A.at_ (l.getD (t/k) default) (t%k)from rfl,A.rep _ (jau t hk)]at hrep
 have e1:t/k*k+t%k=t:=by rw[qM];exact ja0 t k
 rw[e1,<- ht,jS,kH ht']at hu
 rw[A.flat_get _ (by simpa using ht'),zbE l hm,qB]
 refine⟨?_,?_⟩
 ·simp only[World.cell?,hh,id_eq]
  have:cur[t]?=some u:=by simpa using hu
  simp[this,hrep]
 simp[World.frozen?,hh]
theorem Ints.put{w:World}{e g cap:Nat}{cur:Array Value}(m:Nat)(l:List α)(os:Array Obj)(hh:w.heap[g]?=some (.cells cur e (0,0)))(hlc:l.length<=cap)(hcap:cap<=maxLen)(hcs:cur.size=cap*k):
  w.grownBy (sortWorldK A.enc k w g 0 m l.toArray os) (some g)/\∃xs',(sortWorldK A.enc k w g 0 m l.toArray os).ownsRow 0 e k (.slice (some ⟨g,0,none⟩) l.length cap) l.length xs'/\(∀u∈xs',u.oneCell'=true)/\
   ∀m',m'<l.length->∀j,j<k->∃u,xs'[m'*k+j]?=some u/\Rep (sortWorldK A.enc k w g 0 m l.toArray os) (fun _=>False) (A.row l m' j) u:=by
 have hg:g<w.heap.size:=(jB.1 hh).1
 have hheap:∀i,i<w.heap.size->(sortWorldK A.enc k w g 0 m l.toArray os).heap[i]?=if i=g then some (.cells (putCells id 0 (flatK A.enc k l.toArray) cur) e (0,0))else w.heap[i]?:=fun i hi=>by
  simp only[sortWorldK,grow,putRowK,putRow,mapBlock,ahead]
  rw[jaN (by simpa using hi),jbm]
  by_cases e':g=i
  ·subst e';simp[hh,onCells]
  rw[kG e',kG (fun e''=>e' e''.symm)];rfl
 refine⟨⟨rfl,rfl,rfl,by simp[sortWorldK,grow,putRowK,putRow,mapBlock,ahead],fun i hi hne=>?_⟩,?_⟩
 ·rw[hheap i hi,kG fun e'=>hne (by rw[e'])]
 have hF:=A.flat_size l.toArray
 simp only[jaT]at hF
 have hle:l.length*k<=cap*k:=jW k hlc
 have hget:∀t,t<l.length*k->(putCells id 0 (flatK A.enc k l.toArray) cur).toList[t]?=some (.int .i64 ((A.lst (l.getD (t/k) default)).getD (t%k) 0)):=fun t ht=>by
  have hk:0<k:=by
   rcases jaq k with h0|h0
   ·subst h0;simp at ht
   exact h0
  have hm:t/k<l.length:=jaR (by rwa [qM]at ht)
  have hlt:t<cur.size:=by omega
  rw[ja2,putCells,Array.getElem?_mapIdx,wL hlt]
  simp only[qL,jF,true_and,qB,hF,kH ht,Nat.sub_zero,id_eq]
  rw[A.flat_get _ (by simpa using ht),zbE l hm]
 have hsz:(putCells id 0 (flatK A.enc k l.toArray) cur).size=cap*k:=by simp[putCells,hcs]
 have hsz':(putCells id 0 (flatK A.enc k l.toArray) cur).toList.length=cap*k:=(kB).trans hsz
 refine⟨(putCells id 0 (flatK A.enc k l.toArray) cur).toList.take (l.length*k),⟨by rw[jQ,hsz'];exact Nat.min_eq_left hle,.inr ⟨g,cap,_,rfl,jF _,by rw[hheap g hg,kH rfl],hlc,hcap,hsz,rfl⟩⟩,fun u hu=>?_,fun m' hm' j hj=>?_⟩
 ·obtain⟨t,ht⟩:=jaK hu
  rw[jS]at ht
  split at ht
  ·rename_i hlt;rw[hget t hlt]at ht;cases ht;rfl
  cases ht
 have hlt:m'*k+j<l.length*k:=by
  have:(m'+1)*k<=l.length*k:=jW k hm'
  rw[qG]at this;omega
 refine⟨_,by rw[jS,kH hlt];exact hget _ hlt,?_⟩
 have e1:(m'*k+j)/k=m':=by rw[qM,Nat.mul_add_div (by omega),jbn hj];simp
 have e2:(m'*k+j)%k=j:=by rw[qM,jbd,jaI hj]
 rw[e1,e2]
 exact(A.rep (l.getD m' default) hj).2 rfl
theorem zj1{P:Program}{ρ:Ren}(L:SlLaysF0.n6 P ρ)(hent:Ent P (ρ.f 6))(aE:∀w,(isAgg (ρ.t 24)).run P w= .ok true w)(zE:∀w,(Go.sizeOf (ρ.t 24)).run P w= .ok k w)
  (cf:α->α->Int)(hO:SWO (ltOf cf))(hT:∀x y,(ltOf cf) x y=false->(ltOf cf) y x=false->x=y)(g:FuncId)
  (hc:∀x y,SpecD P g [.agg ((A.lst x).map (D.int .i64)),.agg ((A.lst y).map (D.int .i64))] [.d (.int .i64 (cf x y))])(e:TypeId)(l:List α)(hn:l.length<=1000000):
  SpecR P (ρ.f 6) [] [.d (.fn g)] e k l.length (A.row l) (A.row (l.mergeSort fun x y=>!(ltOf cf) y x)) []:=by
 refine⟨hent,fun w ok vs us v xs hok h1 h2 hr=>?_⟩
 cases h1
 cases h2 with
 |cons h2 h3=>
 cases h3
 rename_i fv
 have hfv:fv= .func (.func g) #[] #[]:=h2
 subst hfv
 have hret:ResRep w (fun _=>False) [] (.tuple #[]):=⟨[],rfl,.nil⟩
 have hlen:(l.mergeSort fun x y=>!(ltOf cf) y x).length=l.length:=qX l
 by_cases h0:l=[]
 ·subst h0
  obtain⟨p,cap,rfl⟩:∃p cap,v= .slice p 0 cap:=by
   rcases hr.own.2 with⟨h3,_⟩|⟨q,cap,cur,h3,_⟩
   ·exact⟨_,_,h3⟩
   exact⟨_,_,h3⟩
  refine(AnyF.slices_SortFunc_none L p cap _ w).mono ?_
  rintro en w' ⟨rfl,rfl⟩
  exact⟨_,rfl,⟨rfl,rfl,rfl,jE _,fun _ _ _=>rfl⟩,⟨[],rfl,.nil⟩,xs,hr.own,hr.one,fun m hm=>absurd hm (qJ _)⟩
 rcases hr.own.2 with⟨_,h4⟩|⟨q,cap,cur,rfl,_,hh,hnc,hcap,hcs,htk⟩
 ·exact absurd (jbF.1 h4) h0
 have hH:=A.holds (cap:=cap) hh htk hr.rep
 have hq:q<w.heap.size:=(jB.1 hh).1
 obtain⟨fn,hf,hnm,hbd⟩:=(hc default default).1
 have hent':∀args w,(callFunc g args).run P w= .ok (.enter g args) w:=fun args w=>zaF (hc default default).1 args w
 have hcmp:CmpLays P g #[] A.enc k cf q 0 l.toArray.size w:=fun m os dk _ x y=>by
  refine((hc x y).2 _ (fun _=>False) [.agg (A.enc x).toArray,.agg (A.enc y).toArray] (fun b hb=>hb.elim) ?_).mono ?_
  ·have one:∀z:α,Rep1 (sortWorldK A.enc k w q 0 m dk os) (fun _=>False) (.agg ((A.lst z).map (D.int .i64))) (.agg (A.enc z).toArray):=fun z=>by
    refine⟨A.enc z,rfl,All2.of_get (by simp[Ints.enc]) fun j a b ha hb=>?_⟩
    rw[jU]at ha
    unfold Ints.enc at hb
    rw[jU]at hb
    cases hz:(A.lst z)[j]? with
    |none=>rw[hz]at ha;cases ha
    |some n=>rw[hz]at ha hb;cases ha;cases hb;exact rfl
   exact .cons (one x) (.cons (one y) .nil)
  rintro en w' ⟨v,rfl,⟨hb,hd⟩,hres⟩
  have hv:v= .int .i64 (cf x y):=hres
  exact⟨by rw[hv],zcO hb (hd rfl)⟩
 have hrun:=AnyQ.slices_SortFunc_total L k aE zE A.enc A.enc_len A.enc_one cf hO g #[] q 0 cap l.toArray w hent' hcmp hH hq (by simp;omega) hT
 simp only[jaT]at hrun
 refine hrun.mono ?_
 rintro en w' ⟨rfl,m,os,rfl⟩
 obtain⟨p1,xs',p2,p3,p4⟩:=A.put m (l.mergeSort fun x y=>!(ltOf cf) y x) os hh (by rw[hlen];exact hnc) hcap hcs
 rw[hlen]at p2 p4
 exact⟨_,rfl,p1,⟨[],rfl,.nil⟩,xs',p2,p3,p4⟩
end
end Go.Pg
namespace Go.Pg
abbrev iZ:Value:=.int .i64 0
abbrev nZ:Value:=.slice none 0 0
def tl:List (Nat×TI):=[(1,⟨1,false,8,[.nilFunc],.other⟩),
 (2,⟨1,false,8,[iZ],.int .i64⟩),
 (3,⟨1,false,8,[iZ],.int .i64⟩),
 (4,⟨1,false,1,[.bool false],.bool⟩),
 (5,⟨1,false,1,[.int .u8 0],.int .u8⟩),
 (9,⟨1,false,16,[.string ⟨#[]⟩],.str⟩),
 (22,⟨1,false,24,[nZ],.slice 3⟩),
 (24,⟨3,true,40,[iZ,iZ,nZ],.struct [(0,3),(1,3),(2,22)]⟩),
 (25,⟨1,false,24,[nZ],.slice 118⟩),
 (26,⟨1,false,24,[nZ],.slice 236⟩),
 (28,⟨5,true,88,[iZ,iZ,nZ,nZ,nZ],.struct [(0,24),(3,25),(4,26)]⟩),
 (29,⟨1,false,24,[nZ],.slice 122⟩),
 (30,⟨1,false,24,[nZ],.slice 240⟩),
 (32,⟨2,true,48,[nZ,nZ],.struct [(0,29),(1,30)]⟩),
 (33,⟨7,true,136,[iZ,iZ,nZ,nZ,nZ,nZ,nZ],.struct [(0,28),(5,32)]⟩),
 (34,⟨7,true,136,[iZ,iZ,nZ,nZ,nZ,nZ,nZ],.struct [(0,28),(5,32)]⟩),
 (35,⟨1,false,24,[nZ],.slice 90⟩),
 (37,⟨10,true,176,[iZ,iZ,nZ,nZ,nZ,nZ,nZ,iZ,iZ,nZ],.struct [(0,34),(7,3),(8,3),(9,35)]⟩),
 (38,⟨1,false,8,[.nilFunc],.other⟩),
 (40,⟨1,false,8,[iZ],.int .i64⟩),
 (43,⟨1,false,24,[nZ],.slice 22⟩),
 (48,⟨1,false,8,[iZ],.int .i64⟩),
 (49,⟨3,true,56,[iZ,nZ,nZ],.struct [(0,48),(1,43),(2,43)]⟩),
 (50,⟨3,true,56,[iZ,nZ,nZ],.struct [(0,48),(1,43),(2,43)]⟩),
 (60,⟨2,true,16,[iZ,iZ],.struct [(0,3),(1,3)]⟩),
 (66,⟨1,false,24,[nZ],.slice 60⟩),
 (72,⟨2,true,32,[nZ,iZ],.struct [(0,43),(1,40)]⟩),
 (75,⟨2,true,32,[nZ,iZ],.struct [(0,66),(1,40)]⟩),
 (83,⟨1,false,24,[nZ],.slice 130⟩),
 (84,⟨1,false,24,[nZ],.slice 132⟩),
 (86,⟨2,true,48,[nZ,nZ],.struct [(0,83),(1,84)]⟩),
 (90,⟨8,true,64,[iZ,iZ,iZ,iZ,iZ,iZ,iZ,iZ],.struct [(0,3),(1,3),(2,3),(3,3),(4,3),(5,3),(6,3),(7,3)]⟩),
 (93,⟨1,false,24,[nZ],.slice 43⟩),
 (98,⟨1,false,8,[.nilFunc],.other⟩),
 (99,⟨1,false,8,[.nilFunc],.other⟩),
 (100,⟨1,false,8,[.nilFunc],.other⟩),
 (101,⟨1,false,8,[.nilFunc],.other⟩),
 (104,⟨3,true,24,[iZ,iZ,iZ],.struct [(0,3),(1,3),(2,3)]⟩),
 (105,⟨1,false,8,[.nilFunc],.other⟩),
 (109,⟨1,false,8,[.map none],.map 60 4⟩),
 (110,⟨1,false,8,[.nilFunc],.other⟩),
 (112,⟨1,false,24,[nZ],.slice 4⟩),
 (113,⟨1,false,24,[nZ],.slice 177⟩),
 (114,⟨3,true,56,[nZ,nZ,iZ],.struct [(0,66),(1,113),(2,40)]⟩),
 (115,⟨3,true,56,[nZ,nZ,iZ],.struct [(0,66),(1,113),(2,40)]⟩),
 (117,⟨4,true,32,[iZ,iZ,iZ,iZ],.struct [(0,3),(1,60),(3,3)]⟩),
 (118,⟨4,true,32,[iZ,iZ,iZ,iZ],.struct [(0,3),(1,60),(3,3)]⟩),
 (120,⟨2,true,16,[iZ,iZ],.struct [(0,3),(1,3)]⟩),
 (122,⟨8,true,64,[iZ,iZ,iZ,iZ,iZ,iZ,iZ,iZ],.struct [(0,3),(1,60),(3,3),(4,3),(5,120),(7,3)]⟩),
 (124,⟨1,false,8,[.map none],.map 3 66⟩),
 (126,⟨12,true,208,[iZ,iZ,nZ,nZ,nZ,nZ,nZ,iZ,iZ,nZ,nZ,.map none],.struct [(0,37),(10,22),(11,124)]⟩),
 (128,⟨1,false,8,[.nilFunc],.other⟩),
 (130,⟨3,true,40,[nZ,iZ,iZ],.struct [(0,22),(1,60)]⟩),
 (132,⟨2,true,48,[nZ,nZ],.struct [(0,22),(1,113)]⟩),
 (139,⟨1,false,8,[.nilFunc],.other⟩),
 (140,⟨1,false,8,[.nilFunc],.other⟩),
 (141,⟨1,false,8,[.nilFunc],.other⟩),
 (142,⟨1,false,8,[.nilFunc],.other⟩),
 (147,⟨1,false,8,[.nilFunc],.other⟩),
 (150,⟨1,false,8,[.nilFunc],.other⟩),
 (151,⟨1,false,8,[.nilFunc],.other⟩),
 (160,⟨2,true,16,[iZ,iZ],.struct [(0,3),(1,3)]⟩),
 (162,⟨13,true,104,[iZ,iZ,iZ,iZ,iZ,iZ,iZ,iZ,iZ,iZ,.bool false,iZ,iZ],.struct [(0,90),(8,160),(10,4),(11,60)]⟩),
 (165,⟨1,false,8,[.nilFunc],.other⟩),
 (169,⟨1,false,24,[nZ],.slice 209⟩),
 (172,⟨1,false,8,[.nilFunc],.other⟩),
 (173,⟨1,false,8,[.nilFunc],.other⟩),
 (174,⟨1,false,8,[.nilFunc],.other⟩),
 (177,⟨3,true,24,[iZ,iZ,iZ],.struct [(0,60),(2,3)]⟩),
 (182,⟨1,false,8,[.int .u64 0],.int .u64⟩),
 (187,⟨1,false,8,[.nilFunc],.other⟩),
 (188,⟨1,false,8,[.nilFunc],.other⟩),
 (194,⟨3,true,24,[iZ,iZ,iZ],.struct [(0,120),(2,40)]⟩),
 (197,⟨3,true,24,[iZ,iZ,iZ],.struct [(0,160),(2,40)]⟩),
 (200,⟨4,true,32,[iZ,iZ,iZ,iZ],.struct [(0,3),(1,3),(2,3),(3,3)]⟩),
 (207,⟨1,false,8,[.int .u64 0],.int .u64⟩),
 (209,⟨38,true,304,[.int .u64 0,.int .u64 0,.int .u64 0,.int .u64 0,.int .u64 0,.int .u64 0,.int .u64 0,.int .u64 0,.int .u64 0,.int .u64 0,.int .u64 0,.int .u64 0,.int .u64 0,.int .u64 0,.int .u64 0,.int .u64 0,.int .u64 0,.int .u64 0,.int .u64 0,.int .u64 0,.int .u64 0,.int .u64 0,.int .u64 0,.int .u64 0,.int .u64 0,.int .u64 0,.int .u64 0,.int .u64 0,.int .u64 0,.int .u64 0,.int .u64 0,.int .u64 0,.int .u64 0,.int .u64 0,.int .u64 0,.int .u64 0,.int .u64 0,.int .u64 0],.array 38 207⟩),
 (215,⟨1,false,8,[.nilFunc],.other⟩),
 (217,⟨1,false,8,[.nilFunc],.other⟩),
 (219,⟨1,false,8,[iZ],.int .i64⟩),
 (226,⟨1,false,4,[.int .u32 0],.int .u32⟩),
 (227,⟨1,false,8,[.nilFunc],.other⟩),
 (230,⟨1,false,8,[.nilFunc],.other⟩),
 (233,⟨1,false,8,[.nilFunc],.other⟩),
 (236,⟨3,true,24,[iZ,iZ,iZ],.struct [(0,3),(1,3),(2,3)]⟩),
 (240,⟨7,true,56,[iZ,iZ,iZ,iZ,iZ,iZ,iZ],.struct [(0,3),(1,3),(2,3),(3,60),(5,3),(6,3)]⟩),
 (246,⟨1,false,8,[.nilFunc],.other⟩),
 (254,⟨1,false,8,[.nilFunc],.other⟩),
 (262,⟨9,true,72,[iZ,iZ,iZ,iZ,iZ,iZ,iZ,iZ,iZ],.struct [(0,122),(8,40)]⟩),
 (264,⟨1,false,24,[nZ],.slice 320⟩),
 (267,⟨1,false,24,[nZ],.slice 317⟩),
 (272,⟨2,true,16,[iZ,iZ],.struct [(0,3),(1,3)]⟩),
 (277,⟨1,false,8,[.nilFunc],.other⟩),
 (278,⟨1,false,8,[.pointer none],.ptr⟩),
 (280,⟨1,false,24,[nZ],.slice 162⟩),
 (283,⟨1,false,8,[.nilFunc],.other⟩),
 (284,⟨1,false,8,[.map none],.map 3 4⟩),
 (286,⟨1,false,16,[.nilIface],.other⟩),
 (290,⟨1,false,8,[.int .u64 0],.int .u64⟩),
 (294,⟨1,false,8,[.pointer none],.ptr⟩),
 (295,⟨1,false,8,[.nilFunc],.other⟩),
 (300,⟨1,false,8,[.nilFunc],.other⟩),
 (301,⟨1,false,24,[nZ],.slice 339⟩),
 (315,⟨3,true,24,[iZ,iZ,.bool false],.struct [(0,120),(2,4)]⟩),
 (317,⟨5,true,40,[iZ,iZ,iZ,iZ,.bool false],.struct [(0,3),(1,3),(2,315)]⟩),
 (320,⟨2,true,16,[iZ,iZ],.array 2 3⟩),
 (327,⟨8,true,64,[iZ,iZ,iZ,iZ,iZ,iZ,iZ,iZ],.struct [(0,90)]⟩),
 (328,⟨8,true,64,[iZ,iZ,iZ,iZ,iZ,iZ,iZ,iZ],.struct [(0,90)]⟩),
 (331,⟨1,false,8,[.pointer none],.ptr⟩),
 (332,⟨1,false,8,[.pointer none],.ptr⟩),
 (339,⟨9,true,72,[iZ,iZ,iZ,iZ,iZ,iZ,iZ,iZ,iZ],.struct [(0,240),(7,120)]⟩),
 (348,⟨1,false,8,[.nilFunc],.other⟩),
 (349,⟨1,false,8,[.nilFunc],.other⟩),
 (352,⟨2,true,16,[iZ,iZ],.struct [(0,3),(1,3)]⟩),
 (358,⟨1,false,8,[.nilFunc],.other⟩),
 (359,⟨1,false,8,[.nilFunc],.other⟩),
 (361,⟨1,false,24,[nZ],.slice 366⟩),
 (364,⟨2,true,16,[iZ,iZ],.struct [(0,3),(1,3)]⟩),
 (366,⟨6,true,48,[iZ,iZ,iZ,iZ,iZ,iZ],.struct [(0,352),(2,364),(4,364)]⟩),
 (368,⟨1,false,8,[.nilFunc],.other⟩),
 (369,⟨1,false,8,[.nilFunc],.other⟩),
 (372,⟨5,true,40,[iZ,iZ,iZ,iZ,iZ],.struct [(0,352),(2,3),(3,3),(4,3)]⟩),
 (378,⟨1,false,8,[.nilFunc],.other⟩)]
def TTab:TT:=look tl
theorem zsY:tl.map (fun p=>TI.of Go.Proofs.Tryz.prog p.1)=tl.map (fun p=>some p.2):=by kernel_rfl
theorem tl_ok:∀p∈tl,TI.of Go.Proofs.Tryz.prog p.1=some p.2:=fun p hp=>List.map_inj_left.1 zsY p hp
def eqTs:List Nat:=[60,90,104,120,160,200,236,272,352,364]
end Go.Pg
namespace Go.Pg
open Go.Proofs Go.RowKit
noncomputable abbrev PP:Program:=Tryz.prog
theorem hT:∀t i,TTab t=some i->TI.of PP t=some i:=fun t i h=>by
 have h':look tl t=some i:=h
 have:=tl_ok (t,i) (zak h')
 exact this
theorem hM:PP.follows .mixedOrders=true:=by kernel_rfl
def intF(P:Program):Nat->List Field->Bool
 | _,[]=>true
 |i,f::fs=> !(f.name== "_")&&Nat.beq f.offset i&&(match P.underlying f.type with|some (.int _)=>true| _=>false)&&intF P (i+1) fs
theorem zjD{P:Program}{w:World}{d:Nat}:∀(fs:List Field) (i:Nat) (xs ys:List D) (vs us:List Value) (ok:Nat->Prop) (b:Bool),intF P i fs=true->xs.length=i+fs.length->
  eqDs (xs.drop i) (ys.drop i)=some b->All2 (Rep w ok) xs vs->All2 (Rep w ok) ys us->(Op.eqFields (d+1) vs.toArray us.toArray fs).run P w= .ok b w
 | [],i,xs,ys,vs,us,ok,b,_,hl,he,h1,h2=>by
  have h3:xs.drop i=[]:=List.drop_eq_nil_of_le (by simp at hl;omega)
  rw [h3]at he
  cases hy:ys.drop i with
  |nil=>rw [hy]at he;simp [eqDs]at he;subst he;simp [Op.eqFields]
  |cons y r=>rw [hy]at he;simp [eqDs]at he
 |f::fs,i,xs,ys,vs,us,ok,b,hf,hl,he,h1,h2=>by
  simp only [intF,jP,jY]at hf
  obtain⟨⟨⟨hn,ho⟩,ht⟩,hr⟩:=hf
  have ho:=jA ho
  have hi:i<xs.length:=by rw [hl];simp
  cases hy:ys.drop i with
  |nil=>
   rw [hy,qO hi]at he
   simp [eqDs]at he
  |cons y r=>
  have hj:i<ys.length:=by
   rcases jaD i ys.length with h|h
   ·exact h
   rw [List.drop_eq_nil_of_le h]at hy;cases hy
  rw [qO hj]at hy
  simp only [jas]at hy
  obtain⟨rfl,rfl⟩:=hy
  rw [qO hi,qO hj]at he
  simp only [eqDs]at he
  cases hq:eqD xs[i] ys[i]with
  |none=>simp [hq]at he
  |some q=>
  cases hqs:eqDs (xs.drop (i+1)) (ys.drop (i+1))with
  |none=>simp [hq,hqs]at he
  |some q'=>
  simp only [hq,hqs,jO]at he
  have hb:b=(q&&q'):=he.symm
  obtain⟨v,hv,hrv⟩:=h1.get i xs[i] (by simp [hi])
  obtain⟨u,hu,hru⟩:=h2.get i ys[i] (by simp [hj])
  cases hund:P.underlying f.type with
  |none=>simp [hund]at ht
  |some td=>
  cases td with
  |int k0=>
   have hag:(isAgg f.type).run P w= .ok false w:=by simp [isAgg,run_underlying hund]
   have hp1:(part f.type vs.toArray f.offset).run P w= .ok v w:=by simp [part,hag,ho,hv]
   have hp2:(part f.type us.toArray f.offset).run P w= .ok u w:=by simp [part,hag,ho,hu]
   have hn':f.name≠ "_" :=by simpa using hn
   have heq:(Op.equalIn (d+1) f.type v u).run P w= .ok q w:=by
    cases hx:xs[i]with
    |int k a=>
     rw [hx]at hq hrv
     cases hz:ys[i]with
     |int k' c=>
      rw [hz]at hq hru
      have hv':v= .int k a:=hrv
      have hu':u= .int k' c:=hru
      simp only [eqD]at hq
      cases hk:kbeq k k' with
      |false=>simp [hk]at hq
      |true=>
       have:=zhZ hk
       subst this
       simp only [hk,kT,jO]at hq
       subst hq;subst hv';subst hu'
       exact run_equalIn_int w d f.type k k0 a c hund
     | _=>rw [hz]at hq;simp [eqD]at hq
    | _=>rw [hx]at hq;simp [eqD]at hq
   simp only [Op.eqFields,hn',ne_eq,not_false_eq_true,jbe,Sem.run_bind,hp1,hp2,heq,Result.andThen_ok]
   cases q with
   |false=>simp [hb]
   |true=>
    simp only [jaB,qT,jaG]
    rw [hb,qE]
    exact zjD fs (i+1) xs ys vs us ok q' hr (by rw [hl];simp;omega) hqs h1 h2
  | _=>simp [hund]at ht
def intS(P:Program)(t:TypeId):Bool:=
 (match P.underlying t with|some (.struct fs)=>intF P 0 fs.toList&&(match P.info? t with|some i=>Nat.beq i.size fs.size|none=>false)| _=>false)&& !P.stoodInHeld t&& !P.eqGuardType P.depth t
theorem zia{P:Program}{t:TypeId}(h:intS P t=true):EqFact P t:=by
 intro w ok xs ys vs us b x y ⟨ti,hti,hlen⟩ hb hv hu
 obtain⟨info,d,z,g1,g2,g3,g4,g5,g6,g7,g8⟩:=zah hti
 unfold intS at h
 rw[g2]at h
 cases d with
 |struct fs=>
  simp only[g1,jP,jY]at h
  obtain⟨⟨⟨h1,h2⟩,h3⟩,h4⟩:=h
  have h2:=jA h2
  have hfo:P.fieldsOf t=fs:=by simp[Program.fieldsOf,g2]
  have ht:P.underlying t=some (.struct (P.fieldsOf t)):=by rw[hfo];exact g2
  have hq:(Op.equalIn 10000 t (.agg vs.toArray) (.agg us.toArray)).run P w= .ok b w:=by
   rw[run_equalIn_struct w 9999 t _ _ ht h3,hfo]
   exact zjD fs.toList 0 xs ys vs us ok b h1 (by rw[hlen,<- g4,h2];simp) (by simpa using hb) hv hu
  constructor
  ·simp only[Sem.run_bind,run_eqGuard_agg w _ t x y _ _ h4,Result.andThen_ok,run_eql_struct,hq]
  ·simp only[Sem.run_bind,run_eqGuard_agg w _ t x y _ _ h4,Result.andThen_ok,run_neq_struct,hq]
 | _=>simp at h
def ET(t:Nat):Bool:=eqTs.any (Nat.beq t)
theorem zsh:eqTs.all (intS PP)=true:=by kernel_rfl
theorem hE:∀t,ET t=true->EqFact PP t:=fun t h=>by
 obtain⟨u,hu,he⟩:=kM.1 h
 have:=jA he
 subst this
 exact zia (jC.1 zsh _ hu)
def EN:Env:=⟨ET,false,0,fun _ _=>False,false,fun _=>false⟩
def EC(ids:List Nat):Env:=⟨ET,false,0,fun _ _=>False,false,fun i=>ids.any (Nat.beq i)⟩
def ED:Env:=⟨ET,true,0,fun _ _=>False,false,fun _=>false⟩
theorem zqW{f:FuncId}{fn:Func}{c:Code}(hf:PP.funcs[f]?=some fn)(hb:fn.body=some c)(hq:((fn.name== "runtime.NumGoroutine")|| !(codeN fn.ntmps c&&Nat.ble fn.ntmps 4294967296))=false)
  {args res:List V1}(hsz:Nat.ble args.length fn.ntmps=true)(h:awp PP TTab EN c (St.of (argSlots 0 args) []) (retK TTab fn.results.toList res)):Spec PP f args res:=by
 simp only [qN,qQ,jP]at hq
 exact zfv (E:=EN) hT hE hM hf hb hq.1 hq.2.1 (jD hsz) (jD hq.2.2) h
theorem zb9(ids:List Nat){f:FuncId}{fn:Func}{c:Code}(hf:PP.funcs[f]?=some fn)(hb:fn.body=some c)(hq:((fn.name== "runtime.NumGoroutine")|| !(codeN fn.ntmps c&&Nat.ble fn.ntmps 4294967296))=false)
  {args res:List V1}(hsz:Nat.ble args.length fn.ntmps=true)(h:awp PP TTab (EC ids) c (St.of (argSlots 0 args) []) (retK TTab fn.results.toList res)):Spec PP f args res:=by
 simp only [qN,qQ,jP]at hq
 exact zfv (E:=EC ids) hT hE hM hf hb hq.1 hq.2.1 (jD hsz) (jD hq.2.2) h
theorem zdx{f:FuncId}{fn:Func}{c:Code}(hf:PP.funcs[f]?=some fn)(hb:fn.body=some c)(hq:((fn.name== "runtime.NumGoroutine")|| !(codeN fn.ntmps c&&Nat.ble fn.ntmps 4294967296))=false)
  {args:List V1}{e k n:Nat}{g:Nat->Nat->D}(hsz:Nat.ble args.length fn.ntmps=true)(h:awp PP TTab EN c (St.of (argSlots 0 args) []) (retKO fn.results.toList e k n g)):SpecO PP f args e k n g:=by
 simp only [qN,qQ,jP]at hq
 exact znJ (E:=EN) hT hE hM hf hb hq.1 hq.2.1 (jD hsz) (jD hq.2.2) h
theorem zbG{f:FuncId}{fn:Func}{c:Code}(hf:PP.funcs[f]?=some fn)(hb:fn.body=some c)(hq:((fn.name== "runtime.NumGoroutine")|| !(codeN fn.ntmps c&&Nat.ble fn.ntmps 4294967296))=false)
  {args res:List V1}(hsz:Nat.ble args.length fn.ntmps=true)(h:awp PP TTab ED c (St.of (argSlots 0 args) []) (retK TTab fn.results.toList res)):SpecD PP f args res:=by
 simp only [qN,qQ,jP]at hq
 exact zfv (E:=ED) hT hE hM hf hb hq.1 hq.2.1 (jD hsz) (jD hq.2.2) h
def V1.eqv:V1->V1->Prop
 | .d x,.d y=>D.eqv x y
 | .agg xs,.agg ys=>eqvs xs ys
 | _,_=>False
def eqV1s:List V1->List V1->Prop
 | [],[]=>True
 |x::xs,y::ys=>V1.eqv x y/\eqV1s xs ys
 | _,_=>False
theorem znZ{w:World}{ok:Nat->Prop}{x y:V1}{v:Value}(h:Rep1 w ok x v)(he:V1.eqv x y):Rep1 w ok y v:=by
 cases x with
 |d x=>cases y with
  |d y=>exact Rep.eqv h he
  |agg _=>exact he.elim
 |agg xs=>cases y with
  |d y=>exact he.elim
  |agg ys=>obtain⟨vs,h1,h2⟩:=h;exact⟨vs,h1,zb1 he h2⟩
theorem zbj{w:World}{ok:Nat->Prop}:∀{xs ys:List V1}{vs:List Value},eqV1s xs ys->All2 (Rep1 w ok) xs vs->All2 (Rep1 w ok) ys vs
 | [],[],_,_,h=>h
 |x::xs,y::ys,_,he,.cons h1 h2=>.cons (znZ h1 he.1) (zbj he.2 h2)
 | [],_::_,_,he,_=>he.elim
 | _::_,[],_,he,_=>he.elim
theorem SpecG.eqv{d:Bool}{P:Program}{f:FuncId}{xs ys res:List V1}(h:SpecG d P f ys res)(he:eqV1s xs ys):SpecG d P f xs res:=
 ⟨h.1,fun w ok vs hok hr=>h.2 w ok vs hok (zbj he hr)⟩
theorem SpecOG.eqv{d:Bool}{P:Program}{f:FuncId}{xs ys:List V1}{e k n:Nat}{g:Nat->Nat->D}(h:SpecOG d P f ys e k n g)(he:eqV1s xs ys):SpecOG d P f xs e k n g:=
 ⟨h.1,fun w ok vs hok hr=>h.2 w ok vs hok (zbj he hr)⟩
section
variable {P:Program}{s:St}{o:Oper}{fo:Operand}{f:FuncId}{args:List Operand}{K:St->Prop}
variable {dr:Bool}{E:Env}
theorem CallOb.pure{s:St}{args:List AV}{K:AV->Prop}{xs res:List V1}(h:SpecG dr P f xs res)(hx:toV1s s args=some xs)(hr:res.all V1.flat=true)(hk:K (resAV res)):CallOb dr P s f args K:=⟨.inl ⟨xs,res,hx,h,.inl hr,hk⟩⟩
theorem CallOb.pureE{s:St}{args:List AV}{K:AV->Prop}{xs ys res:List V1}(h:SpecG dr P f ys res)(hx:toV1s s args=some xs)(he:eqV1s xs ys)(hr:res.all V1.flat=true)(hk:K (resAV res)):CallOb dr P s f args K:=⟨.inl ⟨xs,res,hx,h.eqv he,.inl hr,hk⟩⟩
theorem CallOb.ro{s:St}{args:List AV}{K:AV->Prop}{xs res:List V1}(h:SpecG dr P f xs res)(hx:toV1s s args=some xs)(hr:args.all (fun v=>!v.isOwn)=true)(hk:K (resAV res)):CallOb dr P s f args K:=⟨.inl ⟨xs,res,hx,h,.inr hr,hk⟩⟩
theorem SpecF.eqv{d:Bool}{P:Program}{f:FuncId}{xs ys res:List V1}(h:SpecF d P f ys res)(he:eqV1s xs ys):SpecF d P f xs res:=
 ⟨h.1,fun w ok vs hok hr=>h.2 w ok vs hok (zbj he hr)⟩
def toV1c(s:St)(fo:Operand)(args:List Operand):Option (FuncId×List V1):=
 match callee (ev s fo)with
 |some (f,ex)=>match toV1s s (args.map (ev s)++ex)with
  |some xs=>some (f,xs)
  |none=>none
 |none=>none
def noOwn(s:St)(args:List Operand):Bool:=args.all fun x=>!(ev s x).isOwn
theorem zaH{xs:List V1}(h:toV1c s fo args=some (f,xs)):∃ex,callee (ev s fo)=some (f,ex)/\toV1s s (args.map (ev s)++ex)=some xs:=by
 unfold toV1c at h
 cases hc:callee (ev s fo)with
 |none=>simp[hc]at h
 |some p=>
 obtain⟨g,ex⟩:=p
 simp only[hc]at h
 cases hx:toV1s s (args.map (ev s)++ex)with
 |none=>simp[hx]at h
 |some ys=>
 simp only[hx,jO,Prod.mk.injEq]at h
 obtain⟨rfl,rfl⟩:=h
 exact⟨ex,rfl,hx⟩
theorem zbv{v:AV}{ex:List AV}(h:callee v=some (f,ex)):ex.all (fun v=>!v.isOwn)=true:=by
 unfold callee at h
 split at h
 ·cases h;rfl
 ·cases h;simp[AV.isOwn]
 ·split at h
  ·cases h;simp[AV.isOwn]
  cases h
 cases h
theorem zcI{ex:List AV}(h:noOwn s args=true)(he:ex.all (fun v=>!v.isOwn)=true):(args.map (ev s)++ex).all (fun v=>!v.isOwn)=true:=by
 rw[List.all_append,he,jac,List.all_map];exact h
theorem CallSt.pureE{xs ys res:List V1}(h:SpecG E.dr P f ys res)(hx:toV1c s fo args=some (f,xs))(he:eqV1s xs ys)(hr:res.all V1.flat=true)(hk:K (s.putO o.dst (resAV res))):CallSt E P s o fo args K:=by
 obtain⟨ex,h1,h2⟩:=zaH hx
 rw[zag];exact .inl ⟨[],f,ex,h1,by rw[zaI];exact .inl ⟨xs,res,h2,h.eqv he,.inl hr,hk⟩⟩
theorem CallSt.pure{xs res:List V1}(h:SpecG E.dr P f xs res)(hx:toV1c s fo args=some (f,xs))(hr:res.all V1.flat=true)(hk:K (s.putO o.dst (resAV res))):CallSt E P s o fo args K:=by
 obtain⟨ex,h1,h2⟩:=zaH hx
 rw[zag];exact .inl ⟨[],f,ex,h1,by rw[zaI];exact .inl ⟨xs,res,h2,h,.inl hr,hk⟩⟩
theorem CallSt.ro{xs res:List V1}(h:SpecG E.dr P f xs res)(hx:toV1c s fo args=some (f,xs))(hr:noOwn s args=true)(hk:K (s.putO o.dst (resAV res))):CallSt E P s o fo args K:=by
 obtain⟨ex,h1,h2⟩:=zaH hx
 rw[zag];exact .inl ⟨[],f,ex,h1,by rw[zaI];exact .inl ⟨xs,res,h2,h,.inr (zcI hr (zbv h1)),hk⟩⟩
theorem CallSt.fz(ids:List Nat){xs res:List V1}(h:SpecG E.dr P f xs res)(hx:toV1c (s.freezes ids) fo args=some (f,xs))(hr:noOwn (s.freezes ids) args=true)(hk:K ((s.freezes ids).putO o.dst (resAV res))):CallSt E P s o fo args K:=by
 obtain⟨ex,h1,h2⟩:=zaH hx
 rw[zag];exact .inl ⟨ids,f,ex,h1,by rw[zaI];exact .inl ⟨xs,res,h2,h,.inr (zcI hr (zbv h1)),hk⟩⟩
theorem CallSt.fzE(ids:List Nat){xs ys res:List V1}(h:SpecG E.dr P f ys res)(hx:toV1c (s.freezes ids) fo args=some (f,xs))(he:eqV1s xs ys)(hr:noOwn (s.freezes ids) args=true)(hk:K ((s.freezes ids).putO o.dst (resAV res))):CallSt E P s o fo args K:=by
 obtain⟨ex,h1,h2⟩:=zaH hx
 rw[zag];exact .inl ⟨ids,f,ex,h1,by rw[zaI];exact .inl ⟨xs,res,h2,h.eqv he,.inr (zcI hr (zbv h1)),hk⟩⟩
theorem CallSt.fzP(ids:List Nat){xs ys res:List V1}(h:SpecG E.dr P f ys res)(hx:toV1c (s.freezes ids) fo args=some (f,xs))(he:eqV1s xs ys)(hr:res.all V1.flat=true)(hk:K ((s.freezes ids).putO o.dst (resAV res))):CallSt E P s o fo args K:=by
 obtain⟨ex,h1,h2⟩:=zaH hx
 rw[zag];exact .inl ⟨ids,f,ex,h1,by rw[zaI];exact .inl ⟨xs,res,h2,h.eqv he,.inl hr,hk⟩⟩
theorem CallSt.own{xs:List V1}{d e k n:Nat}{g:Nat->Nat->D}(h:SpecOG E.dr P f xs e k n g)(hx:toV1c s fo args=some (f,xs))(hd:o.dst=some d)(hg:∀m j,m<n->j<k->(g m j).flat=true)(hk:K (Go.Pg.mk s d (.row e k n g) (.own d))):CallSt E P s o fo args K:=by
 obtain⟨ex,h1,h2⟩:=zaH hx
 rw[zag];exact .inr (.inl ⟨[],f,ex,d,h1,hd,by rw[zar];exact⟨xs,e,k,n,g,none,h2,h,hg,hk⟩⟩)
end
abbrev I(n:Int):D:=.int .i64 n
structure Half where
  A:Int
  B:Int
  C:Int
  deriving DecidableEq,Inhabited
structure Corner where
  X:Int
  Y:Int
  Den:Int
  deriving DecidableEq,Inhabited
structure Place where
  X:Int
  Y:Int
  deriving DecidableEq,Inhabited
structure Frac where
  Num:Int
  Den:Int
  deriving DecidableEq,Inhabited
structure Use where
  H:Int
  T:Int
  deriving DecidableEq,Inhabited
abbrev Half.v(h:Half):V1:=.agg [I h.A,I h.B,I h.C]
abbrev Corner.v(h:Corner):V1:=.agg [I h.X,I h.Y,I h.Den]
abbrev Place.v(h:Place):V1:=.agg [I h.X,I h.Y]
abbrev Frac.v(h:Frac):V1:=.agg [I h.Num,I h.Den]
abbrev Use.v(h:Use):V1:=.agg [I h.H,I h.T]
abbrev B(b:Bool):V1:=.d (.bool b)
abbrev N(n:Int):V1:=.d (I n)
structure Num where
  n:Int
  h:Half
  deriving DecidableEq,Inhabited
def Num.at(x:Num):Nat->D
 |0=>I x.n
 |1=>I x.h.A
 |2=>I x.h.B
 | _=>I x.h.C
def Half.at(h:Half):Nat->D
 |0=>I h.A
 |1=>I h.B
 | _=>I h.C
def Corner.at(h:Corner):Nat->D
 |0=>I h.X
 |1=>I h.Y
 | _=>I h.Den
def Place.at(h:Place):Nat->D
 |0=>I h.X
 | _=>I h.Y
def Use.at(h:Use):Nat->D
 |0=>I h.H
 | _=>I h.T
abbrev slP(l:List Place):V1:=.d (.slc 2 l.length fun i=>(l.getD i default).at)
end Go.Pg
namespace Go.Pg
def sT:=@Split.tt
def sF:=@Split.ff
def bY:=@Split.by
def cP:=@CallSt.pure
def oP:=@CallOb.pure
def gdq:=@List.getD_eq_getElem?_getD
def dE:=@D.eqv_refl
def gqe:=@List.getElem?_eq_getElem
def fNo:=@FzOb.no
def cR:=@CallSt.ro
def oRo:=@CallOb.ro
def kAt:=@CutOb.at
def pEq:=@CallSt.pureE
def fEq:=@CallSt.fzE
end Go.Pg
