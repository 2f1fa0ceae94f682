/- Lemmas, joined by program. -/
import Derived.Test.YtpkmlacgjfhdkaaGreatA8
import Derived.Shelf.SlSortCmp.NoneTotal
import Derived.KernelRfl
import Derived.Test.YtpkmlacgjfhdkaaGreatChecked
import Derived.MapFrom
set_option maxHeartbeats 4000000
set_option linter.all false
set_option maxRecDepth 100000
namespace Go.Pg
open Go.Proofs Go.RowKit
structure CirOk (x:Cir):Prop where
  id:1<=x.ID/\x.ID<=1099511627776
  on:on x.At=true
  t:0<=x.From/\x.From<=x.To/\x.To<=1048576
  z:-300<=x.Lo/\x.Lo<=x.Hi/\x.Hi<=300
  d:0<=x.Drift/\x.Drift<=60
structure ChkOk (c:Cirs) (k:Chk):Prop where
  id:1<=k.ID/\k.ID<=1099511627776
  on:on k.Mark=true
  s:0<=k.Shown/\k.Shown<=3599
  l:1<=k.Slack/\k.Slack<=100
  cc:0<=cirI c k.C
  ne:k.Mark≠(chkO c k).At
  t:(chkO c k).From<=k.Tick/\k.Tick<=(chkO c k).To
structure CirsOk (c:Cirs):Prop where
  n:c.C.length<=12
  m:c.K.length<=60
  cs:∀ i,i<c.C.length->CirOk (c.C.getD i default)
  ci:∀ i,i<c.C.length->(i:Int)<=cirI c (c.C.getD i default).ID
  ks:∀ i,i<c.K.length->ChkOk c (c.K.getD i default)
  ki:∀ i,i<c.K.length->(i:Int)<=chkI c (c.K.getD i default).ID
theorem zrz {x:Cir} (h:cirE x=0):CirOk x:=by
 unfold cirE at h
 split at h
 ·cases h
 rename_i h1
 simp only[jX,jY,not_or,jaT,kA,jaI,List.all_nil,jaP] at h1
 obtain⟨⟨⟨⟨⟨⟨⟨⟨a,b⟩,c⟩,d⟩,e⟩,f⟩,g⟩,i⟩,j⟩:=h1
 exact⟨zaa.1 a,b,by omega,by omega,zaa.1 j⟩
theorem zrA {c:Cirs} {k:Chk} (h:chkE c k=0):ChkOk c k:=by
 unfold chkE at h
 split at h
 ·cases h
 rename_i h1
 split at h
 ·cases h
 rename_i h2
 split at h
 ·cases h
 rename_i h3
 unfold chkB at h1
 simp only[jX,jY,not_or,jaT,kA,jaI,List.all_nil,jaP] at h1 h3
 obtain⟨⟨⟨a,b⟩,c⟩,d⟩:=h1
 exact⟨zaa.1 a,b,zaa.1 c,zaa.1 d,by omega,h3.1,zaa.1 h3.2⟩
theorem zbJ {c:Cirs} (h:cirsE c=0):CirsOk c:=by
 unfold cirsE at h
 split at h
 ·cases h
 rename_i h1
 split at h
 ·rename_i h2; exact absurd h h2
 rename_i h2
 have hT:err1 (cir1E c) c.C.length=0:=jL h2
 have a:=zbl hT
 have b:=zbl h
 have A:∀ i,i<c.C.length->cirE (c.C.getD i default)=0/\(i:Int)<=cirI c (c.C.getD i default).ID:=fun i hi=>by
  have:=a i hi
  unfold cir1E at this
  split at this
  ·rename_i h4; exact absurd this h4
  rename_i h4
  split at this
  ·cases this
  exact⟨jL h4,by omega⟩
 have B:∀ i,i<c.K.length->chkE c (c.K.getD i default)=0/\(i:Int)<=chkI c (c.K.getD i default).ID:=fun i hi=>by
  have:=b i hi
  unfold chk1E at this
  split at this
  ·rename_i h4; exact absurd this h4
  rename_i h4
  split at this
  ·cases this
  exact⟨jL h4,by omega⟩
 exact⟨by omega,by omega,fun i hi=>zrz (A i hi).1,fun i hi=>(A i hi).2,fun i hi=>zrA (B i hi).1,fun i hi=>(B i hi).2⟩
abbrev Chk.ds (x:Chk):List D:=[I x.ID,I x.C,I x.Tick,I x.Mark.X,I x.Mark.Y,I x.Shown,I x.Slack]
abbrev Cir.ds (x:Cir):List D:=[I x.ID,I x.At.X,I x.At.Y,I x.From,I x.To,I x.Lo,I x.Hi,I x.Drift]
def aloT (b:Int × Int) (s l:Int):Spn:=⟨max (-300) (-(-((s - l) * b.2 - b.1) / b.2)),-(max (-300) (-(((s+l) * b.2 - b.1) / b.2)))⟩
def aloR (f:Nat->Spn):Nat->Nat->Spn
 | _,0=>⟨1,0⟩
 | i,n+1=>if (f i).Lo<=(f i).Hi then f i else aloR f (i+1) n
def aloF (x:Cir) (k:Chk) (i:Nat):Spn:=aloT (bear x.At k.Mark) (k.Shown+((i:Int) - 1) * 3600) k.Slack
def alo (x:Cir) (k:Chk):Spn:=aloR (aloF x k) 0 3
theorem zly {n p b:Int} (hp:0<p) (hb:0<=b) (h:-b<=n/\n<=b):-b<=n / p/\n / p<=b:=by
 have h1:b * 1<=b * p:=kR (by omega) hb
 have h2:-b * p = -(b * p):=Int.neg_mul b p
 exact⟨(jaj hp).2 (by omega),jan hp (by omega)⟩
theorem zp5 (x:Cir) (k:Chk) (ha:on x.At=true) (hm:on k.Mark=true) (hne:x.At≠k.Mark) (hs:0<=k.Shown/\k.Shown<=3599) (hl:1<=k.Slack/\k.Slack<=100):Spec PP 148 [x.v,k.v] [(alo x k).v]:=by
 have hb:=zbM ha hm hne
 refine sA Tryz.func148 ?_
 refine cP (zej x.At k.Mark ha hm hne) rfl rfl ?_
 refine lOf (σ:=Nat) (fun i=>([(3,.box 3 0),(4,.box 4 0),(5,.d (I (bear x.At k.Mark).1)),(6,.d (I (bear x.At k.Mark).2)),(7,.d (I ((i:Int) - 1)))],[(3,.box (k.ds.map AV.d)),(4,.box [.d (I 0),.d (I 0)])])) (fun i=>i<=3/\aloR (aloF x k) i (3 - i)=alo x k) (fun i=>3 - i) 0
  ⟨rfl,⟨obD k.ds rfl,obD [I 0,I 0] rfl,trivial⟩,wq rfl⟩ ⟨jF _,rfl⟩ fun i hi=>?_
 obtain⟨hi,ha⟩:=hi
 apply bY <;> intro h1
 ·have h1:(i:Int) - 1<=1:=dT h1
  refine⟨i6,⟨i6,?_⟩⟩
  obtain⟨S,hS⟩:∃ S,S=k.Shown+((i:Int) - 1) * 3600:=⟨_,rfl⟩
  have sb:-3600<=S/\S<=7199:=by omega
  have m1:=mulB (a:=S - k.Slack) (b:=(bear x.At k.Mark).2) (x:=10000) (y:=48) (by omega) (by omega)
  have m2:=mulB (a:=S+k.Slack) (b:=(bear x.At k.Mark).2) (x:=10000) (y:=48) (by omega) (by omega)
  have q1:=zly (n:=-((S - k.Slack) * (bear x.At k.Mark).2 - (bear x.At k.Mark).1)) (b:=1000000) hb.1.1 (by omega) (by omega)
  have q2:=zly (n:=(S+k.Slack) * (bear x.At k.Mark).2 - (bear x.At k.Mark).1) (b:=1000000) hb.1.1 (by omega) (by omega)
  have hf:aloF x k i=aloT (bear x.At k.Mark) S k.Slack:=by rw[hS]; rfl
  rw[<- hS]
  refine oN 29 ?_
  refine⟨i6,⟨i6,⟨i6,?_⟩⟩⟩
  refine oP (zlX ((S - k.Slack) * (bear x.At k.Mark).2 - (bear x.At k.Mark).1) (bear x.At k.Mark).2 (by omega) (by omega)) rfl rfl ?_
  refine CallOb.pureE (zc3 (-300) [_] (jD rfl)) rfl ⟨⟨rfl,rfl⟩,zed rfl,trivial⟩ rfl ?_
  refine⟨i6,⟨i6,⟨i6,?_⟩⟩⟩
  refine oP (zhQ ((S+k.Slack) * (bear x.At k.Mark).2 - (bear x.At k.Mark).1) (bear x.At k.Mark).2 (by omega) (by omega)) rfl rfl ?_
  refine⟨i6,?_⟩
  refine CallOb.pureE (zc3 (-300) [_] (jD rfl)) rfl ⟨⟨rfl,rfl⟩,zed rfl,trivial⟩ rfl ?_
  have g1:(aloT (bear x.At k.Mark) S k.Slack).Lo=max (-300) (-(-((S - k.Slack) * (bear x.At k.Mark).2 - (bear x.At k.Mark).1) / (bear x.At k.Mark).2)):=rfl
  have g2:(aloT (bear x.At k.Mark) S k.Slack).Hi = -(max (-300) (-(((S+k.Slack) * (bear x.At k.Mark).2 - (bear x.At k.Mark).1) / (bear x.At k.Mark).2))):=rfl
  have mI:inR .i64 (aloT (bear x.At k.Mark) S k.Slack).Hi:=zam (by rw[g2]; omega) (by rw[g2]; omega)
  refine⟨mI,?_⟩
  apply bY <;> intro h2
  ·have h2:(aloT (bear x.At k.Mark) S k.Slack).Lo<=(aloT (bear x.At k.Mark) S k.Slack).Hi:=dT h2
   have e:alo x k=aloT (bear x.At k.Mark) S k.Slack:=by
    rw[<- ha,show 3 - i=(3 - (i+1))+1 by omega,<- hf]
    unfold aloR
    rw[kG (by rw[hf]; exact h2)]
   rw[e]
   exact r1C rfl rfl rfl rfl rfl rfl (zec rfl rfl)
  have h2:¬ (aloT (bear x.At k.Mark) S k.Slack).Lo<=(aloT (bear x.At k.Mark) S k.Slack).Hi:=dF h2
  have e:alo x k=aloR (aloF x k) (i+1) (3 - (i+1)):=by
   rw[<- ha,show 3 - i=(3 - (i+1))+1 by omega]
   conv=>lhs; unfold aloR
   rw[kF (by rw[hf]; exact h2)]
  refine⟨i6,?_⟩
  refine⟨i+1,⟨rfl,⟨obD k.ds rfl,obD [I 0,I 0] rfl,trivial⟩,avQ rfl,avQ rfl,avR _ rfl,avR _ rfl,avI rfl (by omega),trivial⟩,⟨by omega,e.symm⟩,(msr (by omega))⟩
 have h1:i=3:=by have:¬ (i:Int) - 1<=1:=dF h1; omega
 subst h1
 have e:alo x k=⟨1,0⟩:=ha.symm
 rw[e]
 exact r1C rfl rfl rfl rfl rfl rfl (zec rfl rfl)
end Go.Pg
namespace Go.Pg
open Go.RowKit Go.Proofs Go.Shelf Go.Sort Go.Lib
theorem zfK {w w':World} (h:Below w.heap.size w w') (hd:w.drawn<=w'.drawn):∃ q os,w'=grow (w.drewN q) os:=by
 refine⟨w'.drawn - w.drawn,w'.heap.extract w.heap.size w'.heap.size,?_⟩
 have hh:w.heap++w'.heap.extract w.heap.size w'.heap.size=w'.heap:=by
  apply Array.ext_getElem?
  intro k
  by_cases hk:k<w.heap.size
  ·rw[jaK hk,h.block k hk]
  rw[Array.getElem?_append_right (by omega),Array.getElem?_extract]
  have hs:=h.size
  by_cases hk2:k<w'.heap.size
  ·rw[kG (by omega)]; congr 1; omega
  rw[kF (by omega),jac (by omega)]
 obtain⟨heap,tape,drawn,os,output⟩:=w
 obtain⟨heap',tape',drawn',os',output'⟩:=w'
 have h1:=h.os
 have h2:=h.tape
 have h3:=h.output
 simp only at h1 h2 h3 hh hd
 subst h1 h2 h3
 simp only[grow,World.drewN,hh]
 congr 1
 omega
structure Ints (α:Type) (k:Nat) where
  lst:α->List Int
  len:∀ x,(lst x).length=k
  at_:α->Nat->D
  hat:∀ x j,j<k->at_ x j = .int .i64 ((lst x).getD j 0)
section
variable {α:Type} [Inhabited α] {k:Nat} (A:Ints α k)
def Ints.enc (x:α):List Value:=(A.lst x).map (Value.int .i64)
theorem Ints.enc_len (x:α):(A.enc x).length=k:=by simp[Ints.enc,A.len]
theorem Ints.enc_one (x:α):∀ v∈A.enc x,v.oneCell'=true:=fun v hv=>by
 obtain⟨n,_,rfl⟩:=kI.1 hv; rfl
theorem Ints.enc_get (x:α) {j:Nat} (hj:j<k):(A.enc x)[j]?=some (.int .i64 ((A.lst x).getD j 0)):=by
 have:j<(A.lst x).length:=by rw[A.len]; exact hj
 simp[Ints.enc,jU,kH this,hU]
theorem Ints.rep (x:α) {j:Nat} (hj:j<k) {w:World} {ok:Nat->Prop} {v:Value}:Rep w ok (A.at_ x j) v ↔ v = .int .i64 ((A.lst x).getD j 0):=by
 rw[A.hat x j hj]; exact jba
theorem Ints.flat_get (d:Array α) {t:Nat} (h:t<d.size * k):(flatK A.enc k d)[t]! = .int .i64 ((A.lst d[t / k]!).getD (t % k) 0):=by
 have hk:0<k:=by
  rcases jaN k with h0 | h0
  ·subst h0; simp at h
  exact h0
 rw[get_flatK _ _ _ _ h]
 have:=A.enc_get d[t / k]! (jaq t hk)
 rw[List.getElem!_eq_getElem?_getD,this]; rfl
theorem Ints.flat_size (d:Array α):(flatK A.enc k d).size=d.size * k:=by simp[flatK]
def Ints.row (l:List α):Nat->Nat->D:=fun i=>A.at_ (l.getD i default)
theorem zdC (l:List α) {i:Nat} (h:i<l.length):l.toArray[i]! = l.getD i default:=by
 simp[hU,h]
theorem Ints.holds {w:World} {ok:Nat->Prop} {e g cap:Nat} {cur:Array Value} {l:List α} {xs:List Value} (hh:w.heap[g]?=some (.cells cur e (0,0))) (ht:cur.toList.take (l.length * k)=xs)
  (hr:∀ m,m<l.length -> ∀ j,j<k -> ∃ u,xs[m * k+j]?=some u/\Rep w ok (A.row l m j) u):HoldsK A.enc k w g 0 l.toArray:=by
 intro t ht'
 rw[A.flat_size] at ht'
 simp only[jaH] at ht'
 have hk:0<k:=by
  rcases jaN k with h0 | h0
  ·subst h0; simp at ht'
  exact h0
 have hm:t / k<l.length:=ja0 (by rwa [qS] at ht')
 obtain⟨u,hu,hrep⟩:=hr (t / k) hm (t % k) (jaq t hk)
 rw[show A.row l (t / k) (t % k)=A.at_ (l.getD (t / k) default) (t % k) from rfl,A.rep _ (jaq t hk)] at hrep
 have e1:t / k * k+t % k=t:=by rw[qS]; exact jar t k
 rw[e1,<- ht,jS,kG ht'] at hu
 rw[A.flat_get _ (by simpa using ht'),zdC l hm,k9]
 refine⟨?_,?_⟩
 ·simp only[World.cell?,hh,id_eq]
  have:cur[t]?=some u:=by simpa using hu
  simp[this,hrep]
 simp[World.frozen?,hh]
theorem Ints.put {w:World} {e g cap:Nat} {cur:Array Value} (m:Nat) (l:List α) (os:Array Obj) (hh:w.heap[g]?=some (.cells cur e (0,0))) (hlc:l.length<=cap) (hcap:cap<=maxLen) (hcs:cur.size=cap * k) :
  w.grownBy (sortWorldK A.enc k w g 0 m l.toArray os) (some g) /\ ∃ xs',(sortWorldK A.enc k w g 0 m l.toArray os).ownsRow 0 e k (.slice (some ⟨g,0,none⟩) l.length cap) l.length xs'/\(∀ u∈xs',u.oneCell'=true) /\
   ∀ m',m'<l.length -> ∀ j,j<k -> ∃ u,xs'[m' * k+j]?=some u/\Rep (sortWorldK A.enc k w g 0 m l.toArray os) (fun _=>False) (A.row l m' j) u:=by
 have hg:g<w.heap.size:=(jB.1 hh).1
 have hheap:∀ i,i<w.heap.size->(sortWorldK A.enc k w g 0 m l.toArray os).heap[i]?=if i=g then some (.cells (putCells id 0 (flatK A.enc k l.toArray) cur) e (0,0)) else w.heap[i]?:=fun i hi=>by
  simp only[sortWorldK,grow,putRowK,putRow,mapBlock,ahead]
  rw[jaK (by simpa using hi),jaY]
  by_cases e':g=i
  ·subst e'; simp[hh,onCells]
  rw[kF e',kF (fun e''=>e' e''.symm)]; rfl
 refine⟨⟨rfl,rfl,rfl,by simp[sortWorldK,grow,putRowK,putRow,mapBlock,ahead],fun i hi hne=>?_⟩,?_⟩
 ·rw[hheap i hi,kF fun e'=>hne (by rw[e'])]
 have hF:=A.flat_size l.toArray
 simp only[jaH] at hF
 have hle:l.length * k<=cap * k:=jW k hlc
 have hget:∀ t,t<l.length * k->(putCells id 0 (flatK A.enc k l.toArray) cur).toList[t]?=some (.int .i64 ((A.lst (l.getD (t / k) default)).getD (t % k) 0)):=fun t ht=>by
  have hk:0<k:=by
   rcases jaN k with h0 | h0
   ·subst h0; simp at ht
   exact h0
  have hm:t / k<l.length:=ja0 (by rwa [qS] at ht)
  have hlt:t<cur.size:=by omega
  rw[wJ,putCells,Array.getElem?_mapIdx,qR hlt]
  simp only[kT,jF,true_and,k9,hF,kG ht,Nat.sub_zero,id_eq]
  rw[A.flat_get _ (by simpa using ht),zdC l hm]
 have hsz:(putCells id 0 (flatK A.enc k l.toArray) cur).size=cap * k:=by simp[putCells,hcs]
 have hsz':(putCells id 0 (flatK A.enc k l.toArray) cur).toList.length=cap * k:=(kB).trans hsz
 refine⟨(putCells id 0 (flatK A.enc k l.toArray) cur).toList.take (l.length * k),⟨by rw[jQ,hsz']; exact Nat.min_eq_left hle,.inr ⟨g,cap,_,rfl,jF _,by rw[hheap g hg,kG rfl],hlc,hcap,hsz,rfl⟩⟩,fun u hu=>?_,fun m' hm' j hj=>?_⟩
 ·obtain⟨t,ht⟩:=wK hu
  rw[jS] at ht
  split at ht
  ·rename_i hlt; rw[hget t hlt] at ht; cases ht; rfl
  cases ht
 have hlt:m' * k+j<l.length * k:=by
  have:(m'+1) * k<=l.length * k:=jW k hm'
  rw[kP] at this; omega
 refine⟨_,by rw[jS,kG hlt]; exact hget _ hlt,?_⟩
 have e1:(m' * k+j) / k=m':=by rw[qS,Nat.mul_add_div (by omega),Nat.div_eq_of_lt hj]; simp
 have e2:(m' * k+j) % k=j:=by rw[qS,ja2,jak hj]
 rw[e1,e2]
 exact (A.rep (l.getD m' default) hj).2 rfl
theorem zeG {P:Program} {ρ:Ren} (L:SlLaysF0.n6 P ρ) (hent:Ent P (ρ.f 6)) (aE:∀ w,(isAgg (ρ.t 24)).run P w = .ok true w) (zE:∀ w,(Go.sizeOf (ρ.t 24)).run P w = .ok k w)
  (cf:α->α->Int) (hO:SWO (ltOf cf)) (hT:∀ x y,(ltOf cf) x y=false->(ltOf cf) y x=false->x=y) (g:FuncId)
  (hc:∀ x y,SpecD P g [.agg ((A.lst x).map (D.int .i64)),.agg ((A.lst y).map (D.int .i64))] [.d (.int .i64 (cf x y))]) (e:TypeId) (l:List α) (hn:l.length<=1000000) :
  SpecR P (ρ.f 6) [] [.d (.fn g)] e k l.length (A.row l) (A.row (l.mergeSort fun x y=>!(ltOf cf) y x)) []:=by
 refine⟨hent,fun w ok vs us v xs hok h1 h2 hr=>?_⟩
 cases h1
 cases h2 with
 | cons h2 h3=>
 cases h3
 rename_i fv
 have hfv:fv = .func (.func g) #[] #[]:=h2
 subst hfv
 have hret:ResRep w (fun _=>False) [] (.tuple #[]):=⟨[],rfl,.nil⟩
 have hlen:(l.mergeSort fun x y=>!(ltOf cf) y x).length=l.length:=jaC l
 by_cases h0:l=[]
 ·subst h0
  obtain⟨p,cap,rfl⟩:∃ p cap,v = .slice p 0 cap:=by
   rcases hr.own.2 with⟨h3,_⟩ | ⟨q,cap,cur,h3,_⟩
   ·exact⟨_,_,h3⟩
   exact⟨_,_,h3⟩
  refine (AnyF.slices_SortFunc_none L p cap _ w).mono ?_
  rintro en w' ⟨rfl,rfl⟩
  exact⟨_,rfl,⟨rfl,rfl,rfl,jE _,fun _ _ _=>rfl⟩,⟨[],rfl,.nil⟩,xs,hr.own,hr.one,fun m hm=>absurd hm (wC _)⟩
 rcases hr.own.2 with⟨_,h4⟩ | ⟨q,cap,cur,rfl,_,hh,hnc,hcap,hcs,htk⟩
 ·exact absurd (jav.1 h4) h0
 have hH:=A.holds (cap:=cap) hh htk hr.rep
 have hq:q<w.heap.size:=(jB.1 hh).1
 obtain⟨fn,hf,hnm,hbd⟩:=(hc default default).1
 have hent':∀ args w,(callFunc g args).run P w = .ok (.enter g args) w:=fun args w=>zaV (hc default default).1 args w
 have hcmp:CmpLays P g #[] A.enc k cf q 0 l.toArray.size w:=fun m os dk _ x y=>by
  refine ((hc x y).2 _ (fun _=>False) [.agg (A.enc x).toArray,.agg (A.enc y).toArray] (fun b hb=>hb.elim) ?_).mono ?_
  ·have one:∀ z:α,Rep1 (sortWorldK A.enc k w q 0 m dk os) (fun _=>False) (.agg ((A.lst z).map (D.int .i64))) (.agg (A.enc z).toArray):=fun z=>by
    refine⟨A.enc z,rfl,All2.of_get (by simp[Ints.enc]) fun j a b ha hb=>?_⟩
    rw[jU] at ha
    unfold Ints.enc at hb
    rw[jU] at hb
    cases hz:(A.lst z)[j]? with
    | none=>rw[hz] at ha; cases ha
    | some n=>rw[hz] at ha hb; cases ha; cases hb; exact rfl
   exact .cons (one x) (.cons (one y) .nil)
  rintro en w' ⟨v,rfl,⟨hb,hd⟩,hres⟩
  have hv:v = .int .i64 (cf x y):=hres
  exact⟨by rw[hv],zfK hb (hd rfl)⟩
 have hrun:=AnyQ.slices_SortFunc_total L k aE zE A.enc A.enc_len A.enc_one cf hO g #[] q 0 cap l.toArray w hent' hcmp hH hq (by simp; omega) hT
 simp only[jaH] at hrun
 refine hrun.mono ?_
 rintro en w' ⟨rfl,m,os,rfl⟩
 obtain⟨p1,xs',p2,p3,p4⟩:=A.put m (l.mergeSort fun x y=>!(ltOf cf) y x) os hh (by rw[hlen]; exact hnc) hcap hcs
 rw[hlen] at p2 p4
 exact⟨_,rfl,p1,⟨[],rfl,.nil⟩,xs',p2,p3,p4⟩
end
end Go.Pg
namespace Go.Proofs
open Go.Shelf Go.RowKit Go.Lib Go.Sort
def Tryz.sortC_ren:Go.Shelf.Ren:=⟨fun | 6=>159 | 15=>168 | 14=>180 | 28=>195 | 29=>196 | 20=>199 | 21=>200 | 22=>201 | 23=>202 | 24=>203 | 25=>204 | 26=>205 | 27=>206 | 46=>212 | 47=>208 | 48=>209 | 49=>213 | 50=>214 | 57=>216 | n=>n,fun | 22=>241 | 24=>109 | 25=>275 | 3=>3 | 39=>280 | 0=>0 | 53=>301 | 55=>93 | 4=>4 | 46=>295 | 45=>294 | 50=>75 | 5=>5 | 9=>9 | 66=>310 | 70=>314 | 76=>318 | 77=>164 | n=>n,fun | n=>n⟩
theorem Tryz.sortC:Go.Proofs.SlLaysF0.n6 Tryz.prog Tryz.sortC_ren:={
  mixed:=by kernel_rfl,
  f6:=⟨Tryz.f159.name,by decide,Tryz.func159.trans (jI some (by kernel_rfl))⟩,
  f14:=⟨Tryz.f180.name,by decide,Tryz.func180.trans (jI some (by kernel_rfl))⟩,
  f15:=Tryz.func168.trans (jI some (by kernel_rfl)),
  f20:=⟨Tryz.f199.name,by decide,Tryz.func199.trans (jI some (by kernel_rfl))⟩,
  f21:=⟨Tryz.f200.name,by decide,Tryz.func200.trans (jI some (by kernel_rfl))⟩,
  f22:=⟨Tryz.f201.name,by decide,Tryz.func201.trans (jI some (by kernel_rfl))⟩,
  f23:=⟨Tryz.f202.name,by decide,Tryz.func202.trans (jI some (by kernel_rfl))⟩,
  f24:=⟨Tryz.f203.name,by decide,Tryz.func203.trans (jI some (by kernel_rfl))⟩,
  f25:=⟨Tryz.f204.name,by decide,Tryz.func204.trans (jI some (by kernel_rfl))⟩,
  f26:=⟨Tryz.f205.name,by decide,Tryz.func205.trans (jI some (by kernel_rfl))⟩,
  f27:=⟨Tryz.f206.name,by decide,Tryz.func206.trans (jI some (by kernel_rfl))⟩,
  f28:=Tryz.func195.trans (jI some (by kernel_rfl)),
  f29:=Tryz.func196.trans (jI some (by kernel_rfl)),
  f46:=⟨Tryz.f212.name,by decide,Tryz.func212.trans (jI some (by kernel_rfl))⟩,
  f47:=Tryz.func208.trans (jI some (by kernel_rfl)),
  f48:=Tryz.func209.trans (jI some (by kernel_rfl)),
  f49:=⟨Tryz.f213.name,by decide,Tryz.func213.trans (jI some (by kernel_rfl))⟩,
  f50:=⟨Tryz.f214.name,by decide,Tryz.func214.trans (jI some (by kernel_rfl))⟩,
  f57:=⟨Tryz.f216.name,by decide,Tryz.func216.trans (jI some (by kernel_rfl))⟩,
  t0:=Tryz.underlying0,
  a0:=Tryz.isAgg0,
  z0:=Tryz.sizeOf0,
  v0:=Tryz.zeroValue0,
  t3:=Tryz.underlying3,
  a3:=Tryz.isAgg3,
  z3:=Tryz.sizeOf3,
  v3:=Tryz.zeroValue3,
  t4:=Tryz.underlying4,
  a4:=Tryz.isAgg4,
  z4:=Tryz.sizeOf4,
  v4:=Tryz.zeroValue4,
  t5:=Tryz.underlying5,
  a5:=Tryz.isAgg5,
  z5:=Tryz.sizeOf5,
  v5:=Tryz.zeroValue5,
  t9:=Tryz.underlying9,
  a9:=Tryz.isAgg9,
  z9:=Tryz.sizeOf9,
  v9:=Tryz.zeroValue9,
  t22:=Tryz.underlying241,
  a22:=Tryz.isAgg241,
  z22:=Tryz.sizeOf241,
  v22:=Tryz.zeroValue241,
  t25:=Tryz.underlying275,
  a25:=Tryz.isAgg275,
  z25:=Tryz.sizeOf275,
  v25:=Tryz.zeroValue275,
  t39:=Tryz.underlying280,
  a39:=Tryz.isAgg280,
  z39:=Tryz.sizeOf280,
  v39:=Tryz.zeroValue280,
  t45:=Tryz.underlying294,
  a45:=Tryz.isAgg294,
  z45:=Tryz.sizeOf294,
  v45:=Tryz.zeroValue294,
  t46:=Tryz.underlying295,
  a46:=Tryz.isAgg295,
  z46:=Tryz.sizeOf295,
  v46:=Tryz.zeroValue295,
  t50:=Tryz.underlying75,
  a50:=Tryz.isAgg75,
  z50:=Tryz.sizeOf75,
  v50:=Tryz.zeroValue75,
  t53:=Tryz.underlying301,
  a53:=Tryz.isAgg301,
  z53:=Tryz.sizeOf301,
  v53:=Tryz.zeroValue301,
  t55:=Tryz.underlying93,
  a55:=Tryz.isAgg93,
  z55:=Tryz.sizeOf93,
  v55:=Tryz.zeroValue93,
  t66:=Tryz.underlying310,
  a66:=Tryz.isAgg310,
  z66:=Tryz.sizeOf310,
  v66:=Tryz.zeroValue310,
  t70:=Tryz.underlying314,
  a70:=Tryz.isAgg314,
  z70:=Tryz.sizeOf314,
  v70:=Tryz.zeroValue314,
  t76:=Tryz.underlying318,
  a76:=Tryz.isAgg318,
  z76:=Tryz.sizeOf318,
  v76:=Tryz.zeroValue318,
  t77:=Tryz.underlying164,
  a77:=Tryz.isAgg164,
  z77:=Tryz.sizeOf164,
  v77:=Tryz.zeroValue164 }
def Tryz.sortT_ren:Go.Shelf.Ren:=⟨fun | 6=>149 | 15=>168 | 14=>167 | 28=>195 | 29=>196 | 20=>187 | 21=>188 | 22=>189 | 23=>190 | 24=>191 | 25=>192 | 26=>193 | 27=>194 | 46=>207 | 47=>208 | 48=>209 | 49=>210 | 50=>211 | 57=>215 | n=>n,fun | 22=>133 | 24=>215 | 25=>257 | 3=>3 | 39=>280 | 0=>0 | 53=>301 | 55=>93 | 4=>4 | 46=>295 | 45=>294 | 50=>75 | 5=>5 | 9=>9 | 66=>310 | 70=>314 | 76=>318 | 77=>164 | n=>n,fun | n=>n⟩
theorem Tryz.sortT:Go.Proofs.SlLaysF0.n6 Tryz.prog Tryz.sortT_ren:={
  mixed:=by kernel_rfl,
  f6:=⟨Tryz.f149.name,by decide,Tryz.func149.trans (jI some (by kernel_rfl))⟩,
  f14:=⟨Tryz.f167.name,by decide,Tryz.func167.trans (jI some (by kernel_rfl))⟩,
  f15:=Tryz.func168.trans (jI some (by kernel_rfl)),
  f20:=⟨Tryz.f187.name,by decide,Tryz.func187.trans (jI some (by kernel_rfl))⟩,
  f21:=⟨Tryz.f188.name,by decide,Tryz.func188.trans (jI some (by kernel_rfl))⟩,
  f22:=⟨Tryz.f189.name,by decide,Tryz.func189.trans (jI some (by kernel_rfl))⟩,
  f23:=⟨Tryz.f190.name,by decide,Tryz.func190.trans (jI some (by kernel_rfl))⟩,
  f24:=⟨Tryz.f191.name,by decide,Tryz.func191.trans (jI some (by kernel_rfl))⟩,
  f25:=⟨Tryz.f192.name,by decide,Tryz.func192.trans (jI some (by kernel_rfl))⟩,
  f26:=⟨Tryz.f193.name,by decide,Tryz.func193.trans (jI some (by kernel_rfl))⟩,
  f27:=⟨Tryz.f194.name,by decide,Tryz.func194.trans (jI some (by kernel_rfl))⟩,
  f28:=Tryz.func195.trans (jI some (by kernel_rfl)),
  f29:=Tryz.func196.trans (jI some (by kernel_rfl)),
  f46:=⟨Tryz.f207.name,by decide,Tryz.func207.trans (jI some (by kernel_rfl))⟩,
  f47:=Tryz.func208.trans (jI some (by kernel_rfl)),
  f48:=Tryz.func209.trans (jI some (by kernel_rfl)),
  f49:=⟨Tryz.f210.name,by decide,Tryz.func210.trans (jI some (by kernel_rfl))⟩,
  f50:=⟨Tryz.f211.name,by decide,Tryz.func211.trans (jI some (by kernel_rfl))⟩,
  f57:=⟨Tryz.f215.name,by decide,Tryz.func215.trans (jI some (by kernel_rfl))⟩,
  t0:=Tryz.underlying0,
  a0:=Tryz.isAgg0,
  z0:=Tryz.sizeOf0,
  v0:=Tryz.zeroValue0,
  t3:=Tryz.underlying3,
  a3:=Tryz.isAgg3,
  z3:=Tryz.sizeOf3,
  v3:=Tryz.zeroValue3,
  t4:=Tryz.underlying4,
  a4:=Tryz.isAgg4,
  z4:=Tryz.sizeOf4,
  v4:=Tryz.zeroValue4,
  t5:=Tryz.underlying5,
  a5:=Tryz.isAgg5,
  z5:=Tryz.sizeOf5,
  v5:=Tryz.zeroValue5,
  t9:=Tryz.underlying9,
  a9:=Tryz.isAgg9,
  z9:=Tryz.sizeOf9,
  v9:=Tryz.zeroValue9,
  t22:=Tryz.underlying133,
  a22:=Tryz.isAgg133,
  z22:=Tryz.sizeOf133,
  v22:=Tryz.zeroValue133,
  t25:=Tryz.underlying257,
  a25:=Tryz.isAgg257,
  z25:=Tryz.sizeOf257,
  v25:=Tryz.zeroValue257,
  t39:=Tryz.underlying280,
  a39:=Tryz.isAgg280,
  z39:=Tryz.sizeOf280,
  v39:=Tryz.zeroValue280,
  t45:=Tryz.underlying294,
  a45:=Tryz.isAgg294,
  z45:=Tryz.sizeOf294,
  v45:=Tryz.zeroValue294,
  t46:=Tryz.underlying295,
  a46:=Tryz.isAgg295,
  z46:=Tryz.sizeOf295,
  v46:=Tryz.zeroValue295,
  t50:=Tryz.underlying75,
  a50:=Tryz.isAgg75,
  z50:=Tryz.sizeOf75,
  v50:=Tryz.zeroValue75,
  t53:=Tryz.underlying301,
  a53:=Tryz.isAgg301,
  z53:=Tryz.sizeOf301,
  v53:=Tryz.zeroValue301,
  t55:=Tryz.underlying93,
  a55:=Tryz.isAgg93,
  z55:=Tryz.sizeOf93,
  v55:=Tryz.zeroValue93,
  t66:=Tryz.underlying310,
  a66:=Tryz.isAgg310,
  z66:=Tryz.sizeOf310,
  v66:=Tryz.zeroValue310,
  t70:=Tryz.underlying314,
  a70:=Tryz.isAgg314,
  z70:=Tryz.sizeOf314,
  v70:=Tryz.zeroValue314,
  t76:=Tryz.underlying318,
  a76:=Tryz.isAgg318,
  z76:=Tryz.sizeOf318,
  v76:=Tryz.zeroValue318,
  t77:=Tryz.underlying164,
  a77:=Tryz.isAgg164,
  z77:=Tryz.sizeOf164,
  v77:=Tryz.zeroValue164 }
end Go.Proofs
namespace Go.Pg
open Go.Proofs Go.RowKit Go.Sort Go.Shelf
theorem ord_cases (a b:Int):(ord a b = -1/\a<b) \/ (ord a b=1/\b<a) \/ (ord a b=0/\a=b):=by
 unfold ord
 by_cases h1:a<b
 ·exact .inl ⟨kG h1,h1⟩
 by_cases h2:b<a
 ·exact .inr (.inl ⟨by rw[kF h1,kG h2],h2⟩)
 exact .inr (.inr ⟨by rw[kF h1,kF h2],by omega⟩)
theorem zqZ (a b:Int):decide (ord a b<0)=decide (a<b):=by
 apply decide_eq_decide.2
 rcases ord_cases a b with⟨e,h⟩ | ⟨e,h⟩ | ⟨e,h⟩ <;> rw[e] <;> omega
theorem SpecR.congr {P:Program} {f:FuncId} {pre post res:List V1} {e k n:Nat} {g0 g g1 g':Nat->Nat->D} (h:SpecR P f pre post e k n g0 g1 res) (he:∀ m,m<n -> ∀ j,j<k->g m j=g0 m j) (he':∀ m,m<n -> ∀ j,j<k->g' m j=g1 m j):SpecR P f pre post e k n g g' res:=
 ⟨h.1,fun w ok vs us v xs h1 h2 h3 hr=>(h.2 w ok vs us v xs h1 h2 h3 ⟨hr.own,hr.one,fun m hm j hj=>by rw[<- he m hm j hj]; exact hr.rep m hm j hj,hr.sep⟩).mono fun en w' ⟨r,e1,e2,e3,xs',e4,e5,e6⟩=>⟨r,e1,e2,e3,xs',e4,e5,fun m hm j hj=>by rw[he' m hm j hj]; exact e6 m hm j hj⟩⟩
section
variable {α:Type} [Inhabited α] {k:Nat} (A:Ints α k)
def Ints.on (L:List α):Ints {x // x∈L} k where
  lst p:=A.lst p.1
  len p:=A.len p.1
  at_ p:=A.at_ p.1
  hat p j hj:=A.hat p.1 j hj
theorem zn7 (L:List α) [Inhabited {x // x∈L}] (l:List {x // x∈L}):∀ m,m<l.length -> ∀ j,j<k->A.row (l.map (·.1)) m j=(A.on L).row l m j:=fun m hm j _=>by
 show A.at_ ((l.map (·.1)).getD m default) j=A.at_ (l.getD m default).1 j
 rw[hU,hU,jU,kH hm]
 rfl
theorem zg4 {P:Program} {ρ:Ren} (S:SlLaysF0.n6 P ρ) (hent:Ent P (ρ.f 6)) (aE:∀ w,(isAgg (ρ.t 24)).run P w = .ok true w) (zE:∀ w,(Go.sizeOf (ρ.t 24)).run P w = .ok k w)
  (key:α->Int) (L:List α) (hL:L ≠ []) (hk:∀ x∈L,∀ y∈L,key x=key y->x=y) (g:FuncId)
  (hc:∀ x∈L,∀ y∈L,SpecD P g [.agg ((A.lst x).map (D.int .i64)),.agg ((A.lst y).map (D.int .i64))] [.d (.int .i64 (ord (key x) (key y)))]) (e:TypeId) (hn:L.length<=1000000) :
  SpecR P (ρ.f 6) [] [.d (.fn g)] e k L.length (A.row L) (A.row (L.mergeSort fun x y=>decide (key x<=key y))) []:=by
 haveI:Inhabited {x // x∈L}:=⟨⟨L.head hL,List.head_mem hL⟩⟩
 have hlt:∀ x y:{x // x∈L},ltOf (fun x y:{x // x∈L}=>ord (key x.1) (key y.1)) x y=decide (key x.1<key y.1):=fun x y=>zqZ _ _
 have hO:SWO (ltOf fun x y:{x // x∈L}=>ord (key x.1) (key y.1)):=⟨fun x=>by rw[hlt]; simp,fun x y z h1 h2=>by rw[hlt] at *; simp only[kA] at *; omega,fun x y z h1 h2=>by rw[hlt] at *; simp only[qB] at *; omega⟩
 have h:=zeG (A.on L) S hent aE zE (fun x y=>ord (key x.1) (key y.1)) hO (fun x y h1 h2=>by
  rw[hlt] at h1 h2
  simp only[qB] at h1 h2
  exact Subtype.ext (hk x.1 x.2 y.1 y.2 (by omega))) g (fun x y=>hc x.1 x.2 y.1 y.2) e L.attach (by rw[ja3]; exact hn)
 rw[ja3] at h
 refine h.congr (fun m hm j hj=>?_) (fun m hm j hj=>?_)
 ·rw[<- zn7 A L L.attach m (by rw[ja3]; exact hm) j hj,List.attach_map_subtype_val]
 rw[<- zn7 A L _ m (by rw[jaC,ja3]; exact hm) j hj,List.map_mergeSort (s:=fun x y=>decide (key x<=key y)) (fun a _ b _=>by rw[hlt,wD]; simp),List.attach_map_subtype_val]
end
def ThI:Ints Thg 9 where
  lst x:=[x.k.ID,x.k.C,x.k.Tick,x.k.Mark.X,x.k.Mark.Y,x.k.Shown,x.k.Slack,x.s.Lo,x.s.Hi]
  len _:=rfl
  at_ x:=x.at
  hat x j hj:=by
    match j,hj with
    | 0,_=>rfl
    | 1,_=>rfl
    | 2,_=>rfl
    | 3,_=>rfl
    | 4,_=>rfl
    | 5,_=>rfl
    | 6,_=>rfl
    | 7,_=>rfl
    | 8,_=>rfl
theorem zlQ (x y:Thg):SpecD PP 150 [x.v,y.v] [N (ord x.k.ID y.k.ID)]:=by
 refine zaO Tryz.func150 rfl (by kernel_rfl) rfl ?_
 refine cP (zrt x.k.ID y.k.ID) rfl rfl ?_
 exact r1I rfl rfl
theorem aggT:∀ w,(isAgg (Tryz.sortT_ren.t 24)).run PP w = .ok true w:=fun _=>by kernel_rfl
theorem sizT:∀ w,(Go.sizeOf (Tryz.sortT_ren.t 24)).run PP w = .ok 9 w:=fun _=>by kernel_rfl
theorem zo1 (L:List Thg) (hL:L ≠ []) (hk:∀ x∈L,∀ y∈L,x.k.ID=y.k.ID->x=y) (hn:L.length<=1000000):SpecR PP 149 [] [.d (.fn 150)] 215 9 L.length (ThI.row L) (ThI.row (L.mergeSort fun x y=>decide (x.k.ID<=y.k.ID))) []:=
 zg4 ThI Tryz.sortT ⟨_,Tryz.func149,by kernel_rfl,by kernel_rfl⟩ aggT sizT (fun x=>x.k.ID) L hL hk 150 (fun x _ y _=>zlQ x y) 215 hn
def thg0 (x:Cir):Thg:=⟨⟨0,x.ID,x.From,⟨0,0⟩,0,0⟩,⟨x.Lo,x.Hi⟩⟩
def thsK (c:Cirs) (x:Cir) (n:Nat):List Thg:=((c.K.take n).filter fun k=>k.C==x.ID).map fun k=>⟨k,alo x k⟩
def thsR (c:Cirs) (x:Cir) (n:Nat):List Thg:=thg0 x :: thsK c x n
def thsL (c:Cirs) (x:Cir):List Thg:=(thsR c x c.K.length).mergeSort fun a b=>decide (a.k.ID<=b.k.ID)
theorem pushT {vs:List Thg} {p:Thg} {g:Nat->Nat->D} (hg:∀ j,j<9->D.eqv (g 0 j) (p.at j)):D.eqv (.slc 9 (vs.length+1) (appRow vs.length (ThI.row vs) g)) (.slc 9 (vs ++ [p]).length (ThI.row (vs ++ [p]))):=by
 refine⟨by simp,.inr ⟨rfl,fun i hi j hj=>?_⟩⟩
 show D.eqv (appRow vs.length (ThI.row vs) g i j) (((vs ++ [p]).getD i default).at j)
 unfold appRow
 by_cases h:i<vs.length
 ·rw[kG h,hU,jJ h,<- hU]
  exact dE _
 have e:i=vs.length:=by omega
 subst e
 rw[kF h,kE,hU,jK (jE _),kE]
 exact hg j hj
theorem eqv9 {f:Nat->D} {p:Thg} (h0:f 0=I p.k.ID) (h1:f 1=I p.k.C) (h2:f 2=I p.k.Tick) (h3:f 3=I p.k.Mark.X) (h4:f 4=I p.k.Mark.Y) (h5:f 5=I p.k.Shown) (h6:f 6=I p.k.Slack) (h7:f 7=I p.s.Lo) (h8:f 8=I p.s.Hi):∀ j,j<9->D.eqv (f j) (p.at j)
 | 0,_=>by rw[h0]; exact⟨rfl,rfl⟩
 | 1,_=>by rw[h1]; exact⟨rfl,rfl⟩
 | 2,_=>by rw[h2]; exact⟨rfl,rfl⟩
 | 3,_=>by rw[h3]; exact⟨rfl,rfl⟩
 | 4,_=>by rw[h4]; exact⟨rfl,rfl⟩
 | 5,_=>by rw[h5]; exact⟨rfl,rfl⟩
 | 6,_=>by rw[h6]; exact⟨rfl,rfl⟩
 | 7,_=>by rw[h7]; exact⟨rfl,rfl⟩
 | 8,_=>by rw[h8]; exact⟨rfl,rfl⟩
theorem zfg (c:Cirs) (x:Cir) (n:Nat):(thsR c x n).length<=n+1:=by
 unfold thsR thsK
 have:=jam (fun k:Chk=>k.C==x.ID) (c.K.take n)
 have:=List.length_take_le n c.K
 simp; omega
theorem zmr {c:Cirs} {x:Cir} {i:Nat} (h:i<c.K.length) (hk:(c.K.getD i default).C=x.ID):thsR c x (i+1)=thsR c x i ++ [⟨c.K.getD i default,alo x (c.K.getD i default)⟩]:=by
 unfold thsR thsK
 have e:[c.K.getD i default].filter (fun k:Chk=>k.C==x.ID)=[c.K.getD i default]:=by rw[wA (by rw[hk]; exact beq_self_eq_true _)]; rfl
 rw[za6 h default,kX,jT,e]
 rfl
theorem zoH {c:Cirs} {x:Cir} {i:Nat} (h:i<c.K.length) (hk:(c.K.getD i default).C≠x.ID):thsR c x (i+1)=thsR c x i:=by
 unfold thsR thsK
 have e:[c.K.getD i default].filter (fun k:Chk=>k.C==x.ID)=[]:=by rw[wB (by simpa using hk)]; rfl
 rw[za6 h default,kX,e,jaD]
structure ThsOk (c:Cirs) (x:Cir):Prop where
  on:on x.At=true
  n:c.K.length<=60
  k:∀ k∈c.K,k.C=x.ID->Go.Pg.on k.Mark=true/\x.At≠k.Mark/\(0<=k.Shown/\k.Shown<=3599)/\(1<=k.Slack/\k.Slack<=100)/\1<=k.ID
  d:∀ a∈c.K,∀ b∈c.K,a.ID=b.ID->a=b
theorem zoG {c:Cirs} {x:Cir} (h:ThsOk c x) (n:Nat):∀ a∈thsR c x n,∀ b∈thsR c x n,a.k.ID=b.k.ID->a=b:=by
 have mem:∀ a∈thsR c x n,a=thg0 x \/ ∃ k∈c.K,k.C=x.ID/\a=⟨k,alo x k⟩:=fun a ha=>by
  rcases kL.1 ha with rfl | ha
  ·exact .inl rfl
  obtain⟨k,hk,rfl⟩:=kI.1 ha
  obtain⟨hk,he⟩:=qC.1 hk
  exact .inr ⟨k,jap hk,by simpa using he,rfl⟩
 intro a ha b hb e
 rcases mem a ha with rfl | ⟨k,hk,hc,rfl⟩ <;> rcases mem b hb with rfl | ⟨k',hk',hc',rfl⟩
 ·rfl
 ·have:=(h.k k' hk' hc').2.2.2.2
  have:(0:Int)=k'.ID:=e
  omega
 ·have:=(h.k k hk hc).2.2.2.2
  have:k.ID=(0:Int):=e
  omega
 rw[h.d k hk k' hk' e]
theorem znM (c:Cirs) (x:Cir) (hx:ThsOk c x):Spec PP 114 [c.v,x.v] [.d (lTh (thsL c x))]:=by
 have hn:=hx.n
 refine sA Tryz.func114 ?_
 refine lOf (σ:=Nat) (fun i=>([(2,.box 2 0),(3,.box 3 0),(5,.own 16),(18,.d (lK c.K)),(19,.d (I c.K.length)),(20,.d (I i))],[(2,bxCs c),(3,.box (x.ds.map AV.d)),(16,.row 215 9 (thsR c x i).length (ThI.row (thsR c x i)))])) (fun i=>i<=c.K.length) (fun i=>c.K.length - i) 0
  ⟨rfl,⟨obCs rfl,obD x.ds rfl,obR rfl ?_,trivial⟩,wq rfl⟩ (jF _) fun i hi=>?_
 ·refine⟨rfl,.inr ⟨rfl,fun i hi j hj=>?_⟩⟩
  obtain rfl:i=0:=by omega
  exact eqv9 (p:=thg0 x) rfl rfl rfl rfl rfl rfl rfl rfl rfl j hj
 apply bY <;> intro h1
 ·have h1:i<c.K.length:=by have:=dT h1; omega
  refine⟨⟨rfl,by omega,by omega⟩,?_⟩
  apply bY <;> intro h2
  ·have h2:(c.K.getD i default).C=x.ID:=by simpa using h2
   obtain⟨k1,k2,k3,k4,-⟩:=hx.k _ (gd1 h1 default) h2
   refine oN 9 ?_
   refine oP (zp5 x (c.K.getD i default) hx.on k1 k2 k3 k4) rfl rfl ?_
   have hl:=zfg c x i
   refine⟨⟨.inr rfl,by simp only[maxLen]; omega,by dsimp only; omega⟩,?_⟩
   refine⟨i6,?_⟩
   refine⟨i+1,⟨rfl,⟨obCs rfl,obD x.ds rfl,obR rfl ?_,trivial⟩,wq rfl⟩,h1,(msr (by omega))⟩
   rw[zmr h1 h2]
   exact pushT (eqv9 (p:=⟨c.K.getD i default,alo x (c.K.getD i default)⟩) rfl rfl rfl rfl rfl rfl rfl rfl rfl)
  have h2:(c.K.getD i default).C≠x.ID:=by simpa using h2
  refine⟨i6,?_⟩
  refine⟨i+1,⟨rfl,⟨obCs rfl,obD x.ds rfl,obR rfl (by rw[zoH h1 h2]; exact dE _),trivial⟩,wq rfl⟩,h1,(msr (by omega))⟩
 have h1:i=c.K.length:=by have:=dF h1; omega
 subst h1
 refine CallSt.rw' rfl (zo1 (thsR c x c.K.length) (by unfold thsR; simp) (zoG hx _) (by have:=zfg c x c.K.length; omega)) ⟨⟨[],.tmp 38,[.func 150],[],rfl,rfl,rfl,rfl,rfl,rfl,rfl⟩⟩ rfl ?_
 refine⟨⟨_,_,_,_,rfl,?_⟩,trivial⟩
 have e:(thsL c x).length=(thsR c x c.K.length).length:=jaC _
 exact⟨e.symm,.inr ⟨rfl,fun i _ j _=>dE _⟩⟩
def noneB (t:Thg):Bool:=decide (t.s.Hi<t.s.Lo)
theorem zou (t:Thg):Spec PP 153 [t.v] [B (noneB t)]:=by
 refine sA Tryz.func153 ?_
 exact r1B rfl rfl
def gap (a b:Thg):Int:=max (a.s.Lo - b.s.Hi) (b.s.Lo - a.s.Hi)
def clB (x:Cir) (a b:Thg):Bool:=!noneB b && decide (drf x a.k.Tick b.k.Tick<gap a b)
def clsJ (x:Cir) (l:List Thg) (i j:Nat):List (Int × Int):=(((l.drop (i+1)).take j).filter (clB x (l.getD i default))).map fun b=>((l.getD i default).k.ID,b.k.ID)
def clsI (x:Cir) (l:List Thg) (i:Nat):List (Int × Int):=if noneB (l.getD i default)=true then [((l.getD i default).k.ID,(l.getD i default).k.ID)] else clsJ x l i (l.length - (i+1))
def clsU (x:Cir) (l:List Thg) (i:Nat):List (Int × Int):=(List.range i).flatMap (clsI x l)
def clsL (x:Cir) (l:List Thg):List (Int × Int):=clsU x l l.length
theorem zb1 (x:Cir) (l:List Thg) (i:Nat):clsU x l (i+1)=clsU x l i++clsI x l i:=by unfold clsU; rw[jad,jax]; simp
theorem ziT (x:Cir) (l:List Thg):∀ {k m:Nat},k<=m->clsU x l k <+: clsU x l m:=fun {k m} h=>by
 obtain⟨d,rfl⟩:=Nat.exists_eq_add_of_le h
 induction d with
 | zero=>exact List.prefix_rfl
 | succ d ih=>exact (ih (by omega)).trans (by rw[<- jah,zb1]; exact List.prefix_append _ _)
theorem znx {l:List Thg} {i j:Nat} (h:i+1+j<l.length):(l.drop (i+1)).getD j default=l.getD (i+1+j) default:=by
 rw[hU,qW,<- hU]
theorem ziU {x:Cir} {l:List Thg} {i j:Nat} (h:i+1+j<l.length) (hc:clB x (l.getD i default) (l.getD (i+1+j) default)=true):clsJ x l i (j+1)=clsJ x l i j ++ [((l.getD i default).k.ID,(l.getD (i+1+j) default).k.ID)]:=by
 have h2:j<(l.drop (i+1)).length:=by rw[wE]; omega
 have e:[l.getD (i+1+j) default].filter (clB x (l.getD i default))=[l.getD (i+1+j) default]:=by rw[wA hc]; rfl
 unfold clsJ
 rw[za6 h2 default,znx h,kX,jT,e]
 rfl
theorem zpX {x:Cir} {l:List Thg} {i j:Nat} (h:i+1+j<l.length) (hc:clB x (l.getD i default) (l.getD (i+1+j) default)=false):clsJ x l i (j+1)=clsJ x l i j:=by
 have h2:j<(l.drop (i+1)).length:=by rw[wE]; omega
 have e:[l.getD (i+1+j) default].filter (clB x (l.getD i default))=[]:=by rw[wB (by rw[hc]; decide)]; rfl
 unfold clsJ
 rw[za6 h2 default,znx h,kX,e,jaD]
theorem znI (x:Cir) (l:List Thg) (i:Nat) {j m:Nat} (h:j<=m):clsJ x l i j <+: clsJ x l i m:=by
 unfold clsJ
 have h1:(l.drop (i+1)).take j <+: (l.drop (i+1)).take m:=List.take_prefix_take_left h
 exact (h1.filter _).map _
theorem zlj {α:Type} {xs u r:List α} {a:α} (h:u++(r ++ [a]) <+: xs):xs[u.length+r.length]?=some a:=by
 obtain⟨t,rfl⟩:=h
 simp
theorem znG {x:Cir} {l:List Thg} {i:Nat} (h:i<l.length) (hn:noneB (l.getD i default)=true):(clsL x l)[(clsU x l i).length]?=some ((l.getD i default).k.ID,(l.getD i default).k.ID):=by
 have h1:clsU x l (i+1) <+: clsL x l:=ziT x l h
 rw[zb1] at h1
 have e:clsI x l i=[] ++ [((l.getD i default).k.ID,(l.getD i default).k.ID)]:=by unfold clsI; rw[kG hn]; rfl
 rw[e] at h1
 exact zlj h1
theorem zpW {x:Cir} {l:List Thg} {i j:Nat} (h:i+1+j<l.length) (hn:noneB (l.getD i default)=false) (hc:clB x (l.getD i default) (l.getD (i+1+j) default)=true):(clsL x l)[(clsU x l i).length+(clsJ x l i j).length]?=some ((l.getD i default).k.ID,(l.getD (i+1+j) default).k.ID):=by
 have h1:clsU x l (i+1) <+: clsL x l:=ziT x l (by omega)
 rw[zb1] at h1
 have e:clsI x l i=clsJ x l i (l.length - (i+1)):=by unfold clsI; rw[kF (by rw[hn]; decide)]
 have h2:clsJ x l i (j+1) <+: clsI x l i:=by rw[e]; exact znI x l i (by omega)
 rw[ziU h hc] at h2
 refine zlj (List.IsPrefix.trans ?_ h1)
 exact (List.prefix_append_right_inj _).2 h2
structure ThgOk (t:Thg):Prop where
  lo:-300<=t.s.Lo/\t.s.Lo<=300
  hi:-300<=t.s.Hi/\t.s.Hi<=300
  t:0<=t.k.Tick/\t.k.Tick<=1048576
abbrev Thg.ds (x:Thg):List D:=[I x.k.ID,I x.k.C,I x.k.Tick,I x.k.Mark.X,I x.k.Mark.Y,I x.k.Shown,I x.k.Slack,I x.s.Lo,I x.s.Hi]
theorem avBxS {s:St} {ob:Nat->Option Ob} {v:AV} {i:Nat} {cs:List AV} (xs:List D) (e:v = .box i 0) (h1:s.ob i=some (.box cs)) (h2:allD cs=some xs) (h3:ob i=none):AVle s ob v (.roe xs.length (getD' xs)):=by
 subst e
 exact⟨h3,cs,xs,h1,h2,rfl,fun j _=>by show D.eqv (getD' xs (0+j)) _; rw[k9]; exact dE _⟩
def prEnc (x:Int × Int):List V1:=[.agg [I x.1,I x.2]]
def clsCap (x:Cir) (l:List Thg) (j:Nat):D:=getD' [capB [lTh l],capB x.ds] j
theorem zjA (x:Cir) (l:List Thg) (hx:0<=x.Drift/\x.Drift<=60) (hl:∀ t∈l,ThgOk t) (hn:l.length<=100):SeqC PP 152 2 (clsCap x l) prEnc (clsL x l):=by
 refine zfq Tryz.func152 rfl (by kernel_rfl) rfl rfl prEnc _ fun y=>?_
 refine lOf (σ:=Nat) (fun i=>([(G,.gho (some (clsU x l i).length)),(0,.yl y),(1,avOf (.d (capB [lTh l]))),(2,avOf (.d (capB x.ds))),(9,.d (lTh l)),(10,.d (I l.length)),(11,.d (I i))],[])) (fun i=>i<=l.length) (fun i=>l.length - i) 0 ⟨rfl,trivial,wq rfl⟩ (jF _) fun i hi=>?_
 apply bY <;> intro h1
 ·have h1:i<l.length:=by have:=dT h1; omega
  have o1:=hl _ (gd1 h1 default)
  refine⟨⟨rfl,by omega,by omega⟩,?_⟩
  refine cP (zou (l.getD i default)) rfl rfl ?_
  apply bY <;> intro h2
  ·have eU:clsU x l (i+1)=clsU x l i ++ [((l.getD i default).k.ID,(l.getD i default).k.ID)]:=by
    rw[zb1]; unfold clsI; rw[kG h2]
   refine CallSt.yd (d:=26) [(0,.yl y),(1,avOf (.d (capB [lTh l]))),(2,avOf (.d (capB x.ds))),(9,.d (lTh l)),(10,.d (I l.length)),(11,.d (I i))] rfl rfl rfl rfl ⟨rfl,trivial,wq rfl⟩ (znG h1 h2) rfl rfl ?_ ?_
   ·refine sF ?_
    refine⟨i6,?_⟩
    refine⟨i+1,⟨rfl,trivial,avG rfl ?_,wq rfl⟩,h1,(msr (by omega))⟩
    rw[eU]; simp
   refine sT ?_
   exact .inr rfl
  have h2:noneB (l.getD i default)=false:=h2
  have eI:clsI x l i=clsJ x l i (l.length - (i+1)):=by unfold clsI; rw[kF (by rw[h2]; decide)]
  refine⟨i6,?_⟩
  refine⟨⟨.inr rfl,by omega,by omega⟩,?_⟩
  refine lOf (σ:=Nat) (fun j=>([(G,.gho (some ((clsU x l i).length+(clsJ x l i j).length))),(0,.yl y),(1,avOf (.d (capB [lTh l]))),(2,avOf (.d (capB x.ds))),(5,.roe 9 (getD' (l.getD i default).ds)),(9,.d (lTh l)),(10,.d (I l.length)),(11,.d (I i)),(31,.d (.slc 9 (l.length - (i+1)) fun q=>(l.getD (i+1+q) default).at)),(32,.d (I (l.length - (i+1):Nat))),(33,.d (I j))],[])) (fun j=>j<=l.length - (i+1)) (fun j=>l.length - (i+1) - j) 0 ⟨rfl,trivial,avG rfl ?_,avQ rfl,avQ rfl,avQ rfl,avBxS (l.getD i default).ds rfl rfl rfl rfl,avR _ rfl,avR _ rfl,avR _ rfl,avE rfl ⟨by omega,.inr ⟨rfl,fun q hq j hj=>?_⟩⟩,avI rfl (by omega),avR _ rfl,trivial⟩ (jF _) fun j hj=>?_
  ·unfold clsJ; simp
  ·show D.eqv ((l.getD (((i:Int)+1).toNat+q) default).at j) ((l.getD (i+1+q) default).at j)
   rw[show ((i:Int)+1).toNat=i+1 by omega]
   exact dE _
  apply bY <;> intro h3
  ·have h3:i+1+j<l.length:=by have:=dT h3; omega
   have o2:=hl _ (gd1 h3 default)
   refine⟨⟨rfl,by omega,by omega⟩,?_⟩
   have q1:=o1.lo
   have q2:=o1.hi
   have q3:=o2.lo
   have q4:=o2.hi
   have z1:inR .i64 ((l.getD i default).s.Lo - (l.getD (i+1+j) default).s.Hi):=i6
   have z2:inR .i64 ((l.getD (i+1+j) default).s.Lo - (l.getD i default).s.Hi):=i6
   refine⟨z1,⟨z2,?_⟩⟩
   refine pEq (zc3 _ [_] (jD rfl)) rfl ⟨⟨rfl,rfl⟩,zed rfl,trivial⟩ rfl ?_
   refine cP (zou (l.getD (i+1+j) default)) rfl rfl ?_
   have stay:clB x (l.getD i default) (l.getD (i+1+j) default)=false->(clsU x l i).length+(clsJ x l i j).length=(clsU x l i).length+(clsJ x l i (j+1)).length:=fun h=>by rw[zpX h3 h]
   apply bY <;> intro h4
   ·have h4:(!noneB (l.getD (i+1+j) default))=true:=h4
    refine cP (zhR x (l.getD i default).k.Tick (l.getD (i+1+j) default).k.Tick hx o1.t o2.t) rfl rfl ?_
    refine sT ?_
    apply bY <;> intro h5
    ·have hc:clB x (l.getD i default) (l.getD (i+1+j) default)=true:=by unfold clB; rw[h4]; exact h5
     refine CallSt.yd (d:=77) [(0,.yl y),(1,avOf (.d (capB [lTh l]))),(2,avOf (.d (capB x.ds))),(5,.roe 9 (getD' (l.getD i default).ds)),(9,.d (lTh l)),(10,.d (I l.length)),(11,.d (I i)),(31,.d (.slc 9 (l.length - (i+1)) fun q=>(l.getD (i+1+q) default).at)),(32,.d (I (l.length - (i+1):Nat))),(33,.d (I j)),(68,.d (.bool true))] rfl rfl rfl rfl ⟨rfl,trivial,wq rfl⟩ (zpW h3 h2 hc) rfl rfl ?_ ?_
     ·refine sT (sF ?_)
      refine⟨i6,?_⟩
      refine⟨j+1,⟨rfl,trivial,avG rfl ?_,wq rfl⟩,(show j+1<=l.length - (i+1) by omega),(show l.length - (i+1) - (j+1)<l.length - (i+1) - j by omega)⟩
      rw[ziU h3 hc]; simp; omega
     refine sT (sT ?_)
     exact .inr rfl
    have hc:clB x (l.getD i default) (l.getD (i+1+j) default)=false:=by unfold clB; rw[h4]; exact h5
    refine sF (sF ?_)
    refine⟨i6,?_⟩
    refine⟨j+1,⟨rfl,trivial,avG rfl ?_,wq rfl⟩,(show j+1<=l.length - (i+1) by omega),(show l.length - (i+1) - (j+1)<l.length - (i+1) - j by omega)⟩
    exact stay hc
   have h4:(!noneB (l.getD (i+1+j) default))=false:=h4
   have hc:clB x (l.getD i default) (l.getD (i+1+j) default)=false:=by unfold clB; rw[h4]; rfl
   refine sF (sF (sF (sF ?_)))
   refine⟨i6,?_⟩
   refine⟨j+1,⟨rfl,trivial,avG rfl ?_,wq rfl⟩,(show j+1<=l.length - (i+1) by omega),(show l.length - (i+1) - (j+1)<l.length - (i+1) - j by omega)⟩
   exact stay hc
  have h3:j=l.length - (i+1):=by have:=dF h3; omega
  subst h3
  refine⟨i6,?_⟩
  refine⟨i+1,⟨rfl,trivial,avG rfl ?_,wq rfl⟩,h1,(msr (by omega))⟩
  rw[zb1,eI]; simp
 have h1:i=l.length:=by have:=dF h1; omega
 subst h1
 exact .inl rfl
abbrev clsClo (x:Cir) (l:List Thg):D:=.clo 152 2 (clsCap x l)
theorem zlT (x:Cir) (l:List Thg):Spec PP 115 [x.v,.d (lTh l)] [.d (clsClo x l)]:=by
 refine sA Tryz.func115 ?_
 refine⟨⟨rfl,rfl,fun j hj=>?_⟩,trivial⟩
 match j,hj with
 | 0,_=>exact⟨_,rfl,rfl,_,_,rfl,rfl,rfl,fun j hj=>dE _⟩
 | 1,_=>exact⟨_,rfl,rfl,_,_,rfl,rfl,rfl,fun j hj=>dE _⟩
def agrE (x:Cir) (l:List Thg):Int:=if clsL x l=[] then 0 else 9
theorem zlY (x:Cir) (l:List Thg) (hx:0<=x.Drift/\x.Drift<=60) (hl:∀ t∈l,ThgOk t) (hn:l.length<=100):Spec PP 58 [x.v,.d (lTh l)] [.d (.int .i64 (agrE x l))]:=by
 refine sA Tryz.func58 ?_
 refine cR (zlT x l) rfl rfl ?_
 refine CodeOb.rangeAt (zjA x l hx hl hn) rfl (fun _=>rfl) (by decide) [(2,.box 2 0),(4,.box 4 0)] [] (fun _=>[(2,.box (x.ds.map AV.d)),(4,.box [.d (I 0)])]) rfl (fun _=>rfl) ?_
  (Iv:=fun pre=>pre=[]) rfl (fun v pre p hp hI=>?_) (fun hI=>?_)
 ·exact⟨rfl,⟨obD x.ds rfl,obD [I 0] rfl,trivial⟩,wq rfl⟩
 ·refine⟨[(2,.box (x.ds.map AV.d)),(4,.box [.d (I 9)])],rfl,⟨rfl,⟨obD x.ds rfl,obD [I 9] rfl,trivial⟩,wq rfl⟩,?_⟩
  refine r1CD rfl rfl rfl rfl rfl ?_
  have:clsL x l ≠ []:=fun e=>by rw[e] at hp; exact absurd (List.prefix_nil.1 hp) (by simp)
  refine⟨rfl,?_⟩
  unfold agrE; rw[kF this]
 refine r1CD rfl rfl rfl rfl rfl ?_
 refine⟨rfl,?_⟩
 unfold agrE; rw[kG hI]
theorem zlJ {c:Cirs} {id:Int} (h:¬ cirI c id<0):(c.C.getD (cirI c id).toNat default).ID=id:=by
 rcases idxL_cases (fun t:Cir=>t.ID==id) c.C default with⟨h1,_⟩ | ⟨i,h1,h2,h3,_⟩
 ·exact absurd (show cirI c id<0 by unfold cirI; rw[h1]; decide) h
 unfold cirI; rw[h2]
 simpa using h3
theorem zlK {c:Cirs} {i:Nat} (h:i<c.K.length):chkI c (c.K.getD i default).ID<=i:=by
 rcases idxL_cases (fun t:Chk=>t.ID==(c.K.getD i default).ID) c.K default with⟨h1,_⟩ | ⟨j,h1,h2,h3,h4⟩
 ·unfold chkI; rw[h1]; omega
 unfold chkI; rw[h2]
 rcases qT i j with h5 | h5
 ·have:=h4 i h5; simp at this
 omega
theorem zl8 {f:Nat->Spn} (hf:∀ i,-300<=(f i).Lo/\(f i).Hi<=300):∀ (i n:Nat),(-300<=(aloR f i n).Lo/\(aloR f i n).Lo<=300)/\(-300<=(aloR f i n).Hi/\(aloR f i n).Hi<=300)
 | _,0=>by unfold aloR; dsimp only; omega
 | i,n+1=>by
  unfold aloR
  split
  ·have:=hf i; omega
  exact zl8 hf (i+1) n
theorem zrI (x:Cir) (k:Chk):(-300<=(alo x k).Lo/\(alo x k).Lo<=300)/\(-300<=(alo x k).Hi/\(alo x k).Hi<=300):=
 zl8 (fun i=>by unfold aloF aloT; dsimp only; omega) 0 3
section
variable {c:Cirs} (h:CirsOk c) {id:Int} (hid:¬ cirI c id<0)
include h hid
theorem zqs:ThsOk c (c.C.getD (cirI c id).toNat default):=by
 obtain⟨h1,h2⟩:=zbn hid
 have hx:=h.cs _ h1
 refine⟨hx.on,h.m,fun k hk hc=>?_,fun a ha b hb e=>?_⟩
 ·obtain⟨j,hj,rfl⟩:=zbh default hk
  have ok:=h.ks j hj
  have e:chkO c (c.K.getD j default)=c.C.getD (cirI c id).toNat default:=by unfold chkO; rw[hc,zlJ hid]
  have ne:=ok.ne
  rw[e] at ne
  exact⟨ok.on,fun hh=>ne hh.symm,ok.s,ok.l,ok.id.1⟩
 obtain⟨i,hi,rfl⟩:=zbh default ha
 obtain⟨j,hj,rfl⟩:=zbh default hb
 have a1:=h.ki i hi
 have a2:=zlK hi
 have b1:=h.ki j hj
 have b2:=zlK hj
 rw[e] at a1 a2
 have:i=j:=by omega
 rw[this]
theorem zf9:∀ t∈thsL c (c.C.getD (cirI c id).toNat default),ThgOk t:=by
 obtain⟨h1,h2⟩:=zbn hid
 have hx:=h.cs _ h1
 intro t ht
 have ht:t∈thsR c (c.C.getD (cirI c id).toNat default) c.K.length:=by unfold thsL at ht; exact List.mem_mergeSort.1 ht
 rcases kL.1 ht with rfl | ht
 ·have:=hx.z; have:=hx.t
  exact⟨by unfold thg0; dsimp only; omega,by unfold thg0; dsimp only; omega,by unfold thg0; dsimp only; omega⟩
 obtain⟨k,hk,rfl⟩:=kI.1 ht
 obtain⟨hk,he⟩:=qC.1 hk
 obtain⟨j,hj,rfl⟩:=zbh default (jap hk)
 have ok:=h.ks j hj
 have e:chkO c (c.K.getD j default)=c.C.getD (cirI c id).toNat default:=by
  have he:(c.K.getD j default).C=(c.C.getD (cirI c id).toNat default).ID:=by simpa using he
  unfold chkO; rw[he,zlJ hid]
 have t1:=ok.t
 rw[e] at t1
 have:=hx.t
 have b:=zrI (c.C.getD (cirI c id).toNat default) (c.K.getD j default)
 exact⟨b.1,b.2,by dsimp only; omega⟩
end
theorem zfh (c:Cirs) (x:Cir):(thsL c x).length<=c.K.length+1:=by
 unfold thsL; rw[jaC]; exact zfg c x _
def knw (c:Cirs) (id:Int) (l:List Int):Cir × List Thg × Int:=
 if cirsE c≠0 then (default,[],cirsE c) else if cirI c id<0 then (default,[],5)
 else if (l.all fun t=>within t (c.C.getD (cirI c id).toNat default).From (c.C.getD (cirI c id).toNat default).To)=true then (c.C.getD (cirI c id).toNat default,thsL c (c.C.getD (cirI c id).toNat default),0)
 else (c.C.getD (cirI c id).toNat default,[],1)
theorem zlS (c:Cirs) (id:Int) (l:List Int) (hn:l.length<=1000000):Spec PP 56 [c.v,N id,.d (lI l)] [(knw c id l).1.v,.d (lTh (knw c id l).2.1),.d (.int .i64 (knw c id l).2.2)]:=by
 refine sA Tryz.func56 ?_
 refine cP (zhT c) rfl rfl ?_
 apply bY <;> intro h0
 ·have h0:cirsE c≠0:=by simpa using h0
  have e:knw c id l=(default,[],cirsE c):=by unfold knw; rw[kG h0]
  rw[e]
  exact⟨rtC (a:=6) rfl rfl rfl rfl rfl rfl (zab _),⟨_,_,_,_,rfl,rfl,.inl rfl⟩,rtI rfl rfl,trivial⟩
 have h0:cirsE c=0:=by simpa using h0
 have ok:=zbJ h0
 refine cP (zc4 c id (by have:=ok.n; omega)) rfl rfl ?_
 apply bY <;> intro h1
 ·have h1:cirI c id<0:=dT h1
  have e:knw c id l=(default,[],5):=by unfold knw; rw[kF (fun hh=>hh h0),kG h1]
  rw[e]
  exact⟨rtC (a:=6) rfl rfl rfl rfl rfl rfl (zab _),⟨_,_,_,_,rfl,rfl,.inl rfl⟩,rtI rfl rfl,trivial⟩
 have h1:¬ cirI c id<0:=dF h1
 obtain⟨h2,h3⟩:=zbn h1
 obtain⟨x,hx⟩:∃ x,x=c.C.getD (cirI c id).toNat default:=⟨_,rfl⟩
 have e0:knw c id l=if (l.all fun t=>within t x.From x.To)=true then (x,thsL c x,0) else (x,[],1):=by
  unfold knw; rw[kF (fun hh=>hh h0),kF h1,hx]
 refine⟨⟨rfl,by omega,by omega⟩,?_⟩
 refine lOf (σ:=Nat) (fun i=>([(3,.box 3 0),(6,.box 6 0),(11,.box 11 0),(31,.d (lI l)),(32,.d (I l.length)),(33,.d (I i))],[(3,bxCs c),(6,.box ((default:Cir).ds.map AV.d)),(11,.box (x.ds.map AV.d))])) (fun i=>i<=l.length /\ ∀ j,j<i->within (l.getD j 0) x.From x.To=true) (fun i=>l.length - i) 0
  ⟨rfl,⟨obCs rfl,obD (default:Cir).ds rfl,obD x.ds (by rw[hx]; rfl),trivial⟩,wq rfl⟩ z0L fun i hi=>?_
 obtain⟨hi,ha⟩:=hi
 apply bY <;> intro h4
 ·have h4:i<l.length:=by have:=dT h4; omega
  refine⟨⟨rfl,by omega,by omega⟩,?_⟩
  refine cP (zaB (l.getD i 0) x.From x.To) rfl rfl ?_
  apply bY <;> intro h5
  ·have h5:within (l.getD i 0) x.From x.To=false:=by simpa using h5
   have e:knw c id l=(x,[],1):=by
    rw[e0,kF fun hh=>?_]
    have:=jC.1 hh _ (gd1 h4 0)
    rw[h5] at this; cases this
   rw[e]
   exact⟨rtC (a:=6) rfl rfl rfl rfl rfl rfl (zab _),⟨_,_,_,_,rfl,rfl,.inl rfl⟩,rtI rfl rfl,trivial⟩
  have h5:within (l.getD i 0) x.From x.To=true:=by simpa using h5
  refine⟨i6,?_⟩
  refine⟨i+1,⟨rfl,⟨obCs rfl,obD (default:Cir).ds rfl,obD x.ds rfl,trivial⟩,wq rfl⟩,⟨h4,fun j hj=>?_⟩,(msr (by omega))⟩
  by_cases q:j=i
  ·subst q; exact h5
  exact ha j (by omega)
 have h4:i=l.length:=by have:=dF h4; omega
 subst h4
 have e:knw c id l=(x,thsL c x,0):=by
  rw[e0,kG ?_]
  refine jC.2 fun t ht=>?_
  obtain⟨j,hj,rfl⟩:=zbh 0 ht
  exact ha j hj
 rw[e]
 refine oN 7 ?_
 refine oRo (znM c x (by rw[hx]; exact zqs ok h1)) rfl rfl ?_
 exact⟨rtC (a:=6) rfl rfl rfl rfl rfl rfl (zab _),dE _,rtI rfl rfl,trivial⟩
def atR (c:Cirs) (id t:Int):Cir × List Thg × Int:=
 ((knw c id [t]).1,(knw c id [t]).2.1,if (knw c id [t]).2.2=0 then agrE (knw c id [t]).1 (knw c id [t]).2.1 else (knw c id [t]).2.2)
theorem zgy {c:Cirs} {id t:Int} (h:(knw c id [t]).2.2=0):cirsE c=0 /\ ¬ cirI c id<0/\within t (c.C.getD (cirI c id).toNat default).From (c.C.getD (cirI c id).toNat default).To=true/\(knw c id [t]).1=c.C.getD (cirI c id).toNat default/\(knw c id [t]).2.1=thsL c (c.C.getD (cirI c id).toNat default):=by
 unfold knw at h ⊢
 split at h
 ·rename_i h1; exact absurd h h1
 rename_i h1
 split at h
 ·cases h
 rename_i h2
 split at h
 ·rename_i h3
  rw[kF h1,kF h2,kG h3]
  exact⟨jL h1,h2,by simpa using h3,rfl,rfl⟩
 cases h
theorem c_at (c:Cirs) (id t:Int):Spec PP 118 [c.v,N id,N t] [(atR c id t).1.v,.d (lTh (atR c id t).2.1),.d (.int .i64 (atR c id t).2.2)]:=by
 refine sA Tryz.func118 ?_
 refine fEq [16] (zlS c id [t] (jD rfl)) rfl ⟨zab _,⟨rfl,rfl⟩,zed rfl,trivial⟩ rfl ?_
 apply bY <;> intro h1
 ·have h1:(knw c id [t]).2.2=0:=by simpa using h1
  obtain⟨k1,k2,k3,k4,k5⟩:=zgy h1
  have ok:=zbJ k1
  have hx:=ok.cs _ (zbn k2).1
  refine cP (zlY (knw c id [t]).1 (knw c id [t]).2.1 (by rw[k4]; exact hx.d) (by rw[k4,k5] at *; exact zf9 ok k2) (by rw[k5]; have:=zfh c (c.C.getD (cirI c id).toNat default); have:=ok.m; omega)) rfl rfl ?_
  exact⟨rtC (a:=6) rfl rfl rfl rfl rfl rfl (zab _),dE _,rtI rfl (by show _=if _ then _ else _; rw[kG h1]),trivial⟩
 have h1:(knw c id [t]).2.2≠0:=by simpa using h1
 exact⟨rtC (a:=6) rfl rfl rfl rfl rfl rfl (zab _),dE _,rtI rfl (by show _=if _ then _ else _; rw[kF h1]),trivial⟩
structure ZS where
  lo:Int
  hi:Int
  a:Int
  b:Int
  deriving Inhabited
def zStep (x:Cir) (t:Int) (z:ZS) (g:Thg):ZS:=
 let d:=drf x g.k.Tick t
 ⟨if z.lo<g.s.Lo - d then g.s.Lo - d else z.lo,if g.s.Hi+d<z.hi then g.s.Hi+d else z.hi,if z.lo<g.s.Lo - d then g.k.ID else z.a,if g.s.Hi+d<z.hi then g.k.ID else z.b⟩
def zer (x:Cir) (l:List Thg) (t:Int):ZS:=l.foldl (zStep x t) ⟨-300,300,0,0⟩
theorem zoq {x:Cir} {a b:Int} (hx:0<=x.Drift/\x.Drift<=60) (ha:0<=a/\a<=1048576) (hb:0<=b/\b<=1048576):-100000000<=drf x a b/\drf x a b<=100000000:=by
 have m1:=mulB (a:=x.Drift) (b:=max (a - b) (b - a)) (x:=60) (y:=1048576) (by omega) (by omega)
 have:=zly (n:=-(x.Drift * max (a - b) (b - a))) (p:=60) (b:=100000000) (by decide) (by decide) (by omega)
 unfold drf; omega
theorem zot (x:Cir) (l:List Thg) (t:Int) (hx:0<=x.Drift/\x.Drift<=60) (hl:∀ t∈l,ThgOk t) (hn:l.length<=100) (ht:0<=t/\t<=1048576):Spec PP 59 [x.v,.d (lTh l),N t] [.agg [I (zer x l t).lo,I (zer x l t).hi],N (zer x l t).a,N (zer x l t).b]:=by
 refine sA Tryz.func59 ?_
 refine lOf (σ:=Nat × ZS) (fun p=>([(2,.d (I t)),(3,.box 3 0),(6,.box 6 0),(7,.d (I p.2.a)),(8,.d (I p.2.b)),(15,.d (lTh l)),(16,.d (I l.length)),(17,.d (I p.1))],[(3,.box (x.ds.map AV.d)),(6,.box [.d (I p.2.lo),.d (I p.2.hi)])])) (fun p=>p.1<=l.length/\p.2=(l.take p.1).foldl (zStep x t) ⟨-300,300,0,0⟩) (fun p=>l.length - p.1) (0,⟨-300,300,0,0⟩)
  ⟨rfl,⟨obD x.ds rfl,obD [I (-300),I 300] rfl,trivial⟩,wq rfl⟩ ⟨jF _,rfl⟩ fun⟨i,z⟩ ⟨hi,hz⟩=>?_
 dsimp only at hi hz ⊢
 apply bY <;> intro h1
 ·have h1:i<l.length:=by have:=dT h1; omega
  have o1:=hl _ (gd1 h1 default)
  have q1:=o1.lo
  have q2:=o1.hi
  have db:=zoq hx o1.t ht
  have hz':(l.take (i+1)).foldl (zStep x t) ⟨-300,300,0,0⟩=zStep x t z (l.getD i default):=by rw[za6 h1 default,jaS,<- hz]; rfl
  refine⟨⟨rfl,by omega,by omega⟩,?_⟩
  refine cP (zhR x (l.getD i default).k.Tick t hx o1.t ht) rfl rfl ?_
  have z1:inR .i64 ((l.getD i default).s.Lo - drf x (l.getD i default).k.Tick t):=i6
  have z2:inR .i64 ((l.getD i default).s.Hi+drf x (l.getD i default).k.Tick t):=i6
  refine⟨z1,?_⟩
  apply bY <;> intro h2
  ·have h2:z.lo<(l.getD i default).s.Lo - drf x (l.getD i default).k.Tick t:=dT h2
   refine Exists.intro [0,1,2,4,4003,5,6] (And.intro (by kernel_rfl) (FzOb.fz [10] ⟨rfl,?_⟩))
   refine⟨z2,?_⟩
   apply bY <;> intro h3
   ·have h3:(l.getD i default).s.Hi+drf x (l.getD i default).k.Tick t<z.hi:=dT h3
    refine Exists.intro [0,1,2,4,4003,5,6] (And.intro (by kernel_rfl) (FzOb.fz [10] ⟨rfl,?_⟩))
    have eS:zStep x t z (l.getD i default)=⟨(l.getD i default).s.Lo - drf x (l.getD i default).k.Tick t,(l.getD i default).s.Hi+drf x (l.getD i default).k.Tick t,(l.getD i default).k.ID,(l.getD i default).k.ID⟩:=by unfold zStep; simp only[kG h2,kG h3]
    refine⟨i6,?_⟩
    refine⟨(i+1,⟨(l.getD i default).s.Lo - drf x (l.getD i default).k.Tick t,(l.getD i default).s.Hi+drf x (l.getD i default).k.Tick t,(l.getD i default).k.ID,(l.getD i default).k.ID⟩),⟨rfl,⟨obD x.ds rfl,obD [I ((l.getD i default).s.Lo - drf x (l.getD i default).k.Tick t),I ((l.getD i default).s.Hi+drf x (l.getD i default).k.Tick t)] rfl,trivial⟩,wq rfl⟩,⟨h1,by dsimp only; rw[hz',eS]⟩,(msr (by omega))⟩
   have h3:¬ (l.getD i default).s.Hi+drf x (l.getD i default).k.Tick t<z.hi:=dF h3
   have eS:zStep x t z (l.getD i default)=⟨(l.getD i default).s.Lo - drf x (l.getD i default).k.Tick t,z.hi,(l.getD i default).k.ID,z.b⟩:=by unfold zStep; simp only[kG h2,kF h3]
   refine⟨i6,?_⟩
   refine⟨(i+1,⟨(l.getD i default).s.Lo - drf x (l.getD i default).k.Tick t,z.hi,(l.getD i default).k.ID,z.b⟩),⟨rfl,⟨obD x.ds rfl,obD [I ((l.getD i default).s.Lo - drf x (l.getD i default).k.Tick t),I (z.hi)] rfl,trivial⟩,wq rfl⟩,⟨h1,by dsimp only; rw[hz',eS]⟩,(msr (by omega))⟩
  have h2:¬ z.lo<(l.getD i default).s.Lo - drf x (l.getD i default).k.Tick t:=dF h2
  refine⟨z2,?_⟩
  apply bY <;> intro h3
  ·have h3:(l.getD i default).s.Hi+drf x (l.getD i default).k.Tick t<z.hi:=dT h3
   refine Exists.intro [0,1,2,4,4003,5,6] (And.intro (by kernel_rfl) (FzOb.fz [10] ⟨rfl,?_⟩))
   have eS:zStep x t z (l.getD i default)=⟨z.lo,(l.getD i default).s.Hi+drf x (l.getD i default).k.Tick t,z.a,(l.getD i default).k.ID⟩:=by unfold zStep; simp only[kF h2,kG h3]
   refine⟨i6,?_⟩
   refine⟨(i+1,⟨z.lo,(l.getD i default).s.Hi+drf x (l.getD i default).k.Tick t,z.a,(l.getD i default).k.ID⟩),⟨rfl,⟨obD x.ds rfl,obD [I (z.lo),I ((l.getD i default).s.Hi+drf x (l.getD i default).k.Tick t)] rfl,trivial⟩,wq rfl⟩,⟨h1,by dsimp only; rw[hz',eS]⟩,(msr (by omega))⟩
  have h3:¬ (l.getD i default).s.Hi+drf x (l.getD i default).k.Tick t<z.hi:=dF h3
  have eS:zStep x t z (l.getD i default)=⟨z.lo,z.hi,z.a,z.b⟩:=by unfold zStep; simp only[kF h2,kF h3]
  refine⟨i6,?_⟩
  refine⟨(i+1,⟨z.lo,z.hi,z.a,z.b⟩),⟨rfl,⟨obD x.ds rfl,obD [I (z.lo),I (z.hi)] rfl,trivial⟩,wq rfl⟩,⟨h1,by dsimp only; rw[hz',eS]⟩,(msr (by omega))⟩
 have h1:i=l.length:=by have:=dF h1; omega
 subst h1
 rw[jZ] at hz
 have e:zer x l t=z:=hz.symm
 rw[e]
 exact⟨rtC (a:=6) rfl rfl rfl rfl rfl rfl (zab _),rtI rfl rfl,rtI rfl rfl,trivial⟩
def zerR (c:Cirs) (id t:Int):Spn × Int:=if (atR c id t).2.2≠0 then (⟨0,0⟩,(atR c id t).2.2) else (⟨(zer (atR c id t).1 (atR c id t).2.1 t).lo,(zer (atR c id t).1 (atR c id t).2.1 t).hi⟩,0)
theorem zl7 {c:Cirs} {id t:Int} (h:(atR c id t).2.2=0):(knw c id [t]).2.2=0:=by
 have h:(if (knw c id [t]).2.2=0 then agrE (knw c id [t]).1 (knw c id [t]).2.1 else (knw c id [t]).2.2)=0:=h
 split at h
 ·assumption
 exact h
theorem zlZ (c:Cirs) (id t:Int):Spec PP 72 [c.v,N id,N t] [(zerR c id t).1.v,.d (.int .i64 (zerR c id t).2)]:=by
 refine sA Tryz.func72 ?_
 refine cR (c_at c id t) rfl rfl ?_
 apply bY <;> intro h1
 ·have h1:(atR c id t).2.2≠0:=by simpa using h1
  have e:zerR c id t=(⟨0,0⟩,(atR c id t).2.2):=by unfold zerR; rw[kG h1]
  rw[e]
  exact r2CI rfl rfl rfl rfl rfl rfl rfl (zab _) rfl
 have h1:(atR c id t).2.2=0:=by simpa using h1
 have h0:(knw c id [t]).2.2=0:=zl7 h1
 obtain⟨k1,k2,k3,k4,k5⟩:=zgy h0
 have ok:=zbJ k1
 have hx:=ok.cs _ (zbn k2).1
 have ht:=zaa.1 k3
 have htt:=hx.t
 have e1:(atR c id t).1=c.C.getD (cirI c id).toNat default:=k4
 have e2:(atR c id t).2.1=thsL c (c.C.getD (cirI c id).toNat default):=k5
 refine cP (zot (atR c id t).1 (atR c id t).2.1 t (by rw[e1]; exact hx.d) (by rw[e2]; exact zf9 ok k2) (by rw[e2]; have:=zfh c (c.C.getD (cirI c id).toNat default); have:=ok.m; omega) (by omega)) rfl rfl ?_
 have e:zerR c id t=(⟨(zer (atR c id t).1 (atR c id t).2.1 t).lo,(zer (atR c id t).1 (atR c id t).2.1 t).hi⟩,0):=by unfold zerR; rw[kF (fun hh=>hh h1)]
 rw[e]
 exact r2CI rfl rfl rfl rfl rfl rfl rfl (zab _) rfl
def rdgE (c:Cirs) (r:Rdg):Int:=if cirsE c≠0 then cirsE c else if (!within r.Shown 0 3599 || !within r.Slack 1 100)=true then 1 else 0
theorem zlR (c:Cirs) (r:Rdg):Spec PP 119 [c.v,r.v] [.d (.int .i64 (rdgE c r))]:=by
 refine sA Tryz.func119 ?_
 refine cP (zhT c) rfl rfl ?_
 apply bY <;> intro h0
 ·have h0:cirsE c≠0:=by simpa using h0
  refine r1I rfl ?_
  unfold rdgE; rw[kG h0]
 have h0:cirsE c=0:=by simpa using h0
 have e0:rdgE c r=if (!within r.Shown 0 3599 || !within r.Slack 1 100)=true then 1 else 0:=by unfold rdgE; rw[kF (fun hh=>hh h0)]
 refine cP (zck r.Shown) rfl rfl ?_
 apply bY <;> intro h1
 ·refine sT (sT ?_)
  refine r1I rfl ?_
  rw[e0,kG (by rw[h1]; rfl)]
 refine cP (zaB r.Slack 1 100) rfl rfl ?_
 refine sF ?_
 apply bY <;> intro h2
 ·refine r1I rfl ?_
  rw[e0,kG (by rw[h1,h2]; rfl)]
 refine r1I rfl ?_
 rw[e0,kF (by rw[h1,h2]; decide)]
def wdg (n m:Int):Wdg:=⟨n % 3600,(n+m) % 3600⟩
theorem zp4 (n m:Int) (hn:-1000000000<=n/\n<=1000000000) (hm:-1000000000<=m/\m<=1000000000):Spec PP 120 [N n,N m] [(wdg n m).v]:=by
 refine sA Tryz.func120 ?_
 refine cP (zcj n 1 (by decide) (by omega)) rfl rfl ?_
 refine⟨i6,?_⟩
 refine cP (zcj (n+m) 1 (by decide) (by omega)) rfl rfl ?_
 exact r1C rfl rfl rfl rfl rfl rfl (zec (show n % (3600 * 1)=n % 3600 by omega) (show (n+m) % (3600 * 1)=(n+m) % 3600 by omega))
theorem zjO {x:Cir} {l:List Thg} {t:Int} (hx:0<=x.Drift/\x.Drift<=60) (hl:∀ g∈l,ThgOk g) (ht:0<=t/\t<=1048576):∀ (z:ZS),(-300<=z.lo/\z.lo<=100000300)->(-100000300<=z.hi/\z.hi<=300)->(-300<=(l.foldl (zStep x t) z).lo/\(l.foldl (zStep x t) z).lo<=100000300)/\(-100000300<=(l.foldl (zStep x t) z).hi/\(l.foldl (zStep x t) z).hi<=300):=by
 induction l with
 | nil=>exact fun z h1 h2=>⟨h1,h2⟩
 | cons g r ih=>
 intro z h1 h2
 have o:=hl g (by simp)
 have q1:=o.lo
 have q2:=o.hi
 have db:=zoq hx o.t ht
 refine ih (fun g hg=>hl g (by simp[hg])) (zStep x t z g) ?_ ?_
 ·unfold zStep; dsimp only; split <;> omega
 unfold zStep; dsimp only; split <;> omega
def wdgR (c:Cirs) (r:Rdg):Wdg × Int:=
 if rdgE c r≠0 then (⟨0,0⟩,rdgE c r) else if (zerR c r.C r.Tick).2≠0 then (⟨0,0⟩,(zerR c r.C r.Tick).2)
 else if 900<2 * r.Slack+(zerR c r.C r.Tick).1.Hi - (zerR c r.C r.Tick).1.Lo then (⟨0,0⟩,50)
 else (wdg (r.Shown - r.Slack - (zerR c r.C r.Tick).1.Hi) (2 * r.Slack+(zerR c r.C r.Tick).1.Hi - (zerR c r.C r.Tick).1.Lo),0)
theorem zgX {c:Cirs} {id t:Int} (h:(zerR c id t).2=0):(-300<=(zerR c id t).1.Lo/\(zerR c id t).1.Lo<=100000300)/\(-100000300<=(zerR c id t).1.Hi/\(zerR c id t).1.Hi<=300):=by
 unfold zerR at h ⊢
 split at h
 ·rename_i h1; exact absurd h h1
 rename_i h1
 have h1:(atR c id t).2.2=0:=jL h1
 obtain⟨k1,k2,k3,k4,k5⟩:=zgy (zl7 h1)
 have ok:=zbJ k1
 have hx:=ok.cs _ (zbn k2).1
 have ht:=zaa.1 k3
 have htt:=hx.t
 have e1:(atR c id t).1=c.C.getD (cirI c id).toNat default:=k4
 have e2:(atR c id t).2.1=thsL c (c.C.getD (cirI c id).toNat default):=k5
 rw[kF (fun hh=>hh h1)]
 exact zjO (by rw[e1]; exact hx.d) (by rw[e2]; exact zf9 ok k2) (by omega) _ (by decide) (by decide)
theorem zl0 (c:Cirs) (r:Rdg):Spec PP 73 [c.v,r.v] [(wdgR c r).1.v,.d (.int .i64 (wdgR c r).2)]:=by
 refine sA Tryz.func73 ?_
 refine cP (zlR c r) rfl rfl ?_
 apply bY <;> intro h0
 ·have h0:rdgE c r≠0:=by simpa using h0
  have e:wdgR c r=(⟨0,0⟩,rdgE c r):=by unfold wdgR; rw[kG h0]
  rw[e]
  exact r2CI rfl rfl rfl rfl rfl rfl rfl (zab _) rfl
 have h0:rdgE c r=0:=by simpa using h0
 have hs:(0<=r.Shown/\r.Shown<=3599)/\(1<=r.Slack/\r.Slack<=100):=by
  unfold rdgE at h0
  split at h0
  ·rename_i h; exact absurd h0 h
  split at h0
  ·cases h0
  rename_i h
  simp only[jX,jY,not_or,jaT] at h
  exact⟨zaa.1 h.1,zaa.1 h.2⟩
 refine cP (zlZ c r.C r.Tick) rfl rfl ?_
 apply bY <;> intro h1
 ·have h1:(zerR c r.C r.Tick).2≠0:=by simpa using h1
  have e:wdgR c r=(⟨0,0⟩,(zerR c r.C r.Tick).2):=by unfold wdgR; rw[kF (fun hh=>hh h0),kG h1]
  rw[e]
  exact r2CI rfl rfl rfl rfl rfl rfl rfl (zab _) rfl
 have h1:(zerR c r.C r.Tick).2=0:=by simpa using h1
 have zb:=zgX h1
 refine⟨i6,⟨i6,⟨i6,?_⟩⟩⟩
 apply bY <;> intro h2
 ·have h2:900<2 * r.Slack+(zerR c r.C r.Tick).1.Hi - (zerR c r.C r.Tick).1.Lo:=dT h2
  have e:wdgR c r=(⟨0,0⟩,50):=by unfold wdgR; rw[kF (fun hh=>hh h0),kF (fun hh=>hh h1),kG h2]
  rw[e]
  exact r2CI rfl rfl rfl rfl rfl rfl rfl (zab _) rfl
 have h2:¬ 900<2 * r.Slack+(zerR c r.C r.Tick).1.Hi - (zerR c r.C r.Tick).1.Lo:=dF h2
 refine⟨i6,⟨i6,?_⟩⟩
 refine cP (zp4 (r.Shown - r.Slack - (zerR c r.C r.Tick).1.Hi) (2 * r.Slack+(zerR c r.C r.Tick).1.Hi - (zerR c r.C r.Tick).1.Lo) (by omega) (by omega)) rfl rfl ?_
 have e:wdgR c r=(wdg (r.Shown - r.Slack - (zerR c r.C r.Tick).1.Hi) (2 * r.Slack+(zerR c r.C r.Tick).1.Hi - (zerR c r.C r.Tick).1.Lo),0):=by unfold wdgR; rw[kF (fun hh=>hh h0),kF (fun hh=>hh h1),kF h2]
 rw[e]
 exact r2CI rfl rfl rfl rfl rfl rfl rfl (zab _) rfl
def SpecSx (P:Program) (f:FuncId) (post:List V1) (cs cs':List D) (res:List V1):Prop:=
 Ent P f /\ ∀ (w:World) (ok:Nat->Prop) (us:List Value) (b:Nat) (vs:List Value) (T:TypeId),(∀ b,ok b->b<w.heap.size)->All2 (Rep1 w ok) post us->w.heap[b]?=some (.cells vs.toArray T (0,0))->All2 (Rep w ok) cs vs -> ¬ ok b ->
  Calls P f (Value.pointer (some ⟨b,0,none⟩) :: us).toArray w fun en w'=>∃ r,en = .returned r/\w.grownBy w' (some b)/\ResRep w' (fun _=>False) res r /\
   ∃ (vs':List Value) (T':TypeId),w'.heap[b]?=some (.cells vs'.toArray T' (0,0))/\All2 (Rep w' (fun _=>False)) cs' vs'
def boxSlots (post:List V1) (b:Nat):List (Nat × AV):=(0,.pbox 0 (.pointer (some ⟨b,0,none⟩))) :: argSlots 1 post
theorem zf2 {w:World} {ok ok':Nat->Prop} {γ:Nat->Value} (hk:∀ b,ok b->ok' b):∀ {cs:List D} {vs:List Value},All2 (Rep w ok) cs vs->All2 (fun c v=>M w ok' γ c v/\v.oneCell'=true) (cs.map AV.d) vs
 | [],[],.nil=>.nil
 | _ :: _,_ :: _,.cons h1 h2=>.cons ⟨Rep.keep0 (fun b hb=>⟨hk b hb,⟨fun _ _ _ h=>h,fun _ _ h=>h⟩⟩) h1,Rep.one h1⟩ (zf2 hk h2)
theorem zmR {post : List V1} {us : List Value} {w : World} {ok : Nat -> Prop} {N b : Nat} {cs : List D} {vs : List Value} {T : TypeId} (hok : ∀ b, ok b -> b < w.heap.size) (h2 : All2 (Rep1 w ok) post us) (hb : w.heap[b]? = some (.cells vs.toArray T (0, 0)))
    (hr : All2 (Rep w ok) cs vs) (hsep : ¬ ok b) (hsz : 1 + post.length <= N) (hng : N <= G) :
    R (cxR w ok N (.pointer (some ⟨b, 0, none⟩))) (St.of (boxSlots post b) [(0, .box (cs.map AV.d))]) { tmps := (Value.pointer (some ⟨b, 0, none⟩) :: us).toArray ++ Array.replicate (N - (Value.pointer (some ⟨b, 0, none⟩) :: us).toArray.size) undef, defers := [] } w := by
  have l2 := h2.length
  have hlt : b < w.heap.size := (jB.1 hb).1
  have slot : ∀ t x, look (boxSlots post b) t = some x -> M w ok (fun _ => Value.pointer (some ⟨b, 0, none⟩)) x ((((Value.pointer (some ⟨b, 0, none⟩) :: us).toArray ++ Array.replicate (N - (Value.pointer (some ⟨b, 0, none⟩) :: us).toArray.size) undef)).getD t undef) /\ (x.refs = [] \/ x.refs = [0]) := fun t x hx => by
    unfold boxSlots at hx
    simp only [look] at hx
    cases ht : Nat.beq t 0 with
    | true =>
      rw [ht] at hx; cases hx
      have := jA ht
      subst this
      rw [zbj (u := .pointer (some ⟨b, 0, none⟩)) (by simp)]
      exact ⟨⟨⟨b, rfl, rfl⟩, rfl⟩, .inr rfl⟩
    | false =>
      rw [ht] at hx
      obtain ⟨j, u, z, g1, g2, g3, g4⟩ := zaM post us 1 t h2 x hx
      rw [zbj (u := u) (by
        rw [show t = j + 1 by omega, jaw]; exact g2), g3]
      exact ⟨zdV.2 g4, .inl (zbA z)⟩
  refine ⟨fun _ => .pointer (some ⟨b, 0, none⟩), ?_⟩
  have hob : ∀ i o, look [(0, Ob.box (cs.map AV.d))] i = some o -> i = 0 /\ o = .box (cs.map AV.d) := fun i o ho => by
    simp only [look] at ho
    cases hb : Nat.beq i 0 with
    | true => rw [hb] at ho; cases ho; exact ⟨jA hb, rfl⟩
    | false => rw [hb] at ho; cases ho
  exact { defers := ⟨fun _ => rfl, [], rfl, qZ, fun D hD => by cases hD⟩
          size := by simp [cxR]; omega
          okA := fun c hc => ⟨hok c hc, fun e => by simp only [cxR, blk, jO] at e; subst e; exact hsep hc⟩
          lent := fun c hc => by simp only [cxR, blk, jO] at hc; subst hc; exact hlt
          below := ⟨rfl, rfl, rfl, fun _ => jE _, jE _, fun _ _ _ => rfl⟩
          hold := fun k o hk => hk.elim
          least := jF _
          objs := fun i o hi => by
            obtain ⟨rfl, rfl⟩ := hob i o hi
            exact ⟨b, vs, T, rfl, .inr rfl, hb, zf2 (fun b hb => .inl hb) hr⟩
          refs := fun i cs' hi c hc j hj => by
            obtain ⟨_, h3⟩ := hob i _ hi; cases h3
            obtain ⟨x, _, rfl⟩ := kI.1 hc
            cases hj
          sep := fun i j o o' hi hj hne => absurd ((hob i o hi).1.trans (hob j o' hj).1.symm) hne
          slots := fun t => by
            show M w _ _ ((look (boxSlots post b) t).getD .any) _
            cases hx : look (boxSlots post b) t with
            | none => exact trivial
            | some x => exact (slot t x hx).1.keep (fun b hb => ⟨.inl hb, rfl⟩) fun _ _ => rfl
          ng := hng
          gho := fun m hm => by
            have hm' : (look (boxSlots post b) G).getD .any = .gho m := hm
            cases hx : look (boxSlots post b) G with
            | none => rw [hx] at hm'; cases hm'
            | some x =>
              rw [hx] at hm'
              have hno : ∀ y : V1, avOf y ≠ .gho m := fun y => by
                cases y with
                | d z => cases z <;> simp [avOf]
                | agg z => simp [avOf]
              unfold boxSlots at hx
              simp only [look] at hx
              have hx' : look (argSlots 1 post) G = some x := hx
              obtain ⟨j, u, z, g1, g2, g3, g4⟩ := zaM post us 1 G h2 x hx'
              exact absurd (g3.symm.trans hm') (hno z)
          srefs := fun t j hj => by
            have hj' : j ∈ ((look (boxSlots post b) t).getD .any).refs := hj
            cases hx : look (boxSlots post b) t with
            | none => rw [hx] at hj'; cases hj'
            | some x =>
              rw [hx] at hj'
              rcases (slot t x hx).2 with h3 | h3
              · rw [show (Option.some x).getD .any = x from rfl, h3] at hj'; cases hj'
              rw [show (Option.some x).getD .any = x from rfl, h3] at hj'
              simp only [qV] at hj'
              subst hj'
              rfl }
def retX (T:TT) (rs:List ResultVar) (b:Nat) (cs':List D) (res:List V1):KK:=fun x s=>
 let fin:Prop:=RetAll T s rs res/\s.sl 0 = .pbox 0 (.pointer (some ⟨b,0,none⟩)) /\ ∃ cz:List AV,s.ob 0=some (.box cz) /\ ∃ xs,allD cz=some xs/\eqvs xs cs'
 match x with
 | .normal=>fin
 | .ret=>fin
 | _=>False
theorem zcR {w:World} {ok:Nat->Prop} {γ:Nat->Value}:∀ {cz:List AV} {xs:List D} {vs:List Value},allD cz=some xs->All2 (fun c v=>M w ok γ c v/\v.oneCell'=true) cz vs->All2 (Rep w ok) xs vs
 | [],xs,[],h,.nil=>by simp only[allD,jO] at h; subst h; exact .nil
 | c :: r,xs,v :: vs,h,.cons h1 h2=>by
  simp only[allD] at h
  cases hc:avD c with
  | none=>simp[hc] at h
  | some x=>
  cases hr:allD r with
  | none=>simp[hc,hr] at h
  | some ys=>
  simp only[hc,hr,jO] at h; subst h
  exact .cons (zcy hc h1.1).1 (zcR hr h2)
theorem zmw {P : Program} {T : TT} {E : Env} (hT : ∀ t i, T t = some i -> TI.of P t = some i) (hE : ∀ t, E.eq t = true -> EqFact P t) (hm : P.follows .mixedOrders = true)
  {f : FuncId} {fn : Func} {c : Code} (hf : P.funcs[f]? = some fn) (hb : fn.body = some c) (hn : (fn.name == "runtime.NumGoroutine") = false) (hN : codeN fn.ntmps c = true)
  {post res : List V1} {cs cs' : List D} (hfl : cs'.all D.flat = true) (hrf : res.all V1.flat = true) (hsz : 1 + post.length <= fn.ntmps) (hng : fn.ntmps <= G)
  (h : ∀ b, awp P T E c (St.of (boxSlots post b) [(0, .box (cs.map AV.d))]) (retX T fn.results.toList b cs' res)) : SpecSx P f post cs cs' res :=
 ⟨⟨fn, hf, hn, by rw [hb]; rfl⟩, fun w ok us b vs T' hok h2 hcell hr hsep => zjt hT hE hm hf hb hN (cx := cxR w ok fn.ntmps (.pointer (some ⟨b, 0, none⟩))) (fun e => by cases e) rfl rfl rfl (fun _ _ => id) (zmR hok h2 hcell hr hsep hsz hng) (h b)
  (fun x h1 h2 s h => by cases x <;> first | exact h1 rfl | exact h2 rfl | exact h) fun x s a w' hx hk hR _ => by
  have hk' : RetAll T s fn.results.toList res /\ s.sl 0 = .pbox 0 (.pointer (some ⟨b, 0, none⟩)) /\ ∃ cz : List AV, s.ob 0 = some (.box cz) /\ ∃ xs, allD cz = some xs /\ eqvs xs cs' := by rcases hx with rfl | rfl <;> exact hk
  obtain ⟨k1, k2, cz, k3, xs, k4, k5⟩ := hk'
  obtain ⟨r, r1, r2⟩ := zeL (P := P) hT (fn := fn) hR k1
  obtain ⟨γ, hg⟩ := hR
  obtain ⟨b', vs', T2, o1, o0, o2, o3⟩ := hg.objs _ _ k3
  have hsl := hg.slots 0
  rw [k2] at hsl
  obtain ⟨⟨b2, e1, e2⟩, e3⟩ := hsl
  rw [e1] at o1
  obtain rfl : b2 = b' := by simpa using o1
  rw [e2] at e3
  obtain rfl : b2 = b := by simpa using e3
  refine ⟨r, r1, r, rfl, zdf hg.below, zhj hrf r2, vs', T2, o2, ?_⟩
  have q := zbZ k5 (zcR k4 o3)
  have hall := jC.1 hfl
  exact q.imp fun x u hx hr => Rep.flat (hall x hx) hr⟩
theorem zmx {f : FuncId} {fn : Func} {c : Code} (hf : PP.funcs[f]? = some fn) (hb : fn.body = some c) (hq : ((fn.name == "runtime.NumGoroutine") || !(codeN fn.ntmps c && Nat.ble fn.ntmps 4294967296)) = false)
  {post res : List V1} {cs cs' : List D} (hfl : cs'.all D.flat = true) (hrf : res.all V1.flat = true) (hsz : Nat.ble (1 + post.length) fn.ntmps = true) (h : ∀ b, awp PP TTab EN c (St.of (boxSlots post b) [(0, .box (cs.map AV.d))]) (retX TTab fn.results.toList b cs' res)) : SpecSx PP f post cs cs' res := by
 simp only [kU, kY, jP] at hq
 exact zmw (E := EN) hT hE hM hf hb hq.1 hq.2.1 hfl hrf (jD hsz) (jD hq.2.2) h
section
variable {s:St} {o:Oper} {fo:Operand} {f:FuncId} {K:St->Prop} {E:Env}
structure BoxArgs (s:St) (fo:Operand) (args:List Operand) (f:FuncId) (i:Nat) (post:List V1):Prop where
  out:∃ a0 a2 ex,args=a0 :: a2/\callee (ev s fo)=some (f,ex)/\ev s a0 = .box i 0/\toV1s s (a2.map (ev s)++ex)=some post/\(a2.map (ev s)++ex).all (fun v=>!v.isOwn)=true
theorem CallSt.bx (hdr:E.dr=false) {args:Array Operand} {at':Array TypeId} (hop:o.op = .call { callee:=.value fo,args,argTypes:=at' }) {post res:List V1} {i:Nat} {cs cs':List D} (h:SpecSx PP f post cs cs' res)
  (ha:BoxArgs s fo args.toList f i post) (hi:s.ob i=some (.box (cs.map AV.d))) (hk:K ((s.setOb i (some (.box (cs'.map AV.d)))).putO o.dst (resAV res))):CallSt E PP s o fo args.toList K:=by
 rw[zaf]
 refine .inr (.inr (.inl ⟨_,⟨fun cx a w hD hd hR=>?_⟩,hk⟩))
 obtain⟨γ,hg⟩:=hR
 obtain⟨a0,a2,ex,h1,h2,h3,h4,h6⟩:=ha.out
 obtain⟨caps,hf,hc⟩:=zaP h2 (ev_m hg fo).1
 have h0:=(ev_m hg a0).1
 rw[h3] at h0
 obtain⟨b,e1,e2⟩:=h0
 have m2:=(zbq hg h4 ((zbG hg a2).append hc)).2 h6
 obtain⟨b',vs,T,o1,o0,o2,o3⟩:=hg.objs i _ hi
 rw[e1] at o1
 obtain rfl:b=b':=by simpa using o1
 have hrep:All2 (Rep w (okOf cx s γ w)) cs vs:=by
  have:allD (cs.map AV.d)=some cs:=by
   have:∀ cs:List D,allD (cs.map AV.d)=some cs:=fun cs=>by
    induction cs with
    | nil=>rfl
    | cons x r ih=>simp only[kS,allD,avD,ih]
   exact this cs
  exact zcR this o3
 refine .enter (zaD hop hf h.1) ?_
 rw[h1]
 simp only[kS,List.cons_append,e2]
 refine (h.2 w _ _ b vs T (fun b hb=>zak hg hb) m2 o2 hrep (fun hb=>zbT hg hb hi (by rw[e1]; rfl))).mono fun en w' ⟨r,he,hgr,hres,ys,T2,y1,y2⟩=>⟨r,he,γ,?_⟩
 refine (hg.change (i:=i) (o':=.box (cs'.map AV.d)) hi (by rw[e1]; exact hgr) (fun e=>by have:=hD e; rw[hdr] at this; cases this) (fun ok hok=>⟨b,ys,T2,e1,o0,y1,zf2 (fun b hb=>hb.elim) y2⟩) (fun cs2 e c hc j hj=>?_)).putO hd (za3 (.inl fun b hb=>hb.elim) hres) (fun j hj=>by rw[zaF] at hj; cases hj)
 cases e
 obtain⟨x,_,rfl⟩:=kI.1 hc
 cases hj
end
end Go.Pg
namespace Go.Pg
open Go
def ofB (f:Nat->Bool):Nat->Nat
 | 0=>0
 | n+1=>2 ^ n * (if f n=true then 1 else 0)+ofB f n
theorem zkP (f:Nat->Bool):∀ n:Nat,ofB f n<2 ^ n
 | 0=>by simp[ofB]
 | n+1=>by
  have:=zkP f n
  rw[Nat.pow_succ]
  unfold ofB
  split <;> omega
theorem zkQ (f:Nat->Bool):∀ (n j:Nat),(ofB f n).testBit j=(decide (j<n) && f j)
 | 0,j=>by simp[ofB]
 | n+1,j=>by
  have hl:=zkP f n
  unfold ofB
  rw[Nat.testBit_two_pow_mul_add _ hl,zkQ f n j]
  by_cases h:j<n
  ·rw[kG h,jG h,jG (show j<n+1 by omega)]
  rw[kF h]
  by_cases e:j=n
  ·subst e
   rw[kE,jG (show j<j+1 by omega)]
   cases hf:f j <;> simp
  rw[jH (show ¬ j<n+1 by omega)]
  have:∀ b:Bool,((if b=true then 1 else 0:Nat)).testBit (j - n)=false:=fun b=>by
   obtain⟨d,hd⟩:∃ d,j - n=d+1:=⟨j - n - 1,by omega⟩
   rw[hd,Nat.testBit_succ]
   cases b <;> simp
  rw[this]; rfl
def wd (P:Nat->Bool) (i:Nat):Nat:=ofB (fun j=>P (64 * i+j)) 64
theorem zgY (P:Nat->Bool) (i:Nat):wd P i<18446744073709551616:=zkP _ 64
theorem zeB (P:Nat->Bool) (i j:Nat) (hj:j<64):(wd P i).testBit j=P (64 * i+j):=by
 unfold wd; rw[zkQ]; simp[hj]
theorem zf3 {n:Nat} {P:Nat->Bool} {i:Nat} (hn:n<18446744073709551616) (h:∀ j,j<64->n.testBit j=P (64 * i+j)):n=wd P i:=by
 refine Nat.eq_of_testBit_eq fun j=>?_
 by_cases hj:j<64
 ·rw[h j hj,zeB P i j hj]
 have hp:(18446744073709551616:Nat)<=2 ^ j:=by
  have:2 ^ 64<=2 ^ j:=Nat.pow_le_pow_right (by omega) (by omega)
  omega
 rw[Nat.testBit_lt_two_pow (by omega),Nat.testBit_lt_two_pow (by have:=zgY P i; omega)]
theorem zmc {P Q:Nat->Bool} {i:Nat} (h:∀ j,j<64->P (64 * i+j)=Q (64 * i+j)):wd P i=wd Q i:=
 zf3 (zgY P i) fun j hj=>by rw[zeB P i j hj]; exact h j hj
theorem zmY (x:Nat) (hx:x<18446744073709551616):(BitVec.ofInt 64 (x:Int)).toNat=x:=by
 rw[BitVec.ofInt_natCast,BitVec.toNat_ofNat]; exact jak hx
theorem zox (x:Nat) (hx:x<18446744073709551616):IntKind.wrap .u64 (x:Int)=(x:Int):=by
 unfold IntKind.wrap
 show (if (false && _)=true then _ else (x:Int) % (2 ^ 64:Int))=_
 rw[kF (by simp)]
 exact Int.emod_eq_of_lt (by omega) (by omega)
theorem andU (x y:Nat) (hx:x<18446744073709551616) (hy:y<18446744073709551616):IntKind.wrap .u64 ((BitVec.ofInt 64 (x:Int) &&& BitVec.ofInt 64 (y:Int)).toNat:Int)=((x &&& y:Nat):Int):=by
 rw[BitVec.toNat_and,zmY x hx,zmY y hy,zox _ (Nat.lt_of_le_of_lt Nat.and_le_left hx)]
theorem orU (x y:Nat) (hx:x<18446744073709551616) (hy:y<18446744073709551616):IntKind.wrap .u64 ((BitVec.ofInt 64 (x:Int) ||| BitVec.ofInt 64 (y:Int)).toNat:Int)=((x ||| y:Nat):Int):=by
 rw[BitVec.toNat_or,zmY x hx,zmY y hy,zox _ (Nat.or_lt_two_pow (n:=64) hx hy)]
theorem divN (n:Nat):(n:Int).tdiv 64=((n / 64:Nat):Int):=by
 rw[Int.tdiv_eq_ediv_of_nonneg (by omega)]; rfl
theorem modN (n:Nat):(n:Int).tmod 64=((n % 64:Nat):Int):=by
 rw[jab (by omega)]; rfl
theorem shrU (x j:Nat) (hj:j<64):(x:Int).fdiv (2 ^ (min (j:Int).toNat 64))=((x / 2 ^ j:Nat):Int):=by
 have e:min (j:Int).toNat 64=j:=by omega
 rw[e,Int.fdiv_eq_ediv_of_nonneg _ (by exact kQ (Int.pow_pos (by omega)))]
 have:(2 ^ j:Int)=((2 ^ j:Nat):Int):=by simp
 rw[this]; rfl
theorem shlU (j:Nat) (hj:j<64):IntKind.wrap .u64 (1 * 2 ^ (min (j:Int).toNat 64))=((2 ^ j:Nat):Int):=by
 have e:min (j:Int).toNat 64=j:=by omega
 have h:(2 ^ j:Nat)<18446744073709551616:=Nat.pow_lt_pow_right (a:=2) (n:=64) (by omega) hj
 have:(1 * 2 ^ j:Int)=((2 ^ j:Nat):Int):=by simp
 rw[e,this,zox _ h]
attribute [irreducible] wd
theorem zpA (P:Nat->Bool) (n:Nat):((IntKind.wrap .u64 ((BitVec.ofInt 64 (((wd P (n / 64):Nat):Int).fdiv (2 ^ (min ((n:Int).tmod 64).toNat 64))) &&& BitVec.ofInt 64 1).toNat:Int))==1)=P n:=by
 have hj:n % 64<64:=jaq _ (by omega)
 have hw:=zgY P (n / 64)
 rw[modN,shrU _ _ hj]
 have h1:wd P (n / 64) / 2 ^ (n % 64)<18446744073709551616:=Nat.lt_of_le_of_lt (Nat.div_le_self _ _) hw
 have:=andU (wd P (n / 64) / 2 ^ (n % 64)) 1 h1 (by omega)
 rw[show ((1:Nat):Int)=1 from rfl] at this
 rw[this,Nat.and_one_is_mod]
 have hb:=zeB P (n / 64) (n % 64) hj
 rw[jar,Nat.testBit_eq_decide_div_mod_eq] at hb
 rw[<- hb,wD]
 simp only[qP,kA]
 omega
def addP (P:Nat->Bool) (n:Nat):Nat->Bool:=fun k=>P k || k==n
theorem or_lt {x y:Nat} (hx:x<18446744073709551616) (hy:y<18446744073709551616):x ||| y<18446744073709551616:=Nat.or_lt_two_pow (n:=64) hx hy
theorem zo2 (P:Nat->Bool) (n:Nat):IntKind.wrap .u64 ((BitVec.ofInt 64 ((wd P (n / 64):Nat):Int) ||| BitVec.ofInt 64 (IntKind.wrap .u64 (1 * 2 ^ (min ((n:Int).tmod 64).toNat 64)))).toNat:Int)=((wd (addP P n) (n / 64):Nat):Int):=by
 have hj:n % 64<64:=jaq _ (by omega)
 have hw:=zgY P (n / 64)
 have h:2 ^ (n % 64)<18446744073709551616:=Nat.pow_lt_pow_right (a:=2) (n:=64) (by omega) hj
 rw[modN,shlU _ hj,orU _ _ hw h]
 refine jI (fun m:Nat=>(m:Int)) (zf3 (or_lt hw h) fun j hj'=>?_)
 rw[Nat.testBit_or,zeB P _ _ hj',Nat.testBit_two_pow]
 unfold addP
 refine jI (P _ || ·) ?_
 rw[wD]
 simp only[qP,kA]
 omega
theorem zku (P:Nat->Bool) (n i:Nat) (h:i≠n / 64):wd (addP P n) i=wd P i:=zmc fun j hj=>by
 unfold addP
 have:(64 * i+j==n)=false:=by
  rw[beq_eq_false_iff_ne]; omega
 rw[this,jbc]
theorem zqc (P Q:Nat->Bool) (i:Nat):IntKind.wrap .u64 ((BitVec.ofInt 64 ((wd P i:Nat):Int) &&& BitVec.ofInt 64 ((wd Q i:Nat):Int)).toNat:Int)=((wd (fun k=>P k && Q k) i:Nat):Int):=by
 rw[andU _ _ (zgY P i) (zgY Q i)]
 refine jI (fun m:Nat=>(m:Int)) (zf3 (Nat.lt_of_le_of_lt Nat.and_le_left (zgY P i)) fun j hj=>?_)
 rw[Nat.testBit_and,zeB P _ _ hj,zeB Q _ _ hj]
theorem zqi (i:Nat):wd (fun _=>true) i=18446744073709551615:=by
 refine (zf3 (by omega) fun j hj=>?_).symm
 have:=Nat.testBit_two_pow_sub_one 64 j
 rw[show (2 ^ 64 - 1:Nat)=18446744073709551615 from rfl] at this
 rw[this]; exact jG hj
theorem zoy (i:Nat):wd (fun _=>false) i=0:=by
 refine (zf3 (by omega) fun j hj=>?_).symm
 exact Nat.zero_testBit j
end Go.Pg
namespace Go.Pg
open Go.Proofs Go.RowKit
theorem zgU {s:St} {ob:Nat->Option Ob}:∀ cs:List AV,avles s ob cs cs
 | []=>trivial
 | c :: cs=>⟨zaq s ob c,zgU cs⟩
theorem obX {s:St} {ob:Nat->Option Ob} {cs:List AV} {o:Option Ob} (h:o=some (.box cs)):Oble s ob o (.box cs):=by subst h; exact zgU cs
abbrev U (n:Nat):D:=.int .u64 n
abbrev bD (P:Nat->Bool):List D:=(List.range 38).map fun j=>U (wd P j)
theorem i38 {i:Nat} (h:i<38):i=0 \/ i=1 \/ i=2 \/ i=3 \/ i=4 \/ i=5 \/ i=6 \/ i=7 \/ i=8 \/ i=9 \/ i=10 \/ i=11 \/ i=12 \/ i=13 \/ i=14 \/ i=15 \/ i=16 \/ i=17 \/ i=18 \/ i=19 \/ i=20 \/ i=21 \/ i=22 \/ i=23 \/ i=24 \/ i=25 \/ i=26 \/ i=27 \/ i=28 \/ i=29 \/ i=30 \/ i=31 \/ i=32 \/ i=33 \/ i=34 \/ i=35 \/ i=36 \/ i=37:=by omega
abbrev bV (f:Nat->Nat) (i:Nat) (v:Int):List AV:=(List.range 38).map fun j=>AV.d (.int .u64 (if j=i then v else f j))
theorem zrC {f g:Nat->Nat} {i:Nat} {v:Int} (h1:((g i:Nat):Int)=v) (h2:∀ j,j<38->j≠i->g j=f j):((List.range 38).map fun j=>U (g j)).map AV.d=bV f i v:=by
 rw[List.map_map]
 refine qF fun j hj=>?_
 have hj:=kK.1 hj
 show AV.d (U (g j))=_
 by_cases e:j=i
 ·subst e; rw[kG rfl,<- h1]
 rw[kF e,h2 j hj e]
theorem znc (P:Nat->Bool) (n:Nat) (hn:n<2432):Spec PP 91 [.agg (bD P),N n] [B (P n)]:=by
 have hq:=divN n
 have hv:=zpA P n
 have hm:=modN n
 obtain⟨i,hi⟩:∃ i,n / 64=i:=⟨_,rfl⟩
 rw[hi] at hq hv
 have hi2:i<38:=by omega
 refine sA Tryz.func91 ?_
 refine⟨⟨by decide,zam (by rw[hq]; omega) (by rw[hq]; omega)⟩,?_⟩
 rw[hq]
 refine⟨⟨by omega,by omega⟩,?_⟩
 rcases i38 hi2 with rfl | rfl | rfl | rfl | rfl | rfl | rfl | rfl | rfl | rfl | rfl | rfl | rfl | rfl | rfl | rfl | rfl | rfl | rfl | rfl | rfl | rfl | rfl | rfl | rfl | rfl | rfl | rfl | rfl | rfl | rfl | rfl | rfl | rfl | rfl | rfl | rfl | rfl <;>
 ·refine⟨by decide,⟨by rw[hm]; omega,?_⟩⟩
  exact r1B rfl hv
section
variable {s:St} {o:Oper} {fo:Operand} {f:FuncId} {K:St->Prop} {E:Env}
structure BoxArgsP (s:St) (fo:Operand) (args:List Operand) (f:FuncId) (i:Nat) (post:List V1):Prop where
  out:∃ a0 a2 ex,args=a0 :: a2/\callee (ev s fo)=some (f,ex)/\(ev s a0).asPtr = .box i 0/\toV1s s (a2.map (ev s)++ex)=some post/\(a2.map (ev s)++ex).all (fun v=>!v.isOwn)=true
theorem CallSt.bxP (hdr:E.dr=false) {args:Array Operand} {at':Array TypeId} (hop:o.op = .call { callee:=.value fo,args,argTypes:=at' }) {post res:List V1} {i:Nat} {cs cs':List D} (h:SpecSx PP f post cs cs' res)
  (ha:BoxArgsP s fo args.toList f i post) (hi:s.ob i=some (.box (cs.map AV.d))) (hk:K ((s.setOb i (some (.box (cs'.map AV.d)))).putO o.dst (resAV res))):CallSt E PP s o fo args.toList K:=by
 rw[zaf]
 refine .inr (.inr (.inl ⟨_,⟨fun cx a w hD hd hR=>?_⟩,hk⟩))
 obtain⟨γ,hg⟩:=hR
 obtain⟨a0,a2,ex,h1,h2,h3,h4,h6⟩:=ha.out
 obtain⟨caps,hf,hc⟩:=zaP h2 (ev_m hg fo).1
 have h0:=zfZ (ev_m hg a0).1
 rw[h3] at h0
 obtain⟨b,e1,e2⟩:=h0
 have m2:=(zbq hg h4 ((zbG hg a2).append hc)).2 h6
 obtain⟨b',vs,T,o1,o0,o2,o3⟩:=hg.objs i _ hi
 rw[e1] at o1
 obtain rfl:b=b':=by simpa using o1
 have hrep:All2 (Rep w (okOf cx s γ w)) cs vs:=by
  have:allD (cs.map AV.d)=some cs:=by
   have:∀ cs:List D,allD (cs.map AV.d)=some cs:=fun cs=>by
    induction cs with
    | nil=>rfl
    | cons x r ih=>simp only[kS,allD,avD,ih]
   exact this cs
  exact zcR this o3
 refine .enter (zaD hop hf h.1) ?_
 rw[h1]
 simp only[kS,List.cons_append,e2]
 refine (h.2 w _ _ b vs T (fun b hb=>zak hg hb) m2 o2 hrep (fun hb=>zbT hg hb hi (by rw[e1]; rfl))).mono fun en w' ⟨r,he,hgr,hres,ys,T2,y1,y2⟩=>⟨r,he,γ,?_⟩
 refine (hg.change (i:=i) (o':=.box (cs'.map AV.d)) hi (by rw[e1]; exact hgr) (fun e=>by have:=hD e; rw[hdr] at this; cases this) (fun ok hok=>⟨b,ys,T2,e1,o0,y1,zf2 (fun b hb=>hb.elim) y2⟩) (fun cs2 e c hc j hj=>?_)).putO hd (za3 (.inl fun b hb=>hb.elim) hres) (fun j hj=>by rw[zaF] at hj; cases hj)
 cases e
 obtain⟨x,_,rfl⟩:=kI.1 hc
 cases hj
end
theorem bX_eq {f g:Nat->Nat} {i:Nat} {v:Int} (h1:((g i:Nat):Int)=v) (h2:∀ j,j<38->j≠i->g j=f j):((List.range 38).map fun j=>U (g j))=(List.range 38).map fun j=>D.int .u64 (if j=i then v else f j):=by
 refine qF fun j hj=>?_
 have hj:=kK.1 hj
 by_cases e:j=i
 ·subst e; rw[kG rfl,<- h1]
 rw[kF e,h2 j hj e]
theorem zp9 (P:Nat->Bool):(bD P).all D.flat=true:=by
 rw[jC]
 intro x hx
 obtain⟨j,_,rfl⟩:=kI.1 hx
 rfl
theorem l_put (P:Nat->Bool) (n:Nat) (hn:n<2432):SpecSx PP 85 [N n] (bD P) (bD (addP P n)) []:=by
 have hq:=divN n
 have hv:=zo2 P n
 have ho:=zku P n
 have hm:=modN n
 obtain⟨i,hi⟩:∃ i,n / 64=i:=⟨_,rfl⟩
 rw[hi] at hq hv ho
 have hi2:i<38:=by omega
 have fl:=zp9 (addP P n)
 have e:bD (addP P n)=(List.range 38).map fun j=>D.int .u64 (if j=i then _ else wd P j):=bX_eq (f:=wd P) (g:=wd (addP P n)) (i:=i) hv.symm fun j _ hj=>ho j hj
 rw[e] at fl ⊢
 refine zmx Tryz.func85 rfl (by kernel_rfl) fl rfl rfl fun b=>?_
 refine oN 13 ?_
 refine⟨⟨by decide,zam (by rw[hq]; omega) (by rw[hq]; omega)⟩,?_⟩
 rw[hq]
 refine⟨⟨by omega,by omega⟩,?_⟩
 rcases i38 hi2 with rfl | rfl | rfl | rfl | rfl | rfl | rfl | rfl | rfl | rfl | rfl | rfl | rfl | rfl | rfl | rfl | rfl | rfl | rfl | rfl | rfl | rfl | rfl | rfl | rfl | rfl | rfl | rfl | rfl | rfl | rfl | rfl | rfl | rfl | rfl | rfl | rfl | rfl <;>
 ·refine⟨by decide,⟨by rw[hm]; omega,⟨⟨by decide,by decide⟩,?_⟩⟩⟩
  exact⟨trivial,rfl,_,rfl,_,rfl,zab _⟩
def shwB (a p:Place) (z sl:Int):Bool:=(on a && on p) && !decide (a=p) && within z (-300) 300 && within sl 1 100
def shwS (a p:Place) (z sl:Int):Spn:=if shwB a p z sl=true then ⟨-(-((bear a p).1+(z - sl) * (bear a p).2) / (bear a p).2),((bear a p).1+(z+sl) * (bear a p).2) / (bear a p).2⟩ else ⟨0,0⟩
theorem zp6 (a p:Place) (z sl:Int):Spec PP 29 [a.v,p.v,N z,N sl] [(shwS a p z sl).v,B (shwB a p z sl)]:=by
 refine sA Tryz.func29 ?_
 have no:shwB a p z sl=false->shwS a p z sl=⟨0,0⟩:=fun h=>by unfold shwS; rw[h]; rfl
 refine pEq (c_on [a,p] (jD rfl)) rfl (ziO (at2 rfl rfl) (at2 rfl rfl)) rfl ?_
 apply bY <;> intro h2
 ·have h2:(on a && on p)=false:=by simp only[jaI,List.all_nil,jaP,jY] at h2; exact h2
  have e:shwB a p z sl=false:=by unfold shwB; rw[h2]; rfl
  repeat first | apply sT | apply sF
  rw[no e,e]
  exact⟨rtC (a:=8) rfl rfl rfl rfl rfl rfl (zab _),rtB rfl rfl,trivial⟩
 have h2:on a=true/\on p=true:=by simpa using h2
 repeat first | apply sT | apply sF
 apply bY <;> intro h3
 ·have h3:a=p:=jaQ ((eqPW a p).symm.trans h3)
  have e:shwB a p z sl=false:=by unfold shwB; rw[jG h3]; simp
  repeat first | apply sT | apply sF
  rw[no e,e]
  exact⟨rtC (a:=8) rfl rfl rfl rfl rfl rfl (zab _),rtB rfl rfl,trivial⟩
 have h3:a≠p:=jaB ((eqPW a p).symm.trans h3)
 refine cP (zaB z (-300) 300) rfl rfl ?_
 repeat first | apply sT | apply sF
 apply bY <;> intro h4
 ·have h4:within z (-300) 300=false:=by simpa using h4
  have e:shwB a p z sl=false:=by unfold shwB; rw[h4]; simp
  repeat first | apply sT | apply sF
  rw[no e,e]
  exact⟨rtC (a:=8) rfl rfl rfl rfl rfl rfl (zab _),rtB rfl rfl,trivial⟩
 have h4:within z (-300) 300=true:=by simpa using h4
 refine cP (zaB sl 1 100) rfl rfl ?_
 repeat first | apply sT | apply sF
 apply bY <;> intro h5
 ·have h5:within sl 1 100=false:=by simpa using h5
  have e:shwB a p z sl=false:=by unfold shwB; rw[h5]; simp
  repeat first | apply sT | apply sF
  rw[no e,e]
  exact⟨rtC (a:=8) rfl rfl rfl rfl rfl rfl (zab _),rtB rfl rfl,trivial⟩
 have h5:within sl 1 100=true:=by simpa using h5
 have e:shwB a p z sl=true:=by unfold shwB; rw[h2.1,h2.2,jH h3,h4,h5]; rfl
 have e2:shwS a p z sl=⟨-(-((bear a p).1+(z - sl) * (bear a p).2) / (bear a p).2),((bear a p).1+(z+sl) * (bear a p).2) / (bear a p).2⟩:=by unfold shwS; rw[kG e]
 have b4:=zaa.1 h4
 have b5:=zaa.1 h5
 have hb:=zbM h2.1 h2.2 h3
 have m1:=mulB (a:=z - sl) (b:=(bear a p).2) (x:=400) (y:=48) (by omega) (by omega)
 have m2:=mulB (a:=z+sl) (b:=(bear a p).2) (x:=400) (y:=48) (by omega) (by omega)
 rw[e,e2]
 refine cP (zej a p h2.1 h2.2 h3) rfl rfl ?_
 refine⟨i6,⟨i6,⟨i6,?_⟩⟩⟩
 refine cP (zlX ((bear a p).1+(z - sl) * (bear a p).2) (bear a p).2 (by omega) (by omega)) rfl rfl ?_
 refine⟨i6,⟨i6,⟨i6,?_⟩⟩⟩
 refine cP (zhQ ((bear a p).1+(z+sl) * (bear a p).2) (bear a p).2 (by omega) (by omega)) rfl rfl ?_
 exact⟨rtC (a:=8) rfl rfl rfl rfl rfl rfl (zab _),rtB rfl rfl,trivial⟩
structure Rl where
  At:Place
  Z:List Int
  deriving Inhabited
abbrev Rl.ds (x:Rl):List D:=[I x.At.X,I x.At.Y,lI x.Z]
abbrev Rl.v (x:Rl):V1:=.agg x.ds
theorem zbc (n lo hi:Int):Spec PP 62 [N n,N lo,N hi] [B (within n lo hi)]:=by
 refine sA Tryz.func62 ?_
 repeat' first
  | refine sT ?_
  | refine sF ?_
  | refine bY (fun _=>?_) (fun _=>?_)
  | refine r1B rfl ?_
 all_goals (unfold within; simp_all <;> omega)
theorem zds (n:Int) (hn:-1000000000000<=n/\n<=1000000000000):Spec PP 116 [N n] [N (n % 3600)]:=by
 have h1:=jaf n (show (0:Int)<3600 by decide)
 have h2:=jaf (-n) (show (0:Int)<3600 by decide)
 rw[Int.neg_tmod] at h2
 refine sA Tryz.func116 ?_
 refine⟨by omega,⟨i6,⟨by omega,?_⟩⟩⟩
 refine r1I rfl ?_
 rw[jab (by omega),ja4]
 rw[Int.tmod_def,jaJ]
theorem zna (t:Twr) (id:Int):Spec PP 117 [t.v,.d (capB [I id])] [B (t.ID==id)]:=by
 refine sA Tryz.func117 ?_
 exact r1B rfl rfl
theorem zfD (s:Svc) (id:Int) (hn:s.c.T.length<=1000000):Spec PP 69 [s.v,N id] [(towG s.c.T id).1.v,B (towG s.c.T id).2]:=by
 refine sA Tryz.func69 ?_
 refine CallSt.fz [3] (zkh s.c.T 117 (capB [I id]) (fun t=>t.ID==id) hn (fun i hi=>zna _ id)) rfl rfl ?_
 apply bY <;> intro h1
 ·have h1:towI s.c.T id<0:=dT h1
  have e:towG s.c.T id=(default,false):=by unfold towG; rw[kG h1]
  rw[e]
  exact⟨rtC (a:=4) rfl rfl rfl rfl rfl rfl (zab _),rtB rfl rfl,trivial⟩
 have h1:¬ towI s.c.T id<0:=dF h1
 obtain⟨h2,h3⟩:=zfe h1
 have e:towG s.c.T id=(s.c.T.getD (towI s.c.T id).toNat default,true):=by unfold towG; rw[kF h1]
 rw[e]
 refine⟨⟨rfl,by show 0<=towI s.c.T id; omega,by show towI s.c.T id<s.c.T.length; omega⟩,?_⟩
 exact⟨rtC (a:=4) rfl rfl rfl rfl rfl rfl (zab _),rtB rfl rfl,trivial⟩
theorem zng (w:Twr) (x:Cir):Spec PP 20 [w.v,.d (capB x.ds)] [B (decide (w.At=x.At))]:=by
 refine sA Tryz.func20 ?_
 exact r1B rfl (eqPW _ _)
abbrev Svc.ds (s:Svc):List D:=[I s.c.M.W,I s.c.M.H,lI s.c.M.G,lT s.c.T,lZ s.c.Z,lC s.k.C,lK s.k.K]
def svc1E (s:Svc) (i:Nat):Int:=if (s.c.T.any fun w=>decide (w.At=(s.k.C.getD i default).At))=true then 0 else 5
def svcE (s:Svc):Int:=if ctryE s.c≠0 then ctryE s.c else if cirsE s.k≠0 then cirsE s.k else err1 (svc1E s) s.k.C.length
theorem zdY (s:Svc):Spec PP 5 [s.v] [.d (.int .i64 (svcE s))]:=by
 refine sA Tryz.func5 ?_
 refine cP (zll s.c) rfl rfl ?_
 apply bY <;> intro h0
 ·have h0:ctryE s.c≠0:=by simpa using h0
  refine r1I rfl ?_
  unfold svcE; rw[kG h0]
 have h0:ctryE s.c=0:=by simpa using h0
 have ok0:=zhJ h0
 refine cP (zhT s.k) rfl rfl ?_
 apply bY <;> intro h1
 ·have h1:cirsE s.k≠0:=by simpa using h1
  refine r1I rfl ?_
  unfold svcE; rw[kF (fun hh=>hh h0),kG h1]
 have h1:cirsE s.k=0:=by simpa using h1
 have ok1:=zbJ h1
 have e0:svcE s=err1 (svc1E s) s.k.C.length:=by unfold svcE; rw[kF (fun hh=>hh h0),kF (fun hh=>hh h1)]
 have hn:=ok1.n
 have ht:=ok0.t
 refine lOf (σ:=Nat) (fun i=>([(1,.box 1 0),(21,.d (lC s.k.C)),(22,.d (I s.k.C.length)),(23,.d (I i))],[(1,.box (s.ds.map AV.d))])) (fun i=>i<=s.k.C.length /\ ∀ j,j<i->svc1E s j=0) (fun i=>s.k.C.length - i) 0
  ⟨rfl,⟨obD s.ds rfl,trivial⟩,wq rfl⟩ z0L fun i hi=>?_
 obtain⟨hi,ha⟩:=hi
 apply bY <;> intro h3
 ·have h3:i<s.k.C.length:=by have:=dT h3; omega
  refine⟨⟨rfl,by omega,by omega⟩,?_⟩
  refine CallSt.fzP [6] (zn6 s.c.T 20 (capB (s.k.C.getD i default).ds) (fun w=>decide (w.At=(s.k.C.getD i default).At)) (by omega) (fun k hk=>zng _ _)) rfl ⟨dE _,⟨rfl,rfl,fun j hj=>?_⟩,trivial⟩ rfl ?_
  ·obtain rfl:j=0:=by
    have:j<1:=hj
    omega
   exact dE _
  apply bY <;> intro h4
  ·have h4:(s.c.T.any fun w=>decide (w.At=(s.k.C.getD i default).At))=false:=by simpa using h4
   have e:svc1E s i=5:=by unfold svc1E; rw[kF (by rw[h4]; decide)]
   refine r1I rfl ?_
   rw[e0,za8 ha (by rw[e]; decide) h3,e]
  have h4:(s.c.T.any fun w=>decide (w.At=(s.k.C.getD i default).At))=true:=by simpa using h4
  have e:svc1E s i=0:=by unfold svc1E; rw[kG h4]
  refine⟨i6,?_⟩
  refine⟨i+1,⟨rfl,⟨obD s.ds rfl,trivial⟩,wq rfl⟩,⟨h3,fun j hj=>?_⟩,(msr (by omega))⟩
  by_cases q:j=i
  ·subst q; exact e
  exact ha j (by omega)
 have h3:i=s.k.C.length:=by have:=dF h3; omega
 subst h3
 refine r1I rfl ?_
 rw[e0,zbH ha]
def frmC (r:Rpt):Bool:=(!within r.ID 1 1099511627776) || (!within r.Tick 0 1048576) || (!within r.From 0 3599) || (!within r.Slack 1 100)
def frmB (r:Rpt):Bool:=!frmC r && (if r.Kind=1 then decide (r.To=0) else if r.Kind=2 then within r.To 0 3599 && decide ((r.To - r.From) % 3600<=900) else false)
theorem znd (r:Rpt):Spec PP 68 [r.v] [B (frmB r)]:=by
 refine sA Tryz.func68 ?_
 refine cP (zbc r.ID 1 1099511627776) rfl rfl ?_
 apply bY <;> intro k0
 ·have k0:(!within r.ID 1 1099511627776)=true:=k0
  refine sT (sT (sT (sT (sT (sT ?_)))))
  refine r1B rfl ?_
  unfold frmB frmC; simp only[k0,qO,qY,jbd,jaA]
 have k0:(!within r.ID 1 1099511627776)=false:=k0
 refine cP (zbc r.Tick 0 1048576) rfl rfl ?_
 refine sF ?_
 apply bY <;> intro k1
 ·have k1:(!within r.Tick 0 1048576)=true:=k1
  refine sT (sT (sT (sT ?_)))
  refine r1B rfl ?_
  unfold frmB frmC; simp only[k0,k1,qO,qY,jbd,jaA]
 have k1:(!within r.Tick 0 1048576)=false:=k1
 refine cP (zbc r.From 0 3599) rfl rfl ?_
 refine sF ?_
 apply bY <;> intro k2
 ·have k2:(!within r.From 0 3599)=true:=k2
  refine sT (sT ?_)
  refine r1B rfl ?_
  unfold frmB frmC; simp only[k0,k1,k2,qO,qY,jbd,jaA]
 have k2:(!within r.From 0 3599)=false:=k2
 refine cP (zbc r.Slack 1 100) rfl rfl ?_
 refine sF ?_
 apply bY <;> intro k3
 ·have k3:(!within r.Slack 1 100)=true:=k3
  refine r1B rfl ?_
  unfold frmB frmC; simp only[k0,k1,k2,k3,qO,qY,jbd,jaA]
 have k3:(!within r.Slack 1 100)=false:=k3
 have e0:frmB r=if r.Kind=1 then decide (r.To=0) else if r.Kind=2 then within r.To 0 3599 && decide ((r.To - r.From) % 3600<=900) else false:=by
  unfold frmB frmC; rw[k0,k1,k2,k3]; rfl
 have hf:0<=r.From/\r.From<=3599:=zaa.1 (by simpa using k2)
 apply bY <;> intro h1
 ·have h1:r.Kind=1:=by simpa using h1
  refine r1B rfl ?_
  rw[e0,kG h1,wD]; simp
 have h1:r.Kind≠1:=by simpa using h1
 apply bY <;> intro h2
 ·have h2:r.Kind=2:=by simpa using h2
  refine cP (zbc r.To 0 3599) rfl rfl ?_
  apply bY <;> intro h3
  ·have h4:=zaa.1 h3
   refine⟨i6,?_⟩
   refine cP (zds (r.To - r.From) (by omega)) rfl rfl ?_
   refine sT ?_
   refine r1B rfl ?_
   rw[e0,kF h1,kG h2,h3]; rfl
  refine sF ?_
  refine r1B rfl ?_
  rw[e0,kF h1,kG h2,h3]; rfl
 have h2:r.Kind≠2:=by simpa using h2
 refine r1B rfl ?_
 rw[e0,kF h1,kF h2]
def rdgO (r:Rpt):Rdg:=⟨r.C,r.Tick,r.From,r.Slack⟩
theorem zgu (r:Rpt):Spec PP 74 [r.v] [(rdgO r).v]:=by
 refine sA Tryz.func74 ?_
 exact r1C rfl rfl rfl rfl rfl rfl (zab _)
def brnB (b:Brn):Bool:=decide (0<=b.From) && decide (b.From<=b.To) && decide (b.To<=1048576) && within b.Rise 0 200
theorem zhs (b:Brn):Spec PP 24 [b.v] [B (brnB b)]:=by
 refine sA Tryz.func24 ?_
 apply bY <;> intro h1
 ·have h1:decide (0<=b.From)=true:=h1
  refine sT ?_
  apply bY <;> intro h2
  ·have h2:decide (b.From<=b.To)=true:=h2
   refine sT ?_
   apply bY <;> intro h3
   ·have h3:decide (b.To<=1048576)=true:=h3
    refine cP (zbc b.Rise 0 200) rfl rfl ?_
    refine sT ?_
    refine r1B rfl ?_
    unfold brnB; rw[h1,h2,h3]; rfl
   have h3:decide (b.To<=1048576)=false:=h3
   refine sF ?_
   refine r1B rfl ?_
   unfold brnB; rw[h1,h2,h3]; rfl
  have h2:decide (b.From<=b.To)=false:=h2
  refine sF (sF (sF ?_))
  refine r1B rfl ?_
  unfold brnB; rw[h1,h2]; rfl
 have h1:decide (0<=b.From)=false:=h1
 refine sF (sF (sF (sF (sF ?_))))
 refine r1B rfl ?_
 unfold brnB; rw[h1]; rfl
abbrev Rpt.ds (x:Rpt):List D:=[I x.ID,I x.Kind,I x.Tower,I x.C,I x.Tick,I x.From,I x.To,I x.Slack]
abbrev tldD (r:Rpt):D:=.ifc (if r.Kind=1 then 222 else 223) 8 (getD' r.ds)
theorem zoe (r:Rpt):Spec PP 82 [r.v] [.d (tldD r)]:=by
 refine sA Tryz.func82 ?_
 apply bY <;> intro h1
 ·have h1:r.Kind=1:=by simpa using h1
  unfold tldD; rw[kG h1]
  exact⟨dE _,trivial⟩
 have h1:r.Kind≠1:=by simpa using h1
 unfold tldD; rw[kF h1]
 exact⟨dE _,trivial⟩
theorem zk6 (r:Rpt):Spec PP 232 [r.v] [r.v]:=by
 refine sA Tryz.func232 ?_
 exact r1C rfl rfl rfl rfl rfl rfl (zab _)
theorem zk9 (r:Rpt):Spec PP 234 [r.v] [r.v]:=by
 refine sA Tryz.func234 ?_
 exact r1C rfl rfl rfl rfl rfl rfl (zab _)
theorem zcK (r:Rpt) (s:Svc):Spec PP 233 [r.v,s.v] [(wdgR s.k (rdgO r)).1.v,B (decide ((wdgR s.k (rdgO r)).2=0))]:=by
 refine sA Tryz.func233 ?_
 refine oN 12 ?_
 refine oP (zgu r) rfl rfl ?_
 refine oP (zl0 s.k (rdgO r)) rfl rfl ?_
 exact⟨rtC (a:=4) rfl rfl rfl rfl rfl rfl (zab _),rtB rfl (by rw[wD]; simp),trivial⟩
theorem zma (c:Cirs) (id t:Int):(-300<=(zerR c id t).1.Lo/\(zerR c id t).1.Lo<=100000300)/\(-100000300<=(zerR c id t).1.Hi/\(zerR c id t).1.Hi<=300):=by
 by_cases h:(zerR c id t).2=0
 ·exact zgX h
 have e:(zerR c id t).1=⟨0,0⟩:=by
  unfold zerR at h ⊢
  split
  ·rfl
  rename_i h1; rw[kF h1] at h; exact absurd rfl h
 rw[e]; decide
structure RptB (r:Rpt):Prop where
  f:0<=r.From/\r.From<=3599
  t:0<=r.To/\r.To<=3599
  s:1<=r.Slack/\r.Slack<=100
def blkR (s:Svc) (r:Rpt):Wdg × Bool:=
 if (r.To - r.From) % 3600<2 * r.Slack+(zerR s.k r.C r.Tick).1.Hi - (zerR s.k r.C r.Tick).1.Lo then (⟨0,0⟩,false)
 else (⟨(r.From+r.Slack - (zerR s.k r.C r.Tick).1.Lo) % 3600,(r.To - r.Slack - (zerR s.k r.C r.Tick).1.Hi) % 3600⟩,true)
theorem zfE (r:Rpt) (s:Svc) (hr:RptB r):Spec PP 235 [r.v,s.v] [(blkR s r).1.v,B (blkR s r).2]:=by
 obtain⟨b1,b2,b3⟩:=hr
 have zb:=zma s.k r.C r.Tick
 refine sA Tryz.func235 ?_
 refine cP (zlZ s.k r.C r.Tick) rfl rfl ?_
 refine oN 19 ?_
 refine⟨i6,?_⟩
 refine oP (zds (r.To - r.From) (by omega)) rfl rfl ?_
 refine⟨i6,⟨i6,⟨i6,?_⟩⟩⟩
 apply bY <;> intro h1
 ·have e:blkR s r=(⟨0,0⟩,false):=by unfold blkR; rw[kG (dT h1)]
  rw[e]
  exact⟨rtC (a:=4) rfl rfl rfl rfl rfl rfl (zab _),rtB rfl rfl,trivial⟩
 have e:blkR s r=(⟨(r.From+r.Slack - (zerR s.k r.C r.Tick).1.Lo) % 3600,(r.To - r.Slack - (zerR s.k r.C r.Tick).1.Hi) % 3600⟩,true):=by unfold blkR; rw[kF (dF h1)]
 rw[e]
 refine oN 25 ?_
 refine⟨i6,⟨i6,?_⟩⟩
 refine oP (zds (r.From+r.Slack - (zerR s.k r.C r.Tick).1.Lo) (by omega)) rfl rfl ?_
 refine⟨i6,⟨i6,?_⟩⟩
 refine oP (zds (r.To - r.Slack - (zerR s.k r.C r.Tick).1.Hi) (by omega)) rfl rfl ?_
 exact⟨rtC (a:=4) rfl rfl rfl rfl rfl rfl (zab _),rtB rfl rfl,trivial⟩
theorem zeu (x:Cir) (r:Rpt):Spec PP 71 [x.v,.d (capB r.ds)] [B (x.ID==r.C)]:=by
 refine sA Tryz.func71 ?_
 exact r1B rfl rfl
def rptE (s:Svc) (r:Rpt):Int:=
 if frmB r=false then 1 else if (towG s.c.T r.Tower).2=false \/ cirI s.k r.C<0 then 5
 else if (s.k.C.getD (cirI s.k r.C).toNat default).At≠(towG s.c.T r.Tower).1.At then 1
 else if (zerR s.k r.C r.Tick).2≠0 then (zerR s.k r.C r.Tick).2 else if r.Kind=1 then (wdgR s.k (rdgO r)).2 else 0
theorem zbD (s:Svc) (r:Rpt) (hT:s.c.T.length<=1000000) (hC:s.k.C.length<=1000000):Spec PP 26 [s.v,r.v] [.d (.int .i64 (rptE s r))]:=by
 refine sA Tryz.func26 ?_
 refine cP (znd r) rfl rfl ?_
 apply bY <;> intro h1
 ·refine r1I rfl ?_
  unfold rptE; rw[kG (by simpa using h1)]
 have h1:frmB r=true:=by simpa using h1
 refine cP (zfD s r.Tower hT) rfl rfl ?_
 refine CallSt.fzP [3] (zn5 s.k.C 71 (capB r.ds) (fun x=>x.ID==r.C) hC (fun i hi=>zeu _ r)) rfl ⟨dE _,⟨rfl,rfl,fun j hj=>?_⟩,trivial⟩ rfl ?_
 ·obtain rfl:j=0:=by
   have:j<1:=hj
   omega
  exact dE _
 apply bY <;> intro h2
 ·have h2:(towG s.c.T r.Tower).2=false:=by simpa using h2
  refine sT (sT ?_)
  refine r1I rfl ?_
  unfold rptE; rw[kF (by rw[h1]; decide),kG (.inl h2)]
 have h2:(towG s.c.T r.Tower).2=true:=by simpa using h2
 refine sF ?_
 apply bY <;> intro h3
 ·have h3:cirI s.k r.C<0:=dT h3
  refine r1I rfl ?_
  unfold rptE; rw[kF (by rw[h1]; decide),kG (.inr h3)]
 have h3:¬ cirI s.k r.C<0:=dF h3
 obtain⟨h4,h5⟩:=zbn h3
 have e0:rptE s r=if (s.k.C.getD (cirI s.k r.C).toNat default).At≠(towG s.c.T r.Tower).1.At then 1 else if (zerR s.k r.C r.Tick).2≠0 then (zerR s.k r.C r.Tick).2 else if r.Kind=1 then (wdgR s.k (rdgO r)).2 else 0:=by
  unfold rptE; rw[kF (by rw[h1]; decide),kF (by rw[h2]; simp; omega)]
 refine oN 11 ?_
 refine⟨⟨rfl,by show 0<=cirI s.k r.C; omega,by show cirI s.k r.C<s.k.C.length; omega⟩,?_⟩
 apply bY <;> intro h6
 ·have h6:(s.k.C.getD (cirI s.k r.C).toNat default).At≠(towG s.c.T r.Tower).1.At:=by
   have:=(jI (!·) (eqPW (s.k.C.getD (cirI s.k r.C).toNat default).At (towG s.c.T r.Tower).1.At)).symm.trans h6
   simpa using this
  refine r1I rfl ?_
  rw[e0,kG h6]
 have h6:(s.k.C.getD (cirI s.k r.C).toNat default).At=(towG s.c.T r.Tower).1.At:=by
  have:=(jI (!·) (eqPW (s.k.C.getD (cirI s.k r.C).toNat default).At (towG s.c.T r.Tower).1.At)).symm.trans h6
  simpa using this
 refine cP (zlZ s.k r.C r.Tick) rfl rfl ?_
 apply bY <;> intro h7
 ·have h7:(zerR s.k r.C r.Tick).2≠0:=by simpa using h7
  refine r1I rfl ?_
  rw[e0,kF (fun hh=>hh h6),kG h7]
 have h7:(zerR s.k r.C r.Tick).2=0:=by simpa using h7
 apply bY <;> intro h8
 ·have h8:r.Kind=1:=by simpa using h8
  refine oN 11 ?_
  refine oP (zgu r) rfl rfl ?_
  refine oP (zl0 s.k (rdgO r)) rfl rfl ?_
  refine r1I rfl ?_
  rw[e0,kF (fun hh=>hh h6),kF (fun hh=>hh h7),kG h8]
 have h8:r.Kind≠1:=by simpa using h8
 refine r1I rfl ?_
 rw[e0,kF (fun hh=>hh h6),kF (fun hh=>hh h7),kF h8]
abbrev Brn.ds (b:Brn):List D:=[I b.From,I b.To,I b.Rise]
def lookB (s:Svc) (b:Brn) (r:Rpt) (p:Place):Bool:=decide ((seesE s.c r.Tower p b.Rise r.Tick).2=0) && (seesE s.c r.Tower p b.Rise r.Tick).1 && within r.Tick b.From b.To
theorem zgv (s:Svc) (b:Brn) (r:Rpt) (p:Place):Spec PP 126 [.d (capB s.ds),.d (capB r.ds),.d (capP p),.d (capB b.ds)] [B (lookB s b r p)]:=by
 refine sA Tryz.func126 ?_
 refine cP (zol s.c r.Tower p b.Rise r.Tick) rfl rfl ?_
 apply bY <;> intro h1
 ·have h1:decide ((seesE s.c r.Tower p b.Rise r.Tick).2=0)=true:=by simpa using h1
  refine sT ?_
  apply bY <;> intro h2
  ·refine cP (zbc r.Tick b.From b.To) rfl rfl ?_
   refine sT ?_
   refine r1B rfl ?_
   unfold lookB; rw[h1,h2]; rfl
  refine sF ?_
  refine r1B rfl ?_
  unfold lookB; rw[h1,h2]; rfl
 have h1:decide ((seesE s.c r.Tower p b.Rise r.Tick).2=0)=false:=by simpa using h1
 refine sF (sF (sF ?_))
 refine r1B rfl ?_
 unfold lookB; rw[h1]; rfl
def secR (s:Svc) (r:Rpt):Wdg × Bool:=if r.Kind=1 then ((wdgR s.k (rdgO r)).1,decide ((wdgR s.k (rdgO r)).2=0)) else blkR s r
def seenB (s:Svc) (b:Brn) (r:Rpt) (p:Place):Bool:=(secR s r).2 && liesW (secR s r).1 (towG s.c.T r.Tower).1.At p && lookB s b r p
def allB (s:Svc) (b:Brn) (r:Rpt) (p:Place):Bool:=if r.Kind=1 then seenB s b r p else !seenB s b r p
theorem zpF {r:Rpt} (h:frmB r=true) (hk:r.Kind≠1):RptB r:=by
 unfold frmB at h
 rw[kF hk] at h
 simp only[jP,jY] at h
 obtain⟨h1,h2⟩:=h
 split at h2
 ·unfold frmC at h1
  simp only[kU,kY] at h1
  simp only[jP] at h2
  exact⟨zaa.1 h1.1.2,zaa.1 h2.1,zaa.1 h1.2⟩
 cases h2
theorem znf (s:Svc) (b:Brn) (r:Rpt) (p:Place) (hr:frmB r=true) (hT:s.c.T.length<=1000000):Spec PP 84 [s.v,b.v,.d (tldD r),p.v] [B (allB s b r p)]:=by
 by_cases hk:r.Kind=1
 ·have e1:tldD r = .ifc 222 8 (getD' r.ds):=by unfold tldD; rw[kG hk]
  have e2:secR s r=((wdgR s.k (rdgO r)).1,decide ((wdgR s.k (rdgO r)).2=0)):=by unfold secR; rw[kG hk]
  have e3:allB s b r p=seenB s b r p:=by unfold allB; rw[kG hk]
  rw[e1,e3]
  have e4:seenB s b r p=(decide ((wdgR s.k (rdgO r)).2=0) && liesW (wdgR s.k (rdgO r)).1 (towG s.c.T r.Tower).1.At p && lookB s b r p):=by unfold seenB; rw[e2]
  refine sA Tryz.func84 ?_
  refine⟨⟨_,_,_,_,rfl,by kernel_rfl,oP (zk6 r) rfl rfl ?_⟩⟩
  refine cP (zfD s r.Tower hT) rfl rfl ?_
  refine⟨⟨_,_,_,_,rfl,by kernel_rfl,oP (zcK r s) rfl rfl ?_⟩⟩
  apply bY <;> intro h1
  ·have h1:decide ((wdgR s.k (rdgO r)).2=0)=true:=h1
   refine cP (zov (wdgR s.k (rdgO r)).1 (towG s.c.T r.Tower).1.At p) rfl rfl ?_
   refine sT ?_
   apply bY <;> intro h2
   ·refine CallSt.fzP [4,9,7,5] (zgv s b r p) rfl ⟨dE _,dE _,dE _,dE _,trivial⟩ rfl ?_
    refine sT ?_
    refine sT ?_
    refine r1B rfl ?_
    rw[e4,h1,h2]; rfl
   refine sF ?_
   refine sT ?_
   refine r1B rfl ?_
   rw[e4,h1,h2]; rfl
  have h1:decide ((wdgR s.k (rdgO r)).2=0)=false:=h1
  refine sF (sF (sF ?_))
  refine sT ?_
  refine r1B rfl ?_
  rw[e4,h1]; rfl
 have e1:tldD r = .ifc 223 8 (getD' r.ds):=by unfold tldD; rw[kF hk]
 have e2:secR s r=blkR s r:=by unfold secR; rw[kF hk]
 have e3:allB s b r p = !seenB s b r p:=by unfold allB; rw[kF hk]
 rw[e1,e3]
 have e4:seenB s b r p=((blkR s r).2 && liesW (blkR s r).1 (towG s.c.T r.Tower).1.At p && lookB s b r p):=by unfold seenB; rw[e2]
 refine sA Tryz.func84 ?_
 refine⟨⟨_,_,_,_,rfl,by kernel_rfl,oP (zk9 r) rfl rfl ?_⟩⟩
 refine cP (zfD s r.Tower hT) rfl rfl ?_
 refine⟨⟨_,_,_,_,rfl,by kernel_rfl,oP (zfE r s (zpF hr hk)) rfl rfl ?_⟩⟩
 apply bY <;> intro h1
 ·have h1:(blkR s r).2=true:=h1
  refine cP (zov (blkR s r).1 (towG s.c.T r.Tower).1.At p) rfl rfl ?_
  refine sT ?_
  apply bY <;> intro h2
  ·refine CallSt.fzP [4,9,7,5] (zgv s b r p) rfl ⟨dE _,dE _,dE _,dE _,trivial⟩ rfl ?_
   refine sT ?_
   refine sF ?_
   refine r1B rfl ?_
   rw[e4,h1,h2]; rfl
  refine sF ?_
  refine sF ?_
  refine r1B rfl ?_
  rw[e4,h1,h2]; rfl
 have h1:(blkR s r).2=false:=h1
 refine sF (sF (sF ?_))
 refine sF ?_
 refine r1B rfl ?_
 rw[e4,h1]; rfl
structure SvcOk (s:Svc):Prop where
  c:CtryOk s.c
  k:CirsOk s.k
theorem zc9 {s:Svc} (h:svcE s=0):SvcOk s:=by
 unfold svcE at h
 split at h
 ·rename_i h1; exact absurd h h1
 rename_i h1
 split at h
 ·rename_i h2; exact absurd h h2
 rename_i h2
 exact⟨zhJ (jL h1),zbJ (jL h2)⟩
def crpE (s:Svc) (r:Rpt):Int:=if svcE s≠0 then svcE s else rptE s r
theorem zru {s:Svc} {r:Rpt} (h:crpE s r=0):svcE s=0/\rptE s r=0/\frmB r=true:=by
 unfold crpE at h
 split at h
 ·rename_i h1; exact absurd h h1
 rename_i h1
 refine⟨jL h1,h,?_⟩
 unfold rptE at h
 split at h
 ·cases h
 rename_i h2; simpa using h2
theorem zfF (s:Svc) (r:Rpt):Spec PP 10 [s.v,r.v] [.d (.int .i64 (crpE s r))]:=by
 refine sA Tryz.func10 ?_
 refine cP (zdY s) rfl rfl ?_
 apply bY <;> intro h0
 ·refine r1I rfl ?_
  unfold crpE; rw[kG (by simpa using h0)]
 have h0:svcE s=0:=by simpa using h0
 have ok:=zc9 h0
 refine cP (zbD s r (by have:=ok.c.t; omega) (by have:=ok.k.n; omega)) rfl rfl ?_
 refine r1I rfl ?_
 unfold crpE; rw[kF (fun hh=>hh h0)]
end Go.Pg
namespace Go.Pg
open Go.Proofs Go.RowKit Go.MapKept
theorem zd9 (n:Int):∀ (es:List MapEntry) (ks:List (List Int)) (i:Nat),(es.map fun e=>e.key)=ks.map kv->(∀ k∈ks,k.length=1)->Instr.findNow (.int .i64) (.int .i64 n) es i=some ((es[ks.idxOf [n]]?).map fun e=>(i+ks.idxOf [n],e.val))
 | [],[],i,_,_=>rfl
 | e :: es,[m] :: ks,i,h,hl=>by
  simp only[kS,jas] at h
  have hk:e.key = .int .i64 m:=h.1
  by_cases e1:n=m
  ·subst e1
   have:List.idxOf [n] ([n] :: ks)=0:=by simp[List.idxOf_cons]
   rw[this]
   simp[Instr.findNow,hk,Instr.sameNow]
  ·have:List.idxOf [n] ([m] :: ks)=List.idxOf [n] ks+1:=by
    rw[List.idxOf_cons]
    have:([m] == [n])=false:=by simp; exact fun e=>e1 e.symm
    rw[this]; rfl
   rw[this]
   have hs:Instr.sameNow (.int .i64) (.int .i64 n) e.key=some false:=by simp[Instr.sameNow,hk,e1]
   simp only[Instr.findNow,hs]
   rw[zd9 n es ks (i+1) h.2 fun k hk=>hl k (kO _ hk)]
   simp only[jaw]
   congr 2
   funext e'
   rw[show i+1+List.idxOf [n] ks=i+(List.idxOf [n] ks+1) by omega]
 | e :: es,[] :: ks,i,h,hl=>by have:=hl [] (jal ..); cases this
 | e :: es,(_ :: _ :: _) :: ks,i,h,hl=>by have:=hl _ (jal ..); simp at this
 | [],_ :: _,i,h,_=>by simp at h
 | _ :: _,[],i,h,_=>by simp at h
theorem znh {P:Program} {kt:Nat} (hu:P.underlying kt=some (.int .i64)):KeyF P kt 1:=fun key hk=>by
 obtain⟨n,rfl⟩:∃ n,key=[n]:=by
  match key,hk with
  | [n],_=>exact⟨n,rfl⟩
 have hK:IsKey (.int .i64) (Value.int .i64 n):=by simp[IsKey]
 refine⟨fun b w=>run_checkKey hu hK b 9999,fun w=>run_keyThatStays hK,fun w es ks h hl=>?_⟩
 have:=run_findKey (P:=P) (w:=w) hu (zd9 n es ks 0 h hl)
 simp only[k9] at this
 exact this
theorem kInt:KeyF PP 3 1:=znh (by kernel_rfl)
theorem zhz (l:List Int) (k:Int):(l.map fun x=>[x]).idxOf [k]<(l.map fun x=>[x]).length ↔ l.contains k=true:=by
 rw[List.idxOf_lt_length_iff,kI,kD]
 constructor
 ·rintro⟨x,hx,e⟩; cases e; exact hx
 intro h; exact⟨k,h,rfl⟩
theorem zod (l:List Int) (k:Int):lkD (l.map fun x=>[x]) (fun _=>.bool true) [k] (.bool false) = .bool (l.contains k):=by
 unfold lkD
 by_cases h:l.contains k=true
 ·rw[kG ((zhz l k).2 h),h]
 rw[kF fun e=>h ((zhz l k).1 e),wI.2 h]
theorem zcV {l:List Int} {k:Int} (h:l.contains k=false):D.eqv (.mp 1 (putK (l.map fun x=>[x]) [k]) (putF (l.map fun x=>[x]) (fun _=>.bool true) [k] (.bool true))) (.mp 1 ((l ++ [k]).map fun x=>[x]) fun _=>.bool true):=by
 refine⟨rfl,?_,fun j _=>?_⟩
 ·unfold putK
  rw[kF fun e=>(by rw[(zhz l k).1 e] at h; cases h),jT]; rfl
 unfold putF; split <;> exact dE _
theorem obMp {s:St} {ob:Nat->Option Ob} {m m':Nat} {ks ks':List (List Int)} {f f':Nat->D} {o:Option Ob} (h:o=some (.mp m ks f)) (e:D.eqv (.mp m ks f) (.mp m' ks' f')):Oble s ob o (.mp m' ks' f'):=by subst h; exact e
abbrev Mp.w (m:Mp):Nat:=m.W.toNat
abbrev Mp.h (m:Mp):Nat:=m.H.toNat
def spL (m:Mp):List (Nat × Nat):=(List.range (m.w * m.h)).map fun n=>(n / m.w,n % m.w)
theorem zcq (m:Mp):(spL m).length=m.w * m.h:=by unfold spL; simp
theorem zqx {m:Mp} {y x:Nat} (hy:y<m.h) (hx:x<m.w):(spL m)[y * m.w+x]?=some (y,x):=by
 have h1:y * m.w+x<m.w * m.h:=by
  have:(y+1) * m.w<=m.h * m.w:=jW _ hy
  rw[kP] at this
  rw[qS m.w m.h]
  omega
 have h2:(y * m.w+x) / m.w=y:=by rw[qS,Nat.mul_add_div (by omega),Nat.div_eq_of_lt hx]; rfl
 have h3:(y * m.w+x) % m.w=x:=by rw[qS,ja2,jak hx]
 unfold spL
 rw[jU,qG h1]
 simp only[kT,h2,h3]
def spEnc (m:Mp) (p:Nat × Nat):List V1:=[.d (I (p.1 * m.W+p.2)),.agg [I p.2,I p.1]]
abbrev spClo (m:Mp):D:=.clo 125 1 (fun _=>capB m.ds)
theorem zdX (m:Mp):Spec PP 83 [m.v] [.d (spClo m)]:=by
 refine sA Tryz.func83 ?_
 refine⟨⟨rfl,rfl,fun j hj=>?_⟩,trivial⟩
 match j,hj with
 | 0,_=>exact⟨_,rfl,rfl,_,_,rfl,rfl,rfl,fun j hj=>dE _⟩
theorem zcJ (m:Mp) (hv:validM m=true):SeqC PP 125 1 (fun _=>capB m.ds) (spEnc m) (spL m):=by
 obtain⟨bw,bh,-,-⟩:=zah hv
 have hw:((m.w:Nat):Int)=m.W:=by show ((m.W.toNat:Nat):Int)=m.W; omega
 have hh:((m.h:Nat):Int)=m.H:=by show ((m.H.toNat:Nat):Int)=m.H; omega
 refine zfq Tryz.func125 rfl (by kernel_rfl) rfl rfl (spEnc m) _ fun l=>?_
 refine lOf (σ:=Nat) (fun y=>([(G,.gho (some (y * m.w))),(0,.yl l),(1,avOf (.d (capB m.ds))),(6,.d (I m.H)),(7,.d (I y))],[])) (fun y=>y<=m.h) (fun y=>m.h - y) 0 ⟨rfl,trivial,avG rfl (by simp),wq rfl⟩ (jF _) fun y hy=>?_
 apply bY <;> intro h1
 ·have h1:y<m.h:=by have:=dT h1; omega
  refine lOf (σ:=Nat) (fun x=>([(G,.gho (some (y * m.w+x))),(0,.yl l),(1,avOf (.d (capB m.ds))),(3,.d (I y)),(6,.d (I m.H)),(7,.d (I y)),(11,.d (I m.W)),(12,.d (I x))],[])) (fun x=>x<=m.w) (fun x=>m.w - x) 0 ⟨rfl,trivial,avG rfl (by simp),wq rfl⟩ (jF _) fun x hx=>?_
  apply bY <;> intro h2
  ·have h2:x<m.w:=by have:=dT h2; omega
   have m1:=mulB (a:=(y:Int)) (b:=m.W) (x:=49) (y:=49) (by omega) (by omega)
   refine⟨i6,⟨i6,?_⟩⟩
   refine CallSt.yd (d:=25) [(0,.yl l),(1,avOf (.d (capB m.ds))),(3,.d (I y)),(6,.d (I m.H)),(7,.d (I y)),(11,.d (I m.W)),(12,.d (I x))] rfl rfl rfl rfl ⟨rfl,trivial,wq rfl⟩ (zqx h1 h2) rfl rfl ?_ ?_
   ·refine sF ?_
    refine⟨i6,?_⟩
    refine⟨x+1,⟨rfl,trivial,avG rfl rfl,wq rfl⟩,h2,(msr (by omega))⟩
   refine sT ?_
   exact .inr rfl
  have h2:x=m.w:=by have:=dF h2; omega
  subst h2
  refine⟨i6,?_⟩
  refine⟨y+1,⟨rfl,trivial,avG rfl (by rw[kP,Nat.one_mul]),wq rfl⟩,h1,(msr (by omega))⟩
 have h1:y=m.h:=by have:=dF h1; omega
 subst h1
 exact .inl (show AV.gho (some (m.h * m.w)) = .gho (some (spL m).length) by rw[zcq,qS])
def plc (m:Mp) (n:Nat):Place:=⟨((n % m.w:Nat):Int),((n / m.w:Nat):Int)⟩
theorem zgc {m:Mp} {pre:List (Nat × Nat)} {x:Nat × Nat} (h:pre ++ [x] <+: spL m):x=(pre.length / m.w,pre.length % m.w)/\pre.length<m.w * m.h:=by
 have h1:(spL m)[pre.length]?=some x:=by
  obtain⟨t,e⟩:=h
  rw[<- e]; simp
 have h2:pre.length<m.w * m.h:=by
  have:=(kC.1 h1).1
  rwa [zcq] at this
 unfold spL at h1
 rw[jU,qG h2] at h1
 simp only[kT,jO] at h1
 exact⟨h1.symm,h2⟩
theorem zqV {m:Mp} {n:Nat} (hv:validM m=true) (h:n<m.w * m.h):onM m (plc m n)=true:=by
 obtain⟨bw,bh,-,-⟩:=zah hv
 refine zaj.2 ?_
 have hw:0<m.w:=by show 0<m.W.toNat; omega
 have h1:=jaq n hw
 have h2:n / m.w<m.h:=ja0 h
 generalize hq:n / m.w=q at h2
 generalize hr:n % m.w=r at h1
 show (0<=((n % m.w:Nat):Int)/\((n % m.w:Nat):Int)<m.W)/\(0<=((n / m.w:Nat):Int)/\((n / m.w:Nat):Int)<m.H)
 have e1:((m.w:Nat):Int)=m.W:=by show ((m.W.toNat:Nat):Int)=m.W; omega
 have e2:((m.h:Nat):Int)=m.H:=by show ((m.H.toNat:Nat):Int)=m.H; omega
 rw[hq,hr]
 omega
theorem obN {s:St} {ob:Nat->Option Ob} {j e k:Nat} {f:Nat->Nat->D} {o:Option Ob} (h:o=some (.box [.nilsl])) (h1:s.ob j=none) (h2:ob j=some (.row e k 0 f)):Oble s ob o (.box [.own j]):=by
 subst h; exact⟨⟨h1,e,k,f,h2⟩,trivial⟩
theorem obO {s:St} {ob:Nat->Option Ob} {j:Nat} {o:Option Ob} (h:o=some (.box [.own j])):Oble s ob o (.box [.own j]):=by
 subst h; exact⟨rfl,trivial⟩
theorem obZ {s:St} {ob:Nat->Option Ob} {e k n:Nat} {f:Nat->Nat->D} {o:Option Ob} (h:o=none) (h1:n=0):Oble s ob o (.row e k n f):=by
 subst h; exact h1
abbrev lP (l:List Place):D:=.slc 2 l.length fun i=>(l.getD i default).at
abbrev rowP (l:List Place):Nat->Nat->D:=fun i=>(l.getD i default).at
theorem zqO {vs:List Place} {p:Place} {g:Nat->Nat->D} (hg:∀ j,j<2->D.eqv (g 0 j) (p.at j)):D.eqv (.slc 2 (vs.length+1) (appRow vs.length (rowP vs) g)) (.slc 2 (vs ++ [p]).length (rowP (vs ++ [p]))):=by
 refine⟨by simp,.inr ⟨rfl,fun i hi j hj=>?_⟩⟩
 show D.eqv (appRow vs.length (rowP vs) g i j) (((vs ++ [p]).getD i default).at j)
 unfold appRow
 by_cases h:i<vs.length
 ·rw[kG h,hU,jJ h,<- hU]
  exact dE _
 have e:i=vs.length:=by omega
 subst e
 rw[kF h,kE,hU,jK (jE _),kE]
 exact hg j hj
abbrev Svc.n (s:Svc):Nat:=s.c.M.w * s.c.M.h
def alwK (s:Svc) (b:Brn) (r:Rpt) (k:Nat) (n:Nat):Bool:=decide (n<k) && allB s b r (plc s.c.M n)
def alwP (s:Svc) (b:Brn) (r:Rpt):Nat->Bool:=alwK s b r s.n
theorem znV {s:Svc} {b:Brn} {r:Rpt} {k:Nat} (h:allB s b r (plc s.c.M k)=true):alwK s b r (k+1)=addP (alwK s b r k) k:=by
 funext n
 unfold alwK addP
 by_cases e:n=k
 ·subst e; rw[h]; simp
 have e1:decide (n<k+1)=decide (n<k):=by apply decide_eq_decide.2; omega
 rw[e1,beq_eq_false_iff_ne.2 e,jbc]
theorem zqd {s:Svc} {b:Brn} {r:Rpt} {k:Nat} (h:allB s b r (plc s.c.M k)=false):alwK s b r (k+1)=alwK s b r k:=by
 funext n
 unfold alwK
 by_cases e:n=k
 ·subst e; rw[h]; simp
 have e1:decide (n<k+1)=decide (n<k):=by apply decide_eq_decide.2; omega
 rw[e1]
theorem zrH (s:Svc) (b:Brn) (r:Rpt):alwK s b r 0=fun _=>false:=by funext n; unfold alwK; simp
theorem bD_0:(bD fun _=>false)=List.replicate 38 (D.int .u64 0):=by
 unfold bD
 simp only[zoy]
 rfl
abbrev bx8 (x:D):Ob:=.box [.d x]
def obAlw (s:Svc) (b:Brn) (r:Rpt) (k:Nat):List (Nat × Ob):=[(3,.box (s.ds.map AV.d)),(4,.box (b.ds.map AV.d)),(6,.box ((List.replicate 38 (D.int .u64 0)).map AV.d)),(7,.box ((bD (alwK s b r k)).map AV.d)),(8,bx8 (tldD r))]
theorem zbP {m:Mp} (hv:validM m=true) {k:Nat}:((k / m.w:Nat):Int) * m.W+((k % m.w:Nat):Int)=(k:Int):=by
 obtain⟨bw,bh,-,-⟩:=zah hv
 have e1:((m.w:Nat):Int)=m.W:=by show ((m.W.toNat:Nat):Int)=m.W; omega
 rw[<- e1]
 have:=jar k m.w
 rw[qS] at this
 exact_mod_cast this
theorem zbB {m:Mp} (hv:validM m=true):m.w * m.h<=2401:=by
 obtain⟨bw,bh,-,-⟩:=zah hv
 have:m.w * m.h<=49 * 49:=Nat.mul_le_mul (by show m.W.toNat<=49; omega) (by show m.H.toNat<=49; omega)
 omega
theorem zgw (s:Svc) (b:Brn) (r:Rpt) (hv:validM s.c.M=true) (hr:frmB r=true) (hT:s.c.T.length<=1000000):Spec PP 33 [s.v,b.v,r.v] [.agg (bD (alwP s b r))]:=by
 have hl:=zbB hv
 refine sA Tryz.func33 ?_
 refine cR (zoe r) rfl rfl ?_
 refine cR (zdX s.c.M) rfl rfl ?_
 refine CodeOb.rangeAt (zcJ s.c.M hv) rfl (fun _=>rfl) (by decide) [(3,.box 3 0),(4,.box 4 0),(6,.box 6 0),(7,.box 7 0),(8,.box 8 0)] [] (fun pre=>obAlw s b r pre.length) rfl (fun _=>rfl) ?_ (Iv:=fun _=>True) trivial (fun v pre x hx _=>?_) (fun _=>?_)
 ·refine⟨rfl,⟨obX rfl,obX rfl,obX rfl,obX ?_,obX rfl,trivial⟩,wq rfl⟩
  show _=some (Ob.box ((bD (alwK s b r 0)).map AV.d))
  rw[zrH,bD_0]; rfl
 ·obtain⟨rfl,hk⟩:=zgc hx
  have hn:=zbP hv (k:=pre.length)
  refine cP (znf s b r (plc s.c.M pre.length) hr hT) rfl rfl ?_
  apply bY <;> intro h1
  ·have hp:=l_put (alwK s b r pre.length) pre.length (by omega)
   rw[<- hn] at hp
   refine CallSt.bxP rfl rfl hp ⟨⟨_,_,_,rfl,rfl,rfl,rfl,rfl⟩⟩ rfl ?_
   refine⟨trivial,rfl,⟨obX rfl,obX rfl,obX rfl,obX ?_,obX rfl,trivial⟩,wq rfl⟩
   rw[jR]
   show _=some (Ob.box ((bD (alwK s b r (pre.length+1))).map AV.d))
   rw[znV h1,hn]; rfl
  refine⟨trivial,rfl,⟨obX rfl,obX rfl,obX rfl,obX ?_,obX rfl,trivial⟩,wq rfl⟩
  rw[jR]
  show _=some (Ob.box ((bD (alwK s b r (pre.length+1))).map AV.d))
  rw[zqd h1]; rfl
 rw[zcq]
 exact r1C rfl rfl rfl rfl rfl rfl (zab _)
def plsK (m:Mp) (P:Nat->Bool) (k:Nat):List Place:=((List.range k).filter P).map (plc m)
def plsL (m:Mp) (P:Nat->Bool):List Place:=plsK m P (m.w * m.h)
theorem zfw {m:Mp} {P:Nat->Bool} {k:Nat} (h:P k=true):plsK m P (k+1)=plsK m P k ++ [plc m k]:=by
 unfold plsK
 rw[jad,kX,jT,wA h]; rfl
theorem zhm {m:Mp} {P:Nat->Bool} {k:Nat} (h:P k=false):plsK m P (k+1)=plsK m P k:=by
 unfold plsK
 rw[jad,kX,jT,wB (by rw[h]; decide)]; simp
theorem zfx (m:Mp) (P:Nat->Bool) (k:Nat):(plsK m P k).length<=k:=by
 unfold plsK
 have:=jam P (List.range k)
 simpa using this
def obPls (s:Svc) (P:Nat->Bool) (k:Nat):List (Nat × Ob):=[(2,.box (s.ds.map AV.d)),(3,.box ((bD P).map AV.d)),(5,.box [.own 20]),(20,.row 39 2 (plsK s.c.M P k).length (rowP (plsK s.c.M P k)))]
theorem znb (s:Svc) (P:Nat->Bool) (hv:validM s.c.M=true):Spec PP 47 [s.v,.agg (bD P)] [.d (lP (plsL s.c.M P))]:=by
 have hl:=zbB hv
 refine sA Tryz.func47 ?_
 refine cR (zdX s.c.M) rfl rfl ?_
 refine CodeOb.rangeAt (zcJ s.c.M hv) rfl (fun _=>rfl) (by decide) [(2,.box 2 0),(3,.box 3 0),(5,.box 5 0)] [(5,0)] (fun pre=>obPls s P pre.length) rfl (fun _=>rfl) ?_ (Iv:=fun _=>True) trivial (fun v pre x hx _=>?_) (fun _=>?_)
 ·exact⟨rfl,⟨obX rfl,obX rfl,obN rfl rfl rfl,obZ rfl rfl,trivial⟩,wq rfl⟩
 ·obtain⟨rfl,hk⟩:=zgc hx
  have hn:=zbP hv (k:=pre.length)
  have hp:=znc P pre.length (by omega)
  rw[<- hn] at hp
  have hlen:=zfx s.c.M P pre.length
  refine cP hp rfl rfl ?_
  apply bY <;> intro h1
  ·refine⟨⟨.inr rfl,by unfold maxLen; omega,by show ((plsK s.c.M P pre.length).length+1) * 16<=140737488355328; omega⟩,?_⟩
   refine⟨trivial,rfl,⟨obX rfl,obX rfl,obO rfl,obR rfl ?_,trivial⟩,wq rfl⟩
   rw[jR]
   show D.eqv _ (.slc 2 (plsK s.c.M P (pre.length+1)).length (rowP (plsK s.c.M P (pre.length+1))))
   rw[zfw h1]
   exact zqO (at2 rfl rfl)
  refine⟨trivial,rfl,⟨obX rfl,obX rfl,obO rfl,obR rfl ?_,trivial⟩,wq rfl⟩
  rw[jR]
  show D.eqv _ (.slc 2 (plsK s.c.M P (pre.length+1)).length (rowP (plsK s.c.M P (pre.length+1))))
  rw[zhm h1]; exact dE _
 rw[zcq]
 refine⟨⟨_,_,_,_,rfl,?_⟩,trivial⟩
 exact dE _
abbrev bAt (P:Nat->Bool) (j:Nat):D:=U (wd P j)
abbrev lB (L:List (Nat->Bool)):D:=.slc 38 L.length fun m=>bAt (L.getD m default)
def metP (L:List (Nat->Bool)) (n:Nat):Bool:=L.all fun P=>P n
abbrev litN {n:Nat} (_:n<38):Nat:=n
theorem zkU {L:List (Nat->Bool)} {k:Nat} (h:k<L.length):metP (L.take (k+1))=fun n=>metP (L.take k) n && L.getD k default n:=by
 funext n
 unfold metP
 rw[za6 h default,List.all_append]; simp
abbrev mF (L:List (Nat->Bool)) (i j:Nat):Nat:=if j<i then wd (metP L) j else 0
abbrev mK (L:List (Nat->Bool)) (i k j:Nat):Nat:=if j=i then wd (metP (L.take k)) i else mF L i j
abbrev mV (f:Nat->Nat):List AV:=((List.range 38).map fun j=>U (f j)).map AV.d
theorem zrb (L:List (Nat->Bool)):((List.range 38).map fun j=>U (mF L 38 j))=bD (metP L):=by
 refine qF fun j hj=>?_
 have hj:=kK.1 hj
 show U (if j<38 then _ else _)=_
 rw[kG hj]
theorem zra (L:List (Nat->Bool)) (i:Nat):mV (mK L i L.length)=mV (mF L (i+1)):=by
 refine jI (List.map AV.d) (qF fun j hj=>?_)
 show U (if j=i then _ else if j<i then _ else _)=U (if j<i+1 then _ else _)
 rw[jZ]
 by_cases e:j=i
 ·subst e; rw[kG rfl,kG (by omega)]
 rw[kF e]
 by_cases e2:j<i
 ·rw[kG e2,kG (by omega)]
 rw[kF e2,kF (by omega)]
theorem mK_0 (L:List (Nat->Bool)) (i:Nat):mV (mK L i 0)=bV (mF L i) i 18446744073709551615:=by
 refine zrC ?_ fun j _ hj=>kF hj
 show (((if i=i then wd (metP (L.take 0)) i else _:Nat)):Int)=_
 rw[kG rfl]
 have:metP (L.take 0)=fun _=>true:=by funext n; rfl
 rw[this,zqi]; rfl
theorem mK_s {L:List (Nat->Bool)} {k:Nat} (i:Nat) (h:k<L.length):mV (mK L i (k+1))=bV (mF L i) i (IntKind.wrap .u64 ((BitVec.ofInt 64 ((mK L i k i:Nat):Int) &&& BitVec.ofInt 64 ((wd (L.getD k default) i:Nat):Int)).toNat:Int)):=by
 refine zrC ?_ fun j _ hj=>kF hj
 show (((if i=i then wd (metP (L.take (k+1))) i else _:Nat)):Int)=IntKind.wrap .u64 ((BitVec.ofInt 64 (((if i=i then wd (metP (L.take k)) i else _:Nat)):Int) &&& _).toNat:Int)
 rw[kG rfl,kG rfl,zqc,zkU h]
theorem zof (L:List (Nat->Bool)) (hn:L.length<=1000000):Spec PP 48 [.d (lB L)] [.agg (bD (metP L))]:=by
 refine sA Tryz.func48 ?_
 refine lOf (σ:=Nat) (fun i=>([(0,.d (lB L)),(2,.box 2 0),(3,.box 3 0),(7,.d (I i))],[(2,.box ((List.replicate 38 (D.int .u64 0)).map AV.d)),(3,.box (mV (mF L i)))])) (fun i=>i<=38) (fun i=>38 - i) 0
  ⟨rfl,⟨obX rfl,obX rfl,trivial⟩,wq rfl⟩ (jF _) fun i hi=>?_
 apply bY <;> intro h1
 ·have h1:i<38:=by have:(i:Int)<38:=dT h1; omega
  have e0:=mK_0 L i
  have e1:=fun k h=>mK_s (L:=L) (k:=k) i h
  have e2:=zra L i
  rcases i38 h1 with rfl | rfl | rfl | rfl | rfl | rfl | rfl | rfl | rfl | rfl | rfl | rfl | rfl | rfl | rfl | rfl | rfl | rfl | rfl | rfl | rfl | rfl | rfl | rfl | rfl | rfl | rfl | rfl | rfl | rfl | rfl | rfl | rfl | rfl | rfl | rfl | rfl | rfl <;>
  (
   refine⟨⟨by decide,by decide⟩,?_⟩
   refine lOf (σ:=Nat) (fun k=>([(0,.d (lB L)),(2,.box 2 0),(3,.box 3 0),(4,.d (I (litN h1))),(7,.d (I (litN h1))),(12,.d (lB L)),(13,.d (I L.length)),(14,.d (I k))],[(2,.box ((List.replicate 38 (D.int .u64 0)).map AV.d)),(3,.box (mV (mK L (litN h1) k)))])) (fun k=>k<=L.length) (fun k=>L.length - k) 0
    ⟨rfl,⟨obX rfl,obX (by rw[e0]; rfl),trivial⟩,wq rfl⟩ (jF _) fun k hk=>?_
   apply bY <;> intro h2
   ·have h2:k<L.length:=by have:=dT h2; omega
    refine⟨⟨rfl,by omega,by omega⟩,?_⟩
    refine oN 9 ?_
    refine⟨⟨by unfold litN; omega,by unfold litN; omega⟩,⟨⟨by unfold litN; omega,by unfold litN; omega⟩,⟨⟨by unfold litN; omega,by unfold litN; omega⟩,?_⟩⟩⟩
    refine⟨i6,?_⟩
    refine⟨k+1,⟨rfl,⟨obX rfl,obX (by rw[e1 k h2]; rfl),trivial⟩,wq rfl⟩,h2,(msr (by omega))⟩
   have h2:k=L.length:=by have:=dF h2; omega
   subst h2
   refine⟨zam (by unfold litN; omega) (by unfold litN; omega),?_⟩
   exact⟨litN h1+1,⟨rfl,⟨obX rfl,obX (by rw[<- e2]; rfl),trivial⟩,wq rfl⟩,(by unfold litN; omega),(by unfold litN; omega)⟩)
 have h1:i=38:=by have:¬ (i:Int)<38:=dF h1; omega
 subst h1
 rw[<- zrb]
 exact r1C rfl rfl rfl rfl rfl rfl (zab _)
def rp1E (s:Svc) (l:List Rpt) (i:Nat):Int:=if rptE s (l.getD i default)≠0 then rptE s (l.getD i default) else if ((l.take i).map Rpt.ID).contains (l.getD i default).ID=true then 6 else 0
def givE (s:Svc) (b:Brn) (l:List Rpt):Int:=if svcE s≠0 then svcE s else if brnB b=false then 1 else if 24<l.length then 2 else err1 (rp1E s l) l.length
structure GivOk (S:Svc) (b:Brn) (l:List Rpt):Prop where
  s:SvcOk S
  n:l.length<=24
  r:∀ i,i<l.length->frmB (l.getD i default)=true/\rptE S (l.getD i default)=0
  d:∀ i,i<l.length->((l.take i).map Rpt.ID).contains (l.getD i default).ID=false
  b:brnB b=true
theorem zkn {s:Svc} {r:Rpt} (h:rptE s r=0):frmB r=true:=by
 unfold rptE at h
 split at h
 ·cases h
 rename_i h2; simpa using h2
theorem zco {s:Svc} {b:Brn} {l:List Rpt} (h:givE s b l=0):GivOk s b l:=by
 unfold givE at h
 split at h
 ·rename_i h1; exact absurd h h1
 rename_i h1
 split at h
 ·cases h
 rename_i h2
 split at h
 ·cases h
 rename_i h3
 have a:=zbl h
 have A:∀ i,i<l.length->rptE s (l.getD i default)=0/\((l.take i).map Rpt.ID).contains (l.getD i default).ID=false:=fun i hi=>by
  have:=a i hi
  unfold rp1E at this
  split at this
  ·rename_i h4; exact absurd this h4
  rename_i h4
  split at this
  ·cases this
  rename_i h5
  exact⟨jL h4,by simpa using h5⟩
 exact⟨zc9 (jL h1),by omega,fun i hi=>⟨zkn (A i hi).1,(A i hi).1⟩,fun i hi=>(A i hi).2,by simpa using h2⟩
theorem zk7 (s:Svc) (b:Brn) (l:List Rpt):Spec PP 92 [s.v,b.v,.d (lR l)] [.d (.int .i64 (givE s b l))]:=by
 refine sA Tryz.func92 ?_
 refine cP (zdY s) rfl rfl ?_
 apply bY <;> intro h0
 ·refine r1I rfl ?_
  unfold givE; rw[kG (by simpa using h0)]
 have h0:svcE s=0:=by simpa using h0
 have ok:=zc9 h0
 refine cP (zhs b) rfl rfl ?_
 apply bY <;> intro h1
 ·refine r1I rfl ?_
  unfold givE; rw[kF (fun hh=>hh h0),kG (by simpa using h1)]
 have h1:brnB b=true:=by simpa using h1
 apply bY <;> intro h2
 ·have h2:24<l.length:=by have:(24:Int)<l.length:=dT h2; omega
  refine r1I rfl ?_
  unfold givE; rw[kF (fun hh=>hh h0),kF (by rw[h1]; decide),kG h2]
 have h2:¬ 24<l.length:=by have:¬ (24:Int)<l.length:=dF h2; omega
 have e0:givE s b l=err1 (rp1E s l) l.length:=by unfold givE; rw[kF (fun hh=>hh h0),kF (by rw[h1]; decide),kF h2]
 rw[e0]
 refine lOf (σ:=Nat) (fun i=>([(2,.d (lR l)),(3,.box 3 0),(8,.own 25),(26,.d (lR l)),(27,.d (I l.length)),(28,.d (I i))],[(3,.box (s.ds.map AV.d)),(25,.mp 1 (((l.take i).map Rpt.ID).map fun x=>[x]) fun _=>.bool true)])) (fun i=>i<=l.length /\ ∀ j,j<i->rp1E s l j=0) (fun i=>l.length - i) 0
  ⟨rfl,⟨obX rfl,obMp rfl ⟨rfl,rfl,fun j hj=>absurd hj (wC _)⟩,trivial⟩,wq rfl⟩ z0L fun i hi=>?_
 obtain⟨hi,ha⟩:=hi
 apply bY <;> intro h3
 ·have h3:i<l.length:=by have:=dT h3; omega
  refine⟨⟨rfl,by omega,by omega⟩,?_⟩
  refine cP (zbD s (l.getD i default) (by have:=ok.c.t; omega) (by have:=ok.k.n; omega)) rfl rfl ?_
  apply bY <;> intro h4
  ·have h4:rptE s (l.getD i default)≠0:=by simpa using h4
   have e1:rp1E s l i=rptE s (l.getD i default):=by unfold rp1E; rw[kG h4]
   refine r1I rfl ?_
   rw[za8 ha (by rw[e1]; exact h4) h3,e1]
  have h4:rptE s (l.getD i default)=0:=by simpa using h4
  refine⟨⟨kInt,rfl⟩,.bool (((l.take i).map Rpt.ID).contains (l.getD i default).ID),D.eqv_of_eq (zod _ _),?_⟩
  apply bY <;> intro h5
  ·have h5:((l.take i).map Rpt.ID).contains (l.getD i default).ID=true:=h5
   have e1:rp1E s l i=6:=by unfold rp1E; rw[kF (fun hh=>hh h4),kG h5]
   refine r1I rfl ?_
   rw[za8 ha (by rw[e1]; decide) h3,e1]
  have h5:((l.take i).map Rpt.ID).contains (l.getD i default).ID=false:=h5
  have e1:rp1E s l i=0:=by unfold rp1E; rw[kF (fun hh=>hh h4),kF (by rw[h5]; decide)]
  refine⟨⟨kInt,rfl⟩,?_⟩
  refine⟨i6,?_⟩
  refine⟨i+1,⟨rfl,⟨obX rfl,obMp rfl ?_,trivial⟩,wq rfl⟩,⟨h3,fun j hj=>?_⟩,(msr (by omega))⟩
  ·rw[za6 h3 default,jT]; exact zcV h5
  by_cases e:j=i
  ·subst e; exact e1
  exact ha j (by omega)
 have h3:i=l.length:=by have:=dF h3; omega
 subst h3
 refine r1I rfl ?_
 rw[zbH ha]
abbrev rowB (L:List (Nat->Bool)):Nat->Nat->D:=fun i=>bAt (L.getD i default)
theorem zqP {vs:List (Nat->Bool)} {P:Nat->Bool} {g:Nat->Nat->D} (hg:∀ j,j<38->g 0 j=bAt P j):D.eqv (.slc 38 (vs.length+1) (appRow vs.length (rowB vs) g)) (.slc 38 (vs ++ [P]).length (rowB (vs ++ [P]))):=by
 refine⟨by simp,.inr ⟨rfl,fun i hi j hj=>?_⟩⟩
 show D.eqv (appRow vs.length (rowB vs) g i j) (bAt ((vs ++ [P]).getD i default) j)
 unfold appRow
 by_cases h:i<vs.length
 ·rw[kG h,hU,jJ h,<- hU]
  exact dE _
 have e:i=vs.length:=by omega
 subst e
 rw[kF h,kE,hU,jK (jE _),kE]
 rw[hg j hj]
 exact dE _
theorem zrD (P:Nat->Bool):∀ j,j<38->getD' (bD P) j=bAt P j:=fun j hj=>by
 rcases i38 hj with rfl | rfl | rfl | rfl | rfl | rfl | rfl | rfl | rfl | rfl | rfl | rfl | rfl | rfl | rfl | rfl | rfl | rfl | rfl | rfl | rfl | rfl | rfl | rfl | rfl | rfl | rfl | rfl | rfl | rfl | rfl | rfl | rfl | rfl | rfl | rfl | rfl | rfl <;> rfl
theorem zrE (P:Nat->Bool) {j:Nat} (hj:j<38):getD' (bD P) (0 * 38+j)=bAt P j:=by
 rw[show 0 * 38+j=j by omega]; exact zrD P j hj
def allR (s:Svc) (b:Brn) (l:List Rpt):List (Nat->Bool) × Int:=if givE s b l≠0 then ([],givE s b l) else (l.map (alwP s b),0)
theorem zms {α β:Type} (f:α->β) (l:List α) {i:Nat} (h:i<l.length) (d:α):(l.take (i+1)).map f=(l.take i).map f ++ [f (l.getD i d)]:=by
 rw[za6 h d,jT]; rfl
theorem zpu (s:Svc) (b:Brn) (l:List Rpt):Spec PP 61 [s.v,b.v,.d (lR l)] [.d (lB (allR s b l).1),.d (.int .i64 (allR s b l).2)]:=by
 refine sA Tryz.func61 ?_
 refine cP (zk7 s b l) rfl rfl ?_
 apply bY <;> intro h0
 ·have h0:givE s b l≠0:=by simpa using h0
  have e:allR s b l=([],givE s b l):=by unfold allR; rw[kG h0]
  rw[e]
  exact⟨⟨_,_,_,_,rfl,rfl,.inl rfl⟩,rtI rfl rfl,trivial⟩
 have h0:givE s b l=0:=by simpa using h0
 have e:allR s b l=(l.map (alwP s b),0):=by unfold allR; rw[kF (fun hh=>hh h0)]
 have ok:=zco h0
 rw[e]
 refine lOf (σ:=Nat) (fun i=>([(3,.box 3 0),(4,.box 4 0),(9,.own 9),(19,.d (lR l)),(20,.d (I l.length)),(21,.d (I i))],[(3,.box (s.ds.map AV.d)),(4,.box (b.ds.map AV.d)),(9,.row 95 38 ((l.take i).map (alwP s b)).length (rowB ((l.take i).map (alwP s b))))])) (fun i=>i<=l.length) (fun i=>l.length - i) 0
  ⟨rfl,⟨obX rfl,obX rfl,obR rfl ⟨rfl,.inl rfl⟩,trivial⟩,wq rfl⟩ (jF _) fun i hi=>?_
 apply bY <;> intro h3
 ·have h3:i<l.length:=by have:=dT h3; omega
  have hlen:((l.take i).map (alwP s b)).length=i:=by rw[qA,jQ]; omega
  have hn:=ok.n
  refine⟨⟨rfl,by omega,by omega⟩,?_⟩
  refine cP (zgw s b (l.getD i default) ok.s.c.m (ok.r i h3).1 (by have:=ok.s.c.t; omega)) rfl rfl ?_
  refine⟨⟨.inr rfl,by unfold maxLen; omega,by show (((l.take i).map (alwP s b)).length+1) * 304<=140737488355328; omega⟩,?_⟩
  refine⟨i6,?_⟩
  refine⟨i+1,⟨rfl,⟨obX rfl,obX rfl,obR rfl ?_,trivial⟩,wq rfl⟩,h3,(msr (by omega))⟩
  rw[zms (alwP s b) l h3 default]
  exact zqP fun j hj=>zrE (alwP s b (l.getD i default)) hj
 have h3:i=l.length:=by have:=dF h3; omega
 subst h3
 refine⟨⟨_,_,_,_,rfl,?_⟩,rtI rfl rfl,trivial⟩
 rw[jZ]
 exact dE _
def plcR (s:Svc) (b:Brn) (l:List Rpt):List Place × Int:=if givE s b l≠0 then ([],givE s b l) else (plsL s.c.M (metP (l.map (alwP s b))),0)
theorem ziI (s:Svc) (b:Brn) (l:List Rpt):Spec PP 23 [s.v,b.v,.d (lR l)] [.d (lP (plcR s b l).1),.d (.int .i64 (plcR s b l).2)]:=by
 refine sA Tryz.func23 ?_
 refine cR (zpu s b l) rfl rfl ?_
 by_cases h0:givE s b l=0
 ·have e:allR s b l=(l.map (alwP s b),0):=by unfold allR; rw[kF (fun hh=>hh h0)]
  have e1:plcR s b l=(plsL s.c.M (metP (l.map (alwP s b))),0):=by unfold plcR; rw[kF (fun hh=>hh h0)]
  have ok:=zco h0
  have hn:=ok.n
  rw[e,e1]
  refine sF ?_
  refine oN 6 ?_
  refine oP (zof (l.map (alwP s b)) (by rw[qA]; omega)) rfl rfl ?_
  refine oRo (znb s (metP (l.map (alwP s b))) ok.s.c.m) rfl rfl ?_
  exact⟨dE _,rtI rfl rfl,trivial⟩
 have e:allR s b l=([],givE s b l):=by unfold allR; rw[kG h0]
 have e1:plcR s b l=([],givE s b l):=by unfold plcR; rw[kG h0]
 rw[e,e1]
 refine sYe (by simpa using h0) ?_
 exact⟨⟨_,_,_,_,rfl,rfl,.inl rfl⟩,rtI rfl rfl,trivial⟩
end Go.Pg
