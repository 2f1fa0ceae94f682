/- Lemmas, joined by program. -/
import Derived.Test.YtcmghlfakcppkaaGreatJ9
import Derived.Shelf.Bits.Mul64
import Derived.Shelf.SlicesG.Delete
import Derived.Shelf.SlicesQ.Reverse
import Derived.KernelRfl
import Derived.Shelf.Sort.Plain
import Derived.Test.YtcmghlfakcppkaaGreatChecked
set_option maxHeartbeats 4000000
set_option linter.all false
namespace Go.Pg
open Go.RowKit Go.Proofs Go.Shelf Go.Sort Go.Lib
end Go.Pg
namespace Go.Proofs
open Go.Shelf Go.RowKit Go.Lib Go.Sort
def Tryz.srtI_ren:Go.Shelf.Ren:=⟨fun|189=>73|125=>103|257=>112|128=>151|129=>152|294=>178|295=>179|296=>180|297=>181|298=>182|299=>183|216=>184|300=>185|301=>186|328=>238|329=>216|330=>217|331=>239|332=>240|215=>220|343=>263|n=>n,fun|28=>22|3=>3|46=>182|0=>0|51=>226|53=>207|4=>4|183=>220|182=>219|131=>53|5=>5|9=>9|218=>290|222=>294|228=>332|229=>333|n=>n,fun|n=>n⟩
theorem Tryz.srtI:Go.Proofs.Lays.n189 Tryz.prog Tryz.srtI_ren:={
  mixed:=by kernel_rfl,
  f125:=Tryz.func103.trans (jI some (by kernel_rfl)),
  f128:=Tryz.func151.trans (jI some (by kernel_rfl)),
  f129:=Tryz.func152.trans (jI some (by kernel_rfl)),
  f189:=Tryz.func73.trans (jI some (by kernel_rfl)),
  f215:=Tryz.func220.trans (jI some (by kernel_rfl)),
  f216:=Tryz.func184.trans (jI some (by kernel_rfl)),
  f257:=Tryz.func112.trans (jI some (by kernel_rfl)),
  f294:=Tryz.func178.trans (jI some (by kernel_rfl)),
  f295:=Tryz.func179.trans (jI some (by kernel_rfl)),
  f296:=Tryz.func180.trans (jI some (by kernel_rfl)),
  f297:=Tryz.func181.trans (jI some (by kernel_rfl)),
  f298:=Tryz.func182.trans (jI some (by kernel_rfl)),
  f299:=Tryz.func183.trans (jI some (by kernel_rfl)),
  f300:=Tryz.func185.trans (jI some (by kernel_rfl)),
  f301:=Tryz.func186.trans (jI some (by kernel_rfl)),
  f328:=Tryz.func238.trans (jI some (by kernel_rfl)),
  f329:=Tryz.func216.trans (jI some (by kernel_rfl)),
  f330:=Tryz.func217.trans (jI some (by kernel_rfl)),
  f331:=Tryz.func239.trans (jI some (by kernel_rfl)),
  f332:=Tryz.func240.trans (jI some (by kernel_rfl)),
  f343:=Tryz.func263.trans (jI some (by kernel_rfl)),
  t0:=Tryz.underlying0,
  a0:=Tryz.isAgg0,
  z0:=Tryz.sizeOf0,
  v0:=Tryz.zeroValue0,
  t3:=Tryz.underlying3,
  a3:=Tryz.isAgg3,
  z3:=Tryz.sizeOf3,
  v3:=Tryz.zeroValue3,
  t4:=Tryz.underlying4,
  a4:=Tryz.isAgg4,
  z4:=Tryz.sizeOf4,
  v4:=Tryz.zeroValue4,
  t5:=Tryz.underlying5,
  a5:=Tryz.isAgg5,
  z5:=Tryz.sizeOf5,
  v5:=Tryz.zeroValue5,
  t9:=Tryz.underlying9,
  a9:=Tryz.isAgg9,
  z9:=Tryz.sizeOf9,
  v9:=Tryz.zeroValue9,
  t28:=Tryz.underlying22,
  a28:=Tryz.isAgg22,
  z28:=Tryz.sizeOf22,
  v28:=Tryz.zeroValue22,
  t46:=Tryz.underlying182,
  a46:=Tryz.isAgg182,
  z46:=Tryz.sizeOf182,
  v46:=Tryz.zeroValue182,
  t51:=Tryz.underlying226,
  a51:=Tryz.isAgg226,
  z51:=Tryz.sizeOf226,
  v51:=Tryz.zeroValue226,
  t53:=Tryz.underlying207,
  a53:=Tryz.isAgg207,
  z53:=Tryz.sizeOf207,
  v53:=Tryz.zeroValue207,
  t131:=Tryz.underlying53,
  a131:=Tryz.isAgg53,
  z131:=Tryz.sizeOf53,
  v131:=Tryz.zeroValue53,
  t182:=Tryz.underlying219,
  a182:=Tryz.isAgg219,
  z182:=Tryz.sizeOf219,
  v182:=Tryz.zeroValue219,
  t183:=Tryz.underlying220,
  a183:=Tryz.isAgg220,
  z183:=Tryz.sizeOf220,
  v183:=Tryz.zeroValue220,
  t218:=Tryz.underlying290,
  a218:=Tryz.isAgg290,
  z218:=Tryz.sizeOf290,
  v218:=Tryz.zeroValue290,
  t222:=Tryz.underlying294,
  a222:=Tryz.isAgg294,
  z222:=Tryz.sizeOf294,
  v222:=Tryz.zeroValue294,
  t228:=Tryz.underlying332,
  a228:=Tryz.isAgg332,
  z228:=Tryz.sizeOf332,
  v228:=Tryz.zeroValue332,
  t229:=Tryz.underlying333,
  a229:=Tryz.isAgg333,
  z229:=Tryz.sizeOf333,
  v229:=Tryz.zeroValue333 }
end Go.Proofs
set_option maxRecDepth 100000
namespace Go.Pg
open Go.Proofs Go.RowKit Go.Sort Go.Shelf
abbrev rowI(l:List Int):Nat->Nat->D:=fun i _=>I (l.getD i 0)
theorem zn4(l:List Int)(hn:l.length<=1000000):SpecR PP 73 [] [] 3 1 l.length (rowI l) (rowI (l.mergeSort fun x y=>decide (x<=y))) []:=
 zhy Tryz.srtI ⟨_,Tryz.func73,by kernel_rfl,by kernel_rfl⟩ 3 l hn
theorem ztG{m:Mp}{P:Nat->Bool}(hv:validM m=true):∀p∈plsL m P,onM m p=true:=fun p hp=>by
 unfold plsL plsK at hp
 obtain⟨n,hn,rfl⟩:=kJ.1 hp
 exact zp2 hv (kK.1 (kS.1 hn).1)
theorem zoi(s:Svc)(b:Brn)(l:List Rpt):(plcR s b l).1.length<=2401:=by
 unfold plcR
 split
 ·simp
 rename_i h
 have ok:=zfa (jL h)
 exact jM (zbH _ _ _) (zbF ok.s.c.m)
abbrev Lk.ds(x:Lk):List D:=[I x.Tower,I x.C,I x.Tick,I x.From,I x.To,I x.Slack]
theorem zpa(x:Cir)(a b:Int):drf x a b=drf x b a:=by
 unfold drf
 rw[show max (a-b) (b-a)=max (b-a) (a-b)by omega]
def cl2(x:Cir)(a b:Thg):Bool:=decide (drf x a.k.Tick b.k.Tick<gap a b)
theorem zgd(x:Cir)(a b:Thg):cl2 x a b=cl2 x b a:=by
 unfold cl2
 rw[zpa]
 apply qI.2
 unfold gap
 omega
def Fine(x:Cir)(l:List Thg):Prop:=(∀t∈l,noneB t=false)/\l.Pairwise fun a b=>cl2 x a b=false
theorem zmM{x:Cir}{l m:List Thg}(h:l.Perm m):Fine x l↔Fine x m:=by
 unfold Fine
 have h1:(∀t∈l,noneB t=false)↔∀t∈m,noneB t=false:=⟨fun g t ht=>g t (h.mem_iff.2 ht),fun g t ht=>g t (h.mem_iff.1 ht)⟩
 rw[h1,h.pairwise_iff (fun {a b} hab=>by rw[zgd];exact hab)]
theorem zfM{α:Type}[Inhabited α]{r:α->α->Prop}{l:List α}:l.Pairwise r↔∀i j,i<j->j<l.length->r (l.getD i default) (l.getD j default):=by
 rw[kN]
 constructor
 ·intro h i j hij hj
  have:=h i j (by omega) hj hij
  rw[hZ,hZ,kF (by omega),kF hj]
  exact this
 intro h i j hi hj hij
 have:=h i j hij hj
 rw[hZ,hZ,kF (by omega),kF hj]at this
 exact this
theorem zjF(x:Cir)(l:List Thg):clsL x l=[]↔Fine x l:=by
 have e1:clsL x l=[]↔∀i,i<l.length->clsI x l i=[]:=by
  unfold clsL clsU
  rw[List.flatMap_eq_nil_iff]
  exact⟨fun h i hi=>h i (kK.2 hi),fun h i hi=>h i (kK.1 hi)⟩
 have e2:∀i,i<l.length->(clsI x l i=[]↔noneB (l.getD i default)=false/\∀j,i<j->j<l.length->clB x (l.getD i default) (l.getD j default)=false):=fun i hi=>by
  unfold clsI
  cases hn:noneB (l.getD i default)with
  |true=>simp
  |false=>
  simp only[qT,jaG,true_and]
  unfold clsJ
  rw[List.map_eq_nil_iff,List.filter_eq_nil_iff]
  constructor
  ·intro h j hij hj
   have hm:l.getD j default∈(l.drop (i+1)).take (l.length-(i+1)):=by
    rw[List.take_of_length_le (by rw[jag];omega)]
    have:=gd1 (l:=l.drop (i+1)) (i:=j-(i+1)) (by rw[jag];omega) default
    rw[zo9 (by omega),show i+1+(j-(i+1))=j by omega]at this
    exact this
   have:=h _ hm
   simpa using this
  intro h t ht
  have ht:=qY ht
  obtain⟨j,hj,rfl⟩:=za4 default ht
  rw[jag]at hj
  rw[zo9 (by omega),h (i+1+j) (by omega) (by omega)]
  decide
 rw[e1]
 unfold Fine
 rw[zfM]
 constructor
 ·intro h
  refine⟨fun t ht=>?_,fun i j hij hj=>?_⟩
  ·obtain⟨i,hi,rfl⟩:=za4 default ht
   exact((e2 i hi).1 (h i hi)).1
  have h1:=((e2 i (by omega)).1 (h i (by omega))).2 j hij hj
  have h2:=((e2 j hj).1 (h j hj)).1
  unfold clB at h1
  rw[h2]at h1
  exact h1
 intro⟨h1,h2⟩ i hi
 refine(e2 i hi).2 ⟨h1 _ (gd1 hi default),fun j hij hj=>?_⟩
 have:=h2 i j hij hj
 unfold clB
 unfold cl2 at this
 rw[this,kW]
theorem zpD(x:Cir)(t:Int):∀(l:List Thg) (z:ZS) (y:Int),(l.foldl (zStep x t) z).lo<=y↔z.lo<=y/\∀g∈l,g.s.Lo-drf x g.k.Tick t<=y
 | [],z,y=>by simp
 |g::r,z,y=>by
  rw[jaE,zpD x t r,jbr]
  unfold zStep
  dsimp only
  constructor
  ·rintro⟨h1,h2⟩
   split at h1<;>exact⟨by omega,by omega,h2⟩
  rintro⟨h1,h2,h3⟩
  split<;>exact⟨by omega,h3⟩
theorem zpE(x:Cir)(t:Int):∀(l:List Thg) (z:ZS) (y:Int),y<=(l.foldl (zStep x t) z).hi↔y<=z.hi/\∀g∈l,y<=g.s.Hi+drf x g.k.Tick t
 | [],z,y=>by simp
 |g::r,z,y=>by
  rw[jaE,zpE x t r,jbr]
  unfold zStep
  dsimp only
  constructor
  ·rintro⟨h1,h2⟩
   split at h1<;>exact⟨by omega,by omega,h2⟩
  rintro⟨h1,h2,h3⟩
  split<;>exact⟨by omega,h3⟩
theorem zmx{l:List Rpt}{i:Nat}(hi:i<=l.length)(x:Int):((l.take i).map Rpt.ID).contains x=true↔∃j,j<i/\(l.getD j default).ID=x:=by
 rw[kD,kJ]
 constructor
 ·rintro⟨r,hr,rfl⟩
  obtain⟨j,hj,rfl⟩:=za4 default hr
  rw[jQ]at hj
  refine⟨j,by omega,?_⟩
  rw[hZ,hZ,jS,kH (by omega)]
 rintro⟨j,hj,rfl⟩
 refine⟨l.getD j default,?_,rfl⟩
 have:=gd1 (l:=l.take i) (i:=j) (by rw[jQ];omega) default
 rw[hZ,jS,kH hj,<- hZ]at this
 exact this
theorem zpM(l:List Rpt)(g:FuncId)(c0:D)(p:Rpt->Bool)(hn:l.length<=1000000)(hp:∀i,i<l.length->Spec PP g [(l.getD i default).v,.d c0] [B (p (l.getD i default))]):Spec PP 111 [.d (lR l),.d (cloB g [c0])] [N (idxL p l)]:=by
 refine sA Tryz.func111 ?_
 refine lOf (σ:=Nat) (fun i=>([(0,.d (lR l)),(1,.d (cloB g [c0])),(6,.d (lR l)),(7,.d (I l.length)),(8,.d (I i))],[])) (fun i=>i<=l.length/\∀j,j<i->p (l.getD j default)=false) (fun i=>l.length-i) 0
  ⟨rfl,trivial,wq rfl⟩ z0L fun i hi=>?_
 obtain⟨hi,ha⟩:=hi
 apply bY<;>intro h1
 ·have h1:i<l.length:=by have:=dT h1;omega
  refine⟨⟨rfl,by omega,by omega⟩,?_⟩
  refine cP (hp i h1) rfl rfl ?_
  apply bY<;>intro h2
  ·refine r1I rfl ?_
   exact(zaj default h1 h2 ha).symm
  refine⟨i6,?_⟩
  refine⟨i+1,⟨rfl,trivial,wq rfl⟩,⟨h1,fun j hj=>?_⟩,(msr (by omega))⟩
  by_cases e:j=i
  ·subst e;exact h2
  exact ha j (by omega)
 have h1:i=l.length:=by have:=dF h1;omega
 subst h1
 refine r1I rfl ?_
 exact(zam default ha).symm
theorem capB2(x y:D){f:Nat->D}(h0:f 0= .ptr 1 (getD' [x]))(h1:f 1= .ptr 1 (getD' [y])):∀j,j<2->D.eqv (f j) (getD' [capB [x],capB [y]] j)
 |0,_=>by rw[h0];exact dE _
 |1,_=>by rw[h1];exact dE _
abbrev rowRp(l:List Rpt):Nat->Nat->D:=fun i=>(l.getD i default).at
theorem ztx{vs:List Rpt}{p:Rpt}{g:Nat->Nat->D}(hg:∀j,j<8->D.eqv (g 0 j) (p.at j)):D.eqv (.slc 8 (vs.length+1) (appRow vs.length (rowRp vs) g)) (.slc 8 (vs++[p]).length (rowRp (vs++[p]))):=by
 refine⟨by simp,.inr ⟨rfl,fun i hi j hj=>?_⟩⟩
 show D.eqv (appRow vs.length (rowRp vs) g i j) (((vs++[p]).getD i default).at j)
 unfold appRow
 by_cases h:i<vs.length
 ·rw[kH h,hZ,jJ h,<- hZ]
  exact dE _
 have e:i=vs.length:=by omega
 subst e
 rw[kG h,kE,hZ,jK (jE _),kE]
 exact hg j hj
theorem zsS(l:List Rpt)(g:FuncId)(c0:D)(p:Rpt->Bool)(hn:l.length<=1000000)(hp:∀i,i<l.length->Spec PP g [(l.getD i default).v,.d c0] [B (p (l.getD i default))]):Spec PP 71 [.d (lR l),.d (cloB g [c0])] [B (l.any p)]:=by
 refine sA Tryz.func71 ?_
 refine cP (zpM l g c0 p hn hp) rfl rfl ?_
 refine r1B rfl ?_
 rw[kQ,kX]
 exact zbm p l default
theorem zoq(l:List Rpt)(hn:l.length<=1000000):SpecO PP 100 [.d (lR l)] 90 8 l.length (rowRp l):=by
 refine zdx Tryz.func100 rfl (by kernel_rfl) rfl ?_
 refine fun b hb=>?_
 apply bY<;>intro h1
 ·have h0:=hb h1
  refine⟨rfl,rfl,h0.symm,fun i hi=>?_⟩
  omega
 refine⟨⟨.inr rfl,by unfold maxLen;omega,by show(0+l.length)*64<=140737488355328;omega⟩,?_⟩
 refine⟨rfl,rfl,qB _,fun i hi j hj=>?_⟩
 exact dE _
theorem zqk(l:List Rpt)(m j:Nat):(rowRp l m j).flat=true:=by
 show((l.getD m default).at j).flat=true
 unfold Rpt.at
 split<;>rfl
theorem ztf(l:List Int)(x:Int)(hn:l.length<=1000000):Spec PP 88 [.d (lI l),N x] [N (idxL (· ==x) l)]:=by
 refine sA Tryz.func88 ?_
 refine lOf (σ:=Nat) (fun i=>([(0,.d (lI l)),(1,.d (I x)),(6,.d (lI l)),(7,.d (I l.length)),(8,.d (I i))],[])) (fun i=>i<=l.length/\∀j,j<i->(l.getD j 0==x)=false) (fun i=>l.length-i) 0
  ⟨rfl,trivial,wq rfl⟩ z0L fun i hi=>?_
 obtain⟨hi,ha⟩:=hi
 apply bY<;>intro h1
 ·have h1:i<l.length:=by have:=dT h1;omega
  refine⟨⟨rfl,by omega,by omega⟩,?_⟩
  apply bY<;>intro h2
  ·have h2:(l.getD i 0==x)=true:=by rw[BEq.comm];exact h2
   refine r1I rfl ?_
   exact(zaj 0 h1 h2 ha).symm
  have h2:(l.getD i 0==x)=false:=by rw[BEq.comm];exact h2
  refine⟨i6,?_⟩
  refine⟨i+1,⟨rfl,trivial,wq rfl⟩,⟨h1,fun j hj=>?_⟩,(msr (by omega))⟩
  by_cases e:j=i
  ·subst e;exact h2
  exact ha j (by omega)
 have h1:i=l.length:=by have:=dF h1;omega
 subst h1
 refine r1I rfl ?_
 exact(zam 0 ha).symm
theorem znk(l:List Int)(x:Int):l.any (· ==x)=l.contains x:=by
 rw[kQ,kM,kD]
 exact⟨fun⟨y,hy,e⟩=>by rw[<- eq_of_beq e];exact hy,fun h=>⟨x,h,by simp⟩⟩
theorem zdj(l:List Int)(x:Int)(hn:l.length<=1000000):Spec PP 46 [.d (lI l),N x] [B (l.contains x)]:=by
 refine sA Tryz.func46 ?_
 refine cP (ztf l x hn) rfl rfl ?_
 refine r1B rfl ?_
 rw[kQ,kX,<- znk]
 exact zbm (· ==x) l 0
theorem zq1(l:List Int)(g:FuncId)(c0:D)(p:Int->Bool)(hn:l.length<=1000000)(hp:∀i,i<l.length->Spec PP g [N (l.getD i 0),.d c0] [B (p (l.getD i 0))]):Spec PP 189 [.d (lI l),.d (cloB g [c0])] [N (idxL p l)]:=by
 refine sA Tryz.func189 ?_
 refine lOf (σ:=Nat) (fun i=>([(0,.d (lI l)),(1,.d (cloB g [c0])),(6,.d (lI l)),(7,.d (I l.length)),(8,.d (I i))],[])) (fun i=>i<=l.length/\∀j,j<i->p (l.getD j 0)=false) (fun i=>l.length-i) 0
  ⟨rfl,trivial,wq rfl⟩ z0L fun i hi=>?_
 obtain⟨hi,ha⟩:=hi
 apply bY<;>intro h1
 ·have h1:i<l.length:=by have:=dT h1;omega
  refine⟨⟨rfl,by omega,by omega⟩,?_⟩
  refine cP (hp i h1) rfl rfl ?_
  apply bY<;>intro h2
  ·refine r1I rfl ?_
   exact(zaj 0 h1 h2 ha).symm
  refine⟨i6,?_⟩
  refine⟨i+1,⟨rfl,trivial,wq rfl⟩,⟨h1,fun j hj=>?_⟩,(msr (by omega))⟩
  by_cases e:j=i
  ·subst e;exact h2
  exact ha j (by omega)
 have h1:i=l.length:=by have:=dF h1;omega
 subst h1
 refine r1I rfl ?_
 exact(zam 0 ha).symm
theorem zq2(l:List Int)(g:FuncId)(c0:D)(p:Int->Bool)(hn:l.length<=1000000)(hp:∀i,i<l.length->Spec PP g [N (l.getD i 0),.d c0] [B (p (l.getD i 0))]):Spec PP 116 [.d (lI l),.d (cloB g [c0])] [B (l.any p)]:=by
 refine sA Tryz.func116 ?_
 refine cP (zq1 l g c0 p hn hp) rfl rfl ?_
 refine r1B rfl ?_
 rw[kQ,kX]
 exact zbm p l 0
abbrev lII(l:List (List Int)):D:=.slc 1 l.length fun i _=>lI (l.getD i [])
theorem znP(l:List (List Int))(g:FuncId)(c0 c1:D)(p:List Int->Bool)(hn:l.length<=1000000)(hp:∀i,i<l.length->Spec PP g [.d (lI (l.getD i [])),.d c0,.d c1] [B (p (l.getD i []))]):Spec PP 77 [.d (lII l),.d (cloB g [c0,c1])] [N (idxL p l)]:=by
 refine sA Tryz.func77 ?_
 refine lOf (σ:=Nat) (fun i=>([(0,.d (lII l)),(1,.d (cloB g [c0,c1])),(6,.d (lII l)),(7,.d (I l.length)),(8,.d (I i))],[])) (fun i=>i<=l.length/\∀j,j<i->p (l.getD j [])=false) (fun i=>l.length-i) 0
  ⟨rfl,trivial,wq rfl⟩ z0L fun i hi=>?_
 obtain⟨hi,ha⟩:=hi
 apply bY<;>intro h1
 ·have h1:i<l.length:=by have:=dT h1;omega
  refine⟨⟨rfl,by omega,by omega⟩,?_⟩
  refine cP (hp i h1) rfl rfl ?_
  apply bY<;>intro h2
  ·refine r1I rfl ?_
   exact(zaj [] h1 h2 ha).symm
  refine⟨i6,?_⟩
  refine⟨i+1,⟨rfl,trivial,wq rfl⟩,⟨h1,fun j hj=>?_⟩,(msr (by omega))⟩
  by_cases e:j=i
  ·subst e;exact h2
  exact ha j (by omega)
 have h1:i=l.length:=by have:=dF h1;omega
 subst h1
 refine r1I rfl ?_
 exact(zam [] ha).symm
theorem znQ(l:List (List Int))(g:FuncId)(c0 c1:D)(p:List Int->Bool)(hn:l.length<=1000000)(hp:∀i,i<l.length->Spec PP g [.d (lI (l.getD i [])),.d c0,.d c1] [B (p (l.getD i []))]):Spec PP 34 [.d (lII l),.d (cloB g [c0,c1])] [B (l.any p)]:=by
 refine sA Tryz.func34 ?_
 refine cP (znP l g c0 c1 p hn hp) rfl rfl ?_
 refine r1B rfl ?_
 rw[kQ,kX]
 exact zbm p l []
@[irreducible] def filR(p:Rpt->Bool)(l:List Rpt)(j:Nat):List Rpt:=(l.take j).filter fun r=>!p r
theorem zb0(p:Rpt->Bool)(l:List Rpt){j:Nat}(hj:j<l.length):filR p l (j+1)=filR p l j++(if p (l.getD j default)=true then []else [l.getD j default]):=by
 unfold filR
 rw[zav hj default,kV]
 congr 1
 by_cases h:p (l.getD j default)=true
 ·rw[kH h,qF (by rw[h];decide)];rfl
 rw[kG h,qA (by rw[qW.2 h];rfl)];rfl
theorem zo6(p:Rpt->Bool)(l:List Rpt)(j:Nat):(filR p l j).length<=j:=by
 unfold filR
 exact jM (qD _ _) (by rw[jQ];omega)
theorem zjB(p:Rpt->Bool)(l:List Rpt){j:Nat}(hj:j<=l.length)(h:∀i,i<j->p (l.getD i default)=false):filR p l j=l.take j:=by
 induction j with
 |zero=>unfold filR;simp
 |succ j ih=>rw[zb0 p l (by omega),kG (by rw[h j (by omega)];decide),ih (by omega) fun i hi=>h i (by omega),zav (by omega) default]
structure Day where
  s:Svc
  Rise:Int
  Long:Int
  R:List Rpt
  deriving Inhabited
abbrev Day.ds(d:Day):List D:=[I d.s.c.M.W,I d.s.c.M.H,lI d.s.c.M.G,lT d.s.c.T,lZ d.s.c.Z,lC d.s.k.C,lK d.s.k.K,I d.Rise,I d.Long,lR d.R]
abbrev Day.v(d:Day):V1:=.agg d.ds
theorem zjj(n lo hi:Int):Spec PP 69 [N n,N lo,N hi] [B (within n lo hi)]:=by
 refine sA Tryz.func69 ?_
 unfold within
 apply bY<;>intro h1
 ·repeat first|apply sT|apply sF
  exact r1B rfl (by rw[h1,qE])
 repeat first|apply sT|apply sF
 exact r1B rfl (by rw[h1,qK])
def isSg(r:Rpt):Bool:=r.Kind==1
def sigK(l:List Rpt):List Int:=(l.filter isSg).map Rpt.ID
def sigL(l:List Rpt):List Int:=(sigK l).mergeSort fun x y=>decide (x<=y)
theorem zfx{l:List Rpt}{i:Nat}(h:i<l.length)(h1:isSg (l.getD i default)=true):sigK (l.take (i+1))=sigK (l.take i)++[(l.getD i default).ID]:=by
 unfold sigK
 rw[zav h default,kV,qA h1,jT];rfl
theorem zkZ{l:List Rpt}{i:Nat}(h:i<l.length)(h1:isSg (l.getD i default)=false):sigK (l.take (i+1))=sigK (l.take i):=by
 unfold sigK
 rw[zav h default,kV,qF (by rw[h1];decide)];simp
theorem zcC(l:List Rpt):(sigK l).length<=l.length:=by unfold sigK;rw[kO];exact qD _ _
theorem zbt(l:List Rpt):(sigL l).length=(sigK l).length:=qX _
theorem za7(d:Day)(hn:d.R.length<=1000000):Spec PP 30 [d.v] [.d (lI (sigL d.R))]:=by
 refine sA Tryz.func30 ?_
 refine lOf (σ:=Nat) (fun i=>([(3,.own 3),(7,.d (lR d.R)),(8,.d (I d.R.length)),(9,.d (I i))],[(3,.row 3 1 (sigK (d.R.take i)).length (rowI (sigK (d.R.take i))))])) (fun i=>i<=d.R.length) (fun i=>d.R.length-i) 0
  ⟨rfl,⟨obR rfl ⟨rfl,.inl rfl⟩,trivial⟩,wq rfl⟩ (jF _) fun i hi=>?_
 have hi:i<=d.R.length:=hi
 have hl:=zcC (d.R.take i)
 rw[jQ]at hl
 apply bY<;>intro h1
 ·have h1:i<d.R.length:=by have:=dT h1;omega
  refine⟨⟨rfl,by omega,by omega⟩,?_⟩
  apply bY<;>intro h2
  ·refine⟨⟨.inr rfl,by unfold maxLen;omega,by show((sigK (d.R.take i)).length+1)*8<=140737488355328;omega⟩,?_⟩
   refine⟨i6,?_⟩
   refine⟨i+1,⟨rfl,⟨obR rfl ?_,trivial⟩,wq rfl⟩,h1,msr h1⟩
   rw[zfx h1 h2]
   exact zlu rfl
  refine⟨i6,?_⟩
  refine⟨i+1,⟨rfl,⟨obR rfl ?_,trivial⟩,wq rfl⟩,h1,msr h1⟩
  rw[zkZ h1 h2]
  exact dE _
 have h1:i=d.R.length:=by have:=dF h1;omega
 subst h1
 rw[jZ]at hl⊢
 refine CallSt.rw' rfl (zn4 (sigK d.R) (by omega)) ⟨⟨[],.tmp 22,[],[],rfl,rfl,rfl,rfl,rfl,rfl,rfl⟩⟩ rfl ?_
 exact⟨⟨_,_,_,_,rfl,(zbt d.R).symm,.inr ⟨rfl,fun i _ j _=>dE _⟩⟩,trivial⟩
def risB(l:List Int):Bool:=(List.range (l.length-1)).all fun i=>decide (l.getD i 0<l.getD (i+1) 0)
def setB(l:List Int):Bool:=risB l&&decide (0<l.length)
theorem zrZ(l:List Int)(hn:l.length<=1000000):Spec PP 86 [.d (lI l)] [B (setB l)]:=by
 refine sA Tryz.func86 ?_
 refine lOf (σ:=Nat) (fun i=>([(0,.d (lI l)),(3,.d (I i))],[])) (fun i=>1<=i/\∀j,j+1<i->j+1<l.length->l.getD j 0<l.getD (j+1) 0) (fun i=>l.length-i) 1
  ⟨rfl,trivial,wq rfl⟩ ⟨jE _,fun j hj=>by omega⟩ fun i hi=>?_
 obtain⟨hi,ha⟩:=hi
 apply bY<;>intro h1
 ·have h1:i<l.length:=by have:=dT h1;omega
  refine oN 10 ?_
  refine⟨⟨rfl,by omega,by omega⟩,?_⟩
  refine⟨i6,?_⟩
  refine⟨⟨rfl,by omega,by omega⟩,?_⟩
  have e:((i:Int)-1).toNat=i-1:=by omega
  apply bY<;>intro h2
  ·have h2:=dT h2
   rw[e,wB]at h2
   refine r1B rfl ?_
   symm
   unfold setB risB
   rw[Bool.and_eq_false_iff];left
   rw[qW]
   intro h
   have:=jC.1 h (i-1) (kK.2 (by omega))
   rw[show i-1+1=i by omega]at this
   have:=kU this
   omega
  have h2:=dF h2
  rw[e,wB]at h2
  refine⟨i6,?_⟩
  refine⟨i+1,⟨rfl,trivial,wq rfl⟩,⟨by omega,fun j hj hl=>?_⟩,msr h1⟩
  by_cases ej:j+1=i
  ·have:j=i-1:=by omega
   subst this
   rw[show i-1+1=i by omega]
   omega
  exact ha j (by omega) hl
 have h1:l.length<=i:=by have:=dF h1;omega
 refine r1B rfl ?_
 unfold setB
 have:risB l=true:=jC.2 fun j hj=>by
  have:=kK.1 hj
  exact jG (ha j (by omega) (by omega))
 rw[this,qE]
 exact qI.2 (by omega)
def partB(a b:List Int):Bool:=a.all fun x=>b.contains x
theorem zrX(x:Int)(b:List Int)(hn:b.length<=1000000):Spec PP 117 [N x,.d (capB [lI b])] [B (!b.contains x)]:=by
 refine sA Tryz.func117 ?_
 refine cP (zdj b x hn) rfl rfl ?_
 exact r1B rfl rfl
theorem zqc(a b:List Int)(ha:a.length<=1000000)(hb:b.length<=1000000):Spec PP 79 [.d (lI a),.d (lI b)] [B (partB a b)]:=by
 refine sA Tryz.func79 ?_
 refine fEq [3] (zq2 a 117 (capB [lI b]) (fun x=>!b.contains x) ha fun i _=>zrX _ b hb) rfl ⟨dE _,⟨rfl,rfl,fun j hj=>by obtain rfl:j=0:=jap.1 hj;exact dE _⟩,trivial⟩ rfl ?_
 refine r1B rfl ?_
 unfold partB
 rw[kQ,jY,jay,jC]
 simp
section
variable {s:St}{o:Oper}{fo:Operand}{f:FuncId}{K:St->Prop}{E:Env}
theorem CallSt.tkF(ids:List Nat){args:Array Operand}{at':Array TypeId}(hop:o.op= .call { callee:=.value fo,args,argTypes:=at' }){pre post po:List V1}{i e k n n':Nat}{g g':Nat->Nat->D}(h:SpecT PP f pre post e k n g n' g')
  (ha:RowArgs (s.freezes ids) fo args.toList f pre i po)(he:eqV1s po post)(hi:(s.freezes ids).ob i=some (.row e k n g))(hk:K (remk (s.freezes ids) i (.row e k n' g') o.dst)):CallSt EN PP s o fo args.toList K:=by
 rw[zag]
 refine .inr (.inr (.inl ⟨_,⟨fun cx a w hD hd hR=>?_⟩,hk⟩))
 obtain⟨γ,hg⟩:=R.freezes ids hR
 obtain⟨caps,vs,us,xs,h1,h2,h3,h4,h5⟩:=zcE hg ha hi
 refine .enter (zaD hop h1 h.1) ?_
 rw[h2]
 refine(h.2 w _ vs us _ xs (fun b hb=>zal hg hb) h3 (zbj he h4) h5).mono fun en w' ⟨r,he,hgr,hbl,ys,y1,y2,y3⟩=>⟨r,he,?_⟩
 refine zc2 (o':=.row e k n' g') hg hi hd hgr (fun e=>by have:=hD e;cases this) (fun b hb=>hbl b hb) (fun ok hok=>⟨ys,by rw[zac];exact y1,(fun b hb=>?_),y2,fun m hm j hj=>?_⟩) (fun cs e=>by cases e)
 ·rw[zac]at hb
  rcases hbl b hb with h6|h6
  ·exact(zax hg hi h6).1
  exact .inl (jM hg.below.size h6)
 obtain⟨u,hu,hr⟩:=y3 m hm j hj
 exact⟨u,hu,Rep.keep0 (w:=w') (fun b hb=>hb.elim) hr⟩
end
theorem zbn{α:Type}(m:List α)(k i:Nat)(p d:α)(hk:k<m.length):(m.set k p).getD i d=if i=k then p else m.getD i d:=by
 rw[hZ,List.getElem?_set,hZ]
 by_cases h:k=i
 ·subst h;simp[hk]
 rw[kG h,kG fun e=>h e.symm]
theorem setRp{m:List Rpt}{n k k':Nat}{p q:Rpt}(hk:k<m.length)(e1:k'=k)(e2:q=p):D.eqv (.slc 8 n (storeRow (rowRp m) k' 0 [I q.ID,I q.Kind,I q.Tower,I q.C,I q.Tick,I q.From,I q.To,I q.Slack])) (.slc 8 n (rowRp (m.set k p))):=by
 subst e1;subst e2
 refine⟨rfl,.inr ⟨rfl,fun i hi j hj=>?_⟩⟩
 show D.eqv (storeRow (rowRp m) k' 0 _ i j) (((m.set k' q).getD i default).at j)
 rw[zbn m k' i q default hk]
 unfold storeRow
 by_cases h:i=k'
 ·rw[kH h,kH ⟨h,by omega,by simpa using hj⟩]
  match j,hj with
  |0,_=>exact⟨rfl,rfl⟩
  |1,_=>exact⟨rfl,rfl⟩
  |2,_=>exact⟨rfl,rfl⟩
  |3,_=>exact⟨rfl,rfl⟩
  |4,_=>exact⟨rfl,rfl⟩
  |5,_=>exact⟨rfl,rfl⟩
  |6,_=>exact⟨rfl,rfl⟩
  |7,_=>exact⟨rfl,rfl⟩
 rw[kG h,kG fun hh=>h hh.1]
 exact dE _
theorem zqR(p:Rpt->Bool)(g:FuncId)(c0:D)(hg:∀r:Rpt,Spec PP g [r.v,.d c0] [B (p r)])(l:List Rpt)(hn:l.length<=1000000):SpecT PP 99 [] [.d (cloB g [c0])] 90 8 l.length (rowRp l) (filR p l l.length).length (rowRp (filR p l l.length)):=by
 refine znI Tryz.func99 rfl (by kernel_rfl) (fun i _ j _=>zqk _ i j) rfl fun v=>?_
 refine cP (zpM l g c0 p hn fun i _=>hg _) rfl rfl ?_
 rcases idxL_cases p l default with⟨e0,h1⟩|⟨i,h1,e0,h2,h3⟩
 ·refine sYe (by rw[e0];rfl) ?_
  have e:filR p l l.length=l:=by rw[zjB p l (jE _) h1,jZ]
  rw[e]
  exact⟨rfl,rfl,rfl,fun i hi j hj=>dE _⟩
 refine sNo (by rw[e0];simp) ?_
 have ck:filR p l (i+1)=l.take i:=by rw[zb0 p l h1,kH h2,jat,zjB p l (by omega) h3]
 refine⟨by rw[e0];exact i6,?_⟩
 refine lOf (σ:=Nat×Nat×List Rpt) (fun x=>([(0,.own 0),(1,.d (cloB g [c0])),(5,.d (I x.2.1)),(6,.d (I x.1))],[(0,.row 90 8 l.length (rowRp x.2.2))]))
  (fun x=>i+1<=x.1/\x.1<=l.length/\x.2.2.length=l.length/\x.2.1<=x.1-1/\x.2.2.take x.2.1=filR p l x.1/\∀m,x.1<=m->x.2.2.getD m default=l.getD m default) (fun x=>l.length-x.1) (i+1,i,l)
  ⟨rfl,⟨obR rfl (dE _),trivial⟩,rfl,avQ rfl,?_,?_,trivial⟩ ⟨jE _,h1,rfl,by simp,ck.symm,fun _ _=>rfl⟩ fun x hx=>?_
 ·exact avQ (by rw[e0];rfl)
 ·exact avQ (by rw[e0];rfl)
 obtain⟨x1,x2,x3,x4,x5,x6⟩:=hx
 apply bY<;>intro g1
 ·have g1:x.1<l.length:=by have:=dT g1;omega
  have e1:x.2.2.getD (x.1:Int).toNat default=l.getD x.1 default:=by rw[wB,x6 x.1 (jE _)]
  refine⟨⟨by omega,by omega⟩,⟨by omega,?_⟩⟩
  refine cP (hg (x.2.2.getD (x.1:Int).toNat default)) rfl rfl ?_
  apply bY<;>intro g2
  ·have g2:p (l.getD x.1 default)=false:=by rw[e1]at g2;simpa using g2
   refine⟨⟨by omega,by omega⟩,⟨by omega,?_⟩⟩
   refine⟨i6,?_⟩
   refine⟨i6,?_⟩
   refine⟨(x.1+1,x.2.1+1,x.2.2.set x.2.1 (l.getD x.1 default)),⟨rfl,⟨obR rfl (setRp (by omega) (wB _) e1),trivial⟩,rfl,wq rfl⟩,⟨by omega,by omega,by simp;omega,(show x.2.1+1<=x.1+1-1 by omega),?_,fun m hm=>?_⟩,?_⟩
   ·show(x.2.2.set x.2.1 (l.getD x.1 default)).take (x.2.1+1)=filR p l (x.1+1)
    rw[zb0 p l g1,kG (by rw[g2];decide),zav (i:=x.2.1) (by simp;omega) default,zbn _ _ _ _ _ (by omega),kH rfl,<- x5,List.take_set_of_le (jE _)]
   ·have hm:x.1+1<=m:=hm
    show(x.2.2.set x.2.1 (l.getD x.1 default)).getD m default=_
    rw[zbn _ _ _ _ _ (by omega),kG (by omega)]
    exact x6 m (by omega)
   show l.length-(x.1+1)<l.length-x.1
   omega
  have g2:p (l.getD x.1 default)=true:=by rw[e1]at g2;simpa using g2
  refine⟨i6,?_⟩
  refine⟨(x.1+1,x.2.1,x.2.2),⟨rfl,⟨obR rfl (dE _),trivial⟩,rfl,wq rfl⟩,⟨by omega,by omega,x3,(show x.2.1<=x.1+1-1 by omega),?_,fun m hm=>x6 m (by have:x.1+1<=m:=hm;omega)⟩,?_⟩
  ·show x.2.2.take x.2.1=filR p l (x.1+1)
   rw[zb0 p l g1,kH g2,jat,x5]
  show l.length-(x.1+1)<l.length-x.1
  omega
 have g1:x.1=l.length:=by have:=dF g1;omega
 have hk':x.2.1=(filR p l l.length).length:=by
  have:=jI List.length x5
  rw[jQ,g1]at this
  omega
 refine⟨⟨rfl,by omega,by omega⟩,?_⟩
 refine⟨by omega,?_⟩
 refine⟨⟨by omega,by omega⟩,?_⟩
 refine⟨rfl,rfl,?_,fun i hi j hj=>?_⟩
 ·show(x.2.1:Int).toNat=_
  omega
 have e3:(filR p l l.length).getD i default=x.2.2.getD i default:=by
  rw[<- g1,<- x5,hZ,jS,kH (by omega),<- hZ]
 show D.eqv (clrRow (rowRp x.2.2) (x.2.1:Int).toNat (l.length-(x.2.1:Int).toNat) _ i j) (((filR p l l.length).getD i default).at j)
 unfold clrRow
 rw[kG (by omega),e3]
 exact dE _
def offB(ids:List Int)(r:Rpt):Bool:=(r.Kind==1)&& !ids.contains r.ID
def lstD(d:Day)(ids:List Int):List Rpt:=d.R.filter fun r=>!offB ids r
theorem zow(d:Day)(ids:List Int):(lstD d ids).length<=d.R.length:=qD _ _
theorem zrY(ids:List Int)(hi:ids.length<=1000000)(r:Rpt):Spec PP 101 [r.v,.d (capB [lI ids])] [B (offB ids r)]:=by
 refine sA Tryz.func101 ?_
 apply bY<;>intro h1
 ·have h1:(r.Kind==1)=true:=h1
  refine cP (zdj ids r.ID hi) rfl rfl ?_
  refine sT ?_
  exact r1B rfl (by unfold offB;rw[h1,qE])
 have h1:(r.Kind==1)=false:=h1
 refine sF ?_
 exact r1B rfl (by unfold offB;rw[h1,qK])
theorem zmo(d:Day)(ids:List Int)(hn:d.R.length<=1000000)(hi:ids.length<=1000000):Spec PP 62 [d.v,.d (lI ids)] [.d (lR (lstD d ids))]:=by
 have e:filR (offB ids) d.R d.R.length=lstD d ids:=by unfold filR lstD;rw[jZ]
 refine sA Tryz.func62 ?_
 refine CallSt.own (zoq d.R hn) rfl rfl (fun m j _ _=>zqk _ m j) ?_
 refine CallSt.tkF [3] rfl (zqR (offB ids) 101 (capB [lI ids]) (zrY ids hi) d.R hn) ⟨⟨[],.tmp 7,[.tmp 8],[],rfl,rfl,rfl,rfl,rfl,rfl,rfl⟩⟩ ⟨⟨rfl,rfl,fun j hj=>by obtain rfl:j=0:=jap.1 hj;exact dE _⟩,trivial⟩ rfl ?_
 rw[e]
 exact⟨⟨_,_,_,_,rfl,rfl,.inr ⟨rfl,fun i _ j _=>dE _⟩⟩,trivial⟩
def day1E(d:Day)(i:Nat):Int:=
 if crpE d.s (d.R.getD i default)≠0 then crpE d.s (d.R.getD i default)else if((d.R.take i).any fun x=>x.ID==(d.R.getD i default).ID)=true then 6 else 0
def dayE(d:Day):Int:=
 if svcE d.s≠0 then svcE d.s else if(!within d.Rise 0 200|| !within d.Long 0 1440)=true then 1
 else if 7<(sigK d.R).length\/10+(sigK d.R).length<d.R.length then 2 else err1 (day1E d) d.R.length
theorem zoP(x r:Rpt):Spec PP 72 [x.v,.d (capB r.ds)] [B (x.ID==r.ID)]:=by
 refine sA Tryz.func72 ?_
 exact r1B rfl rfl
theorem zrU(l:List Rpt){i:Nat}(h:i<=l.length):D.eqv (.slc 8 i fun m=>(l.getD m default).at) (lR (l.take i)):=by
 refine⟨by rw[jQ];omega,.inr ⟨rfl,fun m hm j _=>?_⟩⟩
 show D.eqv ((l.getD m default).at j) (((l.take i).getD m default).at j)
 rw[hZ,hZ,jS,kH hm]
 exact dE _
theorem zcu(d:Day)(hn:d.R.length<=1000000):Spec PP 29 [d.v] [.d (.int .i64 (dayE d))]:=by
 refine sA Tryz.func29 ?_
 refine cP (zhY d.s) rfl rfl ?_
 apply bY<;>intro h0
 ·refine r1I rfl ?_
  unfold dayE;rw[kH (by simpa using h0)]
 have h0:svcE d.s=0:=by simpa using h0
 refine cP (zjj d.Rise 0 200) rfl rfl ?_
 apply bY<;>intro h1
 ·have h1:(!within d.Rise 0 200)=true:=h1
  repeat first|apply sT|apply sF
  refine r1I rfl ?_
  unfold dayE;rw[kG (fun hh=>hh h0),kH (by rw[h1];rfl)]
 have h1:(!within d.Rise 0 200)=false:=h1
 refine cP (zjj d.Long 0 1440) rfl rfl ?_
 repeat first|apply sT|apply sF
 apply bY<;>intro h2
 ·have h2:(!within d.Long 0 1440)=true:=h2
  refine r1I rfl ?_
  unfold dayE;rw[kG (fun hh=>hh h0),kH (by rw[h1,h2];rfl)]
 have h2:(!within d.Long 0 1440)=false:=h2
 refine cR (za7 d hn) rfl rfl ?_
 have e1:(sigL d.R).length=(sigK d.R).length:=zbt d.R
 have eg:dayE d=if 7<(sigK d.R).length\/10+(sigK d.R).length<d.R.length then 2 else err1 (day1E d) d.R.length:=by
  unfold dayE;rw[kG (fun hh=>hh h0),kG (by rw[h1,h2];decide)]
 rw[eg]
 apply bY<;>intro h3
 ·have h3:7<(sigK d.R).length:=by have:(7:Int)<(sigL d.R).length:=dT h3;omega
  repeat first|apply sT|apply sF
  refine r1I rfl ?_
  rw[kH (.inl h3)]
 have h3:¬7<(sigK d.R).length:=by have:¬(7:Int)<(sigL d.R).length:=dF h3;omega
 refine⟨i6,?_⟩
 repeat first|apply sT|apply sF
 apply bY<;>intro h4
 ·have h4:10+(sigK d.R).length<d.R.length:=by have:(10:Int)<(d.R.length:Int)-(sigL d.R).length:=dT h4;omega
  refine r1I rfl ?_
  rw[kH (.inr h4)]
 have h4:¬10+(sigK d.R).length<d.R.length:=by have:¬(10:Int)<(d.R.length:Int)-(sigL d.R).length:=dF h4;omega
 rw[kG (fun h=>h.elim h3 h4)]
 have hl:d.R.length<=17:=by omega
 refine lOf (σ:=Nat) (fun i=>([(1,.box 1 0),(38,.d (lR d.R)),(39,.d (I d.R.length)),(40,.d (I i))],[(1,.box (d.ds.map AV.d))])) (fun i=>i<=d.R.length/\∀j,j<i->day1E d j=0) (fun i=>d.R.length-i) 0
  ⟨rfl,⟨obD d.ds rfl,trivial⟩,wq rfl⟩ z0L fun i hi=>?_
 obtain⟨hi,ha⟩:=hi
 apply bY<;>intro h5
 ·have h5:i<d.R.length:=by have:=dT h5;omega
  refine⟨⟨rfl,by omega,by omega⟩,?_⟩
  refine cP (zf2 d.s (d.R.getD i default)) rfl rfl ?_
  apply bY<;>intro h6
  ·have h6:crpE d.s (d.R.getD i default)≠0:=by simpa using h6
   have e2:day1E d i=crpE d.s (d.R.getD i default):=by unfold day1E;rw[kH h6]
   refine r1I rfl ?_
   rw[zan ha (by rw[e2];exact h6) h5,e2]
  have h6:crpE d.s (d.R.getD i default)=0:=by simpa using h6
  refine⟨⟨.inr rfl,by omega,by omega⟩,?_⟩
  refine fEq [6] (zsS (d.R.take i) 72 (capB (d.R.getD i default).ds) (fun x=>x.ID==(d.R.getD i default).ID) (by rw[jQ];omega) fun k _=>zoP _ _) rfl ⟨zrU d.R hi,⟨rfl,rfl,fun j hj=>?_⟩,trivial⟩ rfl ?_
  ·obtain rfl:j=0:=jap.1 hj
   exact dE _
  apply bY<;>intro h7
  ·have e2:day1E d i=6:=by unfold day1E;rw[kG (fun hh=>hh h6),kH h7]
   refine r1I rfl ?_
   rw[zan ha (by rw[e2];decide) h5,e2]
  have e2:day1E d i=0:=by unfold day1E;rw[kG (fun hh=>hh h6),kG (by rw[show((d.R.take i).any fun x=>x.ID==(d.R.getD i default).ID)=false from h7];decide)]
  refine⟨i6,?_⟩
  refine⟨i+1,⟨rfl,⟨obD d.ds rfl,trivial⟩,wq rfl⟩,⟨h5,fun j hj=>?_⟩,msr h5⟩
  by_cases e:j=i
  ·subst e;exact e2
  exact ha j (by omega)
 have h5:i=d.R.length:=by have:=dF h5;omega
 subst h5
 refine r1I rfl ?_
 rw[zaJ ha]
def askE(d:Day)(ids:List Int):Int:=if dayE d≠0 then dayE d else if setB ids=false then 1 else if partB ids (sigL d.R)=false then 5 else 0
theorem zmq(d:Day)(ids:List Int)(hn:d.R.length<=1000000)(hi:ids.length<=1000000):Spec PP 53 [d.v,.d (lI ids)] [.d (.int .i64 (askE d ids))]:=by
 refine sA Tryz.func53 ?_
 refine cP (zcu d hn) rfl rfl ?_
 apply bY<;>intro h0
 ·refine r1I rfl ?_
  unfold askE;rw[kH (by simpa using h0)]
 have h0:dayE d=0:=by simpa using h0
 refine cP (zrZ ids hi) rfl rfl ?_
 apply bY<;>intro h1
 ·have h1:setB ids=false:=by simpa using h1
  refine r1I rfl ?_
  unfold askE;rw[kG (fun hh=>hh h0),kH h1]
 have h1:setB ids=true:=by simpa using h1
 have hs:(sigL d.R).length<=1000000:=by rw[zbt];exact jM (zcC _) hn
 refine cR (za7 d hn) rfl rfl ?_
 refine cP (zqc ids (sigL d.R) hi hs) rfl rfl ?_
 apply bY<;>intro h2
 ·have h2:partB ids (sigL d.R)=false:=by simpa using h2
  refine r1I rfl ?_
  unfold askE;rw[kG (fun hh=>hh h0),kG (by rw[h1];decide),kH h2]
 have h2:partB ids (sigL d.R)=true:=by simpa using h2
 refine r1I rfl ?_
 unfold askE;rw[kG (fun hh=>hh h0),kG (by rw[h1];decide),kG (by rw[h2];decide)]
def brn1(ids:List Int)(x:Bool×Int×Int)(r:Rpt):Bool×Int×Int:=if ids.contains r.ID=true then(true,min (if x.1=true then x.2.1 else r.Tick) r.Tick,max (if x.1=true then x.2.2 else r.Tick) r.Tick)else x
def brnS(ids:List Int)(l:List Rpt):Bool×Int×Int:=l.foldl (brn1 ids) (false,0,0)
def brnD(d:Day)(ids:List Int):Brn:=⟨(brnS ids d.R).2.1,(brnS ids d.R).2.2,d.Rise⟩
theorem zcT(ids:List Int)(l:List Rpt){i:Nat}(h:i<l.length):brnS ids (l.take (i+1))=brn1 ids (brnS ids (l.take i)) (l.getD i default):=by
 unfold brnS
 rw[zav h default,wJ];rfl
theorem zmp(d:Day)(ids:List Int)(hn:d.R.length<=1000000)(hi:ids.length<=1000000):Spec PP 59 [d.v,.d (lI ids)] [(brnD d ids).v]:=by
 refine sA Tryz.func59 ?_
 refine lOf (σ:=Nat) (fun i=>([(1,.d (lI ids)),(2,.box 2 0),(4,.box 4 0),(5,.box 5 0),(6,.d (.bool (brnS ids (d.R.take i)).1)),(13,.d (lR d.R)),(14,.d (I d.R.length)),(15,.d (I i))],
   [(2,.box (d.ds.map AV.d)),(4,.box ([I 0,I 0,I 0].map AV.d)),(5,.box ([I (brnS ids (d.R.take i)).2.1,I (brnS ids (d.R.take i)).2.2,I d.Rise].map AV.d))])) (fun i=>i<=d.R.length) (fun i=>d.R.length-i) 0
  ⟨rfl,⟨obD d.ds rfl,obD [I 0,I 0,I 0] rfl,obD [I 0,I 0,I d.Rise] rfl,trivial⟩,wq rfl⟩ (jF _) fun i hi'=>?_
 have hi':i<=d.R.length:=hi'
 apply bY<;>intro h1
 ·have h1:i<d.R.length:=by have:=dT h1;omega
  have es:=zcT ids d.R h1
  refine⟨⟨rfl,by omega,by omega⟩,?_⟩
  refine cP (zdj ids (d.R.getD i default).ID hi) rfl rfl ?_
  apply bY<;>intro h2
  ·have h2:ids.contains (d.R.getD i default).ID=false:=by simpa using h2
   have e:brnS ids (d.R.take (i+1))=brnS ids (d.R.take i):=by rw[es];unfold brn1;rw[kG (by rw[h2];decide)]
   refine⟨i6,?_⟩
   refine⟨i+1,⟨rfl,⟨obD d.ds rfl,obD [I 0,I 0,I 0] rfl,?_,trivial⟩,?_⟩,h1,msr h1⟩
   ·rw[e];exact obD [I _,I _,I _] rfl
   rw[e];exact wq rfl
  have h2:ids.contains (d.R.getD i default).ID=true:=by simpa using h2
  apply bY<;>intro h3
  ·have h3:(brnS ids (d.R.take i)).1=false:=by simpa using h3
   have e:brnS ids (d.R.take (i+1))=(true,min (d.R.getD i default).Tick (d.R.getD i default).Tick,max (d.R.getD i default).Tick (d.R.getD i default).Tick):=by rw[es];unfold brn1;rw[kH h2,h3];rfl
   refine oL [0,1,2,4,4003,5,6,7,8] (FzOb.fz [8] ⟨rfl,?_⟩)
   refine oL [0,1,2,3,4,5,6,7,10,4008,9,11,12,13] (FzOb.fz [8] ⟨rfl,?_⟩)
   refine⟨i6,?_⟩
   refine⟨i+1,⟨rfl,⟨obD d.ds rfl,obD [I 0,I 0,I 0] rfl,?_,trivial⟩,?_⟩,h1,msr h1⟩
   ·rw[e];exact obD [I _,I _,I _] rfl
   rw[e];exact wq rfl
  have h3:(brnS ids (d.R.take i)).1=true:=by simpa using h3
  have e:brnS ids (d.R.take (i+1))=(true,min (brnS ids (d.R.take i)).2.1 (d.R.getD i default).Tick,max (brnS ids (d.R.take i)).2.2 (d.R.getD i default).Tick):=by rw[es];unfold brn1;rw[kH h2,kH h3,kH h3]
  refine oL [0,1,2,3,4,5,6,7,10,4008,9,11,12,13] (FzOb.fz [8] ⟨rfl,?_⟩)
  refine⟨i6,?_⟩
  refine⟨i+1,⟨rfl,⟨obD d.ds rfl,obD [I 0,I 0,I 0] rfl,?_,trivial⟩,?_⟩,h1,msr h1⟩
  ·rw[e];exact obD [I _,I _,I _] rfl
  rw[e];exact⟨avQ rfl,avQ rfl,avQ rfl,avQ rfl,avQ (jI (fun b=>AV.d (.bool b)) h3),avQ rfl,avQ rfl,avQ rfl,trivial⟩
 have h1:i=d.R.length:=by have:=dF h1;omega
 subst h1
 rw[jZ]
 exact⟨rtC (a:=4) rfl rfl rfl rfl rfl rfl (zaa _),trivial⟩
theorem zh1(d:Day)(b:Brn)(hb:inR .i64 (b.To-b.From)):Spec PP 60 [d.v,b.v] [B (decide (b.To-b.From<=d.Long))]:=by
 refine sA Tryz.func60 ?_
 refine⟨hb,?_⟩
 exact r1B rfl rfl
structure DayOk(d:Day):Prop where
  s:svcE d.s=0
  rise:within d.Rise 0 200=true
  long:within d.Long 0 1440=true
  sg:(sigK d.R).length<=7
  bl:d.R.length<=10+(sigK d.R).length
  rp:∀i,i<d.R.length->crpE d.s (d.R.getD i default)=0
  tw:∀i,i<d.R.length->((d.R.take i).any fun x=>x.ID==(d.R.getD i default).ID)=false
theorem zaN{d:Day}(h:dayE d=0):DayOk d:=by
 unfold dayE at h
 split at h
 ·rename_i h1;exact absurd h h1
 rename_i h1
 split at h
 ·cases h
 rename_i h2
 split at h
 ·cases h
 rename_i h3
 have a:=zbr h
 have A:∀i,i<d.R.length->crpE d.s (d.R.getD i default)=0/\((d.R.take i).any fun x=>x.ID==(d.R.getD i default).ID)=false:=fun i hi=>by
  have:=a i hi
  unfold day1E at this
  split at this
  ·rename_i h4;exact absurd this h4
  rename_i h4
  split at this
  ·cases this
  rename_i h5
  exact⟨jL h4,by simpa using h5⟩
 have h2:within d.Rise 0 200=true/\within d.Long 0 1440=true:=by
  cases e1:within d.Rise 0 200<;>cases e2:within d.Long 0 1440<;>simp_all
 exact⟨jL h1,h2.1,h2.2,by omega,by omega,fun i hi=>(A i hi).1,fun i hi=>(A i hi).2⟩
theorem DayOk.n{d:Day}(h:DayOk d):d.R.length<=17:=by have:=h.sg;have:=h.bl;omega
theorem zjX{n lo hi:Int}(h:within n lo hi=true):lo<=n/\n<=hi:=by
 unfold within at h
 simpa using h
theorem DayOk.tick{d:Day}(h:DayOk d){i:Nat}(hi:i<d.R.length):0<=(d.R.getD i default).Tick/\(d.R.getD i default).Tick<=1048576:=by
 have h1:=(zuF (h.rp i hi)).2.2
 unfold frmB frmC at h1
 have:within (d.R.getD i default).Tick 0 1048576=true:=by
  cases e:within (d.R.getD i default).Tick 0 1048576 with
  |true=>rfl
  |false=>rw[e]at h1;simp at h1
 exact zjX this
theorem znb{d:Day}(h:DayOk d)(ids:List Int):∀i,i<=d.R.length->0<=(brnS ids (d.R.take i)).2.1/\(brnS ids (d.R.take i)).2.1<=1048576/\0<=(brnS ids (d.R.take i)).2.2/\(brnS ids (d.R.take i)).2.2<=1048576
 |0,_=>by simp[brnS]
 |i+1,hi=>by
  obtain⟨a1,a2,a3,a4⟩:=znb h ids i (by omega)
  obtain⟨b1,b2⟩:=h.tick (show i<d.R.length by omega)
  rw[zcT ids d.R (by omega)]
  unfold brn1
  split
  ·show 0<=min _ _/\min _ _<=_/\0<=max _ _/\max _ _<=_
   split<;>omega
  exact⟨a1,a2,a3,a4⟩
theorem zij{d:Day}(h:DayOk d)(ids:List Int):inR .i64 ((brnD d ids).To-(brnD d ids).From):=by
 have:=znb h ids d.R.length (jE _)
 rw[jZ]at this
 show inR .i64 ((brnS ids d.R).2.2-(brnS ids d.R).2.1)
 exact i6
def plsD(d:Day)(ids:List Int):List Place:=if(brnD d ids).To-(brnD d ids).From<=d.Long then(plcR d.s (brnD d ids) (lstD d ids)).1 else []
theorem zf3{d:Day}(h:DayOk d)(ids:List Int)(hi:ids.length<=1000000):Spec PP 45 [d.v,.d (lI ids)] [.d (lP (plsD d ids))]:=by
 have hn:=h.n
 refine sA Tryz.func45 ?_
 refine cP (zmp d ids (by omega) hi) rfl rfl ?_
 refine cP (zh1 d (brnD d ids) (zij h ids)) rfl rfl ?_
 apply bY<;>intro h1
 ·have h1:¬(brnD d ids).To-(brnD d ids).From<=d.Long:=by simpa using h1
  have e:plsD d ids=[]:=by unfold plsD;rw[kG h1]
  rw[e]
  exact⟨⟨_,_,_,_,rfl,rfl,.inl rfl⟩,trivial⟩
 have h1:(brnD d ids).To-(brnD d ids).From<=d.Long:=by simpa using h1
 have e:plsD d ids=(plcR d.s (brnD d ids) (lstD d ids)).1:=by unfold plsD;rw[kH h1]
 rw[e]
 refine oN 12 ?_
 refine oRo (zmo d ids (by omega) hi) rfl rfl ?_
 refine oRo (zoF d.s (brnD d ids) (lstD d ids)) rfl rfl ?_
 exact⟨dE _,trivial⟩
def offS(a i:Nat):Nat:=a&&&(127-2^i)
def onS(a i:Nat):Nat:=a|||2^i
theorem al7L{n m:Nat}{P:Nat->Nat->Bool}(h:((List.range n).all fun a=>(List.range m).all (P a))=true){a i:Nat}(ha:a<n)(hi:i<m):P a i=true:=
 jC.1 (jC.1 h a (kK.2 ha)) i (kK.2 hi)
theorem bShl{i:Nat}(hi:i<=7):IntKind.wrap .i64 (1*2^(min ((i:Nat):Int).toNat 64))=((2^i:Nat):Int):=by
 have:∀i,i<8->IntKind.wrap .i64 (1*2^(min ((i:Nat):Int).toNat 64))=((2^i:Nat):Int):=by decide
 exact this i (by omega)
theorem bOff{a i:Nat}(ha:a<128)(hi:i<7):IntKind.wrap .i64 ((BitVec.ofInt 64 (a:Int)&&& ~~~ BitVec.ofInt 64 (IntKind.wrap .i64 (1*2^(min ((i:Nat):Int).toNat 64)))).toNat:Int)=((offS a i:Nat):Int):=by
 have:=al7L (n:=128) (m:=7) (P:=fun a i=>decide (IntKind.wrap .i64 ((BitVec.ofInt 64 (a:Int)&&& ~~~ BitVec.ofInt 64 (IntKind.wrap .i64 (1*2^(min ((i:Nat):Int).toNat 64)))).toNat:Int)=((offS a i:Nat):Int))) (by decide+kernel) ha hi
 exact kU this
theorem bOn{a i:Nat}(ha:a<128)(hi:i<7):IntKind.wrap .i64 ((BitVec.ofInt 64 (a:Int)|||BitVec.ofInt 64 (IntKind.wrap .i64 (1*2^(min ((i:Nat):Int).toNat 64)))).toNat:Int)=((onS a i:Nat):Int):=by
 have:=al7L (n:=128) (m:=7) (P:=fun a i=>decide (IntKind.wrap .i64 ((BitVec.ofInt 64 (a:Int)|||BitVec.ofInt 64 (IntKind.wrap .i64 (1*2^(min ((i:Nat):Int).toNat 64)))).toNat:Int)=((onS a i:Nat):Int))) (by decide+kernel) ha hi
 exact kU this
theorem bHas{a i:Nat}(ha:a<128)(hi:i<7):(IntKind.wrap .i64 ((BitVec.ofInt 64 ((a:Int).fdiv (2^(min ((i:Nat):Int).toNat 64)))&&&BitVec.ofInt 64 1).toNat:Int)==1)=a.testBit i:=by
 have:=al7L (n:=128) (m:=7) (P:=fun a i=>decide ((IntKind.wrap .i64 ((BitVec.ofInt 64 ((a:Int).fdiv (2^(min ((i:Nat):Int).toNat 64)))&&&BitVec.ofInt 64 1).toNat:Int)==1)=a.testBit i)) (by decide+kernel) ha hi
 exact kU this
theorem ztU{a i:Nat}(ha:a<128)(hi:i<7):onS a i<128:=Nat.or_lt_two_pow (n:=7) ha (Nat.pow_lt_pow_right (by decide) hi)
def membA(ids:List Int)(set i:Nat):List Int:=((List.range i).filter (set.testBit ·)).map (ids.getD · 0)
def memb(ids:List Int)(set:Nat):List Int:=membA ids set ids.length
theorem zbW{ids:List Int}{set i:Nat}(h:set.testBit i=true):membA ids set (i+1)=membA ids set i++[ids.getD i 0]:=by
 unfold membA
 rw[qU,kV,qA h,jT];rfl
theorem zcK{ids:List Int}{set i:Nat}(h:set.testBit i=false):membA ids set (i+1)=membA ids set i:=by
 unfold membA
 rw[qU,kV,qF (by rw[h];decide)];simp
theorem zbl(ids:List Int)(set i:Nat):(membA ids set i).length<=i:=by
 unfold membA
 rw[kO]
 exact jM (qD _ _) (by rw[List.length_range];exact jE _)
theorem zgW(ids:List Int)(set:Nat)(hn:ids.length<=7)(hs:set<128):Spec PP 55 [.d (lI ids),N (set:Int)] [.d (lI (memb ids set))]:=by
 refine sA Tryz.func55 ?_
 refine lOf (σ:=Nat) (fun i=>([(1,.d (I set)),(5,.own 5),(8,.d (lI ids)),(9,.d (I ids.length)),(10,.d (I i))],[(5,.row 3 1 (membA ids set i).length (rowI (membA ids set i)))])) (fun i=>i<=ids.length) (fun i=>ids.length-i) 0
  ⟨rfl,⟨obR rfl ⟨rfl,.inl rfl⟩,trivial⟩,wq rfl⟩ (jF _) fun i hi=>?_
 have hi:i<=ids.length:=hi
 have hl:=zbl ids set i
 apply bY<;>intro h1
 ·have h1:i<ids.length:=by have:=dT h1;omega
  refine⟨⟨rfl,by omega,by omega⟩,?_⟩
  refine⟨by omega,?_⟩
  apply bY<;>intro h2
  ·have h2:set.testBit i=true:=by rw[<- bHas hs (show i<7 by omega)];exact h2
   refine⟨⟨.inr rfl,by unfold maxLen;omega,by show((membA ids set i).length+1)*8<=140737488355328;omega⟩,?_⟩
   refine⟨i6,?_⟩
   refine⟨i+1,⟨rfl,⟨obR rfl ?_,trivial⟩,wq rfl⟩,h1,msr h1⟩
   rw[zbW h2]
   exact zlu rfl
  have h2:set.testBit i=false:=by rw[<- bHas hs (show i<7 by omega)];exact h2
  refine⟨i6,?_⟩
  refine⟨i+1,⟨rfl,⟨obR rfl ?_,trivial⟩,wq rfl⟩,h1,msr h1⟩
  rw[zcK h2]
  exact dE _
 have h1:i=ids.length:=by have:=dF h1;omega
 subst h1
 exact⟨⟨_,_,_,_,rfl,rfl,.inr ⟨rfl,fun i _ j _=>dE _⟩⟩,trivial⟩
abbrev celD(d:Day)(set:Nat):List Place:=plsD d (memb (sigL d.R) set)
abbrev keyN(ks:List Nat):List (List Int):=ks.map fun k=>[((k:Nat):Int)]
abbrev cmap(d:Day)(ks:List Nat):D:=.mp 1 (keyN ks) fun j=>lP (celD d (ks.getD j 0))
abbrev lkV(d:Day)(ks:List Nat):V1:=.agg (d.ds++[lI (sigL d.R),cmap d ks])
def fitK(d:Day)(ks:List Nat)(set:Nat):Bool:=ks.contains set&&decide (0<(celD d set).length)
theorem idxN:∀(ks:List Nat) (k:Nat),(keyN ks).idxOf [((k:Nat):Int)]=ks.idxOf k
 | [],_=>rfl
 |a::r,k=>by
  show List.idxOf _ ([((a:Nat):Int)]::keyN r)=_
  rw[List.idxOf_cons,List.idxOf_cons,idxN r k]
  by_cases h:a=k
  ·subst h;simp
  have h1:([((a:Nat):Int)]==[((k:Nat):Int)])=false:=by simp only[jax,ne_eq,jas,and_true];omega
  have h2:(a==k)=false:=by simpa using h
  rw[h1,h2]
theorem zp7(d:Day)(ks:List Nat)(k:Nat):D.eqv (lkD (keyN ks) (fun j=>lP (celD d (ks.getD j 0))) [((k:Nat):Int)] .nil) (lP (if ks.contains k=true then celD d k else [])):=by
 unfold lkD
 rw[idxN,kO]
 by_cases h:ks.contains k=true
 ·have hm:k∈ks:=kD.1 h
  have hl:=jbc.2 hm
  rw[kH hl,kH h]
  have:ks.getD (ks.idxOf k) 0=k:=by
   rw[hZ,kF hl]
   exact List.getElem_idxOf hl
  show D.eqv (lP (celD d (ks.getD (ks.idxOf k) 0))) _
  rw[this]
  exact dE _
 have hm:k∉ks:=fun hm=>h (kD.2 hm)
 rw[kG (fun hl=>hm (jbc.1 hl)),kG h]
 rfl
theorem ze6(d:Day)(ks:List Nat)(set:Nat):Spec PP 56 [lkV d ks,N (set:Int)] [B (fitK d ks set)]:=by
 refine sA Tryz.func56 ?_
 refine⟨⟨kInt,rfl⟩,_,zp7 d ks set,?_⟩
 refine r1B rfl ?_
 unfold fitK
 by_cases h:ks.contains set=true
 ·rw[kH h,h,qE]
  exact qI.2 (by omega)
 rw[kG h,qW.2 h];rfl
def parK(d:Day)(ks:List Nat)(set i:Nat):Bool:=(offS set i==set)||(offS set i==0)||fitK d ks (offS set i)
def partK(d:Day)(ks:List Nat)(set:Nat):Bool:=(List.range (sigL d.R).length).all (parK d ks set)
def groK(d:Day)(ks:List Nat)(set i:Nat):Bool:=(onS set i != set)&&fitK d ks (onS set i)
def growK(d:Day)(ks:List Nat)(set:Nat):Bool:=(List.range (sigL d.R).length).any (groK d ks set)
theorem neT{a b:Nat}(h:((a:Int) != (b:Int))=true):¬a=b:=fun e=>by subst e;simp at h
theorem neF{a b:Nat}(h:((a:Int) != (b:Int))=false):a=b:=by
 have:(a:Int)=b:=by simpa using h
 omega
theorem sig7{d:Day}(h:DayOk d):(sigL d.R).length<=7:=by rw[zbt];exact h.sg
theorem zmn(d:Day)(ks:List Nat)(set:Nat)(hn:(sigL d.R).length<=7)(hs:set<128):Spec PP 58 [lkV d ks,N (set:Int)] [B (partK d ks set)]:=by
 refine sA Tryz.func58 ?_
 refine lOf (σ:=Nat) (fun i=>([(1,.d (I set)),(2,.box 2 0),(8,.d (lI (sigL d.R))),(9,.d (I (sigL d.R).length)),(10,.d (I i))],[(2,.box ((d.ds++[lI (sigL d.R),cmap d ks]).map AV.d))])) (fun i=>i<=(sigL d.R).length/\∀j,j<i->parK d ks set j=true) (fun i=>(sigL d.R).length-i) 0
  ⟨rfl,⟨obD (d.ds++[lI (sigL d.R),cmap d ks]) rfl,trivial⟩,wq rfl⟩ z0L fun i hi=>?_
 obtain⟨hi,ha⟩:=hi
 apply bY<;>intro h1
 ·have h1:i<(sigL d.R).length:=by have:=dT h1;omega
  have eo:=bOff hs (show i<7 by omega)
  refine⟨by omega,?_⟩
  have next:parK d ks set i=true->∀j,j<i+1->parK d ks set j=true:=fun e j hj=>by
   by_cases q:j=i
   ·subst q;exact e
   exact ha j (by omega)
  apply bY<;>intro h2
  ·have h2:((offS set i:Int) != set)=true:=by rw[<- eo];exact h2
   have h2:¬offS set i=set:=neT h2
   repeat first|apply sT|apply sF
   apply bY<;>intro h3
   ·have h3:((offS set i:Int) != 0)=true:=by rw[<- eo];exact h3
    have h3:¬offS set i=0:=neT (b:=0) h3
    repeat first|apply sT|apply sF
    refine fEq [] (ze6 d ks (offS set i)) rfl ⟨zaa _,⟨rfl,eo⟩,trivial⟩ rfl ?_
    repeat first|apply sT|apply sF
    have ep:parK d ks set i=fitK d ks (offS set i):=by unfold parK;simp[h2,h3]
    apply bY<;>intro h4
    ·have h4:fitK d ks (offS set i)=false:=by simpa using h4
     refine r1B rfl ?_
     symm
     rw[qW]
     intro hh
     have:=jC.1 hh i (kK.2 h1)
     rw[ep,h4]at this;cases this
    have h4:fitK d ks (offS set i)=true:=by simpa using h4
    refine⟨i6,?_⟩
    exact⟨i+1,⟨rfl,⟨obD (d.ds++[lI (sigL d.R),cmap d ks]) rfl,trivial⟩,wq rfl⟩,⟨h1,next (by rw[ep,h4])⟩,msr h1⟩
   have h3:((offS set i:Int) != 0)=false:=by rw[<- eo];exact h3
   have h3:offS set i=0:=neF (b:=0) h3
   repeat first|apply sT|apply sF
   refine⟨i6,?_⟩
   exact⟨i+1,⟨rfl,⟨obD (d.ds++[lI (sigL d.R),cmap d ks]) rfl,trivial⟩,wq rfl⟩,⟨h1,next (by unfold parK;simp[h3])⟩,msr h1⟩
  have h2:((offS set i:Int) != set)=false:=by rw[<- eo];exact h2
  have h2:offS set i=set:=neF h2
  repeat first|apply sT|apply sF
  refine⟨i6,?_⟩
  exact⟨i+1,⟨rfl,⟨obD (d.ds++[lI (sigL d.R),cmap d ks]) rfl,trivial⟩,wq rfl⟩,⟨h1,next (by unfold parK;simp[h2])⟩,msr h1⟩
 have h1:i=(sigL d.R).length:=by have:=dF h1;omega
 subst h1
 refine r1B rfl ?_
 exact(jC.2 fun j hj=>ha j (kK.1 hj)).symm
theorem zr0(d:Day)(ks:List Nat)(set:Nat)(hn:(sigL d.R).length<=7)(hs:set<128):Spec PP 57 [lkV d ks,N (set:Int)] [B (growK d ks set)]:=by
 refine sA Tryz.func57 ?_
 refine lOf (σ:=Nat) (fun i=>([(1,.d (I set)),(2,.box 2 0),(8,.d (lI (sigL d.R))),(9,.d (I (sigL d.R).length)),(10,.d (I i))],[(2,.box ((d.ds++[lI (sigL d.R),cmap d ks]).map AV.d))])) (fun i=>i<=(sigL d.R).length/\∀j,j<i->groK d ks set j=false) (fun i=>(sigL d.R).length-i) 0
  ⟨rfl,⟨obD (d.ds++[lI (sigL d.R),cmap d ks]) rfl,trivial⟩,wq rfl⟩ z0L fun i hi=>?_
 obtain⟨hi,ha⟩:=hi
 apply bY<;>intro h1
 ·have h1:i<(sigL d.R).length:=by have:=dT h1;omega
  have eo:=bOn hs (show i<7 by omega)
  refine⟨by omega,?_⟩
  have next:groK d ks set i=false->∀j,j<i+1->groK d ks set j=false:=fun e j hj=>by
   by_cases q:j=i
   ·subst q;exact e
   exact ha j (by omega)
  apply bY<;>intro h2
  ·have h2:((onS set i:Int) != set)=true:=by rw[<- eo];exact h2
   have h2:¬onS set i=set:=neT h2
   refine fEq [] (ze6 d ks (onS set i)) rfl ⟨zaa _,⟨rfl,eo⟩,trivial⟩ rfl ?_
   repeat first|apply sT|apply sF
   have ep:groK d ks set i=fitK d ks (onS set i):=by unfold groK;simp[h2]
   apply bY<;>intro h4
   ·have h4:fitK d ks (onS set i)=true:=h4
    refine r1B rfl ?_
    exact(kM.2 ⟨i,kK.2 h1,by rw[ep,h4]⟩).symm
   have h4:fitK d ks (onS set i)=false:=h4
   refine⟨i6,?_⟩
   exact⟨i+1,⟨rfl,⟨obD (d.ds++[lI (sigL d.R),cmap d ks]) rfl,trivial⟩,wq rfl⟩,⟨h1,next (by rw[ep,h4])⟩,msr h1⟩
  have h2:((onS set i:Int) != set)=false:=by rw[<- eo];exact h2
  have h2:onS set i=set:=neF h2
  repeat first|apply sT|apply sF
  refine⟨i6,?_⟩
  exact⟨i+1,⟨rfl,⟨obD (d.ds++[lI (sigL d.R),cmap d ks]) rfl,trivial⟩,wq rfl⟩,⟨h1,next (by unfold groK;simp[h2])⟩,msr h1⟩
 have h1:i=(sigL d.R).length:=by have:=dF h1;omega
 subst h1
 refine r1B rfl ?_
 symm
 rw[qW]
 intro hh
 obtain⟨j,hj,e⟩:=kM.1 hh
 rw[ha j (kK.1 hj)]at e;cases e
def keysD(d:Day):Nat->List Nat
 |0=>[]
 |m+1=>if m≠0/\partK d (keysD d m) m=true then keysD d m++[m]else keysD d m
theorem zdK(d:Day):∀(m:Nat),∀k∈keysD d m,0<k/\k<m
 |0,k,h=>by cases h
 |m+1,k,h=>by
  unfold keysD at h
  split at h
  ·rename_i hm
   rcases kL.1 h with h|h
   ·have:=zdK d m k h;omega
   obtain rfl:=kI.1 h;omega
  have:=zdK d m k h;omega
theorem zrp{d:Day}{ks:List Nat}{m:Nat}(h:m∉ks):D.eqv (.mp 1 (putK (keyN ks) [((m:Nat):Int)]) (putF (keyN ks) (fun j=>lP (celD d (ks.getD j 0))) [((m:Nat):Int)] (lP (celD d m)))) (cmap d (ks++[m])):=by
 have hi:(keyN ks).idxOf [((m:Nat):Int)]=ks.length:=by rw[idxN];exact List.idxOf_eq_length h
 have hn:¬(keyN ks).idxOf [((m:Nat):Int)]<(keyN ks).length:=by rw[hi,kO];exact Nat.lt_irrefl _
 refine⟨rfl,?_,fun j hj=>?_⟩
 ·unfold putK
  rw[kG hn]
  show keyN ks++_=keyN (ks++[m])
  rw[keyN,keyN,jT];rfl
 unfold putF
 rw[hi]
 by_cases e:j=ks.length
 ·subst e
  rw[kH rfl]
  show D.eqv _ (lP (celD d ((ks++[m]).getD ks.length 0)))
  rw[hZ,jK (jE _),kE]
  exact dE _
 have hj:j<ks.length:=by
  unfold putK at hj
  rw[kG hn,jR,kO]at hj
  simp at hj;omega
 rw[kG e]
 show D.eqv (lP (celD d (ks.getD j 0))) (lP (celD d ((ks++[m]).getD j 0)))
 rw[hZ,hZ,jJ hj]
 exact dE _
theorem zjS{s:St}{ob:Nat->Option Ob}:∀(cs:List AV),avles s ob cs (List.replicate cs.length .any)
 | []=>trivial
 | _::r=>⟨by unfold AVle;trivial,zjS r⟩
theorem zaz{s:St}{ob:Nat->Option Ob}{cs:List AV}{n:Nat}{o:Option Ob}(h:o=some (.box cs))(hn:cs.length=n):Oble s ob o (.box (List.replicate n .any)):=by
 subst h;subst hn;exact zjS cs
abbrev lkA(d:Day):List AV:=d.ds.map AV.d++[.d (lI (sigL d.R)),.own 8]
theorem zqd{d:Day}(h:DayOk d):Spec PP 54 [d.v] [lkV d (keysD d (2^(sigL d.R).length))]:=by
 have hn:=h.n
 have h7:=sig7 h
 refine zb9 [7] Tryz.func54 rfl (by kernel_rfl) rfl ?_
 refine oL [0,1,2,2003,4,5,6] (fNo ?_)
 refine oRo (za7 d (by omega)) rfl rfl ?_
 refine⟨rfl,?_⟩
 refine lOf (σ:=Nat) (fun m=>([(1,.box 1 0),(2,.box 2 0),(3,.box 3 0),(4,.d (I m))],[(1,.box (d.ds.map AV.d)),(2,.box (List.replicate 12 .any)),(3,.box (lkA d)),(8,.mp 1 (keyN (keysD d m)) fun j=>lP (celD d ((keysD d m).getD j 0)))])) (fun m=>1<=m/\m<=2^(sigL d.R).length) (fun m=>2^(sigL d.R).length-m) 1
  ⟨rfl,⟨obD d.ds rfl,zaz rfl rfl,obX rfl,obMp rfl ⟨rfl,rfl,fun j hj=>absurd hj (qJ _)⟩,trivial⟩,avQ rfl,avQ rfl,avQ rfl,avQ rfl,trivial⟩ ⟨jE _,Nat.one_le_two_pow⟩ fun m hm=>?_
 obtain⟨hm,hm2⟩:=hm
 have hp:2^(sigL d.R).length<=2^7:=jah (by decide) h7
 have es:=bShl h7
 refine⟨by omega,?_⟩
 apply bY<;>intro h1
 ·have h1:m<2^(sigL d.R).length:=by
   have h1:(m:Int)<((2^(sigL d.R).length:Nat):Int):=by rw[<- es];exact dT h1
   omega
  refine cP (zmn d (keysD d m) m h7 (by omega)) rfl rfl ?_
  apply bY<;>intro h2
  ·have h2:partK d (keysD d m) m=true:=h2
   have e:keysD d (m+1)=keysD d m++[m]:=by rw[keysD,kH ⟨by omega,h2⟩]
   refine oN 10 ?_
   refine oRo (zgW (sigL d.R) m h7 (by omega)) rfl rfl ?_
   refine oRo (zf3 h (memb (sigL d.R) m) (jM (zbl _ _ _) (by omega))) rfl rfl ?_
   refine⟨⟨kInt,rfl⟩,?_⟩
   refine⟨i6,?_⟩
   refine⟨m+1,⟨rfl,⟨obD d.ds rfl,zaz rfl rfl,obX rfl,obMp rfl ?_,trivial⟩,wq rfl⟩,⟨by omega,h1⟩,(show 2^(sigL d.R).length-(m+1)<2^(sigL d.R).length-m by omega)⟩
   rw[e]
   exact zrp fun hm=>by have:=zdK d m m hm;omega
  have h2:partK d (keysD d m) m=false:=h2
  have e:keysD d (m+1)=keysD d m:=by rw[keysD,kG fun hh=>by rw[h2]at hh;cases hh.2]
  refine⟨i6,?_⟩
  refine⟨m+1,⟨rfl,⟨obD d.ds rfl,zaz rfl rfl,obX rfl,obMp rfl ?_,trivial⟩,wq rfl⟩,⟨by omega,h1⟩,(show 2^(sigL d.R).length-(m+1)<2^(sigL d.R).length-m by omega)⟩
  rw[e]
  exact dE _
 have h1:m=2^(sigL d.R).length:=by
  have h1:¬(m:Int)<((2^(sigL d.R).length:Nat):Int):=by rw[<- es];exact dF h1
  omega
 subst h1
 refine kAt [(2,.box 2 0),(3,.box 3 0)] [(2,.box (List.replicate 12 .any)),(3,.box ((d.ds++[lI (sigL d.R),cmap d (keysD d (2^(sigL d.R).length))]).map AV.d))]
  ⟨rfl,⟨zaz rfl rfl,⟨dE _,dE _,dE _,dE _,dE _,dE _,dE _,dE _,dE _,dE _,dE _,⟨rfl,_,_,_,rfl,dE _⟩,trivial⟩,trivial⟩,wq rfl⟩ ?_
 exact⟨rtC (a:=2) rfl rfl rfl rfl rfl rfl (zaa _),trivial⟩
abbrev ksD(d:Day):List Nat:=keysD d (2^(sigL d.R).length)
theorem ordC(a b:Int):(ord a b= -1/\a<b)\/(ord a b=1/\b<a)\/(ord a b=0/\a=b):=by
 unfold ord
 by_cases h1:a<b
 ·exact .inl ⟨kH h1,h1⟩
 by_cases h2:b<a
 ·exact .inr (.inl ⟨by rw[kG h1,kH h2],h2⟩)
 exact .inr (.inr ⟨by rw[kG h1,kG h2],by omega⟩)
def cmpL:List Int->List Int->Int
 | [],[]=>0
 | [],_::_=>-1
 | _::_,[]=>1
 |a::r,b::q=>if ord a b≠0 then ord a b else cmpL r q
theorem zhe:∀a,cmpL a a=0
 | []=>rfl
 |a::r=>by
  have:ord a a=0:=by rcases ordC a a with⟨_,h⟩|⟨_,h⟩|⟨h,_⟩<;>omega
  rw[cmpL,kG (by rw[this];simp),zhe r]
theorem cmpL_cases:∀a b,(cmpL a b= -1/\cmpL b a=1)\/(cmpL a b=1/\cmpL b a= -1)\/(cmpL a b=0/\a=b)
 | [],[]=>.inr (.inr ⟨rfl,rfl⟩)
 | [],_::_=>.inl ⟨rfl,rfl⟩
 | _::_,[]=>.inr (.inl ⟨rfl,rfl⟩)
 |a::r,b::q=>by
  unfold cmpL
  rcases ordC a b with⟨e,h⟩|⟨e,h⟩|⟨e,h⟩<;>rcases ordC b a with⟨e',h'⟩|⟨e',h'⟩|⟨e',h'⟩<;>first|omega|skip
  subst h
  rw[kG (by rw[e];simp),kG (by rw[e];simp)]
  rcases cmpL_cases r q with h|h|⟨h,e⟩
  ·exact .inl h
  ·exact .inr (.inl h)
  exact .inr (.inr ⟨h,by rw[e]⟩)
theorem zdb:∀a b c,cmpL a b= -1->cmpL b c= -1->cmpL a c= -1
 | [],[],_,h,_=>by cases h
 | [],_::_,[],_,h=>by cases h
 | [],_::_,_::_,_,_=>rfl
 | _::_,[],_,h,_=>by cases h
 | _::_,_::_,[],_,h=>by cases h
 |a::r,b::q,c::p,h1,h2=>by
  unfold cmpL at h1 h2⊢
  rcases ordC a b with⟨e,h⟩|⟨e,h⟩|⟨e,h⟩<;>rcases ordC b c with⟨e',h'⟩|⟨e',h'⟩|⟨e',h'⟩<;>rcases ordC a c with⟨e2,h3⟩|⟨e2,h3⟩|⟨e2,h3⟩<;>first|omega|skip
  all_goals rw[e]at h1;rw[e']at h2;rw[e2]
  all_goals first|rfl|(simp at h1;done)|(simp at h2;done)|skip
  simp only[ne_eq,jaS,jaG]at h1 h2⊢
  exact zdb r q p h1 h2
theorem swoL{α:Type}(key:α->List Int):SWO (ltOf fun x y:α=>cmpL (key x) (key y)):=by
 have lt:∀x y:α,ltOf (fun x y:α=>cmpL (key x) (key y)) x y=decide (cmpL (key x) (key y)<0):=fun _ _=>rfl
 have iff:∀a b,cmpL a b<0↔cmpL a b= -1:=fun a b=>by rcases cmpL_cases a b with⟨h,_⟩|⟨h,_⟩|⟨h,_⟩<;>omega
 refine⟨fun x=>?_,fun x y z h1 h2=>?_,fun x y z h1 h2=>?_⟩
 ·rw[lt,zhe];rfl
 ·rw[lt,kA,iff]at*
  exact zdb _ _ _ h1 h2
 rw[lt,jaW,iff]at*
 intro h3
 rcases cmpL_cases (key x) (key y)with⟨h,_⟩|⟨_,h⟩|⟨_,h⟩
 ·exact h1 h
 ·exact h2 (zdb _ _ _ h h3)
 rw[h]at h3;exact h2 h3
theorem zhf{a b:List Int}(h1:decide (cmpL a b<0)=false)(h2:decide (cmpL b a<0)=false):a=b:=by
 rw[jaW]at h1 h2
 rcases cmpL_cases a b with⟨h,_⟩|⟨_,h⟩|⟨_,h⟩
 ·omega
 ·omega
 exact h
theorem zuD(a b:List Int)(ha:a.length<=1000000)(hb:b.length<=1000000):SpecD PP 104 [.d (lI a),.d (lI b)] [N (cmpL a b)]:=by
 refine zbG Tryz.func104 rfl (by kernel_rfl) rfl ?_
 refine lOf (σ:=Nat) (fun i=>([(0,.d (lI a)),(1,.d (lI b)),(9,.d (lI a)),(10,.d (I a.length)),(11,.d (I i))],[])) (fun i=>i<=a.length/\i<=b.length/\cmpL (a.drop i) (b.drop i)=cmpL a b) (fun i=>a.length-i) 0
  ⟨rfl,trivial,wq rfl⟩ ⟨jF _,jF _,rfl⟩ fun i hi=>?_
 obtain⟨hi,hj,he⟩:=hi
 apply bY<;>intro h1
 ·have h1:i<a.length:=by have:=dT h1;omega
  have da:a.drop i=a.getD i 0::a.drop (i+1):=by rw[qO h1,hZ,kF h1];rfl
  refine⟨⟨rfl,by omega,by omega⟩,?_⟩
  apply bY<;>intro h2
  ·have h2:b.length<=i:=by have:(b.length:Int)<=i:=dT h2;omega
   have db:b.drop i=[]:=List.drop_eq_nil_iff.2 h2
   rw[da,db]at he
   exact r1I rfl he
  have h2:i<b.length:=by have:¬(b.length:Int)<=i:=dF h2;omega
  have db:b.drop i=b.getD i 0::b.drop (i+1):=by rw[qO h2,hZ,kF h2];rfl
  refine⟨⟨rfl,by omega,by omega⟩,?_⟩
  refine cP (zuE (a.getD i 0) (b.getD i 0)) rfl rfl ?_
  rw[da,db,cmpL]at he
  apply bY<;>intro h3
  ·have h3:ord (a.getD i 0) (b.getD i 0)≠0:=by simpa using h3
   rw[kH h3]at he
   exact r1I rfl he
  have h3:ord (a.getD i 0) (b.getD i 0)=0:=by simpa using h3
  rw[kG (by rw[h3];simp)]at he
  refine⟨i6,?_⟩
  exact⟨i+1,⟨rfl,trivial,wq rfl⟩,⟨h1,h2,he⟩,msr h1⟩
 have h1:i=a.length:=by have:=dF h1;omega
 subst h1
 rw[ja9]at he
 apply bY<;>intro h2
 ·have h2:a.length<b.length:=by have:(a.length:Int)<b.length:=dT h2;omega
  have db:b.drop a.length=b.getD a.length 0::b.drop (a.length+1):=by rw[qO h2,hZ,kF h2];rfl
  rw[db]at he
  exact r1I rfl he
 have h2:b.length<=a.length:=by have:¬(a.length:Int)<b.length:=dF h2;omega
 rw[List.drop_eq_nil_iff.2 h2]at he
 exact r1I rfl he
theorem zqm(a b:List Int)(ha:a.length<=1000000)(hb:b.length<=1000000):SpecD PP 65 [.d (lI a),.d (lI b)] [N (cmpL a b)]:=by
 refine zbG Tryz.func65 rfl (by kernel_rfl) rfl ?_
 refine cP (zuD a b ha hb) rfl rfl ?_
 exact r1I rfl rfl
structure Fit where
  IDs:List Int
  At:Place
  deriving Inhabited
structure Mis where
  IDs:List Int
  R:List Rsn
  deriving Inhabited
def Fit.at(x:Fit):Nat->D
 |0=>lI x.IDs
 |1=>I x.At.X
 | _=>I x.At.Y
def Mis.at(x:Mis):Nat->D
 |0=>lI x.IDs
 | _=>lRs x.R
abbrev Fit.v(x:Fit):V1:=.agg [lI x.IDs,I x.At.X,I x.At.Y]
abbrev Mis.v(x:Mis):V1:=.agg [lI x.IDs,lRs x.R]
abbrev lFt(l:List Fit):D:=.slc 3 l.length fun i=>(l.getD i default).at
abbrev lMs(l:List Mis):D:=.slc 2 l.length fun i=>(l.getD i default).at
def FtD:Dats Fit 3 where
  lst x:=[lI x.IDs,I x.At.X,I x.At.Y]
  len _:=rfl
  at_ x:=x.at
  hat x j hj:=by
    match j,hj with
    |0,_=>rfl
    |1,_=>rfl
    |2,_=>rfl
def MsD:Dats Mis 2 where
  lst x:=[lI x.IDs,lRs x.R]
  len _:=rfl
  at_ x:=x.at
  hat x j hj:=by
    match j,hj with
    |0,_=>rfl
    |1,_=>rfl
theorem zoL(x y:Fit)(hx:x.IDs.length<=1000000)(hy:y.IDs.length<=1000000):SpecD PP 64 [x.v,y.v] [N (cmpL x.IDs y.IDs)]:=by
 refine zbG Tryz.func64 rfl (by kernel_rfl) rfl ?_
 refine cP (zqm x.IDs y.IDs hx hy) rfl rfl ?_
 exact r1I rfl rfl
theorem zoK(x y:Mis)(hx:x.IDs.length<=1000000)(hy:y.IDs.length<=1000000):SpecD PP 67 [x.v,y.v] [N (cmpL x.IDs y.IDs)]:=by
 refine zbG Tryz.func67 rfl (by kernel_rfl) rfl ?_
 refine cP (zqm x.IDs y.IDs hx hy) rfl rfl ?_
 exact r1I rfl rfl
def srtF(l:List Fit):List Fit:=l.mergeSort fun x y=>!decide (cmpL y.IDs x.IDs<0)
def srtM(l:List Mis):List Mis:=l.mergeSort fun x y=>!decide (cmpL y.IDs x.IDs<0)
theorem aggFt:∀w,(isAgg (Tryz.sortFt_ren.t 24)).run PP w= .ok true w:=fun _=>by kernel_rfl
theorem sizFt:∀w,(Go.sizeOf (Tryz.sortFt_ren.t 24)).run PP w= .ok 3 w:=fun _=>by kernel_rfl
theorem aggMs:∀w,(isAgg (Tryz.sortMf_ren.t 24)).run PP w= .ok true w:=fun _=>by kernel_rfl
theorem sizMs:∀w,(Go.sizeOf (Tryz.sortMf_ren.t 24)).run PP w= .ok 2 w:=fun _=>by kernel_rfl
theorem zn5(L:List Fit)(hn:L.length<=1000000)(hd:∀i j,i<L.length->j<L.length->(L.getD i default).IDs=(L.getD j default).IDs->i=j)(hl:∀x∈L,x.IDs.length<=1000000):
  SpecW PP 63 [] [.d (.fn 64)] 130 3 L.length (FtD.row L) (FtD.row (srtF L)) []:=
 zeQ Tryz.sortFt ⟨_,Tryz.func63,by kernel_rfl,by kernel_rfl⟩ aggFt sizFt FtD L (fun x y=>cmpL x.IDs y.IDs) (swoL Fit.IDs) (fun i j hi hj h1 h2=>hd i j hi hj (zhf h1 h2)) 64 (fun x hx y hy=>zoL x y (hl x hx) (hl y hy)) 130 hn
theorem zn3(L:List Mis)(hn:L.length<=1000000)(hd:∀i j,i<L.length->j<L.length->(L.getD i default).IDs=(L.getD j default).IDs->i=j)(hl:∀x∈L,x.IDs.length<=1000000):
  SpecW PP 66 [] [.d (.fn 67)] 132 2 L.length (MsD.row L) (MsD.row (srtM L)) []:=
 zeQ Tryz.sortMf ⟨_,Tryz.func66,by kernel_rfl,by kernel_rfl⟩ aggMs sizMs MsD L (fun x y=>cmpL x.IDs y.IDs) (swoL Mis.IDs) (fun i j hi hj h1 h2=>hd i j hi hj (zhf h1 h2)) 67 (fun x hx y hy=>zoK x y (hl x hx) (hl y hy)) 132 hn
def misR(d:Day)(ids:List Int):List Rsn:=if(brnD d ids).To-(brnD d ids).From<=d.Long then(rsnR d.s (brnD d ids) (lstD d ids)).1 else []
def greB(d:Day)(ks:List Nat)(m:Nat):Bool:=fitK d ks m&& !growK d ks m
def leaB(d:Day)(ks:List Nat)(m:Nat):Bool:=!fitK d ks m&&partK d ks m
abbrev fitF(d:Day)(m:Nat):Fit:=⟨memb (sigL d.R) m,(celD d m).getD 0 default⟩
abbrev misF(d:Day)(m:Nat):Mis:=⟨memb (sigL d.R) m,misR d (memb (sigL d.R) m)⟩
def tabA{α:Type}(p:Nat->Bool)(f:Nat->α):Nat->List α
 |0=>[]
 |m+1=>if m≠0/\p m=true then tabA p f m++[f m]else tabA p f m
theorem zfr{α:Type}{p:Nat->Bool}{f:Nat->α}{m:Nat}(h0:1<=m)(h:p m=true):tabA p f (m+1)=tabA p f m++[f m]:=by rw[tabA,kH ⟨by omega,h⟩]
theorem zco{α:Type}{p:Nat->Bool}{f:Nat->α}{m:Nat}(h:p m=false):tabA p f (m+1)=tabA p f m:=by rw[tabA,kG fun hh=>by rw[h]at hh;cases hh.2]
theorem zfs{α:Type}(p:Nat->Bool)(f:Nat->α):∀m,(tabA p f m).length<=m
 |0=>jE _
 |m+1=>by
  have:=zfs p f m
  unfold tabA
  split
  ·rw[jR];simp;omega
  omega
theorem zb7{α:Type}{p:Nat->Bool}{f:Nat->α}:∀{m:Nat}{x:α},x∈tabA p f m->∃k,0<k/\k<m/\p k=true/\x=f k
 |0,x,h=>by cases h
 |m+1,x,h=>by
  unfold tabA at h
  split at h
  ·rename_i hm
   rcases kL.1 h with h|h
   ·obtain⟨k,h1,h2,h3⟩:=zb7 h;exact⟨k,h1,by omega,h3⟩
   exact⟨m,by omega,by omega,hm.2,kI.1 h⟩
  obtain⟨k,h1,h2,h3⟩:=zb7 h;exact⟨k,h1,by omega,h3⟩
theorem zcA{α:Type}(p:Nat->Bool)(f:Nat->α):∀m,tabA p f m=(tabA p id m).map f
 |0=>rfl
 |m+1=>by
  unfold tabA
  split
  ·rw[zcA p f m,jT];rfl
  exact zcA p f m
theorem zcY{p:Nat->Bool}:∀m,(tabA p id m).Nodup
 |0=>jaf
 |m+1=>by
  unfold tabA
  split
  ·refine jbg.2 ⟨zcY m,by simp,fun a ha b hb=>?_⟩
   obtain⟨k,_,h2,_,h3⟩:=zb7 ha
   simp at hb;subst hb;simp at h3;omega
  exact zcY m
theorem pushF{l:List Fit}{x:Fit}{g:Nat->Nat->D}(hg:∀j,j<3->D.eqv (g 0 j) (x.at j)):D.eqv (.slc 3 (l.length+1) (appRow l.length (FtD.row l) g)) (.slc 3 (l++[x]).length (FtD.row (l++[x]))):=by
 refine⟨by simp,.inr ⟨rfl,fun i hi j hj=>?_⟩⟩
 show D.eqv (appRow l.length (FtD.row l) g i j) (((l++[x]).getD i default).at j)
 unfold appRow
 by_cases h:i<l.length
 ·rw[kH h,hZ,jJ h,<- hZ]
  exact dE _
 have e:i=l.length:=by omega
 subst e
 rw[kG h,kE,hZ,jK (jE _),kE]
 exact hg j hj
theorem zty{l:List Mis}{x:Mis}{g:Nat->Nat->D}(hg:∀j,j<2->D.eqv (g 0 j) (x.at j)):D.eqv (.slc 2 (l.length+1) (appRow l.length (MsD.row l) g)) (.slc 2 (l++[x]).length (MsD.row (l++[x]))):=by
 refine⟨by simp,.inr ⟨rfl,fun i hi j hj=>?_⟩⟩
 show D.eqv (appRow l.length (MsD.row l) g i j) (((l++[x]).getD i default).at j)
 unfold appRow
 by_cases h:i<l.length
 ·rw[kH h,hZ,jJ h,<- hZ]
  exact dE _
 have e:i=l.length:=by omega
 subst e
 rw[kG h,kE,hZ,jK (jE _),kE]
 exact hg j hj
theorem zlU{α:Type}{l:List α}(h:l.Nodup){i j:Nat}(hi:i<l.length)(hj:j<l.length)(e:l[i]=l[j]):i=j:=by
 have h:=kN.1 h
 rcases jbf i j with g|g|g
 ·exact absurd e (h i j hi hj g)
 ·exact g
 exact absurd e.symm (h j i hj hi g)
theorem zbu{ids:List Int}(hd:ids.Nodup){m i:Nat}(hi:i<ids.length):ids.getD i 0∈memb ids m↔m.testBit i=true:=by
 unfold memb membA
 rw[kJ]
 constructor
 ·rintro⟨j,hj,e⟩
  rw[kS,kK]at hj
  rw[hZ,hZ,kF hj.1,kF hi]at e
  have:j=i:=zlU hd hj.1 hi e
  subst this;exact hj.2
 intro h
 exact⟨i,kS.2 ⟨kK.2 hi,h⟩,rfl⟩
theorem zje{ids:List Int}(hd:ids.Nodup){m k:Nat}(hm:m<2^ids.length)(hk:k<2^ids.length)(h:memb ids m=memb ids k):m=k:=by
 apply ja6
 intro i
 by_cases hi:i<ids.length
 ·rw[kQ,<- zbu hd hi,<- zbu hd hi,h]
 have h2:2^ids.length<=2^i:=jah (by decide) (by omega)
 rw[jaZ (by omega),jaZ (by omega)]
theorem DayOk.nodR{d:Day}(h:DayOk d):(d.R.map Rpt.ID).Nodup:=by
 have:∀i,i<=d.R.length->((d.R.take i).map Rpt.ID).Nodup:=by
  intro i
  induction i with
  |zero=>intro _;simp
  |succ i ih=>
  intro hi
  rw[zav (by omega) default,jT]
  refine jbg.2 ⟨ih (by omega),by simp,fun a ha b hb=>?_⟩
  have:=h.tw i (by omega)
  rw[jay]at this
  obtain⟨x,hx,rfl⟩:=kJ.1 ha
  have h1:=this x hx
  simp at hb h1
  rw[hb];exact h1
 have:=this d.R.length (jE _)
 rwa [jZ]at this
theorem DayOk.nod{d:Day}(h:DayOk d):(sigL d.R).Nodup:=by
 unfold sigL
 refine(jaL _ _).nodup_iff.2 ?_
 unfold sigK
 exact List.Nodup.sublist (List.Sublist.map _ (jbu ..)) h.nodR
theorem ziD{α:Type}[Inhabited α]{d:Day}(h:DayOk d)(key:α->List Int)(p:Nat->Bool)(f:Nat->α)(hk:∀m,key (f m)=memb (sigL d.R) m){n:Nat}(hn:n<=2^(sigL d.R).length):
  ∀i j,i<(tabA p f n).length->j<(tabA p f n).length->key ((tabA p f n).getD i default)=key ((tabA p f n).getD j default)->i=j:=by
 intro i j hi hj e
 have hl:(tabA p f n).length=(tabA p id n).length:=by rw[zcA p f,kO]
 have g:∀i,i<(tabA p f n).length->∃hi:i<(tabA p id n).length,(tabA p f n).getD i default=f (tabA p id n)[i]:=fun i hi=>by
  have hi':i<(tabA p id n).length:=by rw[<- hl];exact hi
  refine⟨hi',?_⟩
  rw[hZ,zcA p f,jU,kF hi'];rfl
 obtain⟨hi',e1⟩:=g i hi
 obtain⟨hj',e2⟩:=g j hj
 rw[e1,e2,hk,hk]at e
 have lt:∀i,∀hi:i<(tabA p id n).length,(tabA p id n)[i]<2^(sigL d.R).length:=fun i hi=>by
  obtain⟨k,_,h2,_,h3⟩:=zb7 (kR hi)
  rw[h3];simp;omega
 have:=zje h.nod (lt i hi') (lt j hj') e
 exact zlU (zcY n) hi' hj' this
def tabR(d:Day):List Fit×List Mis×Int:=
 if dayE d≠0 then([],[],dayE d)else(srtF (tabA (greB d (ksD d)) (fitF d) (2^(sigL d.R).length)),srtM (tabA (leaB d (ksD d)) (misF d) (2^(sigL d.R).length)),0)
theorem zr1(d:Day)(hn:d.R.length<=1000000):Spec PP 27 [d.v] [.agg [lFt (tabR d).1,lMs (tabR d).2.1],.d (.int .i64 (tabR d).2.2)]:=by
 refine zb9 [20] Tryz.func27 rfl (by kernel_rfl) rfl ?_
 refine cP (zcu d hn) rfl rfl ?_
 apply bY<;>intro h0
 ·have e:tabR d=([],[],dayE d):=by unfold tabR;rw[kH (by simpa using h0)]
  rw[e]
  exact⟨rtC (a:=2) rfl rfl rfl rfl rfl rfl ⟨rfl,rfl,trivial⟩,rtI rfl rfl,trivial⟩
 have h0:dayE d=0:=by simpa using h0
 have h:=zaN h0
 have hn:=h.n
 have h7:=sig7 h
 have e:tabR d=(srtF (tabA (greB d (ksD d)) (fitF d) (2^(sigL d.R).length)),srtM (tabA (leaB d (ksD d)) (misF d) (2^(sigL d.R).length)),0):=by unfold tabR;rw[kG (fun hh=>hh h0)]
 rw[e]
 refine cR (zqd h) rfl rfl ?_
 have hp:2^(sigL d.R).length<=2^7:=jah (by decide) h7
 refine lOf (σ:=Nat) (fun m=>([(1,.box 1 0),(2,.box 2 0),(5,.box 5 0),(6,.box 6 0),(7,.d (I m))],[(1,.box (d.ds.map AV.d)),(2,.box (List.replicate 2 .any)),(5,.box ((d.ds++[lI (sigL d.R),cmap d (ksD d)]).map AV.d)),(6,.box [.own 52,.own 87]),
   (52,.row 130 3 (tabA (greB d (ksD d)) (fitF d) m).length (FtD.row (tabA (greB d (ksD d)) (fitF d) m))),(87,.row 132 2 (tabA (leaB d (ksD d)) (misF d) m).length (MsD.row (tabA (leaB d (ksD d)) (misF d) m)))]))
  (fun m=>1<=m/\m<=2^(sigL d.R).length) (fun m=>2^(sigL d.R).length-m) 1
  ⟨rfl,⟨obD d.ds rfl,zaz rfl rfl,obD (d.ds++[lI (sigL d.R),cmap d (ksD d)]) rfl,⟨⟨rfl,_,_,_,rfl⟩,⟨rfl,_,_,_,rfl⟩,trivial⟩,rfl,rfl,trivial⟩,wq rfl⟩ ⟨jE _,Nat.one_le_two_pow⟩ fun m hm=>?_
 obtain⟨hm,hm2⟩:=hm
 have es:=bShl h7
 have l1:=zfs (greB d (ksD d)) (fitF d) m
 have l2:=zfs (leaB d (ksD d)) (misF d) m
 have hi:(memb (sigL d.R) m).length<=1000000:=jM (zbl _ _ _) (by omega)
 refine⟨by omega,?_⟩
 apply bY<;>intro h1
 ·have h1:m<2^(sigL d.R).length:=by
   have h1:(m:Int)<((2^(sigL d.R).length:Nat):Int):=by rw[<- es];exact dT h1
   omega
  have hms:2^(sigL d.R).length-(m+1)<2^(sigL d.R).length-m:=by omega
  refine cR (zgW (sigL d.R) m h7 (by omega)) rfl rfl ?_
  refine cP (ze6 d (ksD d) m) rfl rfl ?_
  apply bY<;>intro h2
  ·have h2:fitK d (ksD d) m=true:=h2
   have e2:leaB d (ksD d) m=false:=by unfold leaB;rw[h2];rfl
   refine cP (zr0 d (ksD d) m h7 (by omega)) rfl rfl ?_
   repeat first|apply sT|apply sF
   apply bY<;>intro h3
   ·have h3:growK d (ksD d) m=false:=by simpa using h3
    have e1:greB d (ksD d) m=true:=by unfold greB;rw[h2,h3];rfl
    have hf:(ksD d).contains m=true/\0<(celD d m).length:=by unfold fitK at h2;simpa using h2
    refine oN 14 ?_
    refine⟨⟨kInt,rfl⟩,lP (celD d m),?_,?_⟩
    ·have:=zp7 d (ksD d) m
     rw[kH hf.1]at this
     exact this
    refine⟨⟨rfl,by omega,by omega⟩,?_⟩
    refine⟨⟨.inr rfl,by unfold maxLen;omega,by show((tabA (greB d (ksD d)) (fitF d) m).length+1)*40<=140737488355328;omega⟩,?_⟩
    refine⟨i6,?_⟩
    refine⟨m+1,⟨rfl,⟨obD d.ds rfl,zaz rfl rfl,obD (d.ds++[lI (sigL d.R),cmap d (ksD d)]) rfl,obX rfl,obR rfl ?_,obR rfl ?_,trivial⟩,wq rfl⟩,⟨by omega,h1⟩,hms⟩
    ·rw[zfr hm e1]
     refine pushF fun j hj=>?_
     match j,hj with
     |0,_=>exact dE _
     |1,_=>exact dE _
     |2,_=>exact dE _
    rw[zco e2];exact dE _
   have h3:growK d (ksD d) m=true:=by simpa using h3
   have e1:greB d (ksD d) m=false:=by unfold greB;rw[h2,h3];rfl
   refine cP (ze6 d (ksD d) m) rfl rfl ?_
   refine sNo (by rw[h2];rfl) ?_
   repeat first|apply sT|apply sF
   refine⟨i6,?_⟩
   refine⟨m+1,⟨rfl,⟨obD d.ds rfl,zaz rfl rfl,obD (d.ds++[lI (sigL d.R),cmap d (ksD d)]) rfl,obX rfl,obR rfl ?_,obR rfl ?_,trivial⟩,wq rfl⟩,⟨by omega,h1⟩,hms⟩
   ·rw[zco e1];exact dE _
   rw[zco e2];exact dE _
  have h2:fitK d (ksD d) m=false:=h2
  have e1:greB d (ksD d) m=false:=by unfold greB;rw[h2];rfl
  repeat first|apply sT|apply sF
  refine cP (ze6 d (ksD d) m) rfl rfl ?_
  refine sYe (by rw[h2];rfl) ?_
  refine cP (zmn d (ksD d) m h7 (by omega)) rfl rfl ?_
  repeat first|apply sT|apply sF
  apply bY<;>intro h3
  ·have h3:partK d (ksD d) m=true:=h3
   have e2:leaB d (ksD d) m=true:=by unfold leaB;rw[h2,h3];rfl
   refine cP (zmp d (memb (sigL d.R) m) (by omega) hi) rfl rfl ?_
   refine cP (zh1 d (brnD d (memb (sigL d.R) m)) (zij h _)) rfl rfl ?_
   apply bY<;>intro h4
   ·have h4:(brnD d (memb (sigL d.R) m)).To-(brnD d (memb (sigL d.R) m)).From<=d.Long:=by simpa using h4
    have er:misR d (memb (sigL d.R) m)=(rsnR d.s (brnD d (memb (sigL d.R) m)) (lstD d (memb (sigL d.R) m))).1:=by unfold misR;rw[kH h4]
    refine oN 12 ?_
    refine oRo (zmo d (memb (sigL d.R) m) (by omega) hi) rfl rfl ?_
    refine oRo (zmh d.s (brnD d (memb (sigL d.R) m)) (lstD d (memb (sigL d.R) m))) rfl rfl ?_
    refine⟨⟨.inr rfl,by unfold maxLen;omega,by show((tabA (leaB d (ksD d)) (misF d) m).length+1)*48<=140737488355328;omega⟩,?_⟩
    refine⟨i6,?_⟩
    refine⟨m+1,⟨rfl,⟨obD d.ds rfl,zaz rfl rfl,obD (d.ds++[lI (sigL d.R),cmap d (ksD d)]) rfl,obX rfl,obR rfl ?_,obR rfl ?_,trivial⟩,wq rfl⟩,⟨by omega,h1⟩,hms⟩
    ·rw[zco e1];exact dE _
    rw[zfr hm e2]
    refine zty fun j hj=>?_
    match j,hj with
    |0,_=>exact dE _
    |1,_=>show D.eqv _ (lRs (misR d (memb (sigL d.R) m)));rw[er];exact dE _
   have h4:¬(brnD d (memb (sigL d.R) m)).To-(brnD d (memb (sigL d.R) m)).From<=d.Long:=by simpa using h4
   have er:misR d (memb (sigL d.R) m)=[]:=by unfold misR;rw[kG h4]
   refine⟨⟨.inr rfl,by unfold maxLen;omega,by show((tabA (leaB d (ksD d)) (misF d) m).length+1)*48<=140737488355328;omega⟩,?_⟩
   refine⟨i6,?_⟩
   refine⟨m+1,⟨rfl,⟨obD d.ds rfl,zaz rfl rfl,obD (d.ds++[lI (sigL d.R),cmap d (ksD d)]) rfl,obX rfl,obR rfl ?_,obR rfl ?_,trivial⟩,wq rfl⟩,⟨by omega,h1⟩,hms⟩
   ·rw[zco e1];exact dE _
   rw[zfr hm e2]
   refine zty fun j hj=>?_
   match j,hj with
   |0,_=>exact dE _
   |1,_=>show D.eqv _ (lRs (misR d (memb (sigL d.R) m)));rw[er];rfl
  have h3:partK d (ksD d) m=false:=h3
  have e2:leaB d (ksD d) m=false:=by unfold leaB;rw[h3,kW]
  refine⟨i6,?_⟩
  refine⟨m+1,⟨rfl,⟨obD d.ds rfl,zaz rfl rfl,obD (d.ds++[lI (sigL d.R),cmap d (ksD d)]) rfl,obX rfl,obR rfl ?_,obR rfl ?_,trivial⟩,wq rfl⟩,⟨by omega,h1⟩,hms⟩
  ·rw[zco e1];exact dE _
  rw[zco e2];exact dE _
 have h1:m=2^(sigL d.R).length:=by
  have h1:¬(m:Int)<((2^(sigL d.R).length:Nat):Int):=by rw[<- es];exact dF h1
  omega
 subst h1
 have hl:∀m,(memb (sigL d.R) m).length<=1000000:=fun m=>jM (zbl _ _ _) (by omega)
 refine CallSt.rwW rfl rfl (zn5 (tabA (greB d (ksD d)) (fitF d) (2^(sigL d.R).length)) (by omega) (ziD h Fit.IDs _ _ (fun _=>rfl) (jE _)) (fun x hx=>by
  obtain⟨k,_,_,_,rfl⟩:=zb7 hx;exact hl k)) ⟨⟨[],.tmp 90,[.func 64],[],rfl,rfl,rfl,rfl,rfl,rfl,rfl⟩⟩ rfl ?_
 refine CallSt.rwW rfl rfl (zn3 (tabA (leaB d (ksD d)) (misF d) (2^(sigL d.R).length)) (by omega) (ziD h Mis.IDs _ _ (fun _=>rfl) (jE _)) (fun x hx=>by
  obtain⟨k,_,_,_,rfl⟩:=zb7 hx;exact hl k)) ⟨⟨[],.tmp 93,[.func 67],[],rfl,rfl,rfl,rfl,rfl,rfl,rfl⟩⟩ rfl ?_
 refine kAt [(2,.box 2 0),(6,.box 6 0)] [(2,.box (List.replicate 2 .any)),(6,.box ([lFt (srtF (tabA (greB d (ksD d)) (fitF d) (2^(sigL d.R).length))),lMs (srtM (tabA (leaB d (ksD d)) (misF d) (2^(sigL d.R).length)))].map AV.d))]
  ⟨rfl,⟨zaz rfl rfl,⟨⟨rfl,_,_,_,_,rfl,⟨(qX _).symm,.inr ⟨rfl,fun i _ j _=>dE _⟩⟩⟩,⟨rfl,_,_,_,_,rfl,⟨(qX _).symm,.inr ⟨rfl,fun i _ j _=>dE _⟩⟩⟩,trivial⟩,trivial⟩,wq rfl⟩ ?_
 exact⟨rtC (a:=2) rfl rfl rfl rfl rfl rfl (zaa _),rtI rfl rfl,trivial⟩
end Go.Pg
