/- Texts joined and shortened by program. -/
import Derived.KernelRfl
import Derived.Shelf.Sort.Plain
import Derived.Test.YtcgbaefojdoicaaGreatChecked
import Derived.Test.YtcgbaefojdoicaaGreatR9
import Derived.Test.YtcgbaefojdoicaaGreatR6
import Derived.Test.YtcgbaefojdoicaaGreatR8
set_option maxHeartbeats 4000000
set_option linter.all false
namespace Go.Proofs
open Go.Shelf Go.RowKit Go.Lib Go.Sort
def Tryz.srtI_ren:Go.Shelf.Ren:=⟨fun | 189=>40 | 125=>105 | 257=>104 | 128=>165 | 129=>166 | 294=>156 | 295=>157 | 296=>158 | 297=>159 | 298=>160 | 299=>161 | 216=>162 | 300=>163 | 301=>164 | 328=>216 | 329=>217 | 330=>218 | 331=>219 | 332=>220 | 215=>221 | 343=>264 | n=>n,fun | 28=>22 | 3=>3 | 46=>179 | 0=>0 | 51=>226 | 53=>228 | 4=>4 | 183=>220 | 182=>219 | 131=>151 | 5=>5 | 9=>9 | 218=>271 | 222=>275 | 228=>319 | 229=>320 | n=>n,fun | n=>n⟩
theorem Tryz.srtI:Go.Proofs.Lays.n189 Tryz.prog Tryz.srtI_ren:={
  mixed:=by kernel_rfl,
  f125:=Tryz.func105.trans (jI some (by kernel_rfl)),
  f128:=Tryz.func165.trans (jI some (by kernel_rfl)),
  f129:=Tryz.func166.trans (jI some (by kernel_rfl)),
  f189:=Tryz.func40.trans (jI some (by kernel_rfl)),
  f215:=Tryz.func221.trans (jI some (by kernel_rfl)),
  f216:=Tryz.func162.trans (jI some (by kernel_rfl)),
  f257:=Tryz.func104.trans (jI some (by kernel_rfl)),
  f294:=Tryz.func156.trans (jI some (by kernel_rfl)),
  f295:=Tryz.func157.trans (jI some (by kernel_rfl)),
  f296:=Tryz.func158.trans (jI some (by kernel_rfl)),
  f297:=Tryz.func159.trans (jI some (by kernel_rfl)),
  f298:=Tryz.func160.trans (jI some (by kernel_rfl)),
  f299:=Tryz.func161.trans (jI some (by kernel_rfl)),
  f300:=Tryz.func163.trans (jI some (by kernel_rfl)),
  f301:=Tryz.func164.trans (jI some (by kernel_rfl)),
  f328:=Tryz.func216.trans (jI some (by kernel_rfl)),
  f329:=Tryz.func217.trans (jI some (by kernel_rfl)),
  f330:=Tryz.func218.trans (jI some (by kernel_rfl)),
  f331:=Tryz.func219.trans (jI some (by kernel_rfl)),
  f332:=Tryz.func220.trans (jI some (by kernel_rfl)),
  f343:=Tryz.func264.trans (jI some (by kernel_rfl)),
  t0:=Tryz.underlying0,
  a0:=Tryz.isAgg0,
  z0:=Tryz.sizeOf0,
  v0:=Tryz.zeroValue0,
  t3:=Tryz.underlying3,
  a3:=Tryz.isAgg3,
  z3:=Tryz.sizeOf3,
  v3:=Tryz.zeroValue3,
  t4:=Tryz.underlying4,
  a4:=Tryz.isAgg4,
  z4:=Tryz.sizeOf4,
  v4:=Tryz.zeroValue4,
  t5:=Tryz.underlying5,
  a5:=Tryz.isAgg5,
  z5:=Tryz.sizeOf5,
  v5:=Tryz.zeroValue5,
  t9:=Tryz.underlying9,
  a9:=Tryz.isAgg9,
  z9:=Tryz.sizeOf9,
  v9:=Tryz.zeroValue9,
  t28:=Tryz.underlying22,
  a28:=Tryz.isAgg22,
  z28:=Tryz.sizeOf22,
  v28:=Tryz.zeroValue22,
  t46:=Tryz.underlying179,
  a46:=Tryz.isAgg179,
  z46:=Tryz.sizeOf179,
  v46:=Tryz.zeroValue179,
  t51:=Tryz.underlying226,
  a51:=Tryz.isAgg226,
  z51:=Tryz.sizeOf226,
  v51:=Tryz.zeroValue226,
  t53:=Tryz.underlying228,
  a53:=Tryz.isAgg228,
  z53:=Tryz.sizeOf228,
  v53:=Tryz.zeroValue228,
  t131:=Tryz.underlying151,
  a131:=Tryz.isAgg151,
  z131:=Tryz.sizeOf151,
  v131:=Tryz.zeroValue151,
  t182:=Tryz.underlying219,
  a182:=Tryz.isAgg219,
  z182:=Tryz.sizeOf219,
  v182:=Tryz.zeroValue219,
  t183:=Tryz.underlying220,
  a183:=Tryz.isAgg220,
  z183:=Tryz.sizeOf220,
  v183:=Tryz.zeroValue220,
  t218:=Tryz.underlying271,
  a218:=Tryz.isAgg271,
  z218:=Tryz.sizeOf271,
  v218:=Tryz.zeroValue271,
  t222:=Tryz.underlying275,
  a222:=Tryz.isAgg275,
  z222:=Tryz.sizeOf275,
  v222:=Tryz.zeroValue275,
  t228:=Tryz.underlying319,
  a228:=Tryz.isAgg319,
  z228:=Tryz.sizeOf319,
  v228:=Tryz.zeroValue319,
  t229:=Tryz.underlying320,
  a229:=Tryz.isAgg320,
  z229:=Tryz.sizeOf320,
  v229:=Tryz.zeroValue320 }
end Go.Proofs
set_option maxRecDepth 100000
namespace Go.Pg
open Go.Proofs Go.RowKit Go.Sort Go.Shelf
abbrev rowI (l:List Int):Nat->Nat->D:=fun i _=>I (l.getD i 0)
theorem zh5 (l:List Int) (hn:l.length<=1000000):SpecR PP 40 [] [] 3 1 l.length (rowI l) (rowI (l.mergeSort fun x y=>decide (x<=y))) []:=
 zgT Tryz.srtI ⟨_,Tryz.func40,by kernel_rfl,by kernel_rfl⟩ 3 l hn
abbrev Lk.ds (x:Lk):List D:=[I x.Tower,I x.C,I x.Tick,I x.From,I x.To,I x.Slack]
theorem zn3 (x:Cir) (a b:Int):drf x a b=drf x b a:=by
 unfold drf
 rw[show max (a - b) (b - a)=max (b - a) (a - b) by omega]
def cl2 (x:Cir) (a b:Thg):Bool:=decide (drf x a.k.Tick b.k.Tick<gap a b)
theorem zfF (x:Cir) (a b:Thg):cl2 x a b=cl2 x b a:=by
 unfold cl2
 rw[zn3]
 apply kZ.2
 unfold gap
 omega
def Fine (x:Cir) (l:List Thg):Prop:=(∀ t∈l,noneB t=false)/\l.Pairwise fun a b=>cl2 x a b=false
theorem zlJ {x:Cir} {l m:List Thg} (h:l.Perm m):Fine x l ↔ Fine x m:=by
 unfold Fine
 have h1:(∀ t∈l,noneB t=false) ↔ ∀ t∈m,noneB t=false:=⟨fun g t ht=>g t (h.mem_iff.2 ht),fun g t ht=>g t (h.mem_iff.1 ht)⟩
 rw[h1,h.pairwise_iff (fun {a b} hab=>by rw[zfF]; exact hab)]
theorem zfi {α:Type} [Inhabited α] {r:α->α->Prop} {l:List α}:l.Pairwise r ↔ ∀ i j,i<j->j<l.length->r (l.getD i default) (l.getD j default):=by
 rw[jan]
 constructor
 ·intro h i j hij hj
  have:=h i j (by omega) hj hij
  rw[hZ,hZ,kF (by omega),kF hj]
  exact this
 intro h i j hi hj hij
 have:=h i j hij hj
 rw[hZ,hZ,kF (by omega),kF hj] at this
 exact this
theorem ziO (x:Cir) (l:List Thg):clsL x l=[] ↔ Fine x l:=by
 have e1:clsL x l=[] ↔ ∀ i,i<l.length->clsI x l i=[]:=by
  unfold clsL clsU
  rw[List.flatMap_eq_nil_iff]
  exact⟨fun h i hi=>h i (kK.2 hi),fun h i hi=>h i (kK.1 hi)⟩
 have e2:∀ i,i<l.length->(clsI x l i=[] ↔ noneB (l.getD i default)=false /\ ∀ j,i<j->j<l.length->clB x (l.getD i default) (l.getD j default)=false):=fun i hi=>by
  unfold clsI
  cases hn:noneB (l.getD i default) with
  | true=>simp
  | false=>
  simp only[qY,jaF,true_and]
  unfold clsJ
  rw[List.map_eq_nil_iff,List.filter_eq_nil_iff]
  constructor
  ·intro h j hij hj
   have hm:l.getD j default∈(l.drop (i+1)).take (l.length - (i+1)):=by
    rw[List.take_of_length_le (by rw[jak]; omega)]
    have:=gd1 (l:=l.drop (i+1)) (i:=j - (i+1)) (by rw[jak]; omega) default
    rw[zn2 (by omega),show i+1+(j - (i+1))=j by omega] at this
    exact this
   have:=h _ hm
   simpa using this
  intro h t ht
  have ht:=jaj ht
  obtain⟨j,hj,rfl⟩:=zbi default ht
  rw[jak] at hj
  rw[zn2 (by omega),h (i+1+j) (by omega) (by omega)]
  decide
 rw[e1]
 unfold Fine
 rw[zfi]
 constructor
 ·intro h
  refine⟨fun t ht=>?_,fun i j hij hj=>?_⟩
  ·obtain⟨i,hi,rfl⟩:=zbi default ht
   exact ((e2 i hi).1 (h i hi)).1
  have h1:=((e2 i (by omega)).1 (h i (by omega))).2 j hij hj
  have h2:=((e2 j hj).1 (h j hj)).1
  unfold clB at h1
  rw[h2] at h1
  exact h1
 intro ⟨h1,h2⟩ i hi
 refine (e2 i hi).2 ⟨h1 _ (gd1 hi default),fun j hij hj=>?_⟩
 have:=h2 i j hij hj
 unfold clB
 unfold cl2 at this
 rw[this,kN]
theorem zou (x:Cir) (t:Int):∀ (l:List Thg) (z:ZS) (y:Int),(l.foldl (zStep x t) z).lo<=y ↔ z.lo<=y /\ ∀ g∈l,g.s.Lo - drf x g.k.Tick t<=y
 | [],z,y=>by simp
 | g :: r,z,y=>by
  rw[jaB,zou x t r,jbk]
  unfold zStep
  dsimp only
  constructor
  ·rintro⟨h1,h2⟩
   split at h1 <;> exact⟨by omega,by omega,h2⟩
  rintro⟨h1,h2,h3⟩
  split <;> exact⟨by omega,h3⟩
theorem zov (x:Cir) (t:Int):∀ (l:List Thg) (z:ZS) (y:Int),y<=(l.foldl (zStep x t) z).hi ↔ y<=z.hi /\ ∀ g∈l,y<=g.s.Hi+drf x g.k.Tick t
 | [],z,y=>by simp
 | g :: r,z,y=>by
  rw[jaB,zov x t r,jbk]
  unfold zStep
  dsimp only
  constructor
  ·rintro⟨h1,h2⟩
   split at h1 <;> exact⟨by omega,by omega,h2⟩
  rintro⟨h1,h2,h3⟩
  split <;> exact⟨by omega,h3⟩
theorem zlv {l:List Rpt} {i:Nat} (hi:i<=l.length) (x:Int):((l.take i).map Rpt.ID).contains x=true ↔ ∃ j,j<i/\(l.getD j default).ID=x:=by
 rw[kD,kI]
 constructor
 ·rintro⟨r,hr,rfl⟩
  obtain⟨j,hj,rfl⟩:=zbi default hr
  rw[jQ] at hj
  refine⟨j,by omega,?_⟩
  rw[hZ,hZ,jS,kH (by omega)]
 rintro⟨j,hj,rfl⟩
 refine⟨l.getD j default,?_,rfl⟩
 have:=gd1 (l:=l.take i) (i:=j) (by rw[jQ]; omega) default
 rw[hZ,jS,kH hj,<- hZ] at this
 exact this
theorem zoD (l:List Rpt) (g:FuncId) (c0:D) (p:Rpt->Bool) (hn:l.length<=1000000) (hp:∀ i,i<l.length->Spec PP g [(l.getD i default).v,.d c0] [B (p (l.getD i default))]):Spec PP 154 [.d (lR l),.d (cloB g [c0])] [N (idxL p l)]:=by
 refine sA Tryz.func154 ?_
 refine LoopOb.of (σ:=Nat) (fun i=>([(0,.d (lR l)),(1,.d (cloB g [c0])),(6,.d (lR l)),(7,.d (I l.length)),(8,.d (I i))],[])) (fun i=>i<=l.length /\ ∀ j,j<i->p (l.getD j default)=false) (fun i=>l.length - i) 0
  ⟨rfl,trivial,wq rfl⟩ z0L fun i hi=>?_
 obtain⟨hi,ha⟩:=hi
 apply bY <;> intro h1
 ·have h1:i<l.length:=by have:=dT h1; omega
  refine⟨⟨rfl,by omega,by omega⟩,?_⟩
  refine cP (hp i h1) rfl rfl ?_
  apply bY <;> intro h2
  ·refine r1I rfl ?_
   exact (zak default h1 h2 ha).symm
  refine⟨i6,?_⟩
  refine⟨i+1,⟨rfl,trivial,wq rfl⟩,⟨h1,fun j hj=>?_⟩,(msr (by omega))⟩
  by_cases e:j=i
  ·subst e; exact h2
  exact ha j (by omega)
 have h1:i=l.length:=by have:=dF h1; omega
 subst h1
 refine r1I rfl ?_
 exact (zao default ha).symm
theorem capB2 (x y:D) {f:Nat->D} (h0:f 0 = .ptr 1 (getD' [x])) (h1:f 1 = .ptr 1 (getD' [y])):∀ j,j<2->D.eqv (f j) (getD' [capB [x],capB [y]] j)
 | 0,_=>by rw[h0]; exact dE _
 | 1,_=>by rw[h1]; exact dE _
abbrev rowRp (l:List Rpt):Nat->Nat->D:=fun i=>(l.getD i default).at
theorem zqe {vs:List Rpt} {p:Rpt} {g:Nat->Nat->D} (hg:∀ j,j<8->D.eqv (g 0 j) (p.at j)):D.eqv (.slc 8 (vs.length+1) (appRow vs.length (rowRp vs) g)) (.slc 8 (vs ++ [p]).length (rowRp (vs ++ [p]))):=by
 refine⟨by simp,.inr ⟨rfl,fun i hi j hj=>?_⟩⟩
 show D.eqv (appRow vs.length (rowRp vs) g i j) (((vs ++ [p]).getD i default).at j)
 unfold appRow
 by_cases h:i<vs.length
 ·rw[kH h,hZ,jJ h,<- hZ]
  exact dE _
 have e:i=vs.length:=by omega
 subst e
 rw[kG h,kE,hZ,jK (jE _),kE]
 exact hg j hj
theorem zrq (l:List Rpt) (g:FuncId) (c0:D) (p:Rpt->Bool) (hn:l.length<=1000000) (hp:∀ i,i<l.length->Spec PP g [(l.getD i default).v,.d c0] [B (p (l.getD i default))]):Spec PP 116 [.d (lR l),.d (cloB g [c0])] [B (l.any p)]:=by
 refine sA Tryz.func116 ?_
 refine cP (zoD l g c0 p hn hp) rfl rfl ?_
 refine r1B rfl ?_
 rw[kP,qU]
 exact zbw p l default
theorem zio (l:List Rpt) (hn:l.length<=1000000):SpecO PP 145 [.d (lR l)] 93 8 l.length (rowRp l):=by
 refine zda Tryz.func145 rfl (by kernel_rfl) rfl ?_
 refine fun b hb=>?_
 apply bY <;> intro h1
 ·have h0:=hb h1
  refine⟨rfl,rfl,h0.symm,fun i hi=>?_⟩
  omega
 refine⟨⟨.inr rfl,by unfold maxLen; omega,by show (0+l.length) * 64<=140737488355328; omega⟩,?_⟩
 refine⟨rfl,rfl,kU _,fun i hi j hj=>?_⟩
 exact dE _
theorem zlH (l:List Rpt) (m j:Nat):(rowRp l m j).flat=true:=by
 show ((l.getD m default).at j).flat=true
 unfold Rpt.at
 split <;> rfl
theorem zrN (l:List Int) (x:Int) (hn:l.length<=1000000):Spec PP 155 [.d (lI l),N x] [N (idxL (· == x) l)]:=by
 refine sA Tryz.func155 ?_
 refine LoopOb.of (σ:=Nat) (fun i=>([(0,.d (lI l)),(1,.d (I x)),(6,.d (lI l)),(7,.d (I l.length)),(8,.d (I i))],[])) (fun i=>i<=l.length /\ ∀ j,j<i->(l.getD j 0==x)=false) (fun i=>l.length - i) 0
  ⟨rfl,trivial,wq rfl⟩ z0L fun i hi=>?_
 obtain⟨hi,ha⟩:=hi
 apply bY <;> intro h1
 ·have h1:i<l.length:=by have:=dT h1; omega
  refine⟨⟨rfl,by omega,by omega⟩,?_⟩
  apply bY <;> intro h2
  ·have h2:(l.getD i 0==x)=true:=by rw[BEq.comm]; exact h2
   refine r1I rfl ?_
   exact (zak 0 h1 h2 ha).symm
  have h2:(l.getD i 0==x)=false:=by rw[BEq.comm]; exact h2
  refine⟨i6,?_⟩
  refine⟨i+1,⟨rfl,trivial,wq rfl⟩,⟨h1,fun j hj=>?_⟩,(msr (by omega))⟩
  by_cases e:j=i
  ·subst e; exact h2
  exact ha j (by omega)
 have h1:i=l.length:=by have:=dF h1; omega
 subst h1
 refine r1I rfl ?_
 exact (zao 0 ha).symm
theorem zmh (l:List Int) (x:Int):l.any (· == x)=l.contains x:=by
 rw[kP,kJ,kD]
 exact⟨fun⟨y,hy,e⟩=>by rw[<- eq_of_beq e]; exact hy,fun h=>⟨x,h,by simp⟩⟩
theorem zdx (l:List Int) (x:Int) (hn:l.length<=1000000):Spec PP 103 [.d (lI l),N x] [B (l.contains x)]:=by
 refine sA Tryz.func103 ?_
 refine cP (zrN l x hn) rfl rfl ?_
 refine r1B rfl ?_
 rw[kP,qU,<- zmh]
 exact zbw (· == x) l 0
theorem zpL (l:List Int) (g:FuncId) (c0:D) (p:Int->Bool) (hn:l.length<=1000000) (hp:∀ i,i<l.length->Spec PP g [N (l.getD i 0),.d c0] [B (p (l.getD i 0))]):Spec PP 185 [.d (lI l),.d (cloB g [c0])] [N (idxL p l)]:=by
 refine sA Tryz.func185 ?_
 refine LoopOb.of (σ:=Nat) (fun i=>([(0,.d (lI l)),(1,.d (cloB g [c0])),(6,.d (lI l)),(7,.d (I l.length)),(8,.d (I i))],[])) (fun i=>i<=l.length /\ ∀ j,j<i->p (l.getD j 0)=false) (fun i=>l.length - i) 0
  ⟨rfl,trivial,wq rfl⟩ z0L fun i hi=>?_
 obtain⟨hi,ha⟩:=hi
 apply bY <;> intro h1
 ·have h1:i<l.length:=by have:=dT h1; omega
  refine⟨⟨rfl,by omega,by omega⟩,?_⟩
  refine cP (hp i h1) rfl rfl ?_
  apply bY <;> intro h2
  ·refine r1I rfl ?_
   exact (zak 0 h1 h2 ha).symm
  refine⟨i6,?_⟩
  refine⟨i+1,⟨rfl,trivial,wq rfl⟩,⟨h1,fun j hj=>?_⟩,(msr (by omega))⟩
  by_cases e:j=i
  ·subst e; exact h2
  exact ha j (by omega)
 have h1:i=l.length:=by have:=dF h1; omega
 subst h1
 refine r1I rfl ?_
 exact (zao 0 ha).symm
theorem zpM (l:List Int) (g:FuncId) (c0:D) (p:Int->Bool) (hn:l.length<=1000000) (hp:∀ i,i<l.length->Spec PP g [N (l.getD i 0),.d c0] [B (p (l.getD i 0))]):Spec PP 138 [.d (lI l),.d (cloB g [c0])] [B (l.any p)]:=by
 refine sA Tryz.func138 ?_
 refine cP (zpL l g c0 p hn hp) rfl rfl ?_
 refine r1B rfl ?_
 rw[kP,qU]
 exact zbw p l 0
abbrev lII (l:List (List Int)):D:=.slc 1 l.length fun i _=>lI (l.getD i [])
theorem zmP (l:List (List Int)) (g:FuncId) (c0 c1:D) (p:List Int->Bool) (hn:l.length<=1000000) (hp:∀ i,i<l.length->Spec PP g [.d (lI (l.getD i [])),.d c0,.d c1] [B (p (l.getD i []))]):Spec PP 119 [.d (lII l),.d (cloB g [c0,c1])] [N (idxL p l)]:=by
 refine sA Tryz.func119 ?_
 refine LoopOb.of (σ:=Nat) (fun i=>([(0,.d (lII l)),(1,.d (cloB g [c0,c1])),(6,.d (lII l)),(7,.d (I l.length)),(8,.d (I i))],[])) (fun i=>i<=l.length /\ ∀ j,j<i->p (l.getD j [])=false) (fun i=>l.length - i) 0
  ⟨rfl,trivial,wq rfl⟩ z0L fun i hi=>?_
 obtain⟨hi,ha⟩:=hi
 apply bY <;> intro h1
 ·have h1:i<l.length:=by have:=dT h1; omega
  refine⟨⟨rfl,by omega,by omega⟩,?_⟩
  refine cP (hp i h1) rfl rfl ?_
  apply bY <;> intro h2
  ·refine r1I rfl ?_
   exact (zak [] h1 h2 ha).symm
  refine⟨i6,?_⟩
  refine⟨i+1,⟨rfl,trivial,wq rfl⟩,⟨h1,fun j hj=>?_⟩,(msr (by omega))⟩
  by_cases e:j=i
  ·subst e; exact h2
  exact ha j (by omega)
 have h1:i=l.length:=by have:=dF h1; omega
 subst h1
 refine r1I rfl ?_
 exact (zao [] ha).symm
theorem zmQ (l:List (List Int)) (g:FuncId) (c0 c1:D) (p:List Int->Bool) (hn:l.length<=1000000) (hp:∀ i,i<l.length->Spec PP g [.d (lI (l.getD i [])),.d c0,.d c1] [B (p (l.getD i []))]):Spec PP 54 [.d (lII l),.d (cloB g [c0,c1])] [B (l.any p)]:=by
 refine sA Tryz.func54 ?_
 refine cP (zmP l g c0 c1 p hn hp) rfl rfl ?_
 refine r1B rfl ?_
 rw[kP,qU]
 exact zbw p l []
@[irreducible] def filR (p:Rpt->Bool) (l:List Rpt) (j:Nat):List Rpt:=(l.take j).filter fun r=>!p r
theorem zbN (p:Rpt->Bool) (l:List Rpt) {j:Nat} (hj:j<l.length):filR p l (j+1)=filR p l j++(if p (l.getD j default)=true then [] else [l.getD j default]):=by
 unfold filR
 rw[zaE hj default,kM]
 congr 1
 by_cases h:p (l.getD j default)=true
 ·rw[kH h,qB (by rw[h]; decide)]; rfl
 rw[kG h,qA (by rw[wE.2 h]; rfl)]; rfl
theorem znZ (p:Rpt->Bool) (l:List Rpt) (j:Nat):(filR p l j).length<=j:=by
 unfold filR
 exact jM (kX _ _) (by rw[jQ]; omega)
theorem ziL (p:Rpt->Bool) (l:List Rpt) {j:Nat} (hj:j<=l.length) (h:∀ i,i<j->p (l.getD i default)=false):filR p l j=l.take j:=by
 induction j with
 | zero=>unfold filR; simp
 | succ j ih=>rw[zbN p l (by omega),kG (by rw[h j (by omega)]; decide),ih (by omega) fun i hi=>h i (by omega),zaE (by omega) default]
structure Day where
  s:Svc
  Rise:Int
  Long:Int
  R:List Rpt
  deriving Inhabited
abbrev Day.ds (d:Day):List D:=[I d.s.c.M.W,I d.s.c.M.H,lI d.s.c.M.G,lT d.s.c.T,lZ d.s.c.Z,lC d.s.k.C,lK d.s.k.K,I d.Rise,I d.Long,lR d.R]
abbrev Day.v (d:Day):V1:=.agg d.ds
theorem ziw (n lo hi:Int):Spec PP 73 [N n,N lo,N hi] [B (within n lo hi)]:=by
 refine sA Tryz.func73 ?_
 unfold within
 apply bY <;> intro h1
 ·repeat first | apply sT | apply sF
  exact r1B rfl (by rw[h1,qS])
 repeat first | apply sT | apply sF
 exact r1B rfl (by rw[h1,qN])
def isSg (r:Rpt):Bool:=r.Kind==1
def sigK (l:List Rpt):List Int:=(l.filter isSg).map Rpt.ID
def sigL (l:List Rpt):List Int:=(sigK l).mergeSort fun x y=>decide (x<=y)
theorem zeZ {l:List Rpt} {i:Nat} (h:i<l.length) (h1:isSg (l.getD i default)=true):sigK (l.take (i+1))=sigK (l.take i) ++ [(l.getD i default).ID]:=by
 unfold sigK
 rw[zaE h default,kM,qA h1,jT]; rfl
theorem zj9 {l:List Rpt} {i:Nat} (h:i<l.length) (h1:isSg (l.getD i default)=false):sigK (l.take (i+1))=sigK (l.take i):=by
 unfold sigK
 rw[zaE h default,kM,qB (by rw[h1]; decide)]; simp
theorem zbV (l:List Rpt):(sigK l).length<=l.length:=by unfold sigK; rw[kS]; exact kX _ _
theorem zbh (l:List Rpt):(sigL l).length=(sigK l).length:=qM _
theorem zbv (d:Day) (hn:d.R.length<=1000000):Spec PP 53 [d.v] [.d (lI (sigL d.R))]:=by
 refine sA Tryz.func53 ?_
 refine LoopOb.of (σ:=Nat) (fun i=>([(3,.own 3),(7,.d (lR d.R)),(8,.d (I d.R.length)),(9,.d (I i))],[(3,.row 3 1 (sigK (d.R.take i)).length (rowI (sigK (d.R.take i))))])) (fun i=>i<=d.R.length) (fun i=>d.R.length - i) 0
  ⟨rfl,⟨obR rfl ⟨rfl,.inl rfl⟩,trivial⟩,wq rfl⟩ (jF _) fun i hi=>?_
 have hi:i<=d.R.length:=hi
 have hl:=zbV (d.R.take i)
 rw[jQ] at hl
 apply bY <;> intro h1
 ·have h1:i<d.R.length:=by have:=dT h1; omega
  refine⟨⟨rfl,by omega,by omega⟩,?_⟩
  apply bY <;> intro h2
  ·refine⟨⟨.inr rfl,by unfold maxLen; omega,by show ((sigK (d.R.take i)).length+1) * 8<=140737488355328; omega⟩,?_⟩
   refine⟨i6,?_⟩
   refine⟨i+1,⟨rfl,⟨obR rfl ?_,trivial⟩,wq rfl⟩,h1,msr h1⟩
   rw[zeZ h1 h2]
   exact zng rfl
  refine⟨i6,?_⟩
  refine⟨i+1,⟨rfl,⟨obR rfl ?_,trivial⟩,wq rfl⟩,h1,msr h1⟩
  rw[zj9 h1 h2]
  exact dE _
 have h1:i=d.R.length:=by have:=dF h1; omega
 subst h1
 rw[jZ] at hl ⊢
 refine CallSt.rw' rfl (zh5 (sigK d.R) (by omega)) ⟨⟨[],.tmp 22,[],[],rfl,rfl,rfl,rfl,rfl,rfl,rfl⟩⟩ rfl ?_
 exact⟨⟨_,_,_,_,rfl,(zbh d.R).symm,.inr ⟨rfl,fun i _ j _=>dE _⟩⟩,trivial⟩
def risB (l:List Int):Bool:=(List.range (l.length - 1)).all fun i=>decide (l.getD i 0<l.getD (i+1) 0)
def setB (l:List Int):Bool:=risB l && decide (0<l.length)
theorem zqF (l:List Int) (hn:l.length<=1000000):Spec PP 43 [.d (lI l)] [B (setB l)]:=by
 refine sA Tryz.func43 ?_
 refine LoopOb.of (σ:=Nat) (fun i=>([(0,.d (lI l)),(3,.d (I i))],[])) (fun i=>1<=i /\ ∀ j,j+1<i->j+1<l.length->l.getD j 0<l.getD (j+1) 0) (fun i=>l.length - i) 1
  ⟨rfl,trivial,wq rfl⟩ ⟨jE _,fun j hj=>by omega⟩ fun i hi=>?_
 obtain⟨hi,ha⟩:=hi
 apply bY <;> intro h1
 ·have h1:i<l.length:=by have:=dT h1; omega
  refine oL (List.range 10) (FzOb.no ?_)
  refine⟨⟨rfl,by omega,by omega⟩,?_⟩
  refine⟨i6,?_⟩
  refine⟨⟨rfl,by omega,by omega⟩,?_⟩
  have e:((i:Int) - 1).toNat=i - 1:=by omega
  apply bY <;> intro h2
  ·have h2:=dT h2
   rw[e,jac] at h2
   refine r1B rfl ?_
   symm
   unfold setB risB
   rw[Bool.and_eq_false_iff]; left
   rw[wE]
   intro h
   have:=jC.1 h (i - 1) (kK.2 (by omega))
   rw[show i - 1+1=i by omega] at this
   have:=qC this
   omega
  have h2:=dF h2
  rw[e,jac] at h2
  refine⟨i6,?_⟩
  refine⟨i+1,⟨rfl,trivial,wq rfl⟩,⟨by omega,fun j hj hl=>?_⟩,msr h1⟩
  by_cases ej:j+1=i
  ·have:j=i - 1:=by omega
   subst this
   rw[show i - 1+1=i by omega]
   omega
  exact ha j (by omega) hl
 have h1:l.length<=i:=by have:=dF h1; omega
 refine r1B rfl ?_
 unfold setB
 have:risB l=true:=jC.2 fun j hj=>by
  have:=kK.1 hj
  exact jG (ha j (by omega) (by omega))
 rw[this,qS]
 exact kZ.2 (by omega)
def partB (a b:List Int):Bool:=a.all fun x=>b.contains x
theorem zqD (x:Int) (b:List Int) (hn:b.length<=1000000):Spec PP 139 [N x,.d (capB [lI b])] [B (!b.contains x)]:=by
 refine sA Tryz.func139 ?_
 refine cP (zdx b x hn) rfl rfl ?_
 exact r1B rfl rfl
theorem zo0 (a b:List Int) (ha:a.length<=1000000) (hb:b.length<=1000000):Spec PP 82 [.d (lI a),.d (lI b)] [B (partB a b)]:=by
 refine sA Tryz.func82 ?_
 refine CallSt.fzE [3] (zpM a 139 (capB [lI b]) (fun x=>!b.contains x) ha fun i _=>zqD _ b hb) rfl ⟨dE _,⟨rfl,rfl,fun j hj=>by obtain rfl:j=0:=jag.1 hj; exact dE _⟩,trivial⟩ rfl ?_
 refine r1B rfl ?_
 unfold partB
 rw[kP,jY,jaz,jC]
 simp
section
variable {s:St} {o:Oper} {fo:Operand} {f:FuncId} {K:St->Prop} {E:Env}
theorem CallSt.tkF (ids:List Nat) {args:Array Operand} {at':Array TypeId} (hop:o.op = .call { callee:=.value fo,args,argTypes:=at' }) {pre post po:List V1} {i e k n n':Nat} {g g':Nat->Nat->D} (h:SpecT PP f pre post e k n g n' g')
  (ha:RowArgs (s.freezes ids) fo args.toList f pre i po) (he:eqV1s po post) (hi:(s.freezes ids).ob i=some (.row e k n g)) (hk:K (remk (s.freezes ids) i (.row e k n' g') o.dst)):CallSt EN PP s o fo args.toList K:=by
 rw[zaf]
 refine .inr (.inr (.inl ⟨_,⟨fun cx a w hD hd hR=>?_⟩,hk⟩))
 obtain⟨γ,hg⟩:=R.freezes ids hR
 obtain⟨caps,vs,us,xs,h1,h2,h3,h4,h5⟩:=zbG hg ha hi
 refine .enter (zau hop h1 h.1) ?_
 rw[h2]
 refine (h.2 w _ vs us _ xs (fun b hb=>zaj hg hb) h3 (za2 he h4) h5).mono fun en w' ⟨r,he,hgr,hbl,ys,y1,y2,y3⟩=>⟨r,he,?_⟩
 refine zca (o':=.row e k n' g') hg hi hd hgr (fun e=>by have:=hD e; cases this) (fun b hb=>hbl b hb) (fun ok hok=>⟨ys,by rw[zac]; exact y1,(fun b hb=>?_),y2,fun m hm j hj=>?_⟩) (fun cs e=>by cases e)
 ·rw[zac] at hb
  rcases hbl b hb with h6 | h6
  ·exact (zav hg hi h6).1
  exact .inl (jM hg.below.size h6)
 obtain⟨u,hu,hr⟩:=y3 m hm j hj
 exact⟨u,hu,Rep.keep0 (w:=w') (fun b hb=>hb.elim) hr⟩
end
theorem zct {α:Type} (m:List α) (k i:Nat) (p d:α) (hk:k<m.length):(m.set k p).getD i d=if i=k then p else m.getD i d:=by
 rw[hZ,List.getElem?_set,hZ]
 by_cases h:k=i
 ·subst h; simp[hk]
 rw[kG h,kG fun e=>h e.symm]
theorem setRp {m:List Rpt} {n k k':Nat} {p q:Rpt} (hk:k<m.length) (e1:k'=k) (e2:q=p):D.eqv (.slc 8 n (storeRow (rowRp m) k' 0 [I q.ID,I q.Kind,I q.Tower,I q.C,I q.Tick,I q.From,I q.To,I q.Slack])) (.slc 8 n (rowRp (m.set k p))):=by
 subst e1; subst e2
 refine⟨rfl,.inr ⟨rfl,fun i hi j hj=>?_⟩⟩
 show D.eqv (storeRow (rowRp m) k' 0 _ i j) (((m.set k' q).getD i default).at j)
 rw[zct m k' i q default hk]
 unfold storeRow
 by_cases h:i=k'
 ·rw[kH h,kH ⟨h,by omega,by simpa using hj⟩]
  match j,hj with
  | 0,_=>exact⟨rfl,rfl⟩
  | 1,_=>exact⟨rfl,rfl⟩
  | 2,_=>exact⟨rfl,rfl⟩
  | 3,_=>exact⟨rfl,rfl⟩
  | 4,_=>exact⟨rfl,rfl⟩
  | 5,_=>exact⟨rfl,rfl⟩
  | 6,_=>exact⟨rfl,rfl⟩
  | 7,_=>exact⟨rfl,rfl⟩
 rw[kG h,kG fun hh=>h hh.1]
 exact dE _
theorem zj2 (p:Rpt->Bool) (g:FuncId) (c0:D) (hg:∀ r:Rpt,Spec PP g [r.v,.d c0] [B (p r)]) (l:List Rpt) (hn:l.length<=1000000):SpecT PP 101 [] [.d (cloB g [c0])] 93 8 l.length (rowRp l) (filR p l l.length).length (rowRp (filR p l l.length)):=by
 refine zmI Tryz.func101 rfl (by kernel_rfl) (fun i _ j _=>zlH _ i j) rfl fun v=>?_
 refine cP (zoD l g c0 p hn fun i _=>hg _) rfl rfl ?_
 rcases idxL_cases p l default with⟨e0,h1⟩ | ⟨i,h1,e0,h2,h3⟩
 ·refine Split.yes (by rw[e0]; rfl) ?_
  have e:filR p l l.length=l:=by rw[ziL p l (jE _) h1,jZ]
  rw[e]
  exact⟨rfl,rfl,rfl,fun i hi j hj=>dE _⟩
 refine Split.no (by rw[e0]; simp) ?_
 have ck:filR p l (i+1)=l.take i:=by rw[zbN p l h1,kH h2,jah,ziL p l (by omega) h3]
 refine⟨by rw[e0]; exact i6,?_⟩
 refine LoopOb.of (σ:=Nat × Nat × List Rpt) (fun x=>([(0,.own 0),(1,.d (cloB g [c0])),(5,.d (I x.2.1)),(6,.d (I x.1))],[(0,.row 93 8 l.length (rowRp x.2.2))]))
  (fun x=>i+1<=x.1/\x.1<=l.length/\x.2.2.length=l.length/\x.2.1<=x.1 - 1/\x.2.2.take x.2.1=filR p l x.1 /\ ∀ m,x.1<=m->x.2.2.getD m default=l.getD m default) (fun x=>l.length - x.1) (i+1,i,l)
  ⟨rfl,⟨obR rfl (dE _),trivial⟩,rfl,avQ rfl,?_,?_,trivial⟩ ⟨jE _,h1,rfl,by simp,ck.symm,fun _ _=>rfl⟩ fun x hx=>?_
 ·exact avQ (by rw[e0]; rfl)
 ·exact avQ (by rw[e0]; rfl)
 obtain⟨x1,x2,x3,x4,x5,x6⟩:=hx
 apply bY <;> intro g1
 ·have g1:x.1<l.length:=by have:=dT g1; omega
  have e1:x.2.2.getD (x.1:Int).toNat default=l.getD x.1 default:=by rw[jac,x6 x.1 (jE _)]
  refine⟨⟨by omega,by omega⟩,⟨by omega,?_⟩⟩
  refine cP (hg (x.2.2.getD (x.1:Int).toNat default)) rfl rfl ?_
  apply bY <;> intro g2
  ·have g2:p (l.getD x.1 default)=false:=by rw[e1] at g2; simpa using g2
   refine⟨⟨by omega,by omega⟩,⟨by omega,?_⟩⟩
   refine⟨i6,?_⟩
   refine⟨i6,?_⟩
   refine⟨(x.1+1,x.2.1+1,x.2.2.set x.2.1 (l.getD x.1 default)),⟨rfl,⟨obR rfl (setRp (by omega) (jac _) e1),trivial⟩,rfl,wq rfl⟩,⟨by omega,by omega,by simp; omega,(show x.2.1+1<=x.1+1 - 1 by omega),?_,fun m hm=>?_⟩,?_⟩
   ·show (x.2.2.set x.2.1 (l.getD x.1 default)).take (x.2.1+1)=filR p l (x.1+1)
    rw[zbN p l g1,kG (by rw[g2]; decide),zaE (i:=x.2.1) (by simp; omega) default,zct _ _ _ _ _ (by omega),kH rfl,<- x5,List.take_set_of_le (jE _)]
   ·have hm:x.1+1<=m:=hm
    show (x.2.2.set x.2.1 (l.getD x.1 default)).getD m default=_
    rw[zct _ _ _ _ _ (by omega),kG (by omega)]
    exact x6 m (by omega)
   show l.length - (x.1+1)<l.length - x.1
   omega
  have g2:p (l.getD x.1 default)=true:=by rw[e1] at g2; simpa using g2
  refine⟨i6,?_⟩
  refine⟨(x.1+1,x.2.1,x.2.2),⟨rfl,⟨obR rfl (dE _),trivial⟩,rfl,wq rfl⟩,⟨by omega,by omega,x3,(show x.2.1<=x.1+1 - 1 by omega),?_,fun m hm=>x6 m (by have:x.1+1<=m:=hm; omega)⟩,?_⟩
  ·show x.2.2.take x.2.1=filR p l (x.1+1)
   rw[zbN p l g1,kH g2,jah,x5]
  show l.length - (x.1+1)<l.length - x.1
  omega
 have g1:x.1=l.length:=by have:=dF g1; omega
 have hk':x.2.1=(filR p l l.length).length:=by
  have:=jI List.length x5
  rw[jQ,g1] at this
  omega
 refine⟨⟨rfl,by omega,by omega⟩,?_⟩
 refine⟨by omega,?_⟩
 refine⟨⟨by omega,by omega⟩,?_⟩
 refine⟨rfl,rfl,?_,fun i hi j hj=>?_⟩
 ·show (x.2.1:Int).toNat=_
  omega
 have e3:(filR p l l.length).getD i default=x.2.2.getD i default:=by
  rw[<- g1,<- x5,hZ,jS,kH (by omega),<- hZ]
 show D.eqv (clrRow (rowRp x.2.2) (x.2.1:Int).toNat (l.length - (x.2.1:Int).toNat) _ i j) (((filR p l l.length).getD i default).at j)
 unfold clrRow
 rw[kG (by omega),e3]
 exact dE _
def offB (ids:List Int) (r:Rpt):Bool:=(r.Kind==1) && !ids.contains r.ID
def lstD (d:Day) (ids:List Int):List Rpt:=d.R.filter fun r=>!offB ids r
theorem znv (d:Day) (ids:List Int):(lstD d ids).length<=d.R.length:=kX _ _
theorem zqE (ids:List Int) (hi:ids.length<=1000000) (r:Rpt):Spec PP 146 [r.v,.d (capB [lI ids])] [B (offB ids r)]:=by
 refine sA Tryz.func146 ?_
 apply bY <;> intro h1
 ·have h1:(r.Kind==1)=true:=h1
  refine cP (zdx ids r.ID hi) rfl rfl ?_
  refine sT ?_
  exact r1B rfl (by unfold offB; rw[h1,qS])
 have h1:(r.Kind==1)=false:=h1
 refine sF ?_
 exact r1B rfl (by unfold offB; rw[h1,qN])
theorem zlm (d:Day) (ids:List Int) (hn:d.R.length<=1000000) (hi:ids.length<=1000000):Spec PP 92 [d.v,.d (lI ids)] [.d (lR (lstD d ids))]:=by
 have e:filR (offB ids) d.R d.R.length=lstD d ids:=by unfold filR lstD; rw[jZ]
 refine sA Tryz.func92 ?_
 refine CallSt.own (zio d.R hn) rfl rfl (fun m j _ _=>zlH _ m j) ?_
 refine CallSt.tkF [3] rfl (zj2 (offB ids) 146 (capB [lI ids]) (zqE ids hi) d.R hn) ⟨⟨[],.tmp 7,[.tmp 8],[],rfl,rfl,rfl,rfl,rfl,rfl,rfl⟩⟩ ⟨⟨rfl,rfl,fun j hj=>by obtain rfl:j=0:=jag.1 hj; exact dE _⟩,trivial⟩ rfl ?_
 rw[e]
 exact⟨⟨_,_,_,_,rfl,rfl,.inr ⟨rfl,fun i _ j _=>dE _⟩⟩,trivial⟩
def day1E (d:Day) (i:Nat):Int:=
 if crpE d.s (d.R.getD i default)≠0 then crpE d.s (d.R.getD i default) else if ((d.R.take i).any fun x=>x.ID==(d.R.getD i default).ID)=true then 6 else 0
def dayE (d:Day):Int:=
 if svcE d.s≠0 then svcE d.s else if (!within d.Rise 0 200 || !within d.Long 0 1440)=true then 1
 else if 7<(sigK d.R).length \/ 10+(sigK d.R).length<d.R.length then 2 else err1 (day1E d) d.R.length
theorem znK (x r:Rpt):Spec PP 117 [x.v,.d (capB r.ds)] [B (x.ID==r.ID)]:=by
 refine sA Tryz.func117 ?_
 exact r1B rfl rfl
theorem zqB (l:List Rpt) {i:Nat} (h:i<=l.length):D.eqv (.slc 8 i fun m=>(l.getD m default).at) (lR (l.take i)):=by
 refine⟨by rw[jQ]; omega,.inr ⟨rfl,fun m hm j _=>?_⟩⟩
 show D.eqv ((l.getD m default).at j) (((l.take i).getD m default).at j)
 rw[hZ,hZ,jS,kH hm]
 exact dE _
theorem zfy (d:Day) (hn:d.R.length<=1000000):Spec PP 51 [d.v] [.d (.int .i64 (dayE d))]:=by
 refine sA Tryz.func51 ?_
 refine cP (zhi d.s) rfl rfl ?_
 apply bY <;> intro h0
 ·refine r1I rfl ?_
  unfold dayE; rw[kH (by simpa using h0)]
 have h0:svcE d.s=0:=by simpa using h0
 refine cP (ziw d.Rise 0 200) rfl rfl ?_
 apply bY <;> intro h1
 ·have h1:(!within d.Rise 0 200)=true:=h1
  repeat first | apply sT | apply sF
  refine r1I rfl ?_
  unfold dayE; rw[kG (fun hh=>hh h0),kH (by rw[h1]; rfl)]
 have h1:(!within d.Rise 0 200)=false:=h1
 refine cP (ziw d.Long 0 1440) rfl rfl ?_
 repeat first | apply sT | apply sF
 apply bY <;> intro h2
 ·have h2:(!within d.Long 0 1440)=true:=h2
  refine r1I rfl ?_
  unfold dayE; rw[kG (fun hh=>hh h0),kH (by rw[h1,h2]; rfl)]
 have h2:(!within d.Long 0 1440)=false:=h2
 refine CallSt.ro (zbv d hn) rfl rfl ?_
 have e1:(sigL d.R).length=(sigK d.R).length:=zbh d.R
 have eg:dayE d=if 7<(sigK d.R).length \/ 10+(sigK d.R).length<d.R.length then 2 else err1 (day1E d) d.R.length:=by
  unfold dayE; rw[kG (fun hh=>hh h0),kG (by rw[h1,h2]; decide)]
 rw[eg]
 apply bY <;> intro h3
 ·have h3:7<(sigK d.R).length:=by have:(7:Int)<(sigL d.R).length:=dT h3; omega
  repeat first | apply sT | apply sF
  refine r1I rfl ?_
  rw[kH (.inl h3)]
 have h3:¬ 7<(sigK d.R).length:=by have:¬ (7:Int)<(sigL d.R).length:=dF h3; omega
 refine⟨i6,?_⟩
 repeat first | apply sT | apply sF
 apply bY <;> intro h4
 ·have h4:10+(sigK d.R).length<d.R.length:=by have:(10:Int)<(d.R.length:Int) - (sigL d.R).length:=dT h4; omega
  refine r1I rfl ?_
  rw[kH (.inr h4)]
 have h4:¬ 10+(sigK d.R).length<d.R.length:=by have:¬ (10:Int)<(d.R.length:Int) - (sigL d.R).length:=dF h4; omega
 rw[kG (fun h=>h.elim h3 h4)]
 have hl:d.R.length<=17:=by omega
 refine LoopOb.of (σ:=Nat) (fun i=>([(1,.box 1 0),(38,.d (lR d.R)),(39,.d (I d.R.length)),(40,.d (I i))],[(1,.box (d.ds.map AV.d))])) (fun i=>i<=d.R.length /\ ∀ j,j<i->day1E d j=0) (fun i=>d.R.length - i) 0
  ⟨rfl,⟨obD d.ds rfl,trivial⟩,wq rfl⟩ z0L fun i hi=>?_
 obtain⟨hi,ha⟩:=hi
 apply bY <;> intro h5
 ·have h5:i<d.R.length:=by have:=dT h5; omega
  refine⟨⟨rfl,by omega,by omega⟩,?_⟩
  refine cP (zfx d.s (d.R.getD i default)) rfl rfl ?_
  apply bY <;> intro h6
  ·have h6:crpE d.s (d.R.getD i default)≠0:=by simpa using h6
   have e2:day1E d i=crpE d.s (d.R.getD i default):=by unfold day1E; rw[kH h6]
   refine r1I rfl ?_
   rw[zal ha (by rw[e2]; exact h6) h5,e2]
  have h6:crpE d.s (d.R.getD i default)=0:=by simpa using h6
  refine⟨⟨.inr rfl,by omega,by omega⟩,?_⟩
  refine CallSt.fzE [6] (zrq (d.R.take i) 117 (capB (d.R.getD i default).ds) (fun x=>x.ID==(d.R.getD i default).ID) (by rw[jQ]; omega) fun k _=>znK _ _) rfl ⟨zqB d.R hi,⟨rfl,rfl,fun j hj=>?_⟩,trivial⟩ rfl ?_
  ·obtain rfl:j=0:=jag.1 hj
   exact dE _
  apply bY <;> intro h7
  ·have e2:day1E d i=6:=by unfold day1E; rw[kG (fun hh=>hh h6),kH h7]
   refine r1I rfl ?_
   rw[zal ha (by rw[e2]; decide) h5,e2]
  have e2:day1E d i=0:=by unfold day1E; rw[kG (fun hh=>hh h6),kG (by rw[show ((d.R.take i).any fun x=>x.ID==(d.R.getD i default).ID)=false from h7]; decide)]
  refine⟨i6,?_⟩
  refine⟨i+1,⟨rfl,⟨obD d.ds rfl,trivial⟩,wq rfl⟩,⟨h5,fun j hj=>?_⟩,msr h5⟩
  by_cases e:j=i
  ·subst e; exact e2
  exact ha j (by omega)
 have h5:i=d.R.length:=by have:=dF h5; omega
 subst h5
 refine r1I rfl ?_
 rw[zaF ha]
def askE (d:Day) (ids:List Int):Int:=if dayE d≠0 then dayE d else if setB ids=false then 1 else if partB ids (sigL d.R)=false then 5 else 0
theorem zlp (d:Day) (ids:List Int) (hn:d.R.length<=1000000) (hi:ids.length<=1000000):Spec PP 99 [d.v,.d (lI ids)] [.d (.int .i64 (askE d ids))]:=by
 refine sA Tryz.func99 ?_
 refine cP (zfy d hn) rfl rfl ?_
 apply bY <;> intro h0
 ·refine r1I rfl ?_
  unfold askE; rw[kH (by simpa using h0)]
 have h0:dayE d=0:=by simpa using h0
 refine cP (zqF ids hi) rfl rfl ?_
 apply bY <;> intro h1
 ·have h1:setB ids=false:=by simpa using h1
  refine r1I rfl ?_
  unfold askE; rw[kG (fun hh=>hh h0),kH h1]
 have h1:setB ids=true:=by simpa using h1
 have hs:(sigL d.R).length<=1000000:=by rw[zbh]; exact jM (zbV _) hn
 refine CallSt.ro (zbv d hn) rfl rfl ?_
 refine cP (zo0 ids (sigL d.R) hi hs) rfl rfl ?_
 apply bY <;> intro h2
 ·have h2:partB ids (sigL d.R)=false:=by simpa using h2
  refine r1I rfl ?_
  unfold askE; rw[kG (fun hh=>hh h0),kG (by rw[h1]; decide),kH h2]
 have h2:partB ids (sigL d.R)=true:=by simpa using h2
 refine r1I rfl ?_
 unfold askE; rw[kG (fun hh=>hh h0),kG (by rw[h1]; decide),kG (by rw[h2]; decide)]
def brn1 (ids:List Int) (x:Bool × Int × Int) (r:Rpt):Bool × Int × Int:=if ids.contains r.ID=true then (true,min (if x.1=true then x.2.1 else r.Tick) r.Tick,max (if x.1=true then x.2.2 else r.Tick) r.Tick) else x
def brnS (ids:List Int) (l:List Rpt):Bool × Int × Int:=l.foldl (brn1 ids) (false,0,0)
def brnD (d:Day) (ids:List Int):Brn:=⟨(brnS ids d.R).2.1,(brnS ids d.R).2.2,d.Rise⟩
theorem zcx (ids:List Int) (l:List Rpt) {i:Nat} (h:i<l.length):brnS ids (l.take (i+1))=brn1 ids (brnS ids (l.take i)) (l.getD i default):=by
 unfold brnS
 rw[zaE h default,jab]; rfl
theorem zln (d:Day) (ids:List Int) (hn:d.R.length<=1000000) (hi:ids.length<=1000000):Spec PP 89 [d.v,.d (lI ids)] [(brnD d ids).v]:=by
 refine sA Tryz.func89 ?_
 refine LoopOb.of (σ:=Nat) (fun i=>([(1,.d (lI ids)),(2,.box 2 0),(4,.box 4 0),(5,.box 5 0),(6,.d (.bool (brnS ids (d.R.take i)).1)),(13,.d (lR d.R)),(14,.d (I d.R.length)),(15,.d (I i))],
   [(2,.box (d.ds.map AV.d)),(4,.box ([I 0,I 0,I 0].map AV.d)),(5,.box ([I (brnS ids (d.R.take i)).2.1,I (brnS ids (d.R.take i)).2.2,I d.Rise].map AV.d))])) (fun i=>i<=d.R.length) (fun i=>d.R.length - i) 0
  ⟨rfl,⟨obD d.ds rfl,obD [I 0,I 0,I 0] rfl,obD [I 0,I 0,I d.Rise] rfl,trivial⟩,wq rfl⟩ (jF _) fun i hi'=>?_
 have hi':i<=d.R.length:=hi'
 apply bY <;> intro h1
 ·have h1:i<d.R.length:=by have:=dT h1; omega
  have es:=zcx ids d.R h1
  refine⟨⟨rfl,by omega,by omega⟩,?_⟩
  refine cP (zdx ids (d.R.getD i default).ID hi) rfl rfl ?_
  apply bY <;> intro h2
  ·have h2:ids.contains (d.R.getD i default).ID=false:=by simpa using h2
   have e:brnS ids (d.R.take (i+1))=brnS ids (d.R.take i):=by rw[es]; unfold brn1; rw[kG (by rw[h2]; decide)]
   refine⟨i6,?_⟩
   refine⟨i+1,⟨rfl,⟨obD d.ds rfl,obD [I 0,I 0,I 0] rfl,?_,trivial⟩,?_⟩,h1,msr h1⟩
   ·rw[e]; exact obD [I _,I _,I _] rfl
   rw[e]; exact wq rfl
  have h2:ids.contains (d.R.getD i default).ID=true:=by simpa using h2
  apply bY <;> intro h3
  ·have h3:(brnS ids (d.R.take i)).1=false:=by simpa using h3
   have e:brnS ids (d.R.take (i+1))=(true,min (d.R.getD i default).Tick (d.R.getD i default).Tick,max (d.R.getD i default).Tick (d.R.getD i default).Tick):=by rw[es]; unfold brn1; rw[kH h2,h3]; rfl
   refine oL [0,1,2,4,4003,5,6,7,8] (FzOb.fz [8] ⟨rfl,?_⟩)
   refine oL [0,1,2,3,4,5,6,7,10,4008,9,11,12,13] (FzOb.fz [8] ⟨rfl,?_⟩)
   refine⟨i6,?_⟩
   refine⟨i+1,⟨rfl,⟨obD d.ds rfl,obD [I 0,I 0,I 0] rfl,?_,trivial⟩,?_⟩,h1,msr h1⟩
   ·rw[e]; exact obD [I _,I _,I _] rfl
   rw[e]; exact wq rfl
  have h3:(brnS ids (d.R.take i)).1=true:=by simpa using h3
  have e:brnS ids (d.R.take (i+1))=(true,min (brnS ids (d.R.take i)).2.1 (d.R.getD i default).Tick,max (brnS ids (d.R.take i)).2.2 (d.R.getD i default).Tick):=by rw[es]; unfold brn1; rw[kH h2,kH h3,kH h3]
  refine oL [0,1,2,3,4,5,6,7,10,4008,9,11,12,13] (FzOb.fz [8] ⟨rfl,?_⟩)
  refine⟨i6,?_⟩
  refine⟨i+1,⟨rfl,⟨obD d.ds rfl,obD [I 0,I 0,I 0] rfl,?_,trivial⟩,?_⟩,h1,msr h1⟩
  ·rw[e]; exact obD [I _,I _,I _] rfl
  rw[e]; exact⟨avQ rfl,avQ rfl,avQ rfl,avQ rfl,avQ (jI (fun b=>AV.d (.bool b)) h3),avQ rfl,avQ rfl,avQ rfl,trivial⟩
 have h1:i=d.R.length:=by have:=dF h1; omega
 subst h1
 rw[jZ]
 exact⟨rtC (a:=4) rfl rfl rfl rfl rfl rfl (zaa _),trivial⟩
theorem zhk (d:Day) (b:Brn) (hb:inR .i64 (b.To - b.From)):Spec PP 90 [d.v,b.v] [B (decide (b.To - b.From<=d.Long))]:=by
 refine sA Tryz.func90 ?_
 refine⟨hb,?_⟩
 exact r1B rfl rfl
structure DayOk (d:Day):Prop where
  s:svcE d.s=0
  rise:within d.Rise 0 200=true
  long:within d.Long 0 1440=true
  sg:(sigK d.R).length<=7
  bl:d.R.length<=10+(sigK d.R).length
  rp:∀ i,i<d.R.length->crpE d.s (d.R.getD i default)=0
  tw:∀ i,i<d.R.length->((d.R.take i).any fun x=>x.ID==(d.R.getD i default).ID)=false
theorem zb6 {d:Day} (h:dayE d=0):DayOk d:=by
 unfold dayE at h
 split at h
 ·rename_i h1; exact absurd h h1
 rename_i h1
 split at h
 ·cases h
 rename_i h2
 split at h
 ·cases h
 rename_i h3
 have a:=zbf h
 have A:∀ i,i<d.R.length->crpE d.s (d.R.getD i default)=0/\((d.R.take i).any fun x=>x.ID==(d.R.getD i default).ID)=false:=fun i hi=>by
  have:=a i hi
  unfold day1E at this
  split at this
  ·rename_i h4; exact absurd this h4
  rename_i h4
  split at this
  ·cases this
  rename_i h5
  exact⟨jL h4,by simpa using h5⟩
 have h2:within d.Rise 0 200=true/\within d.Long 0 1440=true:=by
  cases e1:within d.Rise 0 200 <;> cases e2:within d.Long 0 1440 <;> simp_all
 exact⟨jL h1,h2.1,h2.2,by omega,by omega,fun i hi=>(A i hi).1,fun i hi=>(A i hi).2⟩
theorem DayOk.n {d:Day} (h:DayOk d):d.R.length<=17:=by have:=h.sg; have:=h.bl; omega
theorem zi8 {n lo hi:Int} (h:within n lo hi=true):lo<=n/\n<=hi:=by
 unfold within at h
 simpa using h
theorem DayOk.tick {d:Day} (h:DayOk d) {i:Nat} (hi:i<d.R.length):0<=(d.R.getD i default).Tick/\(d.R.getD i default).Tick<=1048576:=by
 have h1:=(zsZ (h.rp i hi)).2.2
 unfold frmB frmC at h1
 have:within (d.R.getD i default).Tick 0 1048576=true:=by
  cases e:within (d.R.getD i default).Tick 0 1048576 with
  | true=>rfl
  | false=>rw[e] at h1; simp at h1
 exact zi8 this
theorem zl6 {d:Day} (h:DayOk d) (ids:List Int):∀ i,i<=d.R.length->0<=(brnS ids (d.R.take i)).2.1/\(brnS ids (d.R.take i)).2.1<=1048576/\0<=(brnS ids (d.R.take i)).2.2/\(brnS ids (d.R.take i)).2.2<=1048576
 | 0,_=>by simp[brnS]
 | i+1,hi=>by
  obtain⟨a1,a2,a3,a4⟩:=zl6 h ids i (by omega)
  obtain⟨b1,b2⟩:=h.tick (show i<d.R.length by omega)
  rw[zcx ids d.R (by omega)]
  unfold brn1
  split
  ·show 0<=min _ _/\min _ _<=_/\0<=max _ _/\max _ _<=_
   split <;> omega
  exact⟨a1,a2,a3,a4⟩
theorem zhB {d:Day} (h:DayOk d) (ids:List Int):inR .i64 ((brnD d ids).To - (brnD d ids).From):=by
 have:=zl6 h ids d.R.length (jE _)
 rw[jZ] at this
 show inR .i64 ((brnS ids d.R).2.2 - (brnS ids d.R).2.1)
 exact i6
def plsD (d:Day) (ids:List Int):List Place:=if (brnD d ids).To - (brnD d ids).From<=d.Long then (plcR d.s (brnD d ids) (lstD d ids)).1 else []
theorem zix {d:Day} (h:DayOk d) (ids:List Int) (hi:ids.length<=1000000):Spec PP 56 [d.v,.d (lI ids)] [.d (lP (plsD d ids))]:=by
 have hn:=h.n
 refine sA Tryz.func56 ?_
 refine cP (zln d ids (by omega) hi) rfl rfl ?_
 refine cP (zhk d (brnD d ids) (zhB h ids)) rfl rfl ?_
 apply bY <;> intro h1
 ·have h1:¬ (brnD d ids).To - (brnD d ids).From<=d.Long:=by simpa using h1
  have e:plsD d ids=[]:=by unfold plsD; rw[kG h1]
  rw[e]
  exact⟨⟨_,_,_,_,rfl,rfl,.inl rfl⟩,trivial⟩
 have h1:(brnD d ids).To - (brnD d ids).From<=d.Long:=by simpa using h1
 have e:plsD d ids=(plcR d.s (brnD d ids) (lstD d ids)).1:=by unfold plsD; rw[kH h1]
 rw[e]
 refine oL (List.range 12) (FzOb.no ?_)
 refine CallOb.ro (zlm d ids (by omega) hi) rfl rfl ?_
 refine CallOb.ro (znE d.s (brnD d ids) (lstD d ids)) rfl rfl ?_
 exact⟨dE _,trivial⟩
def offS (a i:Nat):Nat:=a &&& (127 - 2 ^ i)
def onS (a i:Nat):Nat:=a ||| 2 ^ i
theorem allL {n m:Nat} {P:Nat->Nat->Bool} (h:((List.range n).all fun a=>(List.range m).all (P a))=true) {a i:Nat} (ha:a<n) (hi:i<m):P a i=true:=
 jC.1 (jC.1 h a (kK.2 ha)) i (kK.2 hi)
theorem bShl {i:Nat} (hi:i<=7):IntKind.wrap .i64 (1 * 2 ^ (min ((i:Nat):Int).toNat 64))=((2 ^ i:Nat):Int):=by
 have:∀ i,i<8->IntKind.wrap .i64 (1 * 2 ^ (min ((i:Nat):Int).toNat 64))=((2 ^ i:Nat):Int):=by decide
 exact this i (by omega)
theorem bOff {a i:Nat} (ha:a<128) (hi:i<7):IntKind.wrap .i64 ((BitVec.ofInt 64 (a:Int) &&& ~~~ BitVec.ofInt 64 (IntKind.wrap .i64 (1 * 2 ^ (min ((i:Nat):Int).toNat 64)))).toNat:Int)=((offS a i:Nat):Int):=by
 have:=allL (n:=128) (m:=7) (P:=fun a i=>decide (IntKind.wrap .i64 ((BitVec.ofInt 64 (a:Int) &&& ~~~ BitVec.ofInt 64 (IntKind.wrap .i64 (1 * 2 ^ (min ((i:Nat):Int).toNat 64)))).toNat:Int)=((offS a i:Nat):Int))) (by decide +kernel) ha hi
 exact qC this
theorem bOn {a i:Nat} (ha:a<128) (hi:i<7):IntKind.wrap .i64 ((BitVec.ofInt 64 (a:Int) ||| BitVec.ofInt 64 (IntKind.wrap .i64 (1 * 2 ^ (min ((i:Nat):Int).toNat 64)))).toNat:Int)=((onS a i:Nat):Int):=by
 have:=allL (n:=128) (m:=7) (P:=fun a i=>decide (IntKind.wrap .i64 ((BitVec.ofInt 64 (a:Int) ||| BitVec.ofInt 64 (IntKind.wrap .i64 (1 * 2 ^ (min ((i:Nat):Int).toNat 64)))).toNat:Int)=((onS a i:Nat):Int))) (by decide +kernel) ha hi
 exact qC this
theorem bHas {a i:Nat} (ha:a<128) (hi:i<7):(IntKind.wrap .i64 ((BitVec.ofInt 64 ((a:Int).fdiv (2 ^ (min ((i:Nat):Int).toNat 64))) &&& BitVec.ofInt 64 1).toNat:Int)==1)=a.testBit i:=by
 have:=allL (n:=128) (m:=7) (P:=fun a i=>decide ((IntKind.wrap .i64 ((BitVec.ofInt 64 ((a:Int).fdiv (2 ^ (min ((i:Nat):Int).toNat 64))) &&& BitVec.ofInt 64 1).toNat:Int)==1)=a.testBit i)) (by decide +kernel) ha hi
 exact qC this
theorem zsp {a i:Nat} (ha:a<128) (hi:i<7):onS a i<128:=Nat.or_lt_two_pow (n:=7) ha (Nat.pow_lt_pow_right (by decide) hi)
def membA (ids:List Int) (set i:Nat):List Int:=((List.range i).filter (set.testBit ·)).map (ids.getD · 0)
def memb (ids:List Int) (set:Nat):List Int:=membA ids set ids.length
theorem zbJ {ids:List Int} {set i:Nat} (h:set.testBit i=true):membA ids set (i+1)=membA ids set i ++ [ids.getD i 0]:=by
 unfold membA
 rw[qP,kM,qA h,jT]; rfl
theorem zcp {ids:List Int} {set i:Nat} (h:set.testBit i=false):membA ids set (i+1)=membA ids set i:=by
 unfold membA
 rw[qP,kM,qB (by rw[h]; decide)]; simp
theorem zbn (ids:List Int) (set i:Nat):(membA ids set i).length<=i:=by
 unfold membA
 rw[kS]
 exact jM (kX _ _) (by rw[List.length_range]; exact jE _)
theorem zgl (ids:List Int) (set:Nat) (hn:ids.length<=7) (hs:set<128):Spec PP 81 [.d (lI ids),N (set:Int)] [.d (lI (memb ids set))]:=by
 refine sA Tryz.func81 ?_
 refine LoopOb.of (σ:=Nat) (fun i=>([(1,.d (I set)),(5,.own 5),(8,.d (lI ids)),(9,.d (I ids.length)),(10,.d (I i))],[(5,.row 3 1 (membA ids set i).length (rowI (membA ids set i)))])) (fun i=>i<=ids.length) (fun i=>ids.length - i) 0
  ⟨rfl,⟨obR rfl ⟨rfl,.inl rfl⟩,trivial⟩,wq rfl⟩ (jF _) fun i hi=>?_
 have hi:i<=ids.length:=hi
 have hl:=zbn ids set i
 apply bY <;> intro h1
 ·have h1:i<ids.length:=by have:=dT h1; omega
  refine⟨⟨rfl,by omega,by omega⟩,?_⟩
  refine⟨by omega,?_⟩
  apply bY <;> intro h2
  ·have h2:set.testBit i=true:=by rw[<- bHas hs (show i<7 by omega)]; exact h2
   refine⟨⟨.inr rfl,by unfold maxLen; omega,by show ((membA ids set i).length+1) * 8<=140737488355328; omega⟩,?_⟩
   refine⟨i6,?_⟩
   refine⟨i+1,⟨rfl,⟨obR rfl ?_,trivial⟩,wq rfl⟩,h1,msr h1⟩
   rw[zbJ h2]
   exact zng rfl
  have h2:set.testBit i=false:=by rw[<- bHas hs (show i<7 by omega)]; exact h2
  refine⟨i6,?_⟩
  refine⟨i+1,⟨rfl,⟨obR rfl ?_,trivial⟩,wq rfl⟩,h1,msr h1⟩
  rw[zcp h2]
  exact dE _
 have h1:i=ids.length:=by have:=dF h1; omega
 subst h1
 exact⟨⟨_,_,_,_,rfl,rfl,.inr ⟨rfl,fun i _ j _=>dE _⟩⟩,trivial⟩
abbrev celD (d:Day) (set:Nat):List Place:=plsD d (memb (sigL d.R) set)
abbrev keyN (ks:List Nat):List (List Int):=ks.map fun k=>[((k:Nat):Int)]
abbrev cmap (d:Day) (ks:List Nat):D:=.mp 1 (keyN ks) fun j=>lP (celD d (ks.getD j 0))
abbrev lkV (d:Day) (ks:List Nat):V1:=.agg (d.ds ++ [lI (sigL d.R),cmap d ks])
def fitK (d:Day) (ks:List Nat) (set:Nat):Bool:=ks.contains set && decide (0<(celD d set).length)
theorem idxN:∀ (ks:List Nat) (k:Nat),(keyN ks).idxOf [((k:Nat):Int)]=ks.idxOf k
 | [],_=>rfl
 | a :: r,k=>by
  show List.idxOf _ ([((a:Nat):Int)] :: keyN r)=_
  rw[List.idxOf_cons,List.idxOf_cons,idxN r k]
  by_cases h:a=k
  ·subst h; simp
  have h1:([((a:Nat):Int)] == [((k:Nat):Int)])=false:=by simp only[jal,ne_eq,jaC,and_true]; omega
  have h2:(a==k)=false:=by simpa using h
  rw[h1,h2]
theorem zoV (d:Day) (ks:List Nat) (k:Nat):D.eqv (lkD (keyN ks) (fun j=>lP (celD d (ks.getD j 0))) [((k:Nat):Int)] .nil) (lP (if ks.contains k=true then celD d k else [])):=by
 unfold lkD
 rw[idxN,kS]
 by_cases h:ks.contains k=true
 ·have hm:k∈ks:=kD.1 h
  have hl:=jbA.2 hm
  rw[kH hl,kH h]
  have:ks.getD (ks.idxOf k) 0=k:=by
   rw[hZ,kF hl]
   exact List.getElem_idxOf hl
  show D.eqv (lP (celD d (ks.getD (ks.idxOf k) 0))) _
  rw[this]
  exact dE _
 have hm:k∉ks:=fun hm=>h (kD.2 hm)
 rw[kG (fun hl=>hm (jbA.1 hl)),kG h]
 rfl
theorem zeA (d:Day) (ks:List Nat) (set:Nat):Spec PP 86 [lkV d ks,N (set:Int)] [B (fitK d ks set)]:=by
 refine sA Tryz.func86 ?_
 refine⟨⟨kInt,rfl⟩,_,zoV d ks set,?_⟩
 refine r1B rfl ?_
 unfold fitK
 by_cases h:ks.contains set=true
 ·rw[kH h,h,qS]
  exact kZ.2 (by omega)
 rw[kG h,wE.2 h]; rfl
def parK (d:Day) (ks:List Nat) (set i:Nat):Bool:=(offS set i==set) || (offS set i==0) || fitK d ks (offS set i)
def partK (d:Day) (ks:List Nat) (set:Nat):Bool:=(List.range (sigL d.R).length).all (parK d ks set)
def groK (d:Day) (ks:List Nat) (set i:Nat):Bool:=(onS set i != set) && fitK d ks (onS set i)
def growK (d:Day) (ks:List Nat) (set:Nat):Bool:=(List.range (sigL d.R).length).any (groK d ks set)
theorem neT {a b:Nat} (h:((a:Int) != (b:Int))=true):¬ a=b:=fun e=>by subst e; simp at h
theorem neF {a b:Nat} (h:((a:Int) != (b:Int))=false):a=b:=by
 have:(a:Int)=b:=by simpa using h
 omega
theorem sig7 {d:Day} (h:DayOk d):(sigL d.R).length<=7:=by rw[zbh]; exact h.sg
theorem zll (d:Day) (ks:List Nat) (set:Nat) (hn:(sigL d.R).length<=7) (hs:set<128):Spec PP 88 [lkV d ks,N (set:Int)] [B (partK d ks set)]:=by
 refine sA Tryz.func88 ?_
 refine LoopOb.of (σ:=Nat) (fun i=>([(1,.d (I set)),(2,.box 2 0),(8,.d (lI (sigL d.R))),(9,.d (I (sigL d.R).length)),(10,.d (I i))],[(2,.box ((d.ds ++ [lI (sigL d.R),cmap d ks]).map AV.d))])) (fun i=>i<=(sigL d.R).length /\ ∀ j,j<i->parK d ks set j=true) (fun i=>(sigL d.R).length - i) 0
  ⟨rfl,⟨obD (d.ds ++ [lI (sigL d.R),cmap d ks]) rfl,trivial⟩,wq rfl⟩ z0L fun i hi=>?_
 obtain⟨hi,ha⟩:=hi
 apply bY <;> intro h1
 ·have h1:i<(sigL d.R).length:=by have:=dT h1; omega
  have eo:=bOff hs (show i<7 by omega)
  refine⟨by omega,?_⟩
  have next:parK d ks set i=true -> ∀ j,j<i+1->parK d ks set j=true:=fun e j hj=>by
   by_cases q:j=i
   ·subst q; exact e
   exact ha j (by omega)
  apply bY <;> intro h2
  ·have h2:((offS set i:Int) != set)=true:=by rw[<- eo]; exact h2
   have h2:¬ offS set i=set:=neT h2
   repeat first | apply sT | apply sF
   apply bY <;> intro h3
   ·have h3:((offS set i:Int) != 0)=true:=by rw[<- eo]; exact h3
    have h3:¬ offS set i=0:=neT (b:=0) h3
    repeat first | apply sT | apply sF
    refine CallSt.fzE [] (zeA d ks (offS set i)) rfl ⟨zaa _,⟨rfl,eo⟩,trivial⟩ rfl ?_
    repeat first | apply sT | apply sF
    have ep:parK d ks set i=fitK d ks (offS set i):=by unfold parK; simp[h2,h3]
    apply bY <;> intro h4
    ·have h4:fitK d ks (offS set i)=false:=by simpa using h4
     refine r1B rfl ?_
     symm
     rw[wE]
     intro hh
     have:=jC.1 hh i (kK.2 h1)
     rw[ep,h4] at this; cases this
    have h4:fitK d ks (offS set i)=true:=by simpa using h4
    refine⟨i6,?_⟩
    exact⟨i+1,⟨rfl,⟨obD (d.ds ++ [lI (sigL d.R),cmap d ks]) rfl,trivial⟩,wq rfl⟩,⟨h1,next (by rw[ep,h4])⟩,msr h1⟩
   have h3:((offS set i:Int) != 0)=false:=by rw[<- eo]; exact h3
   have h3:offS set i=0:=neF (b:=0) h3
   repeat first | apply sT | apply sF
   refine⟨i6,?_⟩
   exact⟨i+1,⟨rfl,⟨obD (d.ds ++ [lI (sigL d.R),cmap d ks]) rfl,trivial⟩,wq rfl⟩,⟨h1,next (by unfold parK; simp[h3])⟩,msr h1⟩
  have h2:((offS set i:Int) != set)=false:=by rw[<- eo]; exact h2
  have h2:offS set i=set:=neF h2
  repeat first | apply sT | apply sF
  refine⟨i6,?_⟩
  exact⟨i+1,⟨rfl,⟨obD (d.ds ++ [lI (sigL d.R),cmap d ks]) rfl,trivial⟩,wq rfl⟩,⟨h1,next (by unfold parK; simp[h2])⟩,msr h1⟩
 have h1:i=(sigL d.R).length:=by have:=dF h1; omega
 subst h1
 refine r1B rfl ?_
 exact (jC.2 fun j hj=>ha j (kK.1 hj)).symm
theorem zqG (d:Day) (ks:List Nat) (set:Nat) (hn:(sigL d.R).length<=7) (hs:set<128):Spec PP 87 [lkV d ks,N (set:Int)] [B (growK d ks set)]:=by
 refine sA Tryz.func87 ?_
 refine LoopOb.of (σ:=Nat) (fun i=>([(1,.d (I set)),(2,.box 2 0),(8,.d (lI (sigL d.R))),(9,.d (I (sigL d.R).length)),(10,.d (I i))],[(2,.box ((d.ds ++ [lI (sigL d.R),cmap d ks]).map AV.d))])) (fun i=>i<=(sigL d.R).length /\ ∀ j,j<i->groK d ks set j=false) (fun i=>(sigL d.R).length - i) 0
  ⟨rfl,⟨obD (d.ds ++ [lI (sigL d.R),cmap d ks]) rfl,trivial⟩,wq rfl⟩ z0L fun i hi=>?_
 obtain⟨hi,ha⟩:=hi
 apply bY <;> intro h1
 ·have h1:i<(sigL d.R).length:=by have:=dT h1; omega
  have eo:=bOn hs (show i<7 by omega)
  refine⟨by omega,?_⟩
  have next:groK d ks set i=false -> ∀ j,j<i+1->groK d ks set j=false:=fun e j hj=>by
   by_cases q:j=i
   ·subst q; exact e
   exact ha j (by omega)
  apply bY <;> intro h2
  ·have h2:((onS set i:Int) != set)=true:=by rw[<- eo]; exact h2
   have h2:¬ onS set i=set:=neT h2
   refine CallSt.fzE [] (zeA d ks (onS set i)) rfl ⟨zaa _,⟨rfl,eo⟩,trivial⟩ rfl ?_
   repeat first | apply sT | apply sF
   have ep:groK d ks set i=fitK d ks (onS set i):=by unfold groK; simp[h2]
   apply bY <;> intro h4
   ·have h4:fitK d ks (onS set i)=true:=h4
    refine r1B rfl ?_
    exact (kJ.2 ⟨i,kK.2 h1,by rw[ep,h4]⟩).symm
   have h4:fitK d ks (onS set i)=false:=h4
   refine⟨i6,?_⟩
   exact⟨i+1,⟨rfl,⟨obD (d.ds ++ [lI (sigL d.R),cmap d ks]) rfl,trivial⟩,wq rfl⟩,⟨h1,next (by rw[ep,h4])⟩,msr h1⟩
  have h2:((onS set i:Int) != set)=false:=by rw[<- eo]; exact h2
  have h2:onS set i=set:=neF h2
  repeat first | apply sT | apply sF
  refine⟨i6,?_⟩
  exact⟨i+1,⟨rfl,⟨obD (d.ds ++ [lI (sigL d.R),cmap d ks]) rfl,trivial⟩,wq rfl⟩,⟨h1,next (by unfold groK; simp[h2])⟩,msr h1⟩
 have h1:i=(sigL d.R).length:=by have:=dF h1; omega
 subst h1
 refine r1B rfl ?_
 symm
 rw[wE]
 intro hh
 obtain⟨j,hj,e⟩:=kJ.1 hh
 rw[ha j (kK.1 hj)] at e; cases e
def keysD (d:Day):Nat->List Nat
 | 0=>[]
 | m+1=>if m≠0/\partK d (keysD d m) m=true then keysD d m ++ [m] else keysD d m
theorem zdo (d:Day):∀ (m:Nat),∀ k∈keysD d m,0<k/\k<m
 | 0,k,h=>by cases h
 | m+1,k,h=>by
  unfold keysD at h
  split at h
  ·rename_i hm
   rcases qE.1 h with h | h
   ·have:=zdo d m k h; omega
   obtain rfl:=kL.1 h; omega
  have:=zdo d m k h; omega
theorem zqc {d:Day} {ks:List Nat} {m:Nat} (h:m∉ks):D.eqv (.mp 1 (putK (keyN ks) [((m:Nat):Int)]) (putF (keyN ks) (fun j=>lP (celD d (ks.getD j 0))) [((m:Nat):Int)] (lP (celD d m)))) (cmap d (ks ++ [m])):=by
 have hi:(keyN ks).idxOf [((m:Nat):Int)]=ks.length:=by rw[idxN]; exact List.idxOf_eq_length h
 have hn:¬ (keyN ks).idxOf [((m:Nat):Int)]<(keyN ks).length:=by rw[hi,kS]; exact Nat.lt_irrefl _
 refine⟨rfl,?_,fun j hj=>?_⟩
 ·unfold putK
  rw[kG hn]
  show keyN ks++_=keyN (ks ++ [m])
  rw[keyN,keyN,jT]; rfl
 unfold putF
 rw[hi]
 by_cases e:j=ks.length
 ·subst e
  rw[kH rfl]
  show D.eqv _ (lP (celD d ((ks ++ [m]).getD ks.length 0)))
  rw[hZ,jK (jE _),kE]
  exact dE _
 have hj:j<ks.length:=by
  unfold putK at hj
  rw[kG hn,jR,kS] at hj
  simp at hj; omega
 rw[kG e]
 show D.eqv (lP (celD d (ks.getD j 0))) (lP (celD d ((ks ++ [m]).getD j 0)))
 rw[hZ,hZ,jJ hj]
 exact dE _
theorem zi3 {s:St} {ob:Nat->Option Ob}:∀ (cs:List AV),avles s ob cs (List.replicate cs.length .any)
 | []=>trivial
 | _ :: r=>⟨by unfold AVle; trivial,zi3 r⟩
theorem zaJ {s:St} {ob:Nat->Option Ob} {cs:List AV} {n:Nat} {o:Option Ob} (h:o=some (.box cs)) (hn:cs.length=n):Oble s ob o (.box (List.replicate n .any)):=by
 subst h; subst hn; exact zi3 cs
abbrev lkA (d:Day):List AV:=d.ds.map AV.d ++ [.d (lI (sigL d.R)),.own 8]
theorem zo1 {d:Day} (h:DayOk d):Spec PP 71 [d.v] [lkV d (keysD d (2 ^ (sigL d.R).length))]:=by
 have hn:=h.n
 have h7:=sig7 h
 refine zbU [7] Tryz.func71 rfl (by kernel_rfl) rfl ?_
 refine oL [0,1,2,2003,4,5,6] (FzOb.no ?_)
 refine CallOb.ro (zbv d (by omega)) rfl rfl ?_
 refine⟨rfl,?_⟩
 refine LoopOb.of (σ:=Nat) (fun m=>([(1,.box 1 0),(2,.box 2 0),(3,.box 3 0),(4,.d (I m))],[(1,.box (d.ds.map AV.d)),(2,.box (List.replicate 12 .any)),(3,.box (lkA d)),(8,.mp 1 (keyN (keysD d m)) fun j=>lP (celD d ((keysD d m).getD j 0)))])) (fun m=>1<=m/\m<=2 ^ (sigL d.R).length) (fun m=>2 ^ (sigL d.R).length - m) 1
  ⟨rfl,⟨obD d.ds rfl,zaJ rfl rfl,obX rfl,obMp rfl ⟨rfl,rfl,fun j hj=>absurd hj (qK _)⟩,trivial⟩,avQ rfl,avQ rfl,avQ rfl,avQ rfl,trivial⟩ ⟨jE _,Nat.one_le_two_pow⟩ fun m hm=>?_
 obtain⟨hm,hm2⟩:=hm
 have hp:2 ^ (sigL d.R).length<=2 ^ 7:=jai (by decide) h7
 have es:=bShl h7
 refine⟨by omega,?_⟩
 apply bY <;> intro h1
 ·have h1:m<2 ^ (sigL d.R).length:=by
   have h1:(m:Int)<((2 ^ (sigL d.R).length:Nat):Int):=by rw[<- es]; exact dT h1
   omega
  refine cP (zll d (keysD d m) m h7 (by omega)) rfl rfl ?_
  apply bY <;> intro h2
  ·have h2:partK d (keysD d m) m=true:=h2
   have e:keysD d (m+1)=keysD d m ++ [m]:=by rw[keysD,kH ⟨by omega,h2⟩]
   refine oL (List.range 10) (FzOb.no ?_)
   refine CallOb.ro (zgl (sigL d.R) m h7 (by omega)) rfl rfl ?_
   refine CallOb.ro (zix h (memb (sigL d.R) m) (jM (zbn _ _ _) (by omega))) rfl rfl ?_
   refine⟨⟨kInt,rfl⟩,?_⟩
   refine⟨i6,?_⟩
   refine⟨m+1,⟨rfl,⟨obD d.ds rfl,zaJ rfl rfl,obX rfl,obMp rfl ?_,trivial⟩,wq rfl⟩,⟨by omega,h1⟩,(show 2 ^ (sigL d.R).length - (m+1)<2 ^ (sigL d.R).length - m by omega)⟩
   rw[e]
   exact zqc fun hm=>by have:=zdo d m m hm; omega
  have h2:partK d (keysD d m) m=false:=h2
  have e:keysD d (m+1)=keysD d m:=by rw[keysD,kG fun hh=>by rw[h2] at hh; cases hh.2]
  refine⟨i6,?_⟩
  refine⟨m+1,⟨rfl,⟨obD d.ds rfl,zaJ rfl rfl,obX rfl,obMp rfl ?_,trivial⟩,wq rfl⟩,⟨by omega,h1⟩,(show 2 ^ (sigL d.R).length - (m+1)<2 ^ (sigL d.R).length - m by omega)⟩
  rw[e]
  exact dE _
 have h1:m=2 ^ (sigL d.R).length:=by
  have h1:¬ (m:Int)<((2 ^ (sigL d.R).length:Nat):Int):=by rw[<- es]; exact dF h1
  omega
 subst h1
 refine CutOb.at [(2,.box 2 0),(3,.box 3 0)] [(2,.box (List.replicate 12 .any)),(3,.box ((d.ds ++ [lI (sigL d.R),cmap d (keysD d (2 ^ (sigL d.R).length))]).map AV.d))]
  ⟨rfl,⟨zaJ rfl rfl,⟨dE _,dE _,dE _,dE _,dE _,dE _,dE _,dE _,dE _,dE _,dE _,⟨rfl,_,_,_,rfl,dE _⟩,trivial⟩,trivial⟩,wq rfl⟩ ?_
 exact⟨rtC (a:=2) rfl rfl rfl rfl rfl rfl (zaa _),trivial⟩
abbrev ksD (d:Day):List Nat:=keysD d (2 ^ (sigL d.R).length)
def EYC {τ:Type} (xs:List τ) (enc:τ->List V1) (cuts:List Nat) (l:Nat):Env:=⟨ET,false,l,fun n vs=>∃ x,xs[n]?=some x/\vs=enc x,true,fun i=>cuts.any (Nat.beq i)⟩
theorem zjN {τ:Type} {xs:List τ} {enc:τ->List V1} (k:Nat) (vs:List V1):(∃ x,xs[k]?=some x/\vs=enc x) ↔ (xs.map enc)[k]?=some vs:=by
 rw[jU]
 cases xs[k]? with
 | none=>simp
 | some x=>simp; exact eq_comm
theorem zhT (cuts : List Nat) {f : FuncId} {fn : Func} {c : Code} (hf : PP.funcs[f]? = some fn) (hb : fn.body = some c) (hq : ((fn.name == "runtime.NumGoroutine") || !(codeN fn.ntmps c && Nat.ble fn.ntmps 4294967296)) = false)
  {τ : Type} {xs : List τ} {enc : τ -> List V1} {n m : Nat} (args : Nat -> List AV) {obs obs' : Nat -> List (Nat × Ob)} (ts : List Nat) (hts : fn.results.toList = ts.map ResultVar.tmp) (pins : List (Nat × Nat)) {res resF : List V1} (hlr : ts.length = res.length) (hlF : ts.length = resF.length) (hfl : resF.all V1.flat = true)
  (hr : ∀ l, ∀ v ∈ args l, ∀ j ∈ v.refs, (look (obs l) j).isSome = true) (hpn : (G :: (pins.map Prod.fst ++ ts)).Nodup) (hsz : ∀ l, Nat.ble (args l).length fn.ntmps = true)
  (h : ∀ l γ, awp PP TTab (EYC xs enc cuts l) c (St.of ((G, .gho (some n)) :: slotsM γ 0 (args l)) (obs l)) (retYM ts res resF γ pins (n + m) (obs' l))) : SpecY PP f (xs.map enc) n m args obs obs' (pins.map Prod.snd) res resF := by
 simp only [qL, qO, jP] at hq
 exact zhS hT (eq := ET) hE hM hf hb hq.1 hq.2.1 (jD hq.2.2) args ts hts pins hlr hlF hfl hr hpn (fun l => jD (hsz l)) (yd := fun n vs => ∃ x, xs[n]? = some x /\ vs = enc x) zjN (fun i => cuts.any (Nat.beq i)) (fun _ _ _ _ hk => hk) h
section
variable {s:St} {o:Oper} {fo:Operand} {K:St->Prop} {args:List Operand} {τ:Type} {xs:List τ} {enc:τ->List V1} {cuts:List Nat} {l:Nat}
theorem CallSt.ydC {d n:Nat} {x:τ} (sl:List (Nat × AV)) (ob:List (Nat × Ob)) (hd:o.dst=some d) (hf:ev s fo = .yl l) (hg:s.sl G = .gho (some n)) (hG:look sl G=none) (hw:Weak s sl ob) (hx:xs[n]?=some x) (hv:toV1s s (args.map (ev s))=some (enc x))
  (hno:(args.map (ev s)).all (fun v=>!v.isOwn)=true) (k1:K ((St.of ((G,.gho (some (n+1))) :: sl) ob).put d (.d (.bool true)))) (k2:K ((St.of ((G,.gho none) :: stillS sl) []).put d (.d (.bool false)))):CallSt (EYC xs enc cuts l) PP s o fo args K:=by
 rw[zaf]
 exact .inr (.inr (.inr (.inl ⟨⟨n,d,sl,ob,_,hd,hf,hg,hG,hw,hv,hno,⟨x,hx,rfl⟩,k1,k2⟩⟩)))
theorem CallSt.cy {n m:Nat} {f:FuncId} {ex:List AV} {ags:Nat->List AV} {obs obs':Nat->List (Nat × Ob)} {pins:List Nat} {res resF:List V1} (sl:List (Nat × AV)) (rest:List (Nat × Ob)) (h:SpecY PP f (xs.map enc) n m ags obs obs' pins res resF)
  (hg:s.sl G = .gho (some n)) (hG:look sl G=none) (hw:Weak s sl (obs l++rest)) (hc:calleeM (ev (St.of sl (obs l++rest)) fo)=some (f,ex)) (ha:(args.map (ev (St.of sl (obs l++rest)))++ex).map (fixA (obs l))=ags l) (hm:closM (obs l)=true) (hgm:goodM sl (obs l) (obs' l) rest pins=true)
  (k1:K ((St.of ((G,.gho (some (n+m))) :: sl) (obs' l++rest)).putO o.dst (resAV res))) (k2:K ((St.of ((G,.gho none) :: stillS sl) []).putO o.dst (resAV resF))):CallSt (EYC xs enc cuts l) PP s o fo args K:=by
 rw[zaf]
 exact .inr (.inr (.inr (.inr ⟨⟨_,n,m,f,ex,ags,sl,rest,obs,obs',pins,res,resF,zjN,h,hg,hG,hw,hc,ha,hm,hgm,k1,k2⟩⟩)))
end
theorem zlL {P:Program} {a:Act} {w:World} {o:Oper} {fo:Operand} {f:FuncId} {args:Array Operand} {at':Array TypeId} (hop:o.op = .call { callee:=.value fo,args,argTypes:=at' }) {u:Value} (hfo:a.eval fo = .func (.func f) #[u] #[]) (hent:Ent P f) :
  (execOp a.eval o).run P w = .ok (.enter f (u :: args.toList.map a.eval).toArray) w:=by
 have:(u :: args.toList.map a.eval).toArray = #[u]++args.map a.eval ++ #[]:=by simp
 rw[this]
 simp[execOp,hop,resolve,hfo,Deferred.ofValue,invoke,zaA hent]
section
variable {s:St} {o:Oper} {fo:Operand} {K:St->Prop} {E:Env}
theorem CallSt.bn {f:FuncId} {args:Array Operand} {at':Array TypeId} (hop:o.op = .call { callee:=.value fo,args,argTypes:=at' }) {m:Nat} {g:Nat->D} (hf:ev s fo = .d (.bnd f m g)) {xs res:List V1} (hx:toV1s s (args.toList.map (ev s))=some xs)
  (h:SpecG E.dr PP f (.agg ((List.range m).map g) :: xs) res) (hr:res.all V1.flat=true) (hk:K (s.putO o.dst (resAV res))):CallSt E PP s o fo args.toList K:=by
 rw[zaf]
 refine .inr (.inr (.inl ⟨_,⟨fun cx a w hD hd hR=>?_⟩,hk⟩))
 obtain⟨γ,hg⟩:=hR
 have hc:=(ev_m hg fo).1
 rw[hf] at hc
 obtain⟨vs,hv,hl,h3⟩:=hc
 have hm:=(zbk hg hx (zbz hg args.toList)).1
 have hb:All2 (Rep w fun b=>b<w.heap.size) ((List.range m).map g) vs:=.map_left (All2.of_get (by simp[hl]) fun j q y hx hy=>by
  have hj:j<m:=by have:=(kC.1 hx).1; simpa using this
  rw[wB hj] at hx
  cases hx
  obtain⟨u,hu,hr⟩:=h3 j hj
  rw[hy] at hu; cases hu
  exact Rep.keep (fun b hb=>⟨zaj hg hb,rfl⟩) hr)
 refine .enter (zlL hop hv h.1) ?_
 refine (h.2 w _ _ (fun b hb=>hb) (.cons ⟨vs,rfl,hb⟩ hm)).mono fun en w' ⟨v,e,hb,hres⟩=>⟨v,e,γ,?_⟩
 exact (hg.grow hb.1 fun e=>hb.2 (hD e)).putO hd (zaS (.inl fun b hb=>hb.elim) (zdB hr hres)) (fun j hj=>by rw[zax] at hj; cases hj)
inductive PosC (pv:D) (ok:List Int->Bool):Prop
 | clo (g0:FuncId) (c0:D) (e:pv=cloB g0 [c0]) (h:∀ s:List Int,s.length<=7->Spec PP g0 [.d (lI s),.d c0] [B (ok s)])
 | bnd (f:FuncId) (m:Nat) (g:Nat->D) (e:pv = .bnd f m g) (h:∀ s:List Int,s.length<=7->Spec PP f [.agg ((List.range m).map g),.d (lI s)] [B (ok s)])
end
abbrev rowII (ss:List (List Int)):Nat->Nat->D:=fun i _=>lI (ss.getD i [])
theorem zrJ {ss:List (List Int)} {k k':Nat} {s':List Int} {y:D} (hk:k<ss.length) (e1:k'=k) (hy:D.eqv y (lI s')):D.eqv (.slc 1 ss.length (storeRow (rowII ss) k' 0 [y])) (.slc 1 (ss.set k s').length (rowII (ss.set k s'))):=by
 subst e1
 refine⟨List.length_set.symm,.inr ⟨rfl,fun i hi j hj=>?_⟩⟩
 show D.eqv (storeRow (rowII ss) k' 0 [y] i j) (lI ((ss.set k' s').getD i []))
 rw[zct ss k' i s' [] hk]
 obtain rfl:j=0:=by omega
 unfold storeRow
 by_cases h:i=k'
 ·rw[kH h,kH ⟨h,jE _,by simp⟩]
  exact hy
 rw[kG h,kG fun hh=>h hh.1]
 exact dE _
theorem zkB {ss:List (List Int)} {s:List Int} {n:Nat} {g:Nat->Nat->D} (hn:n=ss.length) (hg:D.eqv (g 0 0) (lI s)):D.eqv (.slc 1 (n+1) (appRow n (rowII ss) g)) (.slc 1 (ss ++ [s]).length (rowII (ss ++ [s]))):=by
 subst hn
 refine⟨by simp,.inr ⟨rfl,fun i hi j hj=>?_⟩⟩
 show D.eqv (appRow ss.length (rowII ss) g i j) (lI ((ss ++ [s]).getD i []))
 obtain rfl:j=0:=by omega
 unfold appRow
 by_cases h:i<ss.length
 ·rw[kH h,hZ (l:=ss ++ [s]),jJ h,<- hZ]
  exact dE _
 have e:i=ss.length:=by omega
 subst e
 rw[kG h,kE,hZ,jK (jE _),kE]
 exact hg
theorem zni (l:List Int) (hn:l.length<=1000000):SpecO PP 109 [.d (lI l)] 3 1 l.length (rowI l):=by
 refine zda Tryz.func109 rfl (by kernel_rfl) rfl ?_
 refine fun b hb=>?_
 apply bY <;> intro h1
 ·have h0:=hb h1
  refine⟨rfl,rfl,h0.symm,fun i hi=>?_⟩
  omega
 refine⟨⟨.inr rfl,by unfold maxLen; omega,by show (0+l.length) * 8<=140737488355328; omega⟩,?_⟩
 refine⟨rfl,rfl,kU _,fun i hi j hj=>?_⟩
 exact dE _
theorem zqj (l:List Int) (hn:l.length<=1000000):Spec PP 109 [.d (lI l)] [.d (lI l)]:=by
 refine sA Tryz.func109 ?_
 refine fun b hb=>?_
 apply bY <;> intro h1
 ·have h0:=hb h1
  exact⟨⟨_,_,_,_,rfl,h0.symm,.inl rfl⟩,trivial⟩
 refine⟨⟨.inr rfl,by unfold maxLen; omega,by show (0+l.length) * 8<=140737488355328; omega⟩,?_⟩
 exact⟨⟨_,_,_,_,rfl,kU _,.inr ⟨rfl,fun i hi j hj=>dE _⟩⟩,trivial⟩
def Sub {α:Type} (L:List α) (n:Nat) (L':List α):Prop:=∃ u,u.length=n/\u++L' <+: L
theorem Sub.pre {α:Type} {L L' L2:List α} {n:Nat} (h:Sub L n L') (hp:L2 <+: L'):Sub L n L2:=by
 obtain⟨u,h1,h2⟩:=h
 exact⟨u,h1,List.IsPrefix.trans ((List.prefix_append_right_inj _).2 hp) h2⟩
theorem Sub.snd {α:Type} {L L1 L2:List α} {n:Nat} (h:Sub L n (L1++L2)):Sub L (n+L1.length) L2:=by
 obtain⟨u,h1,h2⟩:=h
 exact⟨u++L1,by rw[jR,h1],by rw[List.append_assoc]; exact h2⟩
theorem Sub.get {α:Type} {L L':List α} {x:α} {n:Nat} (h:Sub L n (x :: L')):L[n]?=some x:=by
 obtain⟨u,rfl,t,h2⟩:=h
 rw[<- h2]
 simp
def prtK {α:Type} (ok:List α->Bool) (a:α) (r:List α) (ss:List (List α)) (k:Nat):List (List (List α)):=(List.range k).flatMap fun k=>prt ok r (ss.set k (ss.getD k [] ++ [a]))
theorem zdE {α:Type} (ok:List α->Bool) (a:α) (r:List α) (ss:List (List α)) (k:Nat):prtK ok a r ss (k+1)=prtK ok a r ss k++prt ok r (ss.set k (ss.getD k [] ++ [a])):=by
 unfold prtK
 rw[qP,ja2]; simp
theorem zid {α : Type} (ok : List α -> Bool) (a : α) (r : List α) (ss : List (List α)) : ∀ {k m : Nat}, k <= m -> prtK ok a r ss k <+: prtK ok a r ss m
  | k, 0, h => by obtain rfl : k = 0 := by omega
                  exact List.prefix_rfl
  | k, m + 1, h => by
    by_cases e : k = m + 1
    · subst e; exact List.prefix_rfl
    rw [zdE]
    exact List.IsPrefix.trans (zid ok a r ss (by omega)) (List.prefix_append _ _)
theorem znh {α:Type} (ok:List α->Bool) (a:α) (r:List α) (ss:List (List α)):prt ok (a :: r) ss=prtK ok a r ss ss.length++prt ok r (ss ++ [[a]]):=rfl
section
variable (ids:List Int) (pv:D) (ok:List Int->Bool)
abbrev enP (p:List (List Int)):List V1:=[.d (lII p)]
abbrev allP:List (List (List Int)):=prt ok ids []
abbrev posD:D:=capB [pv]
def putCaps:List Cap:=[.dat (capB [lI ids]),.own 4,.dat (posD pv),.own 3,.own 5]
def putObs (ss:List (List Int)) (l:Nat):List (Nat × Ob):=[(4,.box [.own 100]),(100,.row 22 1 ss.length (rowII ss)),(3,.box [.yl l]),(5,.box [.clo 108 (putCaps ids pv)])]
def putArgs (i:Nat) (_:Nat):List AV:=[.d (I i),.d (capB [lI ids]),.box 4 0,.d (posD pv),.box 3 0,.box 5 0]
end
section
variable (ids:List Int) (pv:D) (ok:List Int->Bool)
abbrev putSl (γ:Nat->Value) (i:Nat):List (Nat × AV):=[(0,.d (I i)),(1,.d (capB [lI ids])),(2,.pbox 4 (γ 4)),(3,.d (posD pv)),(4,.pbox 3 (γ 3)),(5,.pbox 5 (γ 5))]
theorem zh9 (i:Nat) (ss:List (List Int)):∀ l,∀ v∈putArgs ids pv i l,∀ j∈v.refs,(look (putObs ids pv ss l) j).isSome=true:=by
 intro l v hv j hj
 simp only[putArgs,kT,jau,jbp] at hv
 rcases hv with rfl | rfl | rfl | rfl | rfl | rfl
 ·cases hj
 ·cases hj
 ·obtain rfl:j=4:=by simpa [AV.refs] using hj
  rfl
 ·cases hj
 ·obtain rfl:j=3:=by simpa [AV.refs] using hj
  rfl
 obtain rfl:j=5:=by simpa [AV.refs] using hj
 rfl
theorem zsg (hn:ids.length<=7) (hok:PosC pv ok) (ss:List (List Int)) (n:Nat) (hs:ss.length<=7) (hl:∀ s∈ss,s.length<=7) (hsub:Sub (allP ids ok) n (prt ok [] ss)) :
  SpecY PP 108 ((allP ids ok).map enP) n (prt ok [] ss).length (putArgs ids pv ids.length) (putObs ids pv ss) (putObs ids pv ss) [4,3,5] [B true] [B false]:=by
 refine zhT [10] Tryz.func108 rfl (by kernel_rfl) (putArgs ids pv ids.length) [7] rfl [(2,4),(4,3),(5,5)] rfl rfl rfl (zh9 ids pv _ ss) (by decide) (fun _=>rfl) fun l γ=>?_
 refine Split.yes (by simp) ?_
 refine LoopOb.of (σ:=Nat) (fun j=>([(G,.gho (some n)),(0,.d (I ids.length)),(1,.d (capB [lI ids])),(2,.pbox 4 (γ 4)),(3,.d (posD pv)),(4,.pbox 3 (γ 3)),(5,.pbox 5 (γ 5)),(8,.own 17),(18,.own 100),(19,.d (I ss.length)),(20,.d (I j))],
   [(4,.box [.own 100]),(100,.row 22 1 ss.length (rowII ss)),(3,.box [.yl l]),(5,.box [.clo 108 (putCaps ids pv)]),(17,.row 22 1 (ss.take j).length (rowII (ss.take j)))])) (fun j=>j<=ss.length /\ ∀ q,q<j->ok (ss.getD q [])=true) (fun j=>ss.length - j) 0
  ⟨rfl,⟨obX rfl,obR rfl (dE _),obX rfl,obX rfl,obR rfl ⟨rfl,.inl rfl⟩,trivial⟩,wq rfl⟩ z0L fun j hj=>?_
 obtain⟨hj,ha⟩:=hj
 have lt:(ss.take j).length=j:=by rw[jQ]; omega
 apply bY <;> intro h2
 ·have h2:j<ss.length:=by have:=dT h2; omega
  have ej:((j:Nat):Int).toNat=j:=jac j
  have hm:ss.getD j []∈ss:=by rw[hZ,kF h2]; exact kQ h2
  refine⟨⟨by omega,by omega⟩,⟨by omega,?_⟩⟩
  rcases hok with⟨g0,c0,rfl,hok⟩ | ⟨f0,m0,g0,rfl,hok⟩
  all_goals
   have hc:=hok (ss.getD (j:Int).toNat []) (by rw[ej]; exact hl _ hm)
   first | refine cP hc rfl rfl ?_ | refine CallSt.bn rfl rfl rfl hc rfl ?_
   apply bY <;> intro h3
   ·have h3:ok (ss.getD j [])=false:=by rw[ej] at h3; simpa using h3
    have em:prt ok [] ss=[]:=kG fun h=>by rw[jC.1 h _ hm] at h3; cases h3
    exact .inl ⟨rfl,⟨obX rfl,obR rfl (dE _),obX rfl,obX rfl,trivial⟩,avG rfl (by rw[em]; rfl),avQ rfl,avQ rfl,avQ rfl,avQ rfl,trivial⟩
   have h3:ok (ss.getD j [])=true:=by rw[ej] at h3; simpa using h3
   refine CallSt.ro (zqj (ss.getD (j:Int).toNat []) (by rw[ej]; have:=hl _ hm; omega)) rfl rfl ?_
   refine⟨⟨.inr rfl,by unfold maxLen; omega,by show ((ss.take j).length+1) * 24<=140737488355328; omega⟩,?_⟩
   refine⟨i6,?_⟩
   refine⟨j+1,⟨rfl,⟨obX rfl,obR rfl (dE _),obX rfl,obX rfl,obR rfl ?_,trivial⟩,wq rfl⟩,⟨h2,fun q hq=>?_⟩,msr h2⟩
   ·rw[zaE h2 []]
    refine zkB rfl ?_
    show D.eqv (lI (ss.getD (j:Int).toNat [])) _
    rw[ej]; exact dE _
   by_cases e:q=j
   ·subst e; exact h3
   exact ha q (by omega)
 have h2:j=ss.length:=by have:=dF h2; omega
 subst h2
 rw[jZ]
 have em:prt ok [] ss=[ss]:=kH (jC.2 fun s hs=>by
  obtain⟨q,hq,rfl⟩:=qJ hs
  have:=ha q hq
  rw[hZ,kF hq] at this
  exact this)
 refine CutOb.at [(G,.gho (some n)),(0,.d (I ids.length)),(1,.d (capB [lI ids])),(2,.pbox 4 (γ 4)),(3,.d (posD pv)),(4,.pbox 3 (γ 3)),(5,.pbox 5 (γ 5)),(8,.d (lII ss))] (putObs ids pv ss l) ⟨rfl,⟨obX rfl,obR rfl (dE _),obX rfl,obX rfl,trivial⟩,avQ rfl,avQ rfl,avQ rfl,avQ rfl,avQ rfl,avQ rfl,avQ rfl,avOw rfl rfl rfl (dE _),trivial⟩ ?_
 refine CallSt.ydC (d:=36) (putSl ids pv γ ids.length) (putObs ids pv ss l) rfl rfl rfl rfl ⟨rfl,⟨obX rfl,obR rfl (dE _),obX rfl,obX rfl,trivial⟩,wq rfl⟩ (by rw[em] at hsub; exact hsub.get) rfl rfl ?_ ?_
 ·exact .inl ⟨rfl,⟨obX rfl,obR rfl (dE _),obX rfl,obX rfl,trivial⟩,avG rfl (by rw[em]; rfl),avQ rfl,avQ rfl,avQ rfl,avQ rfl,trivial⟩
 exact .inr ⟨rfl,trivial,avQ rfl,avQ rfl,trivial⟩
end
section
variable (ids:List Int) (pv:D) (ok:List Int->Bool)
theorem zsf (hn:ids.length<=7) (i:Nat) (hi:i<ids.length) (ss:List (List Int)) (n:Nat) (hs:ss.length<=i) (hl:∀ s∈ss,s.length<=i) (hsub:Sub (allP ids ok) n (prt ok (ids.drop i) ss))
  (ih:∀ (ss:List (List Int)) (n:Nat),ss.length<=i+1->(∀ s∈ss,s.length<=i+1)->Sub (allP ids ok) n (prt ok (ids.drop (i+1)) ss)->SpecY PP 108 ((allP ids ok).map enP) n (prt ok (ids.drop (i+1)) ss).length (putArgs ids pv (i+1)) (putObs ids pv ss) (putObs ids pv ss) [4,3,5] [B true] [B false]) :
  SpecY PP 108 ((allP ids ok).map enP) n (prt ok (ids.drop i) ss).length (putArgs ids pv i) (putObs ids pv ss) (putObs ids pv ss) [4,3,5] [B true] [B false]:=by
 have ed:ids.drop i=ids.getD i 0 :: ids.drop (i+1):=by rw[kV hi,hZ,kF hi]; rfl
 rw[ed] at hsub ⊢
 rw[znh] at hsub ⊢
 refine zhT [] Tryz.func108 rfl (by kernel_rfl) (putArgs ids pv i) [7] rfl [(2,4),(4,3),(5,5)] rfl rfl rfl (zh9 ids pv _ ss) (by decide) (fun _=>rfl) fun l γ=>?_
 refine Split.no (by simp; omega) ?_
 refine LoopOb.of (σ:=Nat) (fun q=>([(G,.gho (some (n+(prtK ok (ids.getD i 0) (ids.drop (i+1)) ss q).length))),(0,.d (I i)),(1,.d (capB [lI ids])),(2,.pbox 4 (γ 4)),(3,.d (posD pv)),(4,.pbox 3 (γ 3)),(5,.pbox 5 (γ 5)),(38,.d (I ss.length)),(39,.d (I q))],
   [(4,.box [.own 100]),(100,.row 22 1 ss.length (rowII ss)),(3,.box [.yl l]),(5,.box [.clo 108 (putCaps ids pv)])])) (fun q=>q<=ss.length) (fun q=>ss.length - q) 0
  ⟨rfl,⟨obX rfl,obR rfl (dE _),obX rfl,obX rfl,trivial⟩,wq rfl⟩ (jF _) fun q hq=>?_
 have hq:q<=ss.length:=hq
 apply bY <;> intro h2
 ·have h2:q<ss.length:=by have:=dT h2; omega
  have eq:((q:Nat):Int).toNat=q:=jac q
  have hm:ss.getD q []∈ss:=by rw[hZ,kF h2]; exact kQ h2
  have hml:=hl _ hm
  refine⟨⟨by omega,by omega⟩,⟨by omega,?_⟩⟩
  refine oL [2,4,5,6,7,8,1000,1001,6003,9,10,5011] (FzOb.no ?_)
  refine⟨⟨rfl,by omega,by omega⟩,?_⟩
  refine⟨rfl,rfl,?_⟩
  refine⟨rfl,rfl,?_⟩
  refine⟨⟨_,_,_,_,_,_,rfl,rfl,rfl,rfl,?_⟩⟩
  rw[zaq]
  refine⟨_,_,_,_,_,none,rfl,zni (ss.getD (q:Int).toNat []) (by rw[eq]; omega),fun m j _ _=>rfl,?_⟩
  refine⟨⟨.inr rfl,by unfold maxLen; rw[eq]; omega,by show ((ss.getD (q:Int).toNat []).length+1) * 8<=140737488355328; rw[eq]; omega⟩,?_⟩
  refine⟨⟨by omega,by omega⟩,?_⟩
  refine FzOb.fz [49] ?_
  refine⟨by omega,?_⟩
  refine⟨i6,?_⟩
  have hset:(ss.set q (ss.getD q [] ++ [ids.getD i 0])).length<=i+1:=by rw[jaU]; omega
  have hsl:∀ s∈ss.set q (ss.getD q [] ++ [ids.getD i 0]),s.length<=i+1:=fun s hs=>by
   rcases jbw hs with hs | rfl
   ·have:=hl s hs; omega
   rw[jR,qZ]; omega
  have hsub':Sub (allP ids ok) (n+(prtK ok (ids.getD i 0) (ids.drop (i+1)) ss q).length) (prt ok (ids.drop (i+1)) (ss.set q (ss.getD q [] ++ [ids.getD i 0]))):=by
   refine (hsub.pre (L2:=prtK ok (ids.getD i 0) (ids.drop (i+1)) ss q++prt ok (ids.drop (i+1)) (ss.set q (ss.getD q [] ++ [ids.getD i 0]))) ?_).snd
   rw[<- zdE]
   exact List.IsPrefix.trans (zid ok _ _ ss h2) (List.prefix_append _ _)
  refine CallSt.cy [(0,.d (I i)),(1,.d (capB [lI ids])),(2,.pbox 4 (γ 4)),(3,.d (posD pv)),(4,.pbox 3 (γ 3)),(5,.pbox 5 (γ 5)),(11,.d (I q)),(12,.d (lI (ss.getD q []))),(38,.d (I ss.length)),(39,.d (I q)),(57,.clo 108 (putCaps ids pv)),(59,.d (I ((i+1:Nat):Int)))] []
   (ih (ss.set q (ss.getD q [] ++ [ids.getD i 0])) _ hset hsl hsub') rfl rfl ⟨rfl,⟨obX rfl,obR rfl ?_,obX rfl,obX rfl,trivial⟩,avQ rfl,avQ rfl,avQ rfl,avQ rfl,avQ rfl,avQ rfl,avQ rfl,?_,avQ rfl,avQ rfl,avQ rfl,avQ rfl,trivial⟩ rfl rfl rfl rfl ?_ ?_
  ·refine zrJ h2 eq ?_
   refine⟨by rw[eq,jR]; rfl,.inr ⟨rfl,fun u hu v hv=>?_⟩⟩
   show D.eqv (appRow _ (rowI (ss.getD (q:Int).toNat [])) _ u v) (I ((ss.getD q [] ++ [ids.getD i 0]).getD u 0))
   rw[eq]
   unfold appRow
   by_cases hh:u<(ss.getD q []).length
   ·rw[kH hh,hZ (l:=ss.getD q [] ++ [ids.getD i 0]),jJ hh,<- hZ]
    exact dE _
   have hu:u<(ss.getD (q:Int).toNat []).length+1:=hu
   rw[eq] at hu
   have e:u=(ss.getD q []).length:=by omega
   obtain rfl:v=0:=jag.1 hv
   rw[kG hh,hZ (l:=ss.getD q [] ++ [ids.getD i 0]),jK (by omega),e,kE]
   show D.eqv (I (ids.getD i 0)) (I (ids.getD i 0))
   exact dE _
  ·show D.eqv (lI (ss.getD (q:Int).toNat [])) (lI (ss.getD q []))
   rw[eq]; exact dE _
  ·refine sF ?_
   have ls:(ss.set q (ss.getD q [] ++ [ids.getD i 0])).length=ss.length:=jaU
   refine⟨⟨by omega,by rw[ls]; omega⟩,⟨by rw[ls,eq]; exact h2,?_⟩⟩
   refine⟨i6,?_⟩
   refine⟨q+1,⟨rfl,⟨obX rfl,obR rfl ?_,obX rfl,obX rfl,trivial⟩,avG rfl ?_,avQ rfl,avQ rfl,avQ rfl,avQ rfl,avQ rfl,avQ rfl,avQ rfl,avQ rfl,trivial⟩,h2,msr h2⟩
   ·have h3:q<(ss.set q (ss.getD q [] ++ [ids.getD i 0])).length:=by rw[ls]; exact h2
    have h4:=zrJ (ss:=ss.set q (ss.getD q [] ++ [ids.getD i 0])) (s':=ss.getD q []) h3 eq (dE _)
    have h5:(ss.set q (ss.getD q [] ++ [ids.getD i 0])).set q (ss.getD q [])=ss:=by
     rw[List.set_set,hZ,kF h2]
     exact List.set_getElem_self h2
    rw[h5] at h4
    exact h4
   rw[zdE,jR,jaW]
  refine sT ?_
  exact .inr ⟨rfl,trivial,avQ rfl,avQ rfl,trivial⟩
 have h2:q=ss.length:=by have:=dF h2; omega
 subst h2
 refine oL (List.range 9) (FzOb.no ?_)
 refine⟨⟨rfl,by omega,by omega⟩,?_⟩
 refine⟨⟨.inr rfl,by unfold maxLen; omega,by show (ss.length+1) * 24<=140737488355328; omega⟩,?_⟩
 refine⟨i6,?_⟩
 refine CallSt.cy [(0,.d (I i)),(1,.d (capB [lI ids])),(2,.pbox 4 (γ 4)),(3,.d (posD pv)),(4,.pbox 3 (γ 3)),(5,.pbox 5 (γ 5)),(75,.clo 108 (putCaps ids pv)),(77,.d (I ((i+1:Nat):Int)))] []
  (ih (ss ++ [[ids.getD i 0]]) _ (by rw[jR,qZ]; omega) (fun s hs=>by
   rcases qE.1 hs with hs | hs
   ·have:=hl s hs; omega
   obtain rfl:=kL.1 hs; rw[qZ]; omega) hsub.snd) rfl rfl ⟨rfl,⟨obX rfl,obR rfl ?_,obX rfl,obX rfl,trivial⟩,avQ rfl,avQ rfl,avQ rfl,avQ rfl,avQ rfl,avQ rfl,avQ rfl,avQ rfl,trivial⟩ rfl rfl rfl rfl ?_ ?_
 ·refine zkB rfl ⟨rfl,.inr ⟨rfl,fun u hu v hv=>?_⟩⟩
  obtain rfl:v=0:=jag.1 hv
  obtain rfl:u=0:=jag.1 hu
  show D.eqv (I (ids.getD i 0)) (I (ids.getD i 0))
  exact dE _
 ·refine sF ?_
  have ll:(ss ++ [[ids.getD i 0]]).length=ss.length+1:=by rw[jR,qZ]
  refine⟨i6,?_⟩
  refine⟨⟨by rw[ll]; omega,by rw[ll]; omega⟩,?_⟩
  refine .inl ⟨rfl,⟨obX rfl,obR rfl ?_,obX rfl,obX rfl,trivial⟩,avG rfl ?_,avQ rfl,avQ rfl,avQ rfl,avQ rfl,trivial⟩
  ·refine⟨by rw[ll]; omega,.inr ⟨rfl,fun u hu v hv=>?_⟩⟩
   rw[ll] at hu
   have hu:u<ss.length:=by omega
   show D.eqv (lI ((ss ++ [[ids.getD i 0]]).getD u [])) (lI (ss.getD u []))
   rw[hZ (l:=ss ++ [[ids.getD i 0]]),jJ hu,<- hZ]
   exact dE _
  rw[jR,jaW]
 refine sT ?_
 exact .inr ⟨rfl,trivial,avQ rfl,avQ rfl,trivial⟩
end
end Go.Pg
