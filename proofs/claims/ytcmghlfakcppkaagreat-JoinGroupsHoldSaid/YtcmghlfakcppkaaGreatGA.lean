/- Lemmas, joined by program. -/
import Derived.Test.YtcmghlfakcppkaaGreatG9
import Derived.Shelf.Sort.Plain
import Derived.Shelf.Slices.In.SortNone
import Derived.Shelf.Bits.Mul64
import Derived.Shelf.SlicesG.Delete
import Derived.Shelf.SlicesQ.Reverse
import Derived.KernelRfl
import Derived.Test.YtcmghlfakcppkaaGreatChecked
import Derived.Deep.Slices
import Derived.Deep.Fields
import Derived.ChangeSame
import Derived.OpenShut
import Derived.ProofKit
import Derived.ChangeOld
import Derived.Below
set_option maxHeartbeats 4000000
set_option linter.all false
set_option maxRecDepth 100000
namespace Go.Pg
open Go.Proofs Go.RowKit
theorem zle (P:Nat->Bool) (n:Nat) (a:Int) (ha:a=n) (hn:n<2432):Spec PP 141 [.agg (bD P),.d (capB [I a])] [B (!P n)]:=by
 subst ha
 refine sA Tryz.func141 ?_
 refine cP (znf P n hn) rfl rfl ?_
 exact r1B rfl rfl
theorem zop (l:List (Nat->Bool)) (g:FuncId) (c0:D) (p:(Nat->Bool)->Bool) (hn:l.length<=1000000) (hp:∀ i,i<l.length->Spec PP g [.agg (bD (l.getD i default)),.d c0] [B (p (l.getD i default))]):Spec PP 140 [.d (lB l),.d (cloB g [c0])] [N (idxL p l)]:=by
 refine sA Tryz.func140 ?_
 refine lOf (σ:=Nat) (fun i=>([(0,.d (lB l)),(1,.d (cloB g [c0])),(6,.d (lB l)),(7,.d (I l.length)),(8,.d (I i))],[])) (fun i=>i<=l.length /\ ∀ j,j<i->p (l.getD j default)=false) (fun i=>l.length - i) 0
  ⟨rfl,trivial,wq rfl⟩ z0L fun i hi=>?_
 obtain⟨hi,ha⟩:=hi
 apply bY <;> intro h1
 ·have h1:i<l.length:=by have:=dT h1; omega
  refine⟨⟨rfl,by omega,by omega⟩,?_⟩
  refine cP (hp i h1) rfl rfl ?_
  apply bY <;> intro h2
  ·refine r1I rfl ?_
   exact (zas default h1 h2 ha).symm
  refine⟨i6,?_⟩
  refine⟨i+1,⟨rfl,trivial,wq rfl⟩,⟨h1,fun j hj=>?_⟩,(msr (by omega))⟩
  by_cases e:j=i
  ·subst e; exact h2
  exact ha j (by omega)
 have h1:i=l.length:=by have:=dF h1; omega
 subst h1
 refine r1I rfl ?_
 exact (zaA default ha).symm
def fstI (L:List (Nat->Bool)) (n:Nat):Int:=idxL (fun P:Nat->Bool=>!P n) L
theorem znh (L:List (Nat->Bool)) (n:Nat) (a:Int) (ha:a=n) (hn:n<2432) (hL:L.length<=1000000):Spec PP 98 [.d (lB L),N a] [N (fstI L n)]:=by
 refine sA Tryz.func98 ?_
 refine CallSt.fz [3] (zop L 141 (capB [I a]) (fun P=>!P n) hL (fun i hi=>zle _ n a ha hn)) rfl rfl ?_
 exact r1I rfl rfl
abbrev rowS (l:List Rsn):Nat->Nat->D:=fun i=>(l.getD i default).at
theorem pushS {vs:List Rsn} {p:Rsn} {g:Nat->Nat->D} (hg:∀ j,j<3->D.eqv (g 0 j) (p.at j)):D.eqv (.slc 3 (vs.length+1) (appRow vs.length (rowS vs) g)) (.slc 3 (vs ++ [p]).length (rowS (vs ++ [p]))):=by
 refine⟨by simp,.inr ⟨rfl,fun i hi j hj=>?_⟩⟩
 show D.eqv (appRow vs.length (rowS vs) g i j) (((vs ++ [p]).getD i default).at j)
 unfold appRow
 by_cases h:i<vs.length
 ·rw[kG h,hX,jJ h,<- hX]
  exact dE _
 have e:i=vs.length:=by omega
 subst e
 rw[kF h,kE,hX,jK (jE _),kE]
 exact hg j hj
theorem at3 {f:Nat->D} {p:Rsn} (h0:f 0=I p.At.X) (h1:f 1=I p.At.Y) (h2:f 2=I p.R):∀ j,j<3->D.eqv (f j) (p.at j)
 | 0,_=>by rw[h0]; exact⟨rfl,rfl⟩
 | 1,_=>by rw[h1]; exact⟨rfl,rfl⟩
 | 2,_=>by rw[h2]; exact⟨rfl,rfl⟩
def rsnA (s:Svc) (l:List Rpt) (L:List (Nat->Bool)) (n:Nat):Rsn:=⟨plc s.c.M n,(l.getD (fstI L n).toNat default).ID⟩
def rsnK (s:Svc) (l:List Rpt) (L:List (Nat->Bool)) (k:Nat):List Rsn:=((List.range k).filter fun n=>decide (0<=fstI L n)).map (rsnA s l L)
theorem zkJ {s:Svc} {l:List Rpt} {L:List (Nat->Bool)} {k:Nat} (h:0<=fstI L k):rsnK s l L (k+1)=rsnK s l L k ++ [rsnA s l L k]:=by
 unfold rsnK
 rw[qY,k9,jT,qT (p:=fun n=>decide (0<=fstI L n)) (jG h)]; rfl
theorem zmP {s:Svc} {l:List Rpt} {L:List (Nat->Bool)} {k:Nat} (h:¬ 0<=fstI L k):rsnK s l L (k+1)=rsnK s l L k:=by
 unfold rsnK
 rw[qY,k9,jT,qU (p:=fun n=>decide (0<=fstI L n)) (by rw[jH h]; decide)]; simp
theorem zkK (s:Svc) (l:List Rpt) (L:List (Nat->Bool)) (k:Nat):(rsnK s l L k).length<=k:=by
 unfold rsnK
 have:=jac (fun n=>decide (0<=fstI L n)) (List.range k)
 simpa using this
theorem znB {L:List (Nat->Bool)} {n:Nat} (h:0<=fstI L n):(fstI L n).toNat<L.length:=by
 rcases idxL_cases (fun P:Nat->Bool=>!P n) L default with⟨h1,_⟩ | ⟨i,h1,h2,_⟩
 ·exact absurd h (by unfold fstI; rw[h1]; decide)
 unfold fstI; rw[h2]; exact h1
def rsnR (s:Svc) (b:Brn) (l:List Rpt):List Rsn × Int:=if givE s b l≠0 then ([],givE s b l) else (rsnK s l (l.map (alwP s b)) s.n,0)
def obRsn (s:Svc) (l:List Rpt) (L:List (Nat->Bool)) (k:Nat):List (Nat × Ob):=[(3,.box (s.ds.map AV.d)),(5,.box [.d (lR l)]),(8,.box [.d (lB L)]),(10,.box [.own 44]),(44,.row 177 3 (rsnK s l L k).length (rowS (rsnK s l L k)))]
theorem zjp (s:Svc) (b:Brn) (l:List Rpt):Spec PP 61 [s.v,b.v,.d (lR l)] [.d (lRs (rsnR s b l).1),.d (.int .i64 (rsnR s b l).2)]:=by
 refine sA Tryz.func61 ?_
 refine cR (znj s b l) rfl rfl ?_
 by_cases h0:givE s b l=0
 ·have e:allR s b l=(l.map (alwP s b),0):=by unfold allR; rw[kF (fun hh=>hh h0)]
  have e1:rsnR s b l=(rsnK s l (l.map (alwP s b)) s.n,0):=by unfold rsnR; rw[kF (fun hh=>hh h0)]
  have ok:=zhm h0
  have hn:=ok.n
  have hL:(l.map (alwP s b)).length=l.length:=kN _
  have hl:=zcY ok.s.c.m
  rw[e,e1]
  generalize l.map (alwP s b)=L at hL
  refine sF ?_
  refine cR (zeL s.c.M) rfl rfl ?_
  refine CodeOb.rangeAt (zc9 s.c.M ok.s.c.m) rfl (fun _=>rfl) (by decide) [(3,.box 3 0),(5,.box 5 0),(8,.box 8 0),(10,.box 10 0)] [(10,0)] (fun pre=>obRsn s l L pre.length) rfl (fun _=>rfl) ?_ (Iv:=fun _=>True) trivial (fun v pre x hx _=>?_) (fun _=>?_)
  ·exact⟨rfl,⟨obX rfl,obX rfl,obX rfl,obN rfl rfl rfl,obZ rfl rfl,trivial⟩,wq rfl⟩
  ·obtain⟨rfl,hk⟩:=zgS hx
   have hnn:=zb8 ok.s.c.m (k:=pre.length)
   have hlen:=zkK s l L pre.length
   refine cP (znh L pre.length _ hnn (by omega) (by omega)) rfl rfl ?_
   apply bY <;> intro h1
   ·have h1:0<=fstI L pre.length:=dT h1
    have h2:=znB h1
    refine oN 11 ?_
    refine⟨⟨rfl,h1,by omega⟩,?_⟩
    refine⟨⟨.inr rfl,by unfold maxLen; omega,by show ((rsnK s l L pre.length).length+1) * 24<=140737488355328; omega⟩,?_⟩
    refine⟨trivial,rfl,⟨obX rfl,obX rfl,obX rfl,obO rfl,obR rfl ?_,trivial⟩,wq rfl⟩
    rw[jR]
    show D.eqv _ (.slc 3 (rsnK s l L (pre.length+1)).length (rowS (rsnK s l L (pre.length+1))))
    rw[zkJ h1]
    exact pushS (at3 rfl rfl rfl)
   have h1:¬ 0<=fstI L pre.length:=dF h1
   refine⟨trivial,rfl,⟨obX rfl,obX rfl,obX rfl,obO rfl,obR rfl ?_,trivial⟩,wq rfl⟩
   rw[jR]
   show D.eqv _ (.slc 3 (rsnK s l L (pre.length+1)).length (rowS (rsnK s l L (pre.length+1))))
   rw[zmP h1]; exact dE _
  rw[zcy]
  exact⟨⟨_,_,_,_,rfl,dE _⟩,rtI rfl rfl,trivial⟩
 have e:allR s b l=([],givE s b l):=by unfold allR; rw[kG h0]
 have e1:rsnR s b l=([],givE s b l):=by unfold rsnR; rw[kG h0]
 rw[e,e1]
 refine sYe (by simpa using h0) ?_
 exact⟨⟨_,_,_,_,rfl,rfl,.inl rfl⟩,rtI rfl rfl,trivial⟩
theorem zmX {vs:List Int} {a:Int} {g:Nat->Nat->D} (hg:g 0 0=I a):D.eqv (.slc 1 (vs.length+1) (appRow vs.length (fun i _=>I (vs.getD i 0)) g)) (.slc 1 (vs ++ [a]).length fun i _=>I ((vs ++ [a]).getD i 0)):=by
 refine⟨by simp,.inr ⟨rfl,fun i hi j hj=>?_⟩⟩
 obtain rfl:j=0:=by omega
 show D.eqv (appRow vs.length (fun i _=>I (vs.getD i 0)) g i 0) (I ((vs ++ [a]).getD i 0))
 unfold appRow
 by_cases h:i<vs.length
 ·rw[kG h,hX,jJ h,<- hX]
  exact dE _
 have e:i=vs.length:=by omega
 subst e
 rw[kF h,kE,hg,hX,jK (jE _),kE]
 exact⟨rfl,rfl⟩
end Go.Pg
namespace Go.Pg
open Go.Proofs Go.RowKit Go.Sort Go.Shelf Go.Lib
section
variable {α:Type} [Inhabited α] (f:α->Int)
def oneI:Ints α 1 where
  lst x:=[f x]
  len _:=rfl
  at_ x:=fun _=>I (f x)
  hat x j hj:=by
    obtain rfl:j=0:=by omega
    rfl
def vI (x:α):Value:=.int .i64 (f x)
theorem zpe (l:Array α):flatK (oneI f).enc 1 l=l.map (vI f):=by
 apply Array.ext_getElem?
 intro i
 have hs:=(oneI f).flat_size l
 by_cases hi:i<l.size
 ·have h1:=(oneI f).flat_get l (t:=i) (by omega)
  have h2:i<(flatK (oneI f).enc 1 l).size:=by omega
  rw[jaF _ i h2] at h1
  rw[qM h2,h1]
  have e1:i / 1=i:=Nat.div_one i
  have e2:i % 1=0:=Nat.mod_one i
  rw[e1,e2,Array.getElem?_map,qM hi,jaF l i hi]
  rfl
 rw[qW (by omega),qW (by rw[Array.size_map]; omega)]
theorem zmW (w:World) (b:Nat) (l:Array α):putRow (vI f) w b 0 l=putRowK (oneI f).enc 1 w b 0 l:=by
 unfold putRowK
 rw[zpe]
 unfold putRow
 congr 1
 funext c
 unfold putCells
 congr 1
 funext k x
 rw[Array.size_map]
 by_cases h:0<=k/\k<0+l.size
 ·have hk:k - 0<l.size:=by omega
  rw[kG h,kG h,jaF _ (k - 0) hk,jaF (l.map (vI f)) (k - 0) (by rw[Array.size_map]; exact hk),Array.getElem_map]; rfl
 rw[kF h,kF h]
theorem zog (w:World) (b m:Nat) (l:Array α) (os:Array Obj):sortWorld (vI f) w b 0 m l os=sortWorldK (oneI f).enc 1 w b 0 m l os:=by
 unfold sortWorld sortWorldK; rw[zmW]
theorem zo4 {w:World} {b:Nat} {l:Array α} (h:HoldsK (oneI f).enc 1 w b 0 l):Go.Sort.Holds (vI f) w b 0 l:=fun j hj=>by
 have h':Go.Sort.Holds id w b 0 (flatK (oneI f).enc 1 l):=h
 rw[zpe] at h'
 have:=h' j (by simpa using hj)
 have e:(l.map (vI f))[j]! = vI f l[j]!:=by
  rw[jaF _ j (by simpa using hj),jaF l j hj,Array.getElem_map]
 rw[e] at this
 exact this
end
theorem zf6 {P:Program} {ρ:Ren} (S:Lays.n189 P ρ) (hent:Ent P (ρ.f 189)) (e:TypeId) (l:List Int) (hn:l.length<=1000000) :
  SpecR P (ρ.f 189) [] [] e 1 l.length ((oneI id).row l) ((oneI id).row (l.mergeSort fun x y=>decide (x<=y))) []:=by
 refine⟨hent,fun w ok vs us v xs hok h1 h2 hr=>?_⟩
 cases h1
 cases h2
 have hlen:(l.mergeSort fun x y=>decide (x<=y)).length=l.length:=qE l
 by_cases h0:l=[]
 ·subst h0
  obtain⟨p,c,rfl⟩:∃ p c,v = .slice p 0 c:=by
   rcases hr.own.2 with⟨h3,_⟩ | ⟨q,c,cur,h3,_⟩
   ·exact⟨_,_,h3⟩
   exact⟨_,_,h3⟩
  refine (Any.slices_Sort_int_none S p c w).mono ?_
  rintro en w' ⟨rfl,rfl⟩
  exact⟨_,rfl,⟨rfl,rfl,rfl,jE _,fun _ _ _=>rfl⟩,⟨[],rfl,.nil⟩,xs,hr.own,hr.one,fun m hm=>absurd hm (qD _)⟩
 rcases hr.own.2 with⟨_,h4⟩ | ⟨q,c,cur,rfl,_,hh,hnc,hcap,hcs,htk⟩
 ·exact absurd (jbj.1 h4) h0
 have hH:=(oneI (id:Int->Int)).holds (cap:=c) hh htk hr.rep
 have hq:q<w.heap.size:=(jB.1 hh).1
 have hrun:=Any.slices_Sort_int S q 0 c l w (zo4 id hH) hq (by omega)
 refine hrun.mono ?_
 rintro en w' ⟨rfl,n,os,rfl⟩
 have e1:=zog (id:Int->Int) w q n (l.mergeSort fun x y=>decide (x<=y)).toArray os
 have e2:grow (putRow (Value.int .i64) (Sort.ahead w n) q 0 (l.mergeSort fun x y=>decide (x<=y)).toArray) os=sortWorldK (oneI (id:Int->Int)).enc 1 w q 0 n (l.mergeSort fun x y=>decide (x<=y)).toArray os:=e1
 rw[e2]
 obtain⟨p1,xs',p2,p3,p4⟩:=(oneI (id:Int->Int)).put n (l.mergeSort fun x y=>decide (x<=y)) os hh (by rw[hlen]; exact hnc) hcap hcs
 rw[hlen] at p2 p4
 exact⟨_,rfl,p1,⟨[],rfl,.nil⟩,xs',p2,p3,p4⟩
end Go.Pg
namespace Go.Proofs
open Go.Shelf Go.RowKit Go.Lib Go.Sort
def Tryz.srtI_ren:Go.Shelf.Ren:=⟨fun | 189=>73 | 125=>103 | 257=>112 | 128=>151 | 129=>152 | 294=>178 | 295=>179 | 296=>180 | 297=>181 | 298=>182 | 299=>183 | 216=>184 | 300=>185 | 301=>186 | 328=>238 | 329=>216 | 330=>217 | 331=>239 | 332=>240 | 215=>220 | 343=>263 | n=>n,fun | 28=>22 | 3=>3 | 46=>182 | 0=>0 | 51=>226 | 53=>207 | 4=>4 | 183=>220 | 182=>219 | 131=>53 | 5=>5 | 9=>9 | 218=>290 | 222=>294 | 228=>332 | 229=>333 | n=>n,fun | n=>n⟩
theorem Tryz.srtI:Go.Proofs.Lays.n189 Tryz.prog Tryz.srtI_ren:={
  mixed:=by kernel_rfl,
  f125:=Tryz.func103.trans (jI some (by kernel_rfl)),
  f128:=Tryz.func151.trans (jI some (by kernel_rfl)),
  f129:=Tryz.func152.trans (jI some (by kernel_rfl)),
  f189:=Tryz.func73.trans (jI some (by kernel_rfl)),
  f215:=Tryz.func220.trans (jI some (by kernel_rfl)),
  f216:=Tryz.func184.trans (jI some (by kernel_rfl)),
  f257:=Tryz.func112.trans (jI some (by kernel_rfl)),
  f294:=Tryz.func178.trans (jI some (by kernel_rfl)),
  f295:=Tryz.func179.trans (jI some (by kernel_rfl)),
  f296:=Tryz.func180.trans (jI some (by kernel_rfl)),
  f297:=Tryz.func181.trans (jI some (by kernel_rfl)),
  f298:=Tryz.func182.trans (jI some (by kernel_rfl)),
  f299:=Tryz.func183.trans (jI some (by kernel_rfl)),
  f300:=Tryz.func185.trans (jI some (by kernel_rfl)),
  f301:=Tryz.func186.trans (jI some (by kernel_rfl)),
  f328:=Tryz.func238.trans (jI some (by kernel_rfl)),
  f329:=Tryz.func216.trans (jI some (by kernel_rfl)),
  f330:=Tryz.func217.trans (jI some (by kernel_rfl)),
  f331:=Tryz.func239.trans (jI some (by kernel_rfl)),
  f332:=Tryz.func240.trans (jI some (by kernel_rfl)),
  f343:=Tryz.func263.trans (jI some (by kernel_rfl)),
  t0:=Tryz.underlying0,
  a0:=Tryz.isAgg0,
  z0:=Tryz.sizeOf0,
  v0:=Tryz.zeroValue0,
  t3:=Tryz.underlying3,
  a3:=Tryz.isAgg3,
  z3:=Tryz.sizeOf3,
  v3:=Tryz.zeroValue3,
  t4:=Tryz.underlying4,
  a4:=Tryz.isAgg4,
  z4:=Tryz.sizeOf4,
  v4:=Tryz.zeroValue4,
  t5:=Tryz.underlying5,
  a5:=Tryz.isAgg5,
  z5:=Tryz.sizeOf5,
  v5:=Tryz.zeroValue5,
  t9:=Tryz.underlying9,
  a9:=Tryz.isAgg9,
  z9:=Tryz.sizeOf9,
  v9:=Tryz.zeroValue9,
  t28:=Tryz.underlying22,
  a28:=Tryz.isAgg22,
  z28:=Tryz.sizeOf22,
  v28:=Tryz.zeroValue22,
  t46:=Tryz.underlying182,
  a46:=Tryz.isAgg182,
  z46:=Tryz.sizeOf182,
  v46:=Tryz.zeroValue182,
  t51:=Tryz.underlying226,
  a51:=Tryz.isAgg226,
  z51:=Tryz.sizeOf226,
  v51:=Tryz.zeroValue226,
  t53:=Tryz.underlying207,
  a53:=Tryz.isAgg207,
  z53:=Tryz.sizeOf207,
  v53:=Tryz.zeroValue207,
  t131:=Tryz.underlying53,
  a131:=Tryz.isAgg53,
  z131:=Tryz.sizeOf53,
  v131:=Tryz.zeroValue53,
  t182:=Tryz.underlying219,
  a182:=Tryz.isAgg219,
  z182:=Tryz.sizeOf219,
  v182:=Tryz.zeroValue219,
  t183:=Tryz.underlying220,
  a183:=Tryz.isAgg220,
  z183:=Tryz.sizeOf220,
  v183:=Tryz.zeroValue220,
  t218:=Tryz.underlying290,
  a218:=Tryz.isAgg290,
  z218:=Tryz.sizeOf290,
  v218:=Tryz.zeroValue290,
  t222:=Tryz.underlying294,
  a222:=Tryz.isAgg294,
  z222:=Tryz.sizeOf294,
  v222:=Tryz.zeroValue294,
  t228:=Tryz.underlying332,
  a228:=Tryz.isAgg332,
  z228:=Tryz.sizeOf332,
  v228:=Tryz.zeroValue332,
  t229:=Tryz.underlying333,
  a229:=Tryz.isAgg333,
  z229:=Tryz.sizeOf333,
  v229:=Tryz.zeroValue333 }
end Go.Proofs
namespace Go.Pg
open Go.Proofs Go.RowKit Go.Sort Go.Shelf
abbrev rowI (l:List Int):Nat->Nat->D:=fun i _=>I (l.getD i 0)
theorem zkU (l:List Int) (hn:l.length<=1000000):SpecR PP 73 [] [] 3 1 l.length (rowI l) (rowI (l.mergeSort fun x y=>decide (x<=y))) []:=
 zf6 Tryz.srtI ⟨_,Tryz.func73,by kernel_rfl,by kernel_rfl⟩ 3 l hn
abbrev Lk.ds (x:Lk):List D:=[I x.Tower,I x.C,I x.Tick,I x.From,I x.To,I x.Slack]
theorem zlU (l:List Rpt) (g:FuncId) (c0:D) (p:Rpt->Bool) (hn:l.length<=1000000) (hp:∀ i,i<l.length->Spec PP g [(l.getD i default).v,.d c0] [B (p (l.getD i default))]):Spec PP 111 [.d (lR l),.d (cloB g [c0])] [N (idxL p l)]:=by
 refine sA Tryz.func111 ?_
 refine lOf (σ:=Nat) (fun i=>([(0,.d (lR l)),(1,.d (cloB g [c0])),(6,.d (lR l)),(7,.d (I l.length)),(8,.d (I i))],[])) (fun i=>i<=l.length /\ ∀ j,j<i->p (l.getD j default)=false) (fun i=>l.length - i) 0
  ⟨rfl,trivial,wq rfl⟩ z0L fun i hi=>?_
 obtain⟨hi,ha⟩:=hi
 apply bY <;> intro h1
 ·have h1:i<l.length:=by have:=dT h1; omega
  refine⟨⟨rfl,by omega,by omega⟩,?_⟩
  refine cP (hp i h1) rfl rfl ?_
  apply bY <;> intro h2
  ·refine r1I rfl ?_
   exact (zas default h1 h2 ha).symm
  refine⟨i6,?_⟩
  refine⟨i+1,⟨rfl,trivial,wq rfl⟩,⟨h1,fun j hj=>?_⟩,(msr (by omega))⟩
  by_cases e:j=i
  ·subst e; exact h2
  exact ha j (by omega)
 have h1:i=l.length:=by have:=dF h1; omega
 subst h1
 refine r1I rfl ?_
 exact (zaA default ha).symm
theorem capB2 (x y:D) {f:Nat->D} (h0:f 0 = .ptr 1 (getD' [x])) (h1:f 1 = .ptr 1 (getD' [y])):∀ j,j<2->D.eqv (f j) (getD' [capB [x],capB [y]] j)
 | 0,_=>by rw[h0]; exact dE _
 | 1,_=>by rw[h1]; exact dE _
abbrev rowRp (l:List Rpt):Nat->Nat->D:=fun i=>(l.getD i default).at
theorem zn4 (l:List Rpt) (g:FuncId) (c0:D) (p:Rpt->Bool) (hn:l.length<=1000000) (hp:∀ i,i<l.length->Spec PP g [(l.getD i default).v,.d c0] [B (p (l.getD i default))]):Spec PP 71 [.d (lR l),.d (cloB g [c0])] [B (l.any p)]:=by
 refine sA Tryz.func71 ?_
 refine cP (zlU l g c0 p hn hp) rfl rfl ?_
 refine r1B rfl ?_
 rw[kY,kV]
 exact zbA p l default
theorem zk4 (l:List Rpt) (hn:l.length<=1000000):SpecO PP 100 [.d (lR l)] 90 8 l.length (rowRp l):=by
 refine zcZ Tryz.func100 rfl (by kernel_rfl) rfl ?_
 refine fun b hb=>?_
 apply bY <;> intro h1
 ·have h0:=hb h1
  refine⟨rfl,rfl,h0.symm,fun i hi=>?_⟩
  omega
 refine⟨⟨.inr rfl,by unfold maxLen; omega,by show (0+l.length) * 64<=140737488355328; omega⟩,?_⟩
 refine⟨rfl,rfl,qG _,fun i hi j hj=>?_⟩
 exact dE _
theorem zmf (l:List Rpt) (m j:Nat):(rowRp l m j).flat=true:=by
 show ((l.getD m default).at j).flat=true
 unfold Rpt.at
 split <;> rfl
theorem zom (l:List Int) (x:Int) (hn:l.length<=1000000):Spec PP 88 [.d (lI l),N x] [N (idxL (· == x) l)]:=by
 refine sA Tryz.func88 ?_
 refine lOf (σ:=Nat) (fun i=>([(0,.d (lI l)),(1,.d (I x)),(6,.d (lI l)),(7,.d (I l.length)),(8,.d (I i))],[])) (fun i=>i<=l.length /\ ∀ j,j<i->(l.getD j 0==x)=false) (fun i=>l.length - i) 0
  ⟨rfl,trivial,wq rfl⟩ z0L fun i hi=>?_
 obtain⟨hi,ha⟩:=hi
 apply bY <;> intro h1
 ·have h1:i<l.length:=by have:=dT h1; omega
  refine⟨⟨rfl,by omega,by omega⟩,?_⟩
  apply bY <;> intro h2
  ·have h2:(l.getD i 0==x)=true:=by rw[BEq.comm]; exact h2
   refine r1I rfl ?_
   exact (zas 0 h1 h2 ha).symm
  have h2:(l.getD i 0==x)=false:=by rw[BEq.comm]; exact h2
  refine⟨i6,?_⟩
  refine⟨i+1,⟨rfl,trivial,wq rfl⟩,⟨h1,fun j hj=>?_⟩,(msr (by omega))⟩
  by_cases e:j=i
  ·subst e; exact h2
  exact ha j (by omega)
 have h1:i=l.length:=by have:=dF h1; omega
 subst h1
 refine r1I rfl ?_
 exact (zaA 0 ha).symm
theorem znY (l:List Int) (x:Int):l.any (· == x)=l.contains x:=by
 rw[kY,kS,kD]
 exact⟨fun⟨y,hy,e⟩=>by rw[<- eq_of_beq e]; exact hy,fun h=>⟨x,h,by simp⟩⟩
theorem zdY (l:List Int) (x:Int) (hn:l.length<=1000000):Spec PP 46 [.d (lI l),N x] [B (l.contains x)]:=by
 refine sA Tryz.func46 ?_
 refine cP (zom l x hn) rfl rfl ?_
 refine r1B rfl ?_
 rw[kY,kV,<- znY]
 exact zbA (· == x) l 0
theorem zmN (l:List Int) (g:FuncId) (c0:D) (p:Int->Bool) (hn:l.length<=1000000) (hp:∀ i,i<l.length->Spec PP g [N (l.getD i 0),.d c0] [B (p (l.getD i 0))]):Spec PP 189 [.d (lI l),.d (cloB g [c0])] [N (idxL p l)]:=by
 refine sA Tryz.func189 ?_
 refine lOf (σ:=Nat) (fun i=>([(0,.d (lI l)),(1,.d (cloB g [c0])),(6,.d (lI l)),(7,.d (I l.length)),(8,.d (I i))],[])) (fun i=>i<=l.length /\ ∀ j,j<i->p (l.getD j 0)=false) (fun i=>l.length - i) 0
  ⟨rfl,trivial,wq rfl⟩ z0L fun i hi=>?_
 obtain⟨hi,ha⟩:=hi
 apply bY <;> intro h1
 ·have h1:i<l.length:=by have:=dT h1; omega
  refine⟨⟨rfl,by omega,by omega⟩,?_⟩
  refine cP (hp i h1) rfl rfl ?_
  apply bY <;> intro h2
  ·refine r1I rfl ?_
   exact (zas 0 h1 h2 ha).symm
  refine⟨i6,?_⟩
  refine⟨i+1,⟨rfl,trivial,wq rfl⟩,⟨h1,fun j hj=>?_⟩,(msr (by omega))⟩
  by_cases e:j=i
  ·subst e; exact h2
  exact ha j (by omega)
 have h1:i=l.length:=by have:=dF h1; omega
 subst h1
 refine r1I rfl ?_
 exact (zaA 0 ha).symm
theorem zmO (l:List Int) (g:FuncId) (c0:D) (p:Int->Bool) (hn:l.length<=1000000) (hp:∀ i,i<l.length->Spec PP g [N (l.getD i 0),.d c0] [B (p (l.getD i 0))]):Spec PP 116 [.d (lI l),.d (cloB g [c0])] [B (l.any p)]:=by
 refine sA Tryz.func116 ?_
 refine cP (zmN l g c0 p hn hp) rfl rfl ?_
 refine r1B rfl ?_
 rw[kY,kV]
 exact zbA p l 0
abbrev lII (l:List (List Int)):D:=.slc 1 l.length fun i _=>lI (l.getD i [])
theorem zkF (l:List (List Int)) (g:FuncId) (c0 c1:D) (p:List Int->Bool) (hn:l.length<=1000000) (hp:∀ i,i<l.length->Spec PP g [.d (lI (l.getD i [])),.d c0,.d c1] [B (p (l.getD i []))]):Spec PP 77 [.d (lII l),.d (cloB g [c0,c1])] [N (idxL p l)]:=by
 refine sA Tryz.func77 ?_
 refine lOf (σ:=Nat) (fun i=>([(0,.d (lII l)),(1,.d (cloB g [c0,c1])),(6,.d (lII l)),(7,.d (I l.length)),(8,.d (I i))],[])) (fun i=>i<=l.length /\ ∀ j,j<i->p (l.getD j [])=false) (fun i=>l.length - i) 0
  ⟨rfl,trivial,wq rfl⟩ z0L fun i hi=>?_
 obtain⟨hi,ha⟩:=hi
 apply bY <;> intro h1
 ·have h1:i<l.length:=by have:=dT h1; omega
  refine⟨⟨rfl,by omega,by omega⟩,?_⟩
  refine cP (hp i h1) rfl rfl ?_
  apply bY <;> intro h2
  ·refine r1I rfl ?_
   exact (zas [] h1 h2 ha).symm
  refine⟨i6,?_⟩
  refine⟨i+1,⟨rfl,trivial,wq rfl⟩,⟨h1,fun j hj=>?_⟩,(msr (by omega))⟩
  by_cases e:j=i
  ·subst e; exact h2
  exact ha j (by omega)
 have h1:i=l.length:=by have:=dF h1; omega
 subst h1
 refine r1I rfl ?_
 exact (zaA [] ha).symm
theorem zkG (l:List (List Int)) (g:FuncId) (c0 c1:D) (p:List Int->Bool) (hn:l.length<=1000000) (hp:∀ i,i<l.length->Spec PP g [.d (lI (l.getD i [])),.d c0,.d c1] [B (p (l.getD i []))]):Spec PP 34 [.d (lII l),.d (cloB g [c0,c1])] [B (l.any p)]:=by
 refine sA Tryz.func34 ?_
 refine cP (zkF l g c0 c1 p hn hp) rfl rfl ?_
 refine r1B rfl ?_
 rw[kY,kV]
 exact zbA p l []
@[irreducible] def filR (p:Rpt->Bool) (l:List Rpt) (j:Nat):List Rpt:=(l.take j).filter fun r=>!p r
theorem zco (p:Rpt->Bool) (l:List Rpt) {j:Nat} (hj:j<l.length):filR p l (j+1)=filR p l j++(if p (l.getD j default)=true then [] else [l.getD j default]):=by
 unfold filR
 rw[zaM hj default,k9]
 congr 1
 by_cases h:p (l.getD j default)=true
 ·rw[kG h,qU (by rw[h]; decide)]; rfl
 rw[kF h,qT (by rw[wE.2 h]; rfl)]; rfl
theorem zhr (p:Rpt->Bool) (l:List Rpt) {j:Nat} (hj:j<=l.length) (h:∀ i,i<j->p (l.getD i default)=false):filR p l j=l.take j:=by
 induction j with
 | zero=>unfold filR; simp
 | succ j ih=>rw[zco p l (by omega),kF (by rw[h j (by omega)]; decide),ih (by omega) fun i hi=>h i (by omega),zaM (by omega) default]
structure Day where
  s:Svc
  Rise:Int
  Long:Int
  R:List Rpt
  deriving Inhabited
abbrev Day.ds (d:Day):List D:=[I d.s.c.M.W,I d.s.c.M.H,lI d.s.c.M.G,lT d.s.c.T,lZ d.s.c.Z,lC d.s.k.C,lK d.s.k.K,I d.Rise,I d.Long,lR d.R]
abbrev Day.v (d:Day):V1:=.agg d.ds
theorem zhf (n lo hi:Int):Spec PP 69 [N n,N lo,N hi] [B (within n lo hi)]:=by
 refine sA Tryz.func69 ?_
 unfold within
 apply bY <;> intro h1
 ·repeat first | apply sT | apply sF
  exact r1B rfl (by rw[h1,wI])
 repeat first | apply sT | apply sF
 exact r1B rfl (by rw[h1,jal])
def isSg (r:Rpt):Bool:=r.Kind==1
def sigK (l:List Rpt):List Int:=(l.filter isSg).map Rpt.ID
def sigL (l:List Rpt):List Int:=(sigK l).mergeSort fun x y=>decide (x<=y)
theorem zeu {l:List Rpt} {i:Nat} (h:i<l.length) (h1:isSg (l.getD i default)=true):sigK (l.take (i+1))=sigK (l.take i) ++ [(l.getD i default).ID]:=by
 unfold sigK
 rw[zaM h default,k9,qT h1,jT]; rfl
theorem ziy {l:List Rpt} {i:Nat} (h:i<l.length) (h1:isSg (l.getD i default)=false):sigK (l.take (i+1))=sigK (l.take i):=by
 unfold sigK
 rw[zaM h default,k9,qU (by rw[h1]; decide)]; simp
theorem zb9 (l:List Rpt):(sigK l).length<=l.length:=by unfold sigK; rw[kN]; exact jac _ _
theorem zbd (l:List Rpt):(sigL l).length=(sigK l).length:=qE _
theorem zaY (d:Day) (hn:d.R.length<=1000000):Spec PP 30 [d.v] [.d (lI (sigL d.R))]:=by
 refine sA Tryz.func30 ?_
 refine lOf (σ:=Nat) (fun i=>([(3,.own 3),(7,.d (lR d.R)),(8,.d (I d.R.length)),(9,.d (I i))],[(3,.row 3 1 (sigK (d.R.take i)).length (rowI (sigK (d.R.take i))))])) (fun i=>i<=d.R.length) (fun i=>d.R.length - i) 0
  ⟨rfl,⟨obR rfl ⟨rfl,.inl rfl⟩,trivial⟩,wq rfl⟩ (jF _) fun i hi=>?_
 have hi:i<=d.R.length:=hi
 have hl:=zb9 (d.R.take i)
 rw[jQ] at hl
 apply bY <;> intro h1
 ·have h1:i<d.R.length:=by have:=dT h1; omega
  refine⟨⟨rfl,by omega,by omega⟩,?_⟩
  apply bY <;> intro h2
  ·refine⟨⟨.inr rfl,by unfold maxLen; omega,by show ((sigK (d.R.take i)).length+1) * 8<=140737488355328; omega⟩,?_⟩
   refine⟨i6,?_⟩
   refine⟨i+1,⟨rfl,⟨obR rfl ?_,trivial⟩,wq rfl⟩,h1,msr h1⟩
   rw[zeu h1 h2]
   exact zmX rfl
  refine⟨i6,?_⟩
  refine⟨i+1,⟨rfl,⟨obR rfl ?_,trivial⟩,wq rfl⟩,h1,msr h1⟩
  rw[ziy h1 h2]
  exact dE _
 have h1:i=d.R.length:=by have:=dF h1; omega
 subst h1
 rw[jZ] at hl ⊢
 refine CallSt.rw' rfl (zkU (sigK d.R) (by omega)) ⟨⟨[],.tmp 22,[],[],rfl,rfl,rfl,rfl,rfl,rfl,rfl⟩⟩ rfl ?_
 exact⟨⟨_,_,_,_,rfl,(zbd d.R).symm,.inr ⟨rfl,fun i _ j _=>dE _⟩⟩,trivial⟩
def risB (l:List Int):Bool:=(List.range (l.length - 1)).all fun i=>decide (l.getD i 0<l.getD (i+1) 0)
def setB (l:List Int):Bool:=risB l && decide (0<l.length)
theorem znq (l:List Int) (hn:l.length<=1000000):Spec PP 86 [.d (lI l)] [B (setB l)]:=by
 refine sA Tryz.func86 ?_
 refine lOf (σ:=Nat) (fun i=>([(0,.d (lI l)),(3,.d (I i))],[])) (fun i=>1<=i /\ ∀ j,j+1<i->j+1<l.length->l.getD j 0<l.getD (j+1) 0) (fun i=>l.length - i) 1
  ⟨rfl,trivial,wq rfl⟩ ⟨jE _,fun j hj=>by omega⟩ fun i hi=>?_
 obtain⟨hi,ha⟩:=hi
 apply bY <;> intro h1
 ·have h1:i<l.length:=by have:=dT h1; omega
  refine oN 10 ?_
  refine⟨⟨rfl,by omega,by omega⟩,?_⟩
  refine⟨i6,?_⟩
  refine⟨⟨rfl,by omega,by omega⟩,?_⟩
  have e:((i:Int) - 1).toNat=i - 1:=by omega
  apply bY <;> intro h2
  ·have h2:=dT h2
   rw[e,wD] at h2
   refine r1B rfl ?_
   symm
   unfold setB risB
   rw[Bool.and_eq_false_iff]; left
   rw[wE]
   intro h
   have:=jC.1 h (i - 1) (kK.2 (by omega))
   rw[show i - 1+1=i by omega] at this
   have:=kO this
   omega
  have h2:=dF h2
  rw[e,wD] at h2
  refine⟨i6,?_⟩
  refine⟨i+1,⟨rfl,trivial,wq rfl⟩,⟨by omega,fun j hj hl=>?_⟩,msr h1⟩
  by_cases ej:j+1=i
  ·have:j=i - 1:=by omega
   subst this
   rw[show i - 1+1=i by omega]
   omega
  exact ha j (by omega) hl
 have h1:l.length<=i:=by have:=dF h1; omega
 refine r1B rfl ?_
 unfold setB
 have:risB l=true:=jC.2 fun j hj=>by
  have:=kK.1 hj
  exact jG (ha j (by omega) (by omega))
 rw[this,wI]
 exact wA.2 (by omega)
def partB (a b:List Int):Bool:=a.all fun x=>b.contains x
theorem zno (x:Int) (b:List Int) (hn:b.length<=1000000):Spec PP 117 [N x,.d (capB [lI b])] [B (!b.contains x)]:=by
 refine sA Tryz.func117 ?_
 refine cP (zdY b x hn) rfl rfl ?_
 exact r1B rfl rfl
theorem zl9 (a b:List Int) (ha:a.length<=1000000) (hb:b.length<=1000000):Spec PP 79 [.d (lI a),.d (lI b)] [B (partB a b)]:=by
 refine sA Tryz.func79 ?_
 refine fEq [3] (zmO a 117 (capB [lI b]) (fun x=>!b.contains x) ha fun i _=>zno _ b hb) rfl ⟨dE _,⟨rfl,rfl,fun j hj=>by obtain rfl:j=0:=jak.1 hj; exact dE _⟩,trivial⟩ rfl ?_
 refine r1B rfl ?_
 unfold partB
 rw[kY,jY,jan,jC]
 simp
theorem zmk {g:Int->Int->Int} (hg:∀ x y,g x y=0) (a b c d k:Int):crsH g a b c d k=0:=by
 unfold crsH
 simp only[hg,Int.mul_zero,Int.add_zero,ite_self]
theorem zgg {m:Mp} (hm:∀ p,grd m p=0) (a b:Place):∀ (n:Nat) (k0 k1:Int),∀ p∈ptsF m a b n k0 k1,p.hi=0
 | 0,_,_,p,hp=>by cases hp
 | n+1,k0,k1,p,hp=>by
  unfold ptsF at hp
  split at hp
  ·split at hp
   ·rcases kX.1 hp with rfl | hp
    ·exact zmk (g:=fun y x=>grd m ⟨x,y⟩) (fun _ _=>hm _) _ _ _ _ _
    exact zgg hm a b n _ _ p hp
   rcases kX.1 hp with rfl | hp
   ·exact zmk (g:=fun x y=>grd m ⟨x,y⟩) (fun _ _=>hm _) _ _ _ _ _
   exact zgg hm a b n _ _ p hp
  cases hp
theorem zfG {m:Mp} (hm:∀ p,grd m p=0) (hv:validM m=true) {a b:Place} (ha:onM m a=true) (hb:onM m b=true) {ta tb:Int} (h1:0<=ta) (h2:0<=tb):freeB m a ta b tb=true:=by
 unfold freeB
 rw[jY,jan]
 intro p hp
 have ok:=zl2 hv ha hb p hp
 have h3:=zgg hm a b _ _ _ p hp
 unfold ovrB abvI
 rw[h3,hm,hm]
 have k1:=qZ (show 0<=p.n - p.k by have:=ok.k; omega) (show 0<=0+ta by omega)
 have k2:=qZ ok.k.1 (show 0<=0+tb by omega)
 simp only[kA]
 omega
end Go.Pg
namespace Go.Pg
open Go.RowKit Go.ChangeShapes Go.WideShapes Go.Deep
section
variable {H:Type} {enc:TypeId × Value->H} {P:Program} {w:World} {base:Nat} {spare:Nat->Bool} {held:Bool}
def IntFs (P:Program) (fs:Array Field):Prop:=∀ (j:Nat) (f:Field),fs[j]?=some f->P.underlying f.type=some (.int .i64)
end
inductive Sh where
  | int (k:IntKind)
  | sl (k:Nat) (f:Nat->Sh)
def Fits:Sh->D->Prop
 | .int k,x=>∃ n:Int,(k.min<=n/\n<=k.max)/\x = .int k n
 | .sl k s,x=>∃ (n:Nat) (f:Nat->Nat->D),x = .slc k n f/\n<=maxLen /\ ∀ i,i<n -> ∀ j,j<k->Fits (s j) (f i j)
def GdS (w:World) (s:Sh) (v:Value):Prop:=∃ x:D,Rep w (fun b=>b<w.heap.size) x v/\Fits s x
def shFs (cells:TypeId->Nat) (g:TypeId->Option (List Sh)):Nat->List Field->Option (List Sh)
 | _,[]=>some []
 | off,f :: r=>(g f.type).bind fun a=>bif f.offset==off && a.length==cells f.type then (shFs cells g (off+a.length) r).map fun b=>a++b else none
def shSt (P:Program) (g:TypeId->Option (List Sh)) (t:TypeId) (fs:Array Field):Option (List Sh):=(shFs P.cellsOf g 0 fs.toList).bind fun ks=>bif ks.length==P.cellsOf t then some ks else none
def shSl (P:Program) (g:TypeId->Option (List Sh)) (e:TypeId):Option (List Sh):=(g e).bind fun ks=>bif ks.length==P.cellsOf e then some [.sl ks.length fun j=>getD' ks j] else none
where getD':List Sh->Nat->Sh
 | [],_=>.int .i64
 | x :: _,0=>x
 | _ :: r,j+1=>getD' r j
def shOf (P:Program):Nat->TypeId->Option (List Sh)
 | 0,_=>none
 | n+1,t=>match P.underlying t with
  | some (.int k)=>some [.int k]
  | some (.slice e)=>shSl P (shOf P n) e
  | some (.struct fs)=>shSt P (shOf P n) t fs
  | _=>none
theorem zkE {l:List Sh} {j:Nat} (h:j<l.length):l[j]?=some (shSl.getD' l j):=by
 induction l generalizing j with
 | nil=>cases h
 | cons x r ih=>cases j with
  | zero=>rfl
  | succ j=>simpa [shSl.getD'] using ih (by simpa using h)
theorem All2.app' {α β:Type} {R:α->β->Prop} {a c:List α} {b d:List β} (h1:All2 R a b) (h2:All2 R c d):All2 R (a++c) (b++d):=by
 induction h1 with
 | nil=>exact h2
 | cons h _ ih=>exact .cons h ih
theorem znM {w:World} {a:Addr} {v:Value} (h:w.cell? a=some v):a.block<w.heap.size:=by
 rcases jau a.block w.heap.size with h1 | h1
 ·exact h1
 simp only[World.cell?,qW h1] at h
 cases h
theorem wf_kind {k:IntKind} {n:Int} (h:(Lit.int k n).wf=true):k.min<=n/\n<=k.max:=by
 have h:(decide (IntKind.min k<=n) && decide (n<=IntKind.max k))=true:=h
 simp only[jP,kA] at h
 exact h
section
variable {H:Type} {enc:TypeId × Value->H} {P:Program} {w:World} {base:Nat} {spare:Nat->Bool} {held:Bool}
theorem zfk {g:TypeId->Option (List Sh)} {n:Nat} {cs:List Value}
  (ih:∀ t ks,g t=some ks -> ∀ cs x,DataW.trod enc P w base spare held n t cs=some x->All2 (GdS w) ks cs) :
  ∀ (r:List Field) (off:Nat) (ks:List Sh),shFs P.cellsOf g off r=some ks->(∀ f∈r,∃ x,DataW.trod enc P w base spare held n f.type ((cs.drop f.offset).take (P.cellsOf f.type))=some x)->All2 (GdS w) ks ((cs.drop off).take ks.length)
 | [],off,ks,h,_=>by
  simp only[shFs,jO] at h
  subst h
  exact .nil
 | f :: r,off,ks,h,hx=>by
  unfold shFs at h
  obtain⟨a,ha,h⟩:=jbi.1 h
  cases hc:f.offset==off && a.length==P.cellsOf f.type with
  | false=>rw[hc] at h; cases h
  | true=>
  rw[hc] at h
  obtain⟨b,hb,rfl⟩:=Option.map_eq_some_iff.1 (show (shFs P.cellsOf g (off+a.length) r).map (fun b=>a++b)=some ks from h)
  simp only[jP,jae] at hc
  obtain⟨x,h1⟩:=hx f (wG ..)
  rw[hc.1,<- hc.2] at h1
  have g1:=ih _ _ ha _ _ h1
  have g2:=zfk ih r (off+a.length) b hb fun f hf=>hx f (jaa _ hf)
  rw[jR,List.take_add,List.drop_drop]
  exact g1.app' g2
theorem zew:∀ (n:Nat) (t:TypeId) (ks:List Sh),shOf P n t=some ks -> ∀ (fuel:Nat) (cs:List Value) (x:DataW H × List MemPlace),DataW.trod enc P w base spare held fuel t cs=some x->All2 (GdS w) ks cs
 | 0,_,_,h,_,_,_,_=>by cases h
 | n+1,t,ks,h,fuel,cs,x,ht=>by
  unfold shOf at h
  split at h
  ·rename_i k hu
   simp only[jO] at h
   subst h
   obtain⟨m,rfl,_,hw⟩:=DataW.trod_int hu ht
   exact .cons ⟨.int k m,rfl,m,wf_kind hw,rfl⟩ .nil
  ·rename_i e hu
   unfold shSl at h
   obtain⟨ks',hk,h⟩:=jbi.1 h
   cases hc:ks'.length==P.cellsOf e with
   | false=>rw[hc] at h; cases h
   | true=>
   rw[hc] at h
   simp only[kL,jO] at h
   subst h
   have hc:=jae.1 hc
   obtain⟨v,rfl⟩:∃ v,cs=[v]:=by
    rcases open_slice hu ht with⟨rfl,_⟩ | ⟨ad,len,cap,m,n',D,Pl,rfl,_⟩
    ·exact⟨_,rfl⟩
    exact⟨_,rfl⟩
   refine .cons ?_ .nil
   rcases open_slice hu ht with⟨h1,_⟩ | ⟨ad,len,cap,m,n',D,Pl,h1,hb,hl,hm,hmm,hx,hi⟩
   ·cases h1
    exact⟨.slc ks'.length 0 fun _ _=>.nil,.inl ⟨rfl,rfl⟩,0,_,rfl,by unfold maxLen; omega,fun i hi=>absurd hi (qD _)⟩
   cases h1
   have key:∀ i,i<len -> ∀ j,j<ks'.length -> ∃ v,w.cell? (ad.add (i * ks'.length+j))=some v/\GdS w (shSl.getD' ks' j) v:=fun i him j hjl=>by
    obtain⟨cs',hcc,ht'⟩:=hi i (by rw[hmm]; split <;> omega)
    have hg:=zew n e ks' hk _ _ _ ht'
    obtain⟨_,hcl,hat⟩:=World.cells?_some hcc
    obtain⟨v,hv,hgv⟩:=hg.get j _ (zkE hjl)
    refine⟨v,?_,hgv⟩
    rw[<- Go.Deep.add_add,hc]
    rw[hat j (by omega)]; exact hv
   refine⟨.slc ks'.length len fun i j=>if h:i<len/\j<ks'.length then Classical.choose (jaw (key i h.1 j h.2)).2 else .nil,.inr ⟨ad,cap,rfl,hl,hm,fun i hi j hj=>?_⟩,len,_,rfl,by omega,fun i hi j hj=>?_⟩
   ·have hs:=jaw (key i hi j hj)
    have hs2:=jaw hs.2
    refine⟨?_,_,hs.1,?_⟩
    ·have:=znM hs.1
     rwa [zaE] at this
    dsimp only; rw[dif_pos ⟨hi,hj⟩]; exact hs2.1
   dsimp only; rw[dif_pos ⟨hi,hj⟩]
   exact (jaw (jaw (key i hi j hj)).2).2
  ·rename_i fs hu
   unfold shSt at h
   obtain⟨ks',hk,h⟩:=jbi.1 h
   cases hc:ks'.length==P.cellsOf t with
   | false=>rw[hc] at h; cases h
   | true=>
   rw[hc] at h
   simp only[kL,jO] at h
   subst h
   obtain⟨xs,m,rfl,_,hl,hlen,hf⟩:=DataW.trod_struct hu ht
   have key:=zfk (cs:=cs) (n:=m) (fun t ks h cs x hx=>zew n t ks h m cs x hx) fs.toList 0 ks' hk fun f hf'=>by
    obtain⟨i,hi,rfl⟩:=kM hf'
    have hi':i<fs.size:=by simpa using hi
    have h1:=hf i fs[i] (qM hi')
    rw[hZ (show i<xs.length by omega)] at h1
    exact⟨_,by simpa using h1⟩
   rw[List.drop_zero,List.take_of_length_le (by have:=jae.1 hc; omega)] at key
   exact key
  cases h
theorem zdv:∀ {ks:List Sh} {cs:List Value},All2 (GdS w) ks cs -> ∃ xs:List D,All2 (Rep w (fun b=>b<w.heap.size)) xs cs/\All2 Fits ks xs
 | [],[],.nil=>⟨[],.nil,.nil⟩
 | _ :: _,_ :: _,.cons ⟨x,h1,h2⟩ h=>by
  obtain⟨xs,h3,h4⟩:=zdv h
  exact⟨x :: xs,.cons h1 h3,.cons h2 h4⟩
theorem openS {r:Reach} {b0:Nat} (n:Nat) {t:TypeId} {fs:Array Field} {ks:List Sh} {v:Value} {d:DataW H} {p:List MemPlace} (hs:P.underlying t=some (.struct fs)) (hk:shOf P n t=some ks)
  (hv:Value.okWide P w r b0 t v) (h:DataW.Trod enc P w base spare held t v d p):∃ xs:List D,Rep1 w (fun b=>b<w.heap.size) (.agg xs) v/\All2 Fits ks xs:=by
 obtain⟨cs,rfl,hsz⟩:=okWide_struct hs hv
 obtain⟨fuel,hf⟩:=h
 obtain⟨xs,h1,h2⟩:=zdv (zew n t ks hk fuel _ _ (by simpa [Value.cells] using hf))
 exact⟨xs,⟨cs.toList,by simp,h1⟩,h2⟩
theorem openL {r:Reach} {b0:Nat} (n:Nat) {t e:TypeId} {ks:List Sh} {v:Value} {d:DataW H} {p:List MemPlace} (hs:P.underlying t=some (.slice e)) (hk:shOf P (n+1) t=some ks)
  (hv:Value.okWide P w r b0 t v) (h:DataW.Trod enc P w base spare held t v d p):∃ x:D,Rep1 w (fun b=>b<w.heap.size) (.d x) v/\All2 Fits ks [x]:=by
 obtain⟨a,len,cap,rfl⟩:=okWide_slice hs hv
 obtain⟨fuel,hf⟩:=h
 obtain⟨xs,h1,h2⟩:=zdv (zew (n+1) t ks hk fuel _ _ (by simpa [Value.cells] using hf))
 cases h1 with
 | cons h h'=>cases h'; exact⟨_,h,h2⟩
end
theorem fitsL {α:Type} [Inhabited α] {k:Nat} {at_:α->Nat->D} {s:Nat->Sh} {x:D} (mkα:(Nat->Int)->α) (hi:∀ j,j<k->s j = .int .i64) (hk:∀ g:Nat->Int,∀ j,j<k->at_ (mkα g) j=I (g j)) (h:Fits (.sl k s) x) :
  ∃ l:List α,l.length<=maxLen/\(∀ a∈l,∃ g:Nat->Int,a=mkα g /\ ∀ j,j<k -> -9223372036854775808<=g j/\g j<=9223372036854775807)/\D.eqv x (.slc k l.length fun i=>at_ (l.getD i default)):=by
 obtain⟨n,f,rfl,hn,hf⟩:=h
 have key:∀ i,i<n -> ∀ j,j<k -> ∃ z:Int,(-9223372036854775808<=z/\z<=9223372036854775807)/\f i j=I z:=fun i hi' j hj=>by
  have h1:=hf i hi' j hj
  rw[hi j hj] at h1
  exact h1
 let g:Nat->Nat->Int:=fun i j=>if h:i<n/\j<k then Classical.choose (key i h.1 j h.2) else 0
 have hg:∀ i,i<n -> ∀ j,j<k->(-9223372036854775808<=g i j/\g i j<=9223372036854775807)/\f i j=I (g i j):=fun i hi' j hj=>by
  have e:g i j=Classical.choose (key i hi' j hj):=dif_pos ⟨hi',hj⟩
  rw[e]
  exact jaw (key i hi' j hj)
 refine⟨(List.range n).map fun i=>mkα (g i),by simpa using hn,fun a ha=>?_,by simp,.inr ⟨rfl,fun i hi' j hj=>?_⟩⟩
 ·obtain⟨i,hi',rfl⟩:=kJ.1 ha
  exact⟨g i,rfl,fun j hj=>(hg i (kK.1 hi') j hj).1⟩
 have e:((List.range n).map fun i=>mkα (g i)).getD i default=mkα (g i):=by
  rw[hX,jU,qQ hi']; rfl
 show D.eqv (f i j) (at_ (((List.range n).map fun i=>mkα (g i)).getD i default) j)
 rw[e,hk _ j hj,(hg i hi' j hj).2]
 exact⟨rfl,rfl⟩
end Go.Pg
namespace Go.Pg
open Go.Proofs Go.RowKit
theorem zgX {w:World} {ok:Nat->Prop}:∀ {xs ys:List D} {vs:List Value},All2 (Rep w ok) xs vs->eqvs xs ys->All2 (Rep w ok) ys vs
 | [],[],_,h,_=>h
 | _ :: _,_ :: _,_,.cons h r,⟨e,es⟩=>.cons (Rep.eqv h e) (zgX r es)
abbrev shI (k:Nat):Sh:=.sl k fun j=>shSl.getD' (List.replicate k (.int .i64)) j
theorem zoh {k j:Nat} (h:j<k):shSl.getD' (List.replicate k (.int .i64)) j = .int .i64:=by
 induction k generalizing j with
 | zero=>omega
 | succ k ih=>
 cases j with
 | zero=>rfl
 | succ j=>exact ih (j:=j) (by omega)
theorem fitI {α:Type} [Inhabited α] {k:Nat} {at_:α->Nat->D} {x:D} (mkα:(Nat->Int)->α) (hk:∀ g:Nat->Int,∀ j,j<k->at_ (mkα g) j=I (g j)) (h:Fits (shI k) x):∃ l:List α,D.eqv x (.slc k l.length fun i=>at_ (l.getD i default)):=by
 obtain⟨l,_,_,e⟩:=fitsL (at_:=at_) mkα (fun j hj=>zoh hj) hk h
 exact⟨l,e⟩
abbrev shDay:List Sh:=[.int .i64,.int .i64,shI 1,shI 4,shI 3,shI 8,shI 7,.int .i64,.int .i64,shI 8]
theorem rep_Day {w:World} {ok:Nat->Prop} {xs:List D} {v:Value} (hr:Rep1 w ok (.agg xs) v) (h:All2 Fits shDay xs):∃ d:Day,Rep1 w ok d.v v:=by
 obtain⟨vs,e,hv⟩:=hr
 cases h with | cons h0 h=>
 cases h with | cons h1 h=>
 cases h with | cons h2 h=>
 cases h with | cons h3 h=>
 cases h with | cons h4 h=>
 cases h with | cons h5 h=>
 cases h with | cons h6 h=>
 cases h with | cons h7 h=>
 cases h with | cons h8 h=>
 cases h with | cons h9 h=>
 cases h
 obtain⟨n0,-,rfl⟩:=h0
 obtain⟨n1,-,rfl⟩:=h1
 obtain⟨n7,-,rfl⟩:=h7
 obtain⟨n8,-,rfl⟩:=h8
 obtain⟨l2,e2⟩:=fitI (α:=Int) (at_:=fun a _=>I a) (fun g=>g 0) (fun g j hj=>by
  match j,hj with
  | 0,_=>rfl) h2
 obtain⟨l3,e3⟩:=fitI (α:=Twr) (at_:=Twr.at) (fun g=>⟨g 0,⟨g 1,g 2⟩,g 3⟩) (fun g j hj=>by
  match j,hj with
  | 0,_=>rfl
  | 1,_=>rfl
  | 2,_=>rfl
  | 3,_=>rfl) h3
 obtain⟨l4,e4⟩:=fitI (α:=Hz) (at_:=Hz.at) (fun g=>⟨g 0,g 1,g 2⟩) (fun g j hj=>by
  match j,hj with
  | 0,_=>rfl
  | 1,_=>rfl
  | 2,_=>rfl) h4
 obtain⟨l5,e5⟩:=fitI (α:=Cir) (at_:=Cir.at) (fun g=>⟨g 0,⟨g 1,g 2⟩,g 3,g 4,g 5,g 6,g 7⟩) (fun g j hj=>by
  match j,hj with
  | 0,_=>rfl
  | 1,_=>rfl
  | 2,_=>rfl
  | 3,_=>rfl
  | 4,_=>rfl
  | 5,_=>rfl
  | 6,_=>rfl
  | 7,_=>rfl) h5
 obtain⟨l6,e6⟩:=fitI (α:=Chk) (at_:=Chk.at) (fun g=>⟨g 0,g 1,g 2,⟨g 3,g 4⟩,g 5,g 6⟩) (fun g j hj=>by
  match j,hj with
  | 0,_=>rfl
  | 1,_=>rfl
  | 2,_=>rfl
  | 3,_=>rfl
  | 4,_=>rfl
  | 5,_=>rfl
  | 6,_=>rfl) h6
 obtain⟨l9,e9⟩:=fitI (α:=Rpt) (at_:=Rpt.at) (fun g=>⟨g 0,g 1,g 2,g 3,g 4,g 5,g 6,g 7⟩) (fun g j hj=>by
  match j,hj with
  | 0,_=>rfl
  | 1,_=>rfl
  | 2,_=>rfl
  | 3,_=>rfl
  | 4,_=>rfl
  | 5,_=>rfl
  | 6,_=>rfl
  | 7,_=>rfl) h9
 exact⟨⟨⟨⟨⟨n0,n1,l2⟩,l3,l4⟩,⟨l5,l6⟩⟩,n7,n8,l9⟩,vs,e,zgX hv ⟨⟨rfl,rfl⟩,⟨rfl,rfl⟩,e2,e3,e4,e5,e6,⟨rfl,rfl⟩,⟨rfl,rfl⟩,e9,trivial⟩⟩
theorem rep_lI {w:World} {ok:Nat->Prop} {x:D} {v:Value} (hr:Rep1 w ok (.d x) v) (h:All2 Fits [shI 1] [x]):∃ l:List Int,Rep1 w ok (.d (lI l)) v:=by
 cases h with
 | cons h _=>
 obtain⟨l,e⟩:=fitI (α:=Int) (at_:=fun a _=>I a) (fun g=>g 0) (fun g j hj=>by
  match j,hj with
  | 0,_=>rfl) h
 exact⟨l,Rep.eqv hr e⟩
end Go.Pg
