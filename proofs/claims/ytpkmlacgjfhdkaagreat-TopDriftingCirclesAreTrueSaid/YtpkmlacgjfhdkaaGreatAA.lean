/- Lemmas, joined by program. -/
import Derived.Test.YtpkmlacgjfhdkaaGreatA9
import Derived.Shelf.Sort.Plain
import Derived.Shelf.Slices.In.SortNone
import Derived.Shelf.Bits.Mul64
import Derived.Shelf.SlicesG.Delete
import Derived.Shelf.SlicesQ.Reverse
import Derived.KernelRfl
import Derived.Shelf.SlLaysE0
import Derived.Test.YtpkmlacgjfhdkaaGreatChecked
set_option maxHeartbeats 4000000
set_option linter.all false
set_option maxRecDepth 100000
namespace Go.Pg
open Go.Proofs Go.RowKit
theorem zne (P:Nat->Bool) (n:Nat) (a:Int) (ha:a=n) (hn:n<2432):Spec PP 129 [.agg (bD P),.d (capB [I a])] [B (!P n)]:=by
 subst ha
 refine sA Tryz.func129 ?_
 refine cP (znc P n hn) rfl rfl ?_
 exact r1B rfl rfl
theorem zqF (l:List (Nat->Bool)) (g:FuncId) (c0:D) (p:(Nat->Bool)->Bool) (hn:l.length<=1000000) (hp:∀ i,i<l.length->Spec PP g [.agg (bD (l.getD i default)),.d c0] [B (p (l.getD i default))]):Spec PP 128 [.d (lB l),.d (cloB g [c0])] [N (idxL p l)]:=by
 refine sA Tryz.func128 ?_
 refine lOf (σ:=Nat) (fun i=>([(0,.d (lB l)),(1,.d (cloB g [c0])),(6,.d (lB l)),(7,.d (I l.length)),(8,.d (I i))],[])) (fun i=>i<=l.length /\ ∀ j,j<i->p (l.getD j default)=false) (fun i=>l.length - i) 0
  ⟨rfl,trivial,wq rfl⟩ z0L fun i hi=>?_
 obtain⟨hi,ha⟩:=hi
 apply bY <;> intro h1
 ·have h1:i<l.length:=by have:=dT h1; omega
  refine⟨⟨rfl,by omega,by omega⟩,?_⟩
  refine cP (hp i h1) rfl rfl ?_
  apply bY <;> intro h2
  ·refine r1I rfl ?_
   exact (zaI default h1 h2 ha).symm
  refine⟨i6,?_⟩
  refine⟨i+1,⟨rfl,trivial,wq rfl⟩,⟨h1,fun j hj=>?_⟩,(msr (by omega))⟩
  by_cases e:j=i
  ·subst e; exact h2
  exact ha j (by omega)
 have h1:i=l.length:=by have:=dF h1; omega
 subst h1
 refine r1I rfl ?_
 exact (zaN default ha).symm
def fstI (L:List (Nat->Bool)) (n:Nat):Int:=idxL (fun P:Nat->Bool=>!P n) L
theorem zk8 (L:List (Nat->Bool)) (n:Nat) (a:Int) (ha:a=n) (hn:n<2432) (hL:L.length<=1000000):Spec PP 89 [.d (lB L),N a] [N (fstI L n)]:=by
 refine sA Tryz.func89 ?_
 refine CallSt.fz [3] (zqF L 129 (capB [I a]) (fun P=>!P n) hL (fun i hi=>zne _ n a ha hn)) rfl rfl ?_
 exact r1I rfl rfl
abbrev rowS (l:List Rsn):Nat->Nat->D:=fun i=>(l.getD i default).at
theorem pushS {vs:List Rsn} {p:Rsn} {g:Nat->Nat->D} (hg:∀ j,j<3->D.eqv (g 0 j) (p.at j)):D.eqv (.slc 3 (vs.length+1) (appRow vs.length (rowS vs) g)) (.slc 3 (vs ++ [p]).length (rowS (vs ++ [p]))):=by
 refine⟨by simp,.inr ⟨rfl,fun i hi j hj=>?_⟩⟩
 show D.eqv (appRow vs.length (rowS vs) g i j) (((vs ++ [p]).getD i default).at j)
 unfold appRow
 by_cases h:i<vs.length
 ·rw[kG h,hU,jJ h,<- hU]
  exact dE _
 have e:i=vs.length:=by omega
 subst e
 rw[kF h,kE,hU,jK (jE _),kE]
 exact hg j hj
theorem at3 {f:Nat->D} {p:Rsn} (h0:f 0=I p.At.X) (h1:f 1=I p.At.Y) (h2:f 2=I p.R):∀ j,j<3->D.eqv (f j) (p.at j)
 | 0,_=>by rw[h0]; exact⟨rfl,rfl⟩
 | 1,_=>by rw[h1]; exact⟨rfl,rfl⟩
 | 2,_=>by rw[h2]; exact⟨rfl,rfl⟩
def rsnA (s:Svc) (l:List Rpt) (L:List (Nat->Bool)) (n:Nat):Rsn:=⟨plc s.c.M n,(l.getD (fstI L n).toNat default).ID⟩
def rsnK (s:Svc) (l:List Rpt) (L:List (Nat->Bool)) (k:Nat):List Rsn:=((List.range k).filter fun n=>decide (0<=fstI L n)).map (rsnA s l L)
theorem zic {s:Svc} {l:List Rpt} {L:List (Nat->Bool)} {k:Nat} (h:0<=fstI L k):rsnK s l L (k+1)=rsnK s l L k ++ [rsnA s l L k]:=by
 unfold rsnK
 rw[jad,kX,jT,wA (p:=fun n=>decide (0<=fstI L n)) (jG h)]; rfl
theorem zkm {s:Svc} {l:List Rpt} {L:List (Nat->Bool)} {k:Nat} (h:¬ 0<=fstI L k):rsnK s l L (k+1)=rsnK s l L k:=by
 unfold rsnK
 rw[jad,kX,jT,wB (p:=fun n=>decide (0<=fstI L n)) (by rw[jH h]; decide)]; simp
theorem zid (s:Svc) (l:List Rpt) (L:List (Nat->Bool)) (k:Nat):(rsnK s l L k).length<=k:=by
 unfold rsnK
 have:=jam (fun n=>decide (0<=fstI L n)) (List.range k)
 simpa using this
theorem zlo {L:List (Nat->Bool)} {n:Nat} (h:0<=fstI L n):(fstI L n).toNat<L.length:=by
 rcases idxL_cases (fun P:Nat->Bool=>!P n) L default with⟨h1,_⟩ | ⟨i,h1,h2,_⟩
 ·exact absurd h (by unfold fstI; rw[h1]; decide)
 unfold fstI; rw[h2]; exact h1
def rsnR (s:Svc) (b:Brn) (l:List Rpt):List Rsn × Int:=if givE s b l≠0 then ([],givE s b l) else (rsnK s l (l.map (alwP s b)) s.n,0)
def obRsn (s:Svc) (l:List Rpt) (L:List (Nat->Bool)) (k:Nat):List (Nat × Ob):=[(3,.box (s.ds.map AV.d)),(5,.box [.d (lR l)]),(8,.box [.d (lB L)]),(10,.box [.own 44]),(44,.row 180 3 (rsnK s l L k).length (rowS (rsnK s l L k)))]
theorem zla (s:Svc) (b:Brn) (l:List Rpt):Spec PP 38 [s.v,b.v,.d (lR l)] [.d (lRs (rsnR s b l).1),.d (.int .i64 (rsnR s b l).2)]:=by
 refine sA Tryz.func38 ?_
 refine cR (zpu s b l) rfl rfl ?_
 by_cases h0:givE s b l=0
 ·have e:allR s b l=(l.map (alwP s b),0):=by unfold allR; rw[kF (fun hh=>hh h0)]
  have e1:rsnR s b l=(rsnK s l (l.map (alwP s b)) s.n,0):=by unfold rsnR; rw[kF (fun hh=>hh h0)]
  have ok:=zco h0
  have hn:=ok.n
  have hL:(l.map (alwP s b)).length=l.length:=qA _
  have hl:=zbB ok.s.c.m
  rw[e,e1]
  generalize l.map (alwP s b)=L at hL
  refine sF ?_
  refine cR (zdX s.c.M) rfl rfl ?_
  refine CodeOb.rangeAt (zcJ s.c.M ok.s.c.m) rfl (fun _=>rfl) (by decide) [(3,.box 3 0),(5,.box 5 0),(8,.box 8 0),(10,.box 10 0)] [(10,0)] (fun pre=>obRsn s l L pre.length) rfl (fun _=>rfl) ?_ (Iv:=fun _=>True) trivial (fun v pre x hx _=>?_) (fun _=>?_)
  ·exact⟨rfl,⟨obX rfl,obX rfl,obX rfl,obN rfl rfl rfl,obZ rfl rfl,trivial⟩,wq rfl⟩
  ·obtain⟨rfl,hk⟩:=zgc hx
   have hnn:=zbP ok.s.c.m (k:=pre.length)
   have hlen:=zid s l L pre.length
   refine cP (zk8 L pre.length _ hnn (by omega) (by omega)) rfl rfl ?_
   apply bY <;> intro h1
   ·have h1:0<=fstI L pre.length:=dT h1
    have h2:=zlo h1
    refine oN 11 ?_
    refine⟨⟨rfl,h1,by omega⟩,?_⟩
    refine⟨⟨.inr rfl,by unfold maxLen; omega,by show ((rsnK s l L pre.length).length+1) * 24<=140737488355328; omega⟩,?_⟩
    refine⟨trivial,rfl,⟨obX rfl,obX rfl,obX rfl,obO rfl,obR rfl ?_,trivial⟩,wq rfl⟩
    rw[jR]
    show D.eqv _ (.slc 3 (rsnK s l L (pre.length+1)).length (rowS (rsnK s l L (pre.length+1))))
    rw[zic h1]
    exact pushS (at3 rfl rfl rfl)
   have h1:¬ 0<=fstI L pre.length:=dF h1
   refine⟨trivial,rfl,⟨obX rfl,obX rfl,obX rfl,obO rfl,obR rfl ?_,trivial⟩,wq rfl⟩
   rw[jR]
   show D.eqv _ (.slc 3 (rsnK s l L (pre.length+1)).length (rowS (rsnK s l L (pre.length+1))))
   rw[zkm h1]; exact dE _
  rw[zcq]
  exact⟨⟨_,_,_,_,rfl,dE _⟩,rtI rfl rfl,trivial⟩
 have e:allR s b l=([],givE s b l):=by unfold allR; rw[kG h0]
 have e1:rsnR s b l=([],givE s b l):=by unfold rsnR; rw[kG h0]
 rw[e,e1]
 refine sYe (by simpa using h0) ?_
 exact⟨⟨_,_,_,_,rfl,rfl,.inl rfl⟩,rtI rfl rfl,trivial⟩
end Go.Pg
namespace Go.Pg
open Go.Proofs Go.RowKit Go.Sort Go.Shelf Go.Lib
theorem zg5 {P:Program} {ρ:Ren} (L:Lays.n264 P ρ) (hent:Ent P (ρ.f 264)) (x y:Nat) (hx:x<18446744073709551616) (hy:y<18446744073709551616) :
  SpecD P (ρ.f 264) [.d (.int .u64 x),.d (.int .u64 y)] [.d (.int .u64 ((x * y / 18446744073709551616:Nat):Int)),.d (.int .u64 ((x * y % 18446744073709551616:Nat):Int))]:=by
 refine⟨hent,fun w ok vs hok h=>?_⟩
 cases h with
 | cons h1 h2=>
 cases h2 with
 | cons h2 h3=>
 cases h3
 rename_i u v
 have hu:u = .int .u64 x:=h1
 have hv:v = .int .u64 y:=h2
 subst hu; subst hv
 refine (Any.bits_Mul64 L x y hx hy w).mono ?_
 rintro e w' ⟨rfl,rfl⟩
 exact⟨_,rfl,⟨Below.refl _ _,fun _=>jE _⟩,[_,_],rfl,.cons rfl (.cons rfl .nil)⟩
section
variable {α:Type} [Inhabited α] {k:Nat} (A:Ints α k)
theorem zli (w:World):grow w #[]=w:=by simp[grow]
theorem zo4 (w:World) (g n:Nat) (l:List α):putRowK A.enc k (Sort.ahead w n) g 0 l.toArray=sortWorldK A.enc k w g 0 n l.toArray #[]:=by
 unfold sortWorldK; rw[zli]
theorem zfl {P:Program} {ρ:Ren} (L:SlLaysE0.n35 P ρ) (hent:Ent P (ρ.f 35)) (aE:∀ w,(isAgg (ρ.t 23)).run P w = .ok true w) (zE:∀ w,(Go.sizeOf (ρ.t 23)).run P w = .ok k w) (e:TypeId) (l:List α) (hn:l.length<=1000000) :
  SpecR P (ρ.f 35) [] [] e k l.length (A.row l) (A.row l.reverse) []:=by
 refine⟨hent,fun w ok vs us v xs hok h1 h2 hr=>?_⟩
 cases h1
 cases h2
 by_cases h0:l=[]
 ·subst h0
  obtain⟨p,cap,rfl⟩:∃ p cap,v = .slice p 0 cap:=by
   rcases hr.own.2 with⟨h3,_⟩ | ⟨q,cap,cur,h3,_⟩
   ·exact⟨_,_,h3⟩
   exact⟨_,_,h3⟩
  refine (AnyQ.slices_Reverse_empty L p cap w).mono ?_
  rintro en w' ⟨rfl,rfl⟩
  exact⟨_,rfl,⟨rfl,rfl,rfl,jE _,fun _ _ _=>rfl⟩,⟨[],rfl,.nil⟩,xs,hr.own,hr.one,fun m hm=>absurd hm (wC _)⟩
 rcases hr.own.2 with⟨_,h4⟩ | ⟨q,cap,cur,rfl,_,hh,hnc,hcap,hcs,htk⟩
 ·exact absurd (jav.1 h4) h0
 have hH:=A.holds (cap:=cap) hh htk hr.rep
 have hrun:=AnyQ.slices_Reverse L k aE zE A.enc A.enc_len A.enc_one q 0 cap l.toArray w hH (by simp; omega)
 simp only[jaH] at hrun
 refine hrun.mono ?_
 rintro en w' ⟨rfl,m,rfl⟩
 have hlen:l.reverse.length=l.length:=by simp
 obtain⟨p1,xs',p2,p3,p4⟩:=A.put m l.reverse #[] hh (by rw[hlen]; exact hnc) hcap hcs
 rw[hlen] at p2 p4
 rw[show l.toArray.reverse=l.reverse.toArray by simp,zo4 A]
 exact⟨_,rfl,p1,⟨[],rfl,.nil⟩,xs',p2,p3,p4⟩
end
end Go.Pg
namespace Go.Proofs
open Go.Shelf Go.RowKit Go.Lib Go.Sort
def Tryz.revC_ren:Go.Shelf.Ren:=⟨fun | 35=>184 | n=>n,fun | 22=>241 | 23=>109 | 3=>3 | 4=>4 | 0=>0 | n=>n,fun | n=>n⟩
theorem Tryz.revC:Go.Proofs.SlLaysE0.n35 Tryz.prog Tryz.revC_ren:={
  mixed:=by kernel_rfl,
  f35:=⟨Tryz.f184.name,by decide,Tryz.func184.trans (jI some (by kernel_rfl))⟩,
  t0:=Tryz.underlying0,
  a0:=Tryz.isAgg0,
  z0:=Tryz.sizeOf0,
  v0:=Tryz.zeroValue0,
  t3:=Tryz.underlying3,
  a3:=Tryz.isAgg3,
  z3:=Tryz.sizeOf3,
  v3:=Tryz.zeroValue3,
  t4:=Tryz.underlying4,
  a4:=Tryz.isAgg4,
  z4:=Tryz.sizeOf4,
  v4:=Tryz.zeroValue4,
  t22:=Tryz.underlying241,
  a22:=Tryz.isAgg241,
  z22:=Tryz.sizeOf241,
  v22:=Tryz.zeroValue241 }
def Tryz.delB_ren:Go.Shelf.Ren:=⟨fun | 45=>87 | n=>n,fun | 22=>82 | 23=>95 | 3=>3 | 4=>4 | 0=>0 | n=>n,fun | n=>n⟩
theorem Tryz.delB:Go.Proofs.SlLaysE0.n45 Tryz.prog Tryz.delB_ren:={
  mixed:=by kernel_rfl,
  f45:=⟨Tryz.f87.name,by decide,Tryz.func87.trans (jI some (by kernel_rfl))⟩,
  t0:=Tryz.underlying0,
  a0:=Tryz.isAgg0,
  z0:=Tryz.sizeOf0,
  v0:=Tryz.zeroValue0,
  t3:=Tryz.underlying3,
  a3:=Tryz.isAgg3,
  z3:=Tryz.sizeOf3,
  v3:=Tryz.zeroValue3,
  t4:=Tryz.underlying4,
  a4:=Tryz.isAgg4,
  z4:=Tryz.sizeOf4,
  v4:=Tryz.zeroValue4,
  t22:=Tryz.underlying82,
  a22:=Tryz.isAgg82,
  z22:=Tryz.sizeOf82,
  v22:=Tryz.zeroValue82 }
def Tryz.delR_ren:Go.Shelf.Ren:=⟨fun | 45=>86 | n=>n,fun | 22=>40 | 23=>53 | 3=>3 | 4=>4 | 0=>0 | n=>n,fun | n=>n⟩
theorem Tryz.delR:Go.Proofs.SlLaysE0.n45 Tryz.prog Tryz.delR_ren:={
  mixed:=by kernel_rfl,
  f45:=⟨Tryz.f86.name,by decide,Tryz.func86.trans (jI some (by kernel_rfl))⟩,
  t0:=Tryz.underlying0,
  a0:=Tryz.isAgg0,
  z0:=Tryz.sizeOf0,
  v0:=Tryz.zeroValue0,
  t3:=Tryz.underlying3,
  a3:=Tryz.isAgg3,
  z3:=Tryz.sizeOf3,
  v3:=Tryz.zeroValue3,
  t4:=Tryz.underlying4,
  a4:=Tryz.isAgg4,
  z4:=Tryz.sizeOf4,
  v4:=Tryz.zeroValue4,
  t22:=Tryz.underlying40,
  a22:=Tryz.isAgg40,
  z22:=Tryz.sizeOf40,
  v22:=Tryz.zeroValue40 }
def Tryz.mul64_ren:Go.Shelf.Ren:=⟨fun | 264=>143 | n=>n,fun | 53=>93 | 46=>280 | n=>n,fun | n=>n⟩
theorem Tryz.mul64:Go.Proofs.Lays.n264 Tryz.prog Tryz.mul64_ren:={
  mixed:=by kernel_rfl,
  f264:=Tryz.func143.trans (jI some (by kernel_rfl)),
  t46:=Tryz.underlying280,
  a46:=Tryz.isAgg280,
  z46:=Tryz.sizeOf280,
  v46:=Tryz.zeroValue280,
  t53:=Tryz.underlying93,
  a53:=Tryz.isAgg93,
  z53:=Tryz.sizeOf93,
  v53:=Tryz.zeroValue93 }
end Go.Proofs
namespace Go.Pg
open Go.Proofs Go.RowKit Go.Sort Go.Shelf
structure IdsOk (l:List Rpt):Prop where
  b:∀ i,i<l.length->1<=(l.getD i default).ID/\(l.getD i default).ID<=1099511627776
  d:∀ i j,i<l.length->j<l.length->(l.getD i default).ID=(l.getD j default).ID->i=j
theorem zrf {s:Svc} {b:Brn} {l:List Rpt} (h:GivOk s b l):IdsOk l:=by
 have bd:∀ i,i<l.length->1<=(l.getD i default).ID/\(l.getD i default).ID<=1099511627776:=fun i hi=>by
  have h1:=(h.r i hi).1
  unfold frmB at h1
  simp only[jP,jY] at h1
  have h2:=h1.1
  unfold frmC at h2
  simp only[kU,kY] at h2
  exact zaa.1 h2.1.1.1
 have dd:∀ i j,i<j->j<l.length->(l.getD i default).ID≠(l.getD j default).ID:=fun i j hij hj e=>by
  have h1:=h.d j hj
  rw[<- e] at h1
  have h2:(l.getD i default).ID∈(l.take j).map Rpt.ID:=by
   refine kI.2 ⟨l.getD i default,?_,rfl⟩
   have e2:(l.take j).getD i default=l.getD i default:=by
    rw[hU,jS,kG hij,<- hU]
   rw[<- e2]
   exact gd1 (by rw[jQ]; omega) default
  rw[kD.2 h2] at h1
  cases h1
 refine⟨bd,fun i j hi hj e=>?_⟩
 rcases jai i j with h1 | h1 | h1
 ·exact absurd e (dd i j h1 hj)
 ·exact h1
 exact absurd e.symm (dd j i h1 hi)
def valP (fx fy:Int) (p:Place):Int:=fx * p.X+fy * p.Y
theorem zht (fx fy:Int) (p:Place) (hx:-1000<=fx/\fx<=1000) (hy:-1000<=fy/\fy<=1000) (hp:on p=true):Spec PP 100 [p.v,.d (capB [I fx,I fy])] [N (valP fx fy p)]:=by
 obtain⟨p1,p2⟩:=za9.1 hp
 have m1:=mulB (a:=fx) (b:=p.X) (x:=1000) (y:=48) (by omega) (by omega)
 have m2:=mulB (a:=fy) (b:=p.Y) (x:=1000) (y:=48) (by omega) (by omega)
 refine sA Tryz.func100 ?_
 refine⟨i6,⟨i6,⟨i6,?_⟩⟩⟩
 exact r1I rfl rfl
def bstP (fx fy:Int) (l:List Place) (p:Place):Place:=l.foldl (fun q x=>if valP fx fy q<valP fx fy x then x else q) p
def mstR (s:Svc) (b:Brn) (l:List Rpt) (fx fy:Int):Int × Place × Int:=
 if (plcR s b l).2≠0 then (0,⟨0,0⟩,(plcR s b l).2) else if (within fx (-1000) 1000 && within fy (-1000) 1000)=false then (0,⟨0,0⟩,1)
 else if (plcR s b l).1.length=0 then (0,⟨0,0⟩,9)
 else (valP fx fy (bstP fx fy (plcR s b l).1 ((plcR s b l).1.getD 0 default)),bstP fx fy (plcR s b l).1 ((plcR s b l).1.getD 0 default),0)
theorem zn9 {m:Mp} {P:Nat->Bool} (hv:validM m=true):∀ p∈plsL m P,onM m p=true:=fun p hp=>by
 unfold plsL plsK at hp
 obtain⟨n,hn,rfl⟩:=kI.1 hp
 exact zqV hv (kK.1 (qC.1 hn).1)
theorem zkA {s:Svc} {b:Brn} {l:List Rpt}:∀ p∈(plcR s b l).1,on p=true:=fun p hp=>by
 unfold plcR at hp
 split at hp
 ·cases hp
 rename_i h
 have ok:=zco (jL h)
 exact ziz ok.s.c.m (zn9 ok.s.c.m p hp)
theorem zis (s:Svc) (b:Brn) (l:List Rpt):(plcR s b l).1.length<=2401:=by
 unfold plcR
 split
 ·simp
 rename_i h
 have ok:=zco (jL h)
 exact jM (zfx _ _ _) (zbB ok.s.c.m)
theorem zrc (s:Svc) (b:Brn) (l:List Rpt) (fx fy:Int):Spec PP 44 [s.v,b.v,.d (lR l),.agg [I fx,I fy]] [N (mstR s b l fx fy).1,(mstR s b l fx fy).2.1.v,.d (.int .i64 (mstR s b l fx fy).2.2)]:=by
 refine sA Tryz.func44 ?_
 refine cR (ziI s b l) rfl rfl ?_
 apply bY <;> intro h0
 ·have e:mstR s b l fx fy=(0,⟨0,0⟩,(plcR s b l).2):=by unfold mstR; rw[kG (by simpa using h0)]
  rw[e]
  exact⟨rtI rfl rfl,rtC (a:=9) rfl rfl rfl rfl rfl rfl (zab _),rtI rfl rfl,trivial⟩
 have h0:(plcR s b l).2=0:=by simpa using h0
 refine cP (zbc fx (-1000) 1000) rfl rfl ?_
 have bad:(within fx (-1000) 1000 && within fy (-1000) 1000)=false->mstR s b l fx fy=(0,⟨0,0⟩,1):=fun h=>by unfold mstR; rw[kF (fun hh=>hh h0),kG h]
 apply bY <;> intro h1
 ·have h1:within fx (-1000) 1000=false:=by simpa using h1
  refine sT ?_
  rw[bad (by rw[h1]; rfl)]
  exact⟨rtI rfl rfl,rtC (a:=9) rfl rfl rfl rfl rfl rfl (zab _),rtI rfl rfl,trivial⟩
 have h1:within fx (-1000) 1000=true:=by simpa using h1
 refine cP (zbc fy (-1000) 1000) rfl rfl ?_
 refine sF ?_
 apply bY <;> intro h2
 ·have h2:within fy (-1000) 1000=false:=by simpa using h2
  rw[bad (by rw[h2,jaW])]
  exact⟨rtI rfl rfl,rtC (a:=9) rfl rfl rfl rfl rfl rfl (zab _),rtI rfl rfl,trivial⟩
 have h2:within fy (-1000) 1000=true:=by simpa using h2
 have bx:=zaa.1 h1
 have by':=zaa.1 h2
 have hon:=zkA (s:=s) (b:=b) (l:=l)
 have hlen:=zis s b l
 apply bY <;> intro h3
 ·have h3:(plcR s b l).1.length=0:=by
   have:((plcR s b l).1.length:Int)=0:=by simpa using h3
   omega
  have e:mstR s b l fx fy=(0,⟨0,0⟩,9):=by unfold mstR; rw[kF (fun hh=>hh h0),kF (by rw[h1,h2]; decide),kG h3]
  rw[e]
  exact⟨rtI rfl rfl,rtC (a:=9) rfl rfl rfl rfl rfl rfl (zab _),rtI rfl rfl,trivial⟩
 have h3:(plcR s b l).1.length≠0:=fun h=>by rw[h] at h3; simp at h3
 have e:mstR s b l fx fy=(valP fx fy (bstP fx fy (plcR s b l).1 ((plcR s b l).1.getD 0 default)),bstP fx fy (plcR s b l).1 ((plcR s b l).1.getD 0 default),0):=by unfold mstR; rw[kF (fun hh=>hh h0),kF (by rw[h1,h2]; decide),kF h3]
 rw[e]
 generalize (plcR s b l).1=L at *
 refine⟨⟨rfl,by omega,by omega⟩,?_⟩
 refine lOf (σ:=Nat × Place) (fun p=>([(9,.box 9 0),(13,.box 13 0),(14,.d (cloB 100 [capB [I fx,I fy]])),(50,.d (lP L)),(51,.d (I L.length)),(52,.d (I p.1))],[(9,.box ([I 0,I 0].map AV.d)),(13,.box [.d (I p.2.X),.d (I p.2.Y)])])) (fun p=>p.1<=L.length/\on p.2=true/\bstP fx fy (L.drop p.1) p.2=bstP fx fy L (L.getD 0 default)) (fun p=>L.length - p.1) (0,L.getD 0 default)
  ⟨rfl,⟨obX rfl,obX rfl,trivial⟩,avQ rfl,avQ rfl,⟨rfl,rfl,fun j hj=>?_⟩,wq rfl⟩ ⟨jF _,hon _ (gd1 (by omega) default),rfl⟩ fun⟨i,q⟩ ⟨hi,hq,hc⟩=>?_
 ·match j,hj with
  | 0,_=>exact⟨_,rfl,rfl,_,_,rfl,rfl,rfl,fun j hj=>dE _⟩
 dsimp only at hi hq hc ⊢
 apply bY <;> intro h4
 ·have h4:i<L.length:=by have:=dT h4; omega
  have ho:=hon _ (gd1 h4 default)
  have ed:bstP fx fy (L.drop i) q=bstP fx fy (L.drop (i+1)) (if valP fx fy q<valP fx fy (L.getD i default) then L.getD i default else q):=by
   rw[qH h4,hU,kH h4]; rfl
  refine⟨⟨rfl,by omega,by omega⟩,?_⟩
  refine oN 7 ?_
  refine oP (zht fx fy (L.getD i default) bx by' ho) rfl rfl ?_
  refine oP (zht fx fy q bx by' hq) rfl rfl ?_
  apply bY <;> intro h5
  ·have h5:valP fx fy q<valP fx fy (L.getD i default):=dT h5
   refine⟨i6,?_⟩
   refine⟨(i+1,L.getD i default),⟨rfl,⟨obX rfl,obX rfl,trivial⟩,wq rfl⟩,⟨h4,ho,?_⟩,(msr (by omega))⟩
   dsimp only
   rw[<- hc,ed,kG h5]
  have h5:¬ valP fx fy q<valP fx fy (L.getD i default):=dF h5
  refine⟨i6,?_⟩
  refine⟨(i+1,q),⟨rfl,⟨obX rfl,obX rfl,trivial⟩,wq rfl⟩,⟨h4,hq,?_⟩,(msr (by omega))⟩
  dsimp only
  rw[<- hc,ed,kF h5]
 have h4:i=L.length:=by have:=dF h4; omega
 have eq:bstP fx fy L (L.getD 0 default)=q:=by rw[<- hc,h4,List.drop_length]; rfl
 rw[eq]
 refine oN 7 ?_
 refine oP (zht fx fy q bx by' hq) rfl rfl ?_
 exact⟨rtI rfl rfl,rtC (a:=9) rfl rfl rfl rfl rfl rfl (zab _),rtI rfl rfl,trivial⟩
abbrev Lk.ds (x:Lk):List D:=[I x.Tower,I x.C,I x.Tick,I x.From,I x.To,I x.Slack]
theorem zny (x:Cir) (a b:Int):drf x a b=drf x b a:=by
 unfold drf
 rw[show max (a - b) (b - a)=max (b - a) (a - b) by omega]
def cl2 (x:Cir) (a b:Thg):Bool:=decide (drf x a.k.Tick b.k.Tick<gap a b)
def Fine (x:Cir) (l:List Thg):Prop:=(∀ t∈l,noneB t=false)/\l.Pairwise fun a b=>cl2 x a b=false
theorem zhn {α:Type} [Inhabited α] {r:α->α->Prop} {l:List α}:l.Pairwise r ↔ ∀ i j,i<j->j<l.length->r (l.getD i default) (l.getD j default):=by
 rw[ja5]
 constructor
 ·intro h i j hij hj
  have:=h i j (by omega) hj hij
  rw[hU,hU,kH (by omega),kH hj]
  exact this
 intro h i j hi hj hij
 have:=h i j hij hj
 rw[hU,hU,kH (by omega),kH hj] at this
 exact this
theorem znH (x:Cir) (l:List Thg):clsL x l=[] ↔ Fine x l:=by
 have e1:clsL x l=[] ↔ ∀ i,i<l.length->clsI x l i=[]:=by
  unfold clsL clsU
  rw[List.flatMap_eq_nil_iff]
  exact⟨fun h i hi=>h i (kK.2 hi),fun h i hi=>h i (kK.1 hi)⟩
 have e2:∀ i,i<l.length->(clsI x l i=[] ↔ noneB (l.getD i default)=false /\ ∀ j,i<j->j<l.length->clB x (l.getD i default) (l.getD j default)=false):=fun i hi=>by
  unfold clsI
  cases hn:noneB (l.getD i default) with
  | true=>simp
  | false=>
  simp only[qM,jag,true_and]
  unfold clsJ
  rw[List.map_eq_nil_iff,List.filter_eq_nil_iff]
  constructor
  ·intro h j hij hj
   have hm:l.getD j default∈(l.drop (i+1)).take (l.length - (i+1)):=by
    rw[List.take_of_length_le (by rw[wE]; omega)]
    have:=gd1 (l:=l.drop (i+1)) (i:=j - (i+1)) (by rw[wE]; omega) default
    rw[znx (by omega),show i+1+(j - (i+1))=j by omega] at this
    exact this
   have:=h _ hm
   simpa using this
  intro h t ht
  have ht:=jap ht
  obtain⟨j,hj,rfl⟩:=zbh default ht
  rw[wE] at hj
  rw[znx (by omega),h (i+1+j) (by omega) (by omega)]
  decide
 rw[e1]
 unfold Fine
 rw[zhn]
 constructor
 ·intro h
  refine⟨fun t ht=>?_,fun i j hij hj=>?_⟩
  ·obtain⟨i,hi,rfl⟩:=zbh default ht
   exact ((e2 i hi).1 (h i hi)).1
  have h1:=((e2 i (by omega)).1 (h i (by omega))).2 j hij hj
  have h2:=((e2 j hj).1 (h j hj)).1
  unfold clB at h1
  rw[h2] at h1
  exact h1
 intro ⟨h1,h2⟩ i hi
 refine (e2 i hi).2 ⟨h1 _ (gd1 hi default),fun j hij hj=>?_⟩
 have:=h2 i j hij hj
 unfold clB
 unfold cl2 at this
 rw[this,jaW]
theorem znY (x:Cir) (t:Int):∀ (l:List Thg) (z:ZS) (y:Int),(l.foldl (zStep x t) z).lo<=y ↔ z.lo<=y /\ ∀ g∈l,g.s.Lo - drf x g.k.Tick t<=y
 | [],z,y=>by simp
 | g :: r,z,y=>by
  rw[qX,znY x t r,List.forall_mem_cons]
  unfold zStep
  dsimp only
  constructor
  ·rintro⟨h1,h2⟩
   split at h1 <;> exact⟨by omega,by omega,h2⟩
  rintro⟨h1,h2,h3⟩
  split <;> exact⟨by omega,h3⟩
theorem zjN (x:Cir) (t:Int):∀ (l:List Thg) (z:ZS) (y:Int),y<=(l.foldl (zStep x t) z).hi ↔ y<=z.hi /\ ∀ g∈l,y<=g.s.Hi+drf x g.k.Tick t
 | [],z,y=>by simp
 | g :: r,z,y=>by
  rw[qX,zjN x t r,List.forall_mem_cons]
  unfold zStep
  dsimp only
  constructor
  ·rintro⟨h1,h2⟩
   split at h1 <;> exact⟨by omega,by omega,h2⟩
  rintro⟨h1,h2,h3⟩
  split <;> exact⟨by omega,h3⟩
theorem zlf {l:List Rpt} {i:Nat} (hi:i<=l.length) (x:Int):((l.take i).map Rpt.ID).contains x=true ↔ ∃ j,j<i/\(l.getD j default).ID=x:=by
 rw[kD,kI]
 constructor
 ·rintro⟨r,hr,rfl⟩
  obtain⟨j,hj,rfl⟩:=zbh default hr
  rw[jQ] at hj
  refine⟨j,by omega,?_⟩
  rw[hU,hU,jS,kG (by omega)]
 rintro⟨j,hj,rfl⟩
 refine⟨l.getD j default,?_,rfl⟩
 have:=gd1 (l:=l.take i) (i:=j) (by rw[jQ]; omega) default
 rw[hU,jS,kG hj,<- hU] at this
 exact this
theorem zbE {s:Svc} {b:Brn} {l:List Rpt}:givE s b l=0 ↔ svcE s=0/\brnB b=true/\l.length<=24/\(∀ r∈l,rptE s r=0)/\(l.map Rpt.ID).Nodup:=by
 have hnd:(l.map Rpt.ID).Nodup ↔ ∀ i j,i<j->j<l.length->(l.getD i default).ID≠(l.getD j default).ID:=by grind [zhn,Rpt]
 have hc:∀ i,i<l.length->(((l.take i).map Rpt.ID).contains (l.getD i default).ID=false ↔ ∀ j,j<i->(l.getD j default).ID≠(l.getD i default).ID):=fun i hi=>by
  constructor
  ·grind [zlf]
  grind [zlf]
 constructor
 ·intro h
  have h0:svcE s=0:=by grind [givE]
  unfold givE at h
  rw[kF (fun hh=>hh h0)] at h
  cases hb:brnB b with
  | false=>rw[hb,kG rfl] at h; cases h
  | true=>
  rw[hb,kF (by decide)] at h
  by_cases hl:24<l.length
  ·omega
  rw[kF hl] at h
  have hz:=zbl h
  have hr:∀ j,j<l.length->rptE s (l.getD j default)=0/\((l.take j).map Rpt.ID).contains (l.getD j default).ID=false:=fun j hj=>by
   have h1:=hz j hj
   unfold rp1E at h1
   by_cases h2:rptE s (l.getD j default)=0
   ·grind
   omega
  refine⟨h0,rfl,by omega,fun r hrr=>?_,hnd.2 fun i j hij hj=>(hc j hj).1 (hr j hj).2 i hij⟩
  obtain⟨j,hj,rfl⟩:=zbh default hrr
  exact (hr j hj).1
 grind [givE,rp1E,zbH,gd1]
theorem zpB {s:Svc} {b:Brn} {l m:List Rpt} (h:givE s b l=0) (hl:m.length<=24) (hs:∀ r∈m,r∈l) (hn:(m.map Rpt.ID).Nodup):givE s b m=0:=by grind [zbE]
theorem zm5 {L:List (Nat->Bool)} {n:Nat}:metP L n=true ↔ ∀ P∈L,P n=true:=by unfold metP; exact jC
@[irreducible] def rmB (L:List (Nat->Bool)) (i:Nat):List (Nat->Bool):=L.take i++L.drop (i+1)
theorem zoY {L:List (Nat->Bool)} {i j:Nat} (hi:i<L.length):(rmB L i)[j]?=if j<i then L[j]? else L[j+1]?:=by grind [rmB]
theorem zoX {L:List (Nat->Bool)} {i:Nat} (hi:i<L.length):(rmB L i).length=L.length - 1:=by unfold rmB; simp; omega
theorem ziQ {x:Cir} (hx:0<=x.Drift) (a b:Int):0<=drf x a b:=by
 have:=kZ hx (show 0<=max (a - b) (b - a) by omega)
 unfold drf; omega
theorem zpM {x:Cir} (hx:0<=x.Drift) (a b t:Int):drf x a b<=drf x a t+drf x b t:=by
 have h1:=kR (show max (a - b) (b - a)<=max (a - t) (t - a)+max (b - t) (t - b) by omega) hx
 rw[Int.mul_add] at h1
 unfold drf; omega
theorem zpJ {x:Cir} {l:List Thg} (hx:0<=x.Drift) (hf:Fine x l) {a b:Thg} (ha:a∈l) (hb:b∈l) (t:Int):a.s.Lo - drf x a.k.Tick t<=b.s.Hi+drf x b.k.Tick t:=by
 have key:∀ i j,i<j->j<l.length->(l.getD i default).s.Lo - (l.getD j default).s.Hi<=drf x (l.getD i default).k.Tick (l.getD j default).k.Tick/\(l.getD j default).s.Lo - (l.getD i default).s.Hi<=drf x (l.getD i default).k.Tick (l.getD j default).k.Tick:=fun i j hij hj=>by
  have:=jaB (zhn.1 hf.2 i j hij hj)
  unfold gap at this
  omega
 obtain⟨i,hi,rfl⟩:=zbh default ha
 obtain⟨j,hj,rfl⟩:=zbh default hb
 have n1:=ziQ hx (l.getD i default).k.Tick t
 have n2:=ziQ hx (l.getD j default).k.Tick t
 have t1:=zpM hx (l.getD i default).k.Tick (l.getD j default).k.Tick t
 rcases jai i j with h | h | h
 ·have:=key i j h hj; omega
 ·subst h
  have:=jaB (hf.1 _ (gd1 hi default))
  omega
 have:=key j i h hi
 rw[zny] at this
 omega
theorem zqf {x:Cir} {l:List Thg} (hx:0<=x.Drift) (hf:Fine x l) (ho:∀ g∈l,ThgOk g) (t:Int):(zer x l t).lo<=(zer x l t).hi:=by
 unfold zer
 refine (znY x t l _ _).2 ⟨(zjN x t l _ _).2 ⟨by decide,fun g hg=>?_⟩,fun g hg=>(zjN x t l _ _).2 ⟨?_,fun g' hg'=>zpJ hx hf hg hg' t⟩⟩
 ·have:=(ho g hg).hi
  have:=ziQ hx g.k.Tick t
  show (-300:Int)<=_
  omega
 have:=(ho g hg).lo
 have:=ziQ hx g.k.Tick t
 show _<=(300:Int)
 omega
theorem zow {c:Cirs} {id t:Int} (h:(zerR c id t).2=0):(zerR c id t).1.Lo<=(zerR c id t).1.Hi:=by
 unfold zerR at h ⊢
 split at h
 ·rename_i h1; exact absurd h h1
 rename_i h1
 rw[kF h1]
 have h1:(atR c id t).2.2=0:=jL h1
 have h0:=zl7 h1
 obtain⟨k1,k2,k3,k4,k5⟩:=zgy h0
 have ok:=zbJ k1
 have hx:=ok.cs _ (zbn k2).1
 have e1:(atR c id t).1=c.C.getD (cirI c id).toNat default:=k4
 have e2:(atR c id t).2.1=thsL c (c.C.getD (cirI c id).toNat default):=k5
 have h2:agrE (atR c id t).1 (atR c id t).2.1=0:=by
  have h3:(if (knw c id [t]).2.2=0 then agrE (knw c id [t]).1 (knw c id [t]).2.1 else (knw c id [t]).2.2)=0:=h1
  rw[kG h0] at h3; exact h3
 have h3:clsL (atR c id t).1 (atR c id t).2.1=[]:=by
  refine jL fun g=>?_
  unfold agrE at h2; rw[kF g] at h2; cases h2
 rw[e1,e2] at h3 ⊢
 exact zqf hx.d.1 ((znH _ _).1 h3) (zf9 ok k2) t
theorem zdR {w:Wdg} (h1:0<=w.F/\w.F<=3599) (h2:0<=w.T/\w.T<=3599):openW w=(w.T - w.F) % 3600:=by
 unfold openW; rw[kG ⟨zaa.2 h1,zaa.2 h2⟩]
theorem zk1 {u t T m:Int} {a p:Place} (ht:0<=t/\t<=T) (hm:0<=m) (hT:T+m<=900) (h:liesW (wdg (u+t) m) a p=true):liesW (wdg u (T+m)) a p=true:=by
 unfold liesW at h ⊢
 simp only[jP,jY,qB,kA] at h ⊢
 obtain⟨⟨⟨h1,h2⟩,h3⟩,h4⟩:=h
 have bk:=zbM h2.1 h2.2 h3
 have o1:openW (wdg (u+t) m)=m:=by
  rw[zdR (by unfold wdg; dsimp only; omega) (by unfold wdg; dsimp only; omega)]
  unfold wdg; dsimp only; omega
 have o2:openW (wdg u (T+m))=T+m:=by
  rw[zdR (by unfold wdg; dsimp only; omega) (by unfold wdg; dsimp only; omega)]
  unfold wdg; dsimp only; omega
 refine⟨⟨⟨?_,h2⟩,h3⟩,?_⟩
 ·unfold validW; rw[o2]; exact zaa.2 (by omega)
 rw[o1] at h4
 rw[o2]
 generalize (bear a p).1=n at *
 generalize (bear a p).2=d at *
 have e1:(n - (wdg (u+t) m).F * d) % (3600 * d)=(n - (u+t) * d) % (3600 * d):=by
  have:(wdg (u+t) m).F=(u+t) - 3600 * ((u+t) / 3600):=by unfold wdg; dsimp only; omega
  rw[this]
  have e:n - ((u+t) - 3600 * ((u+t) / 3600)) * d=(n - (u+t) * d)+(u+t) / 3600 * (3600 * d):=by grind
  rw[e,Int.add_mul_emod_self_right]
 have e2:(n - (wdg u (T+m)).F * d) % (3600 * d)=(n - u * d) % (3600 * d):=by
  have:(wdg u (T+m)).F=u - 3600 * (u / 3600):=by unfold wdg; dsimp only; omega
  rw[this]
  have e:n - (u - 3600 * (u / 3600)) * d=(n - u * d)+u / 3600 * (3600 * d):=by grind
  rw[e,Int.add_mul_emod_self_right]
 rw[e1] at h4
 rw[e2]
 have hd:0<d:=bk.1.1
 have x0:=Int.emod_nonneg (n - (u+t) * d) (show 3600 * d≠0 by omega)
 generalize hX:(n - (u+t) * d) % (3600 * d)=X at *
 have m1:0<=t * d:=kZ ht.1 (by omega)
 have m2:t * d<=T * d:=jV ht.2 (by omega)
 have m3:(T+m) * d<=900 * d:=jV hT (by omega)
 have m4:(T+m) * d=T * d+m * d:=Int.add_mul _ _ _
 have q:=Int.emod_add_mul_ediv (n - (u+t) * d) (3600 * d)
 rw[hX] at q
 have e3:n - u * d=(X+t * d)+(n - (u+t) * d) / (3600 * d) * (3600 * d):=by
  have:(u+t) * d=u * d+t * d:=Int.add_mul _ _ _
  rw[jau ((n - (u+t) * d) / (3600 * d))]
  omega
 rw[e3,Int.add_mul_emod_self_right,Int.emod_eq_of_lt (by omega) (by omega)]
 omega
theorem zbQ {s:Svc} {r:Rpt} (h:rptE s r=0):frmB r=true /\ ¬ ((towG s.c.T r.Tower).2=false \/ cirI s.k r.C<0)/\(s.k.C.getD (cirI s.k r.C).toNat default).At=(towG s.c.T r.Tower).1.At/\(zerR s.k r.C r.Tick).2=0:=by
 unfold rptE at h
 split at h
 ·cases h
 rename_i h1
 split at h
 ·cases h
 rename_i h2
 split at h
 ·cases h
 rename_i h3
 split at h
 ·rename_i h4; exact absurd h h4
 rename_i h4
 exact⟨by simpa using h1,h2,jL h3,jL h4⟩
theorem zqK {s:Svc} {r:Rpt} (h:rptE s r=0) (hk:r.Kind=1):(wdgR s.k (rdgO r)).2=0:=by
 obtain⟨f1,f2,f3,f4⟩:=zbQ h
 unfold rptE at h
 rw[kF (by rw[f1]; decide),kF f2,kF (fun hh=>hh f3),kF (fun hh=>hh f4),kG hk] at h
 exact h
structure Lim where
  lo:Int
  hi:Int
  no:Bool
  deriving DecidableEq,Inhabited
abbrev Lim.ds (x:Lim):List D:=[I x.lo,I x.hi,.bool x.no]
structure Tg where
  N:Int
  T:Int
  lo:Int
  hi:Int
  no:Bool
  deriving DecidableEq,Inhabited
abbrev Tg.ds (x:Tg):List D:=[I x.N,I x.T,I x.lo,I x.hi,.bool x.no]
abbrev Tg.v (x:Tg):V1:=.agg x.ds
def Tg.at (x:Tg):Nat->D
 | 0=>I x.N
 | 1=>I x.T
 | 2=>I x.lo
 | 3=>I x.hi
 | _=>.bool x.no
structure Prf where
  ax:Int
  k:Int
  an:Int
  ad:Int
  gn:Int
  gd:Int
  deriving DecidableEq,Inhabited
abbrev Prf.ds (x:Prf):List D:=[I x.ax,I x.k,I x.an,I x.ad,I x.gn,I x.gd]
abbrev Prf.v (x:Prf):V1:=.agg x.ds
def Prf.at (x:Prf):Nat->D
 | 0=>I x.ax
 | 1=>I x.k
 | 2=>I x.an
 | 3=>I x.ad
 | 4=>I x.gn
 | _=>I x.gd
abbrev Hz.ds (x:Hz):List D:=[I x.From,I x.To,I x.Far]
end Go.Pg
