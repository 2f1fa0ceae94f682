/- Lemmas, joined by program. -/
import Derived.Test.YtcgbaefojdoicaaGreatU9
import Derived.Shelf.Sort.Plain
import Derived.Shelf.Slices.In.SortNone
import Derived.Shelf.Bits.Mul64
import Derived.Shelf.SlicesG.Delete
import Derived.Shelf.SlicesQ.Reverse
import Derived.KernelRfl
import Derived.Test.YtcgbaefojdoicaaGreatChecked
set_option maxHeartbeats 4000000
set_option linter.all false
set_option maxRecDepth 100000
namespace Go.Pg
open Go.Proofs Go.RowKit Go.Sort Go.Shelf Go.Lib
section
variable {α:Type} [Inhabited α] (f:α->Int)
def oneI:Ints α 1 where
  lst x:=[f x]
  len _:=rfl
  at_ x:=fun _=>I (f x)
  hat x j hj:=by
    obtain rfl:j=0:=by omega
    rfl
def vI (x:α):Value:=.int .i64 (f x)
theorem zqF (l:Array α):flatK (oneI f).enc 1 l=l.map (vI f):=by
 apply Array.ext_getElem?
 intro i
 have hs:=(oneI f).flat_size l
 by_cases hi:i<l.size
 ·have h1:=(oneI f).flat_get l (t:=i) (by omega)
  have h2:i<(flatK (oneI f).enc 1 l).size:=by omega
  rw[jaI _ i h2] at h1
  rw[qT h2,h1]
  have e1:i / 1=i:=Nat.div_one i
  have e2:i % 1=0:=Nat.mod_one i
  rw[e1,e2,Array.getElem?_map,qT hi,jaI l i hi]
  rfl
 rw[jab (by omega),jab (by rw[Array.size_map]; omega)]
theorem zoo (w:World) (b:Nat) (l:Array α):putRow (vI f) w b 0 l=putRowK (oneI f).enc 1 w b 0 l:=by
 unfold putRowK
 rw[zqF]
 unfold putRow
 congr 1
 funext c
 unfold putCells
 congr 1
 funext k x
 rw[Array.size_map]
 by_cases h:0<=k/\k<0+l.size
 ·have hk:k - 0<l.size:=by omega
  rw[kH h,kH h,jaI _ (k - 0) hk,jaI (l.map (vI f)) (k - 0) (by rw[Array.size_map]; exact hk),Array.getElem_map]; rfl
 rw[kG h,kG h]
theorem zpH (w:World) (b m:Nat) (l:Array α) (os:Array Obj):sortWorld (vI f) w b 0 m l os=sortWorldK (oneI f).enc 1 w b 0 m l os:=by
 unfold sortWorld sortWorldK; rw[zoo]
theorem zqw {w:World} {b:Nat} {l:Array α} (h:HoldsK (oneI f).enc 1 w b 0 l):Go.Sort.Holds (vI f) w b 0 l:=fun j hj=>by
 have h':Go.Sort.Holds id w b 0 (flatK (oneI f).enc 1 l):=h
 rw[zqF] at h'
 have:=h' j (by simpa using hj)
 have e:(l.map (vI f))[j]! = vI f l[j]!:=by
  rw[jaI _ j (by simpa using hj),jaI l j hj,Array.getElem_map]
 rw[e] at this
 exact this
end
theorem zgQ {P:Program} {ρ:Ren} (S:Lays.n189 P ρ) (hent:Ent P (ρ.f 189)) (e:TypeId) (l:List Int) (hn:l.length<=1000000) :
  SpecR P (ρ.f 189) [] [] e 1 l.length ((oneI id).row l) ((oneI id).row (l.mergeSort fun x y=>decide (x<=y))) []:=by
 refine⟨hent,fun w ok vs us v xs hok h1 h2 hr=>?_⟩
 cases h1
 cases h2
 have hlen:(l.mergeSort fun x y=>decide (x<=y)).length=l.length:=kU l
 by_cases h0:l=[]
 ·subst h0
  obtain⟨p,c,rfl⟩:∃ p c,v = .slice p 0 c:=by
   rcases hr.own.2 with⟨h3,_⟩ | ⟨q,c,cur,h3,_⟩
   ·exact⟨_,_,h3⟩
   exact⟨_,_,h3⟩
  refine (Any.slices_Sort_int_none S p c w).mono ?_
  rintro en w' ⟨rfl,rfl⟩
  exact⟨_,rfl,⟨rfl,rfl,rfl,jE _,fun _ _ _=>rfl⟩,⟨[],rfl,.nil⟩,xs,hr.own,hr.one,fun m hm=>absurd hm (qI _)⟩
 rcases hr.own.2 with⟨_,h4⟩ | ⟨q,c,cur,rfl,_,hh,hnc,hcap,hcs,htk⟩
 ·exact absurd (jaJ.1 h4) h0
 have hH:=(oneI (id:Int->Int)).holds (cap:=c) hh htk hr.rep
 have hq:q<w.heap.size:=(jB.1 hh).1
 have hrun:=Any.slices_Sort_int S q 0 c l w (zqw id hH) hq (by omega)
 refine hrun.mono ?_
 rintro en w' ⟨rfl,n,os,rfl⟩
 have e1:=zpH (id:Int->Int) w q n (l.mergeSort fun x y=>decide (x<=y)).toArray os
 have e2:grow (putRow (Value.int .i64) (Sort.ahead w n) q 0 (l.mergeSort fun x y=>decide (x<=y)).toArray) os=sortWorldK (oneI (id:Int->Int)).enc 1 w q 0 n (l.mergeSort fun x y=>decide (x<=y)).toArray os:=e1
 rw[e2]
 obtain⟨p1,xs',p2,p3,p4⟩:=(oneI (id:Int->Int)).put n (l.mergeSort fun x y=>decide (x<=y)) os hh (by rw[hlen]; exact hnc) hcap hcs
 rw[hlen] at p2 p4
 exact⟨_,rfl,p1,⟨[],rfl,.nil⟩,xs',p2,p3,p4⟩
end Go.Pg
namespace Go.Proofs
open Go.Shelf Go.RowKit Go.Lib Go.Sort
def Tryz.srtI_ren:Go.Shelf.Ren:=⟨fun | 189=>40 | 125=>105 | 257=>104 | 128=>165 | 129=>166 | 294=>156 | 295=>157 | 296=>158 | 297=>159 | 298=>160 | 299=>161 | 216=>162 | 300=>163 | 301=>164 | 328=>216 | 329=>217 | 330=>218 | 331=>219 | 332=>220 | 215=>221 | 343=>264 | n=>n,fun | 28=>22 | 3=>3 | 46=>179 | 0=>0 | 51=>226 | 53=>228 | 4=>4 | 183=>220 | 182=>219 | 131=>151 | 5=>5 | 9=>9 | 218=>271 | 222=>275 | 228=>319 | 229=>320 | n=>n,fun | n=>n⟩
theorem Tryz.srtI:Go.Proofs.Lays.n189 Tryz.prog Tryz.srtI_ren:={
  mixed:=by kernel_rfl,
  f125:=Tryz.func105.trans (jI some (by kernel_rfl)),
  f128:=Tryz.func165.trans (jI some (by kernel_rfl)),
  f129:=Tryz.func166.trans (jI some (by kernel_rfl)),
  f189:=Tryz.func40.trans (jI some (by kernel_rfl)),
  f215:=Tryz.func221.trans (jI some (by kernel_rfl)),
  f216:=Tryz.func162.trans (jI some (by kernel_rfl)),
  f257:=Tryz.func104.trans (jI some (by kernel_rfl)),
  f294:=Tryz.func156.trans (jI some (by kernel_rfl)),
  f295:=Tryz.func157.trans (jI some (by kernel_rfl)),
  f296:=Tryz.func158.trans (jI some (by kernel_rfl)),
  f297:=Tryz.func159.trans (jI some (by kernel_rfl)),
  f298:=Tryz.func160.trans (jI some (by kernel_rfl)),
  f299:=Tryz.func161.trans (jI some (by kernel_rfl)),
  f300:=Tryz.func163.trans (jI some (by kernel_rfl)),
  f301:=Tryz.func164.trans (jI some (by kernel_rfl)),
  f328:=Tryz.func216.trans (jI some (by kernel_rfl)),
  f329:=Tryz.func217.trans (jI some (by kernel_rfl)),
  f330:=Tryz.func218.trans (jI some (by kernel_rfl)),
  f331:=Tryz.func219.trans (jI some (by kernel_rfl)),
  f332:=Tryz.func220.trans (jI some (by kernel_rfl)),
  f343:=Tryz.func264.trans (jI some (by kernel_rfl)),
  t0:=Tryz.underlying0,
  a0:=Tryz.isAgg0,
  z0:=Tryz.sizeOf0,
  v0:=Tryz.zeroValue0,
  t3:=Tryz.underlying3,
  a3:=Tryz.isAgg3,
  z3:=Tryz.sizeOf3,
  v3:=Tryz.zeroValue3,
  t4:=Tryz.underlying4,
  a4:=Tryz.isAgg4,
  z4:=Tryz.sizeOf4,
  v4:=Tryz.zeroValue4,
  t5:=Tryz.underlying5,
  a5:=Tryz.isAgg5,
  z5:=Tryz.sizeOf5,
  v5:=Tryz.zeroValue5,
  t9:=Tryz.underlying9,
  a9:=Tryz.isAgg9,
  z9:=Tryz.sizeOf9,
  v9:=Tryz.zeroValue9,
  t28:=Tryz.underlying22,
  a28:=Tryz.isAgg22,
  z28:=Tryz.sizeOf22,
  v28:=Tryz.zeroValue22,
  t46:=Tryz.underlying179,
  a46:=Tryz.isAgg179,
  z46:=Tryz.sizeOf179,
  v46:=Tryz.zeroValue179,
  t51:=Tryz.underlying226,
  a51:=Tryz.isAgg226,
  z51:=Tryz.sizeOf226,
  v51:=Tryz.zeroValue226,
  t53:=Tryz.underlying228,
  a53:=Tryz.isAgg228,
  z53:=Tryz.sizeOf228,
  v53:=Tryz.zeroValue228,
  t131:=Tryz.underlying151,
  a131:=Tryz.isAgg151,
  z131:=Tryz.sizeOf151,
  v131:=Tryz.zeroValue151,
  t182:=Tryz.underlying219,
  a182:=Tryz.isAgg219,
  z182:=Tryz.sizeOf219,
  v182:=Tryz.zeroValue219,
  t183:=Tryz.underlying220,
  a183:=Tryz.isAgg220,
  z183:=Tryz.sizeOf220,
  v183:=Tryz.zeroValue220,
  t218:=Tryz.underlying271,
  a218:=Tryz.isAgg271,
  z218:=Tryz.sizeOf271,
  v218:=Tryz.zeroValue271,
  t222:=Tryz.underlying275,
  a222:=Tryz.isAgg275,
  z222:=Tryz.sizeOf275,
  v222:=Tryz.zeroValue275,
  t228:=Tryz.underlying319,
  a228:=Tryz.isAgg319,
  z228:=Tryz.sizeOf319,
  v228:=Tryz.zeroValue319,
  t229:=Tryz.underlying320,
  a229:=Tryz.isAgg320,
  z229:=Tryz.sizeOf320,
  v229:=Tryz.zeroValue320 }
end Go.Proofs
namespace Go.Pg
open Go.Proofs Go.RowKit Go.Sort Go.Shelf
abbrev rowI (l:List Int):Nat->Nat->D:=fun i _=>I (l.getD i 0)
theorem zhJ (l:List Int) (hn:l.length<=1000000):SpecR PP 40 [] [] 3 1 l.length (rowI l) (rowI (l.mergeSort fun x y=>decide (x<=y))) []:=
 zgQ Tryz.srtI ⟨_,Tryz.func40,by kernel_rfl,by kernel_rfl⟩ 3 l hn
structure IdsOk (l:List Rpt):Prop where
  b:∀ i,i<l.length->1<=(l.getD i default).ID/\(l.getD i default).ID<=1099511627776
  d:∀ i j,i<l.length->j<l.length->(l.getD i default).ID=(l.getD j default).ID->i=j
theorem zqu {s:Svc} {b:Brn} {l:List Rpt} (h:GivOk s b l):IdsOk l:=by
 have bd:∀ i,i<l.length->1<=(l.getD i default).ID/\(l.getD i default).ID<=1099511627776:=fun i hi=>by
  have h1:=(h.r i hi).1
  unfold frmB at h1
  simp only[jP,jY] at h1
  have h2:=h1.1
  unfold frmC at h2
  simp only[qQ,qS] at h2
  exact zab.1 h2.1.1.1
 have dd:∀ i j,i<j->j<l.length->(l.getD i default).ID≠(l.getD j default).ID:=fun i j hij hj e=>by
  have h1:=h.d j hj
  rw[<- e] at h1
  have h2:(l.getD i default).ID∈(l.take j).map Rpt.ID:=by
   refine kK.2 ⟨l.getD i default,?_,rfl⟩
   have e2:(l.take j).getD i default=l.getD i default:=by
    rw[hX,jS,kH hij,<- hX]
   rw[<- e2]
   exact gd1 (by rw[jQ]; omega) default
  rw[kD.2 h2] at h1
  cases h1
 refine⟨bd,fun i j hi hj e=>?_⟩
 rcases Nat.lt_trichotomy i j with h1 | h1 | h1
 ·exact absurd e (dd i j h1 hj)
 ·exact h1
 exact absurd e.symm (dd j i h1 hi)
abbrev Lk.ds (x:Lk):List D:=[I x.Tower,I x.C,I x.Tick,I x.From,I x.To,I x.Slack]
theorem zfg {L:List (Nat->Bool)} {n:Nat}:metP L n=true ↔ ∀ P∈L,P n=true:=by unfold metP; exact jC
def inB (s:Svc) (ps:List Place) (a n:Nat):Bool:=decide (a<ps.length) && decide (ps.getD a default=plc s.c.M n)
def outB (s:Svc) (rs:List Rsn) (w n:Nat):Bool:=decide (w<rs.length) && decide ((rs.getD w default).At=plc s.c.M n)
def rptI (l:List Rpt) (id:Int):Int:=idxL (fun r=>r.ID==id) l
def cks (s:Svc) (l:List Rpt) (L:List (Nat->Bool)) (ps:List Place) (rs:List Rsn) (n:Nat) (q:Nat × Nat):Option (Nat × Nat):=
 if inB s ps q.1 n=outB s rs q.2 n then none
 else if inB s ps q.1 n=true then (if 0<=fstI L n then none else some (q.1+1,q.2))
 else if rptI l (rs.getD q.2 default).R<0 \/ L.getD (rptI l (rs.getD q.2 default).R).toNat default n=true then none else some (q.1,q.2+1)
def ckR (s:Svc) (l:List Rpt) (L:List (Nat->Bool)) (ps:List Place) (rs:List Rsn):Nat->Option (Nat × Nat)
 | 0=>some (0,0)
 | n+1=>(ckR s l L ps rs n).bind (cks s l L ps rs n)
def ckE (s:Svc) (l:List Rpt) (L:List (Nat->Bool)) (ps:List Place) (rs:List Rsn):Bool:=
 match ckR s l L ps rs s.n with
 | none=>false
 | some q=>decide (ps.length<=q.1) && decide (rs.length<=q.2)
theorem zkQ {s:Svc} {l:List Rpt} {L:List (Nat->Bool)} {ps:List Place} {rs:List Rsn}:∀ {n:Nat} {q:Nat × Nat},ckR s l L ps rs n=some q->q.1<=n/\q.2<=n/\q.1<=ps.length/\q.2<=rs.length
 | 0,q,h=>by
  have:q=(0,0):=(qM h).symm
  subst this; exact⟨jE _,jE _,jF _,jF _⟩
 | n+1,q,h=>by
  have h:(ckR s l L ps rs n).bind (cks s l L ps rs n)=some q:=h
  cases hc:ckR s l L ps rs n with
  | none=>rw[hc] at h; cases h
  | some p=>
  rw[hc] at h
  have h:cks s l L ps rs n p=some q:=h
  obtain⟨h1,h2,h3,h4⟩:=zkQ hc
  unfold cks at h
  split at h
  ·cases h
  rename_i g1
  split at h
  ·rename_i g2
   split at h
   ·cases h
   have e:=(qM h).symm
   subst e
   have:p.1<ps.length:=by
    unfold inB at g2
    rw[jP,kI] at g2
    exact g2.1
   exact⟨by dsimp only; omega,by dsimp only; omega,this,h4⟩
  rename_i g2
  split at h
  ·cases h
  have e:=(qM h).symm
  subst e
  have g2:inB s ps p.1 n=false:=by simpa using g2
  have:outB s rs p.2 n=true:=by
   cases ho:outB s rs p.2 n with
   | true=>rfl
   | false=>rw[g2,ho] at g1; exact absurd rfl g1
  unfold outB at this
  rw[jP,kI] at this
  exact⟨by dsimp only; omega,by dsimp only; omega,h3,this.1⟩
theorem zgx {s:Svc} {b:Brn} {l:List Rpt} {ps:List Place} {rs:List Rsn}:∀ {n:Nat} {q:Nat × Nat},n<=s.n->ckR s l (l.map (alwP s b)) ps rs n=some q->ps.take q.1=plsK s.c.M (metP (l.map (alwP s b))) n
 | 0,q,_,h=>by
  have:q=(0,0):=(qM h).symm
  subst this; rfl
 | n+1,q,hn,h=>by
  have h:(ckR s l (l.map (alwP s b)) ps rs n).bind (cks s l (l.map (alwP s b)) ps rs n)=some q:=h
  cases hc:ckR s l (l.map (alwP s b)) ps rs n with
  | none=>rw[hc] at h; cases h
  | some p=>
  rw[hc] at h
  have h:cks s l (l.map (alwP s b)) ps rs n p=some q:=h
  have ih:=zgx (by omega) hc
  unfold cks at h
  split at h
  ·cases h
  rename_i g1
  split at h
  ·rename_i g2
   split at h
   ·cases h
   rename_i g3
   have e:=(qM h).symm
   subst e
   unfold inB at g2
   rw[jP,kI,kI] at g2
   have hm:metP (l.map (alwP s b)) n=true:=by
    rw[zfg]
    intro P hP
    cases hh:P n with
    | true=>rfl
    | false=>
    have:(l.map (alwP s b)).any (fun P=>!P n)=true:=kL.2 ⟨P,hP,by rw[hh]; rfl⟩
    exact absurd ((za5 (fun P:Nat->Bool=>!P n) (l.map (alwP s b)) default).2 this) g3
   rw[zdl hm,zaL g2.1 default,ih,g2.2]
  rename_i g2
  split at h
  ·cases h
  rename_i g3
  have e:=(qM h).symm
  subst e
  have g3:¬ rptI l (rs.getD p.2 default).R<0 /\ ¬ (l.map (alwP s b)).getD (rptI l (rs.getD p.2 default).R).toNat default n=true:=⟨fun hh=>g3 (.inl hh),fun hh=>g3 (.inr hh)⟩
  have hm:metP (l.map (alwP s b)) n=false:=by
   cases hh:metP (l.map (alwP s b)) n with
   | false=>rfl
   | true=>
   rcases idxL_cases (fun r:Rpt=>r.ID==(rs.getD p.2 default).R) l default with⟨e,-⟩ | ⟨i,hi,e,-,-⟩
   ·exact absurd (show rptI l (rs.getD p.2 default).R<0 by unfold rptI; rw[e]; decide) g3.1
   have e:rptI l (rs.getD p.2 default).R=(i:Int):=e
   have:=zfg.1 hh _ (gd1 (l:=l.map (alwP s b)) (i:=i) (by rw[kV]; exact hi) default)
   exact absurd (by rw[e]; exact this) g3.2
  rw[zfc hm]; exact ih
theorem zmI {s:Svc} {b:Brn} {l:List Rpt} {ps:List Place} {rs:List Rsn} (h:ckE s l (l.map (alwP s b)) ps rs=true):ps=plsL s.c.M (metP (l.map (alwP s b))):=by
 unfold ckE at h
 split at h
 ·cases h
 rename_i q hq
 rw[jP,kI] at h
 have:=zgx (jE _) hq
 rw[List.take_of_length_le h.1] at this
 exact this
theorem zjK {m:Mp} {i j:Nat} (hw:0<m.w) (h:plc m i=plc m j):i=j:=by
 unfold plc at h
 have h1:((i % m.w:Nat):Int)=((j % m.w:Nat):Int):=jI Place.X h
 have h2:((i / m.w:Nat):Int)=((j / m.w:Nat):Int):=jI Place.Y h
 have a:=jaM i m.w
 have c:=jaM j m.w
 rw[show i / m.w=j / m.w by omega,show i % m.w=j % m.w by omega] at a
 omega
theorem zha {P:Nat->Bool} {k n:Nat} (h:k<n):((List.range n).filter P)[((List.range k).filter P).length]?=if P k=true then some k else (((List.range' (k+1) (n - (k+1))).filter P)[0]?):=by
 have e:List.range n=List.range k++(k :: List.range' (k+1) (n - (k+1))):=by
  rw[List.range_eq_range',List.range_eq_range',show n=k+((n - (k+1))+1) by omega,<- List.range'_append_1,qD,show k+(n - (k+1)+1) - (k+1)=n - (k+1) by omega]; rfl
 rw[e,qH,jK (jE _),kE]
 split
 ·rename_i hP; rw[wA hP]; rfl
 rename_i hP; rw[wB hP]
theorem zgq {P:Nat->Bool} {k n:Nat} (h:k<n) (hP:P k=false) {j:Nat} (hj:((List.range n).filter P)[((List.range k).filter P).length]?=some j):k<j:=by
 rw[zha h,kG (by rw[hP]; decide)] at hj
 have:=qC hj
 have:=(kX.1 this).1
 rw[List.mem_range'_1] at this
 omega
theorem zkP {s:Svc} {b:Brn} {l:List Rpt} (h:givE s b l=0):∀ n,n<=s.n->ckR s l (l.map (alwP s b)) (plsL s.c.M (metP (l.map (alwP s b)))) (rsnK s l (l.map (alwP s b)) s.n) n=some ((plsK s.c.M (metP (l.map (alwP s b))) n).length,(rsnK s l (l.map (alwP s b)) n).length)
 | 0,_=>rfl
 | n+1,hn=>by
  have ih:=zkP h n (by omega)
  obtain⟨bw,bh,-,-⟩:=zag (zcu h).s.c.m
  have hw:0<s.c.M.w:=by show 0<s.c.M.W.toNat; omega
  have ok:=zqu (zcu h)
  obtain⟨L,hL⟩:∃ L,L=l.map (alwP s b):=⟨_,rfl⟩
  rw[<- hL] at ih ⊢
  have hLl:L.length=l.length:=by rw[hL]; exact kV _
  have hn':n<s.c.M.w * s.c.M.h:=hn
  have hq:fstI L n<0 ↔ metP L n=true:=by
   have h1:=za5 (fun P:Nat->Bool=>!P n) L default
   rw[zfg]
   constructor
   ·intro g P hP
    cases hh:P n with
    | true=>rfl
    | false=>
    have:=h1.2 (kL.2 ⟨P,hP,by rw[hh]; rfl⟩)
    have:0<=fstI L n:=this
    omega
   intro g
   refine jL fun q=>?_
   obtain⟨P,hP,e⟩:=kL.1 (h1.1 (show 0<=fstI L n by omega))
   rw[g P hP] at e; cases e
  show (ckR s l L (plsL s.c.M (metP L)) (rsnK s l L s.n) n).bind _=_
  rw[ih]
  show cks s l L (plsL s.c.M (metP L)) (rsnK s l L s.n) n ((plsK s.c.M (metP L) n).length,(rsnK s l L n).length)=_
  have gp:(plsL s.c.M (metP L))[(plsK s.c.M (metP L) n).length]?=(((List.range s.n).filter (metP L))[((List.range n).filter (metP L)).length]?).map (plc s.c.M):=by
   unfold plsL plsK
   rw[jU,kV]
  have gr:(rsnK s l L s.n)[(rsnK s l L n).length]?=(((List.range s.n).filter fun n=>decide (0<=fstI L n))[((List.range n).filter fun n=>decide (0<=fstI L n)).length]?).map (rsnA s l L):=by
   unfold rsnK
   rw[jU,kV]
  cases hm:metP L n with
  | true=>
   have hf:=hq.2 hm
   have hi:inB s (plsL s.c.M (metP L)) (plsK s.c.M (metP L) n).length n=true:=by
    rw[zha hn',kH hm] at gp
    have hlt:(plsK s.c.M (metP L) n).length<(plsL s.c.M (metP L)).length:=by
     rcases jaq (plsK s.c.M (metP L) n).length (plsL s.c.M (metP L)).length with g | g
     ·exact g
     rw[qR g] at gp; cases gp
    unfold inB
    rw[jG hlt,hX,gp]
    exact jG rfl
   have ho:outB s (rsnK s l L s.n) (rsnK s l L n).length n=false:=by
    cases hh:outB s (rsnK s l L s.n) (rsnK s l L n).length n with
    | false=>rfl
    | true=>
    unfold outB at hh
    rw[jP,kI,kI] at hh
    rw[hZ hh.1] at gr
    cases hg:((List.range s.n).filter fun n=>decide (0<=fstI L n))[((List.range n).filter fun n=>decide (0<=fstI L n)).length]? with
    | none=>rw[hg] at gr; cases gr
    | some j=>
    rw[hg] at gr
    have hj:=zgq (P:=fun n=>decide (0<=fstI L n)) hn' (jH (by omega)) hg
    have e1:(rsnK s l L s.n).getD (rsnK s l L n).length default=rsnA s l L j:=by
     rw[hX,hZ hh.1]; exact qM gr
    rw[e1] at hh
    have:=zjK hw (show plc s.c.M j=plc s.c.M n from hh.2)
    omega
   unfold cks
   dsimp only
   rw[hi,ho,kG (by decide),kH rfl,kG (by omega),zdl hm,zjz (by omega)]
   simp
  | false=>
  have hf:0<=fstI L n:=by
   refine jL fun g=>?_
   rw[hq.1 (by omega)] at hm; cases hm
  have hi:inB s (plsL s.c.M (metP L)) (plsK s.c.M (metP L) n).length n=false:=by
   cases hh:inB s (plsL s.c.M (metP L)) (plsK s.c.M (metP L) n).length n with
   | false=>rfl
   | true=>
   unfold inB at hh
   rw[jP,kI,kI] at hh
   rw[hZ hh.1] at gp
   cases hg:((List.range s.n).filter (metP L))[((List.range n).filter (metP L)).length]? with
   | none=>rw[hg] at gp; cases gp
   | some j=>
   rw[hg] at gp
   have hj:=zgq hn' hm hg
   have e1:(plsL s.c.M (metP L)).getD (plsK s.c.M (metP L) n).length default=plc s.c.M j:=by
    rw[hX,hZ hh.1]; exact qM gp
   rw[e1] at hh
   have:=zjK hw hh.2
   omega
  rw[zha (P:=fun n=>decide (0<=fstI L n)) hn',kH (jG hf)] at gr
  have hlt:(rsnK s l L n).length<(rsnK s l L s.n).length:=by
   rcases jaq (rsnK s l L n).length (rsnK s l L s.n).length with g | g
   ·exact g
   rw[qR g] at gr; cases gr
  have e1:(rsnK s l L s.n).getD (rsnK s l L n).length default=rsnA s l L n:=by
   rw[hX,gr]; rfl
  have ho:outB s (rsnK s l L s.n) (rsnK s l L n).length n=true:=by
   unfold outB
   rw[jG hlt,e1]
   exact jG rfl
  have hfl:=zkF hf
  have hri:rptI l (l.getD (fstI L n).toNat default).ID=fstI L n:=by
   have:=zao (p:=fun r:Rpt=>r.ID==(l.getD (fstI L n).toNat default).ID) (l:=l) (i:=(fstI L n).toNat) default (by omega) (by simp) fun j hj=>by
    have:(l.getD j default).ID≠(l.getD (fstI L n).toNat default).ID:=fun q=>by
     have:=ok.d j (fstI L n).toNat (by omega) (by omega) q
     omega
    simpa using this
   unfold rptI
   rw[this]; omega
  have hno:L.getD (fstI L n).toNat default n=false:=by
   rcases idxL_cases (fun P:Nat->Bool=>!P n) L default with⟨e,-⟩ | ⟨i,hi,e,hp,-⟩
   ·have:fstI L n = -1:=e
    omega
   have e:fstI L n=(i:Int):=e
   rw[e]
   simpa using hp
  unfold cks
  dsimp only
  rw[hi,ho,kG (by decide),kG (by decide),e1]
  show (if rptI l (l.getD (fstI L n).toNat default).ID<0 \/ L.getD (rptI l (l.getD (fstI L n).toNat default).ID).toNat default n=true then none else _)=_
  rw[hri,kG (by rw[hno]; simp; omega),zfc hm,zhE hf]
  simp
theorem zhf {s:Svc} {b:Brn} {l:List Rpt} (h:givE s b l=0):ckE s l (l.map (alwP s b)) (plsL s.c.M (metP (l.map (alwP s b)))) (rsnK s l (l.map (alwP s b)) s.n)=true:=by
 unfold ckE
 rw[zkP h s.n (jE _)]
 show (decide ((plsL s.c.M (metP (l.map (alwP s b)))).length<=(plsL s.c.M (metP (l.map (alwP s b)))).length) && decide ((rsnK s l (l.map (alwP s b)) s.n).length<=(rsnK s l (l.map (alwP s b)) s.n).length))=true
 rw[jG (jE _),jG (jE _)]; rfl
section
variable {s:St} {o:Oper} {fo:Operand} {f:FuncId} {K:St->Prop} {E:Env}
theorem CallSt.lend (ids:List Nat) {args:Array Operand} {at':Array TypeId} (hop:o.op = .call { callee:=.value fo,args,argTypes:=at' }) {xs ys res:List V1} (h:SpecG E.dr PP f ys res) (hx:toV1c (s.freezes ids) fo args.toList=some (f,xs)) (he:eqV1s xs ys)
  (hr:res.all V1.flat=true) (hk:K (s.putO o.dst (resAV res))):CallSt E PP s o fo args.toList K:=by
 obtain⟨ex,h1,h2⟩:=zax hx
 rw[zae]
 refine .inr (.inr (.inl ⟨_,⟨fun cx a w hD hd hR=>?_⟩,hk⟩))
 obtain⟨γ,hg⟩:=hR
 obtain⟨γ',h'⟩:=R.freezes ids ⟨γ,hg⟩
 obtain⟨cvs,hcx,hcm⟩:=zaP h1 (ev_m h' fo).1
 have hm:=(za8 h' h2 ((zbo h' args.toList).append hcm)).1
 refine .enter (zat hop hcx h.1) ?_
 refine ((h.eqv he).2 w _ _ (fun b hb=>hb) hm).mono fun en w' ⟨v,e,hb,hres⟩=>⟨v,e,γ,?_⟩
 exact (hg.grow hb.1 fun e=>hb.2 (hD e)).putO hd (zaO (.inr hr) hres) (fun j hj=>by rw[zar] at hj; cases hj)
end
theorem CodeOb.rangeC (ids:List Nat) {K:KK} {s:St} {fo:Operand} {ps:Array Tmp} {asg body:Code} {g m:Nat} {cap:Nat->D} {τ:Type} {enc:τ->List V1} {xs:List τ} (hseq:SeqC PP g m cap enc xs) (hc:callee (ev s fo)=some (g,(List.range m).map fun j=>AV.d (cap j)))
  (hps:∀ x,(enc x).length=ps.size) (hnd:ps.toList.Nodup)
  (sl:List (Nat × AV)) (rc:List (Nat × Nat)) (ob:List τ->List (Nat × Ob)) (hsl:okSl sl=true) (hob:∀ pre,okOb sl rc (ob pre)=true) (hw:Weak s sl (ob []))
  {Iv:List τ->Prop} (hI0:Iv [])
  (hbody:∀ (v:Nat->Value) pre x,pre ++ [x] <+: xs->Iv pre->awp PP TTab (EC ids) asg (St.of (psl ps.toList (enc x)++pinS v sl) (ob pre)) (Ka PP TTab (EC ids) K sl rc v ob Iv body pre x))
  (hend:Iv xs->K .normal (St.of sl (ob xs))):CodeOb (EC ids).dr (EC ids).it PP (.rangeFunc fo ps asg body) s K:=
 CodeOb.range (E:=EC ids) hT hE hM hseq hc hps hnd sl rc ob hsl hob hw hI0 hbody hend
theorem zm7 (l:List Rpt) (g:FuncId) (c0:D) (p:Rpt->Bool) (hn:l.length<=1000000) (hp:∀ i,i<l.length->Spec PP g [(l.getD i default).v,.d c0] [B (p (l.getD i default))]):Spec PP 154 [.d (lR l),.d (cloB g [c0])] [N (idxL p l)]:=by
 refine sA Tryz.func154 ?_
 refine lOf (σ:=Nat) (fun i=>([(0,.d (lR l)),(1,.d (cloB g [c0])),(6,.d (lR l)),(7,.d (I l.length)),(8,.d (I i))],[])) (fun i=>i<=l.length /\ ∀ j,j<i->p (l.getD j default)=false) (fun i=>l.length - i) 0
  ⟨rfl,trivial,wq rfl⟩ z0L fun i hi=>?_
 obtain⟨hi,ha⟩:=hi
 apply bY <;> intro h1
 ·have h1:i<l.length:=by have:=dT h1; omega
  refine⟨⟨rfl,by omega,by omega⟩,?_⟩
  refine cP (hp i h1) rfl rfl ?_
  apply bY <;> intro h2
  ·refine r1I rfl ?_
   exact (zao default h1 h2 ha).symm
  refine⟨i6,?_⟩
  refine⟨i+1,⟨rfl,trivial,wq rfl⟩,⟨h1,fun j hj=>?_⟩,(msr (by omega))⟩
  by_cases e:j=i
  ·subst e; exact h2
  exact ha j (by omega)
 have h1:i=l.length:=by have:=dF h1; omega
 subst h1
 refine r1I rfl ?_
 exact (zaq default ha).symm
theorem zob (l:List Rpt) (g:FuncId) (c0 c1:D) (p:Rpt->Bool) (hn:l.length<=1000000) (hp:∀ i,i<l.length->Spec PP g [(l.getD i default).v,.d c0,.d c1] [B (p (l.getD i default))]):Spec PP 154 [.d (lR l),.d (cloB g [c0,c1])] [N (idxL p l)]:=by
 refine sA Tryz.func154 ?_
 refine lOf (σ:=Nat) (fun i=>([(0,.d (lR l)),(1,.d (cloB g [c0,c1])),(6,.d (lR l)),(7,.d (I l.length)),(8,.d (I i))],[])) (fun i=>i<=l.length /\ ∀ j,j<i->p (l.getD j default)=false) (fun i=>l.length - i) 0
  ⟨rfl,trivial,wq rfl⟩ z0L fun i hi=>?_
 obtain⟨hi,ha⟩:=hi
 apply bY <;> intro h1
 ·have h1:i<l.length:=by have:=dT h1; omega
  refine⟨⟨rfl,by omega,by omega⟩,?_⟩
  refine cP (hp i h1) rfl rfl ?_
  apply bY <;> intro h2
  ·refine r1I rfl ?_
   exact (zao default h1 h2 ha).symm
  refine⟨i6,?_⟩
  refine⟨i+1,⟨rfl,trivial,wq rfl⟩,⟨h1,fun j hj=>?_⟩,(msr (by omega))⟩
  by_cases e:j=i
  ·subst e; exact h2
  exact ha j (by omega)
 have h1:i=l.length:=by have:=dF h1; omega
 subst h1
 refine r1I rfl ?_
 exact (zaq default ha).symm
theorem zgc (r:Rpt) (rs:List Rsn) (w:Nat) (hw:w<rs.length):Spec PP 183 [r.v,.d (capB [lRs rs]),.d (capB [I (w:Int)])] [B (r.ID==(rs.getD w default).R)]:=by
 refine sA Tryz.func183 ?_
 refine oN 9 ?_
 refine⟨⟨rfl,by omega,by omega⟩,?_⟩
 exact r1B rfl rfl
theorem zik {s:Svc} {l:List Rpt} {L:List (Nat->Bool)} {ps:List Place} {rs:List Rsn} {n:Nat} (h:ckR s l L ps rs n=none):∀ m,n<=m->ckR s l L ps rs m=none
 | 0,hm=>by
  have:n=0:=by omega
  rw[this] at h; exact h
 | m+1,hm=>by
  by_cases e:n=m+1
  ·rw[<- e]; exact h
  have:=zik h m (by omega)
  show (ckR s l L ps rs m).bind _=none
  rw[this]; rfl
def ckQ (s:Svc) (l:List Rpt) (L:List (Nat->Bool)) (ps:List Place) (rs:List Rsn) (n:Nat):Nat × Nat:=(ckR s l L ps rs n).getD (0,0)
def chkR (s:Svc) (b:Brn) (l:List Rpt) (ps:List Place) (rs:List Rsn):Int:=if givE s b l≠0 then givE s b l else if ckE s l (l.map (alwP s b)) ps rs=true then 0 else 8
def obCk (s:Svc) (l:List Rpt) (L:List (Nat->Bool)) (ps:List Place) (rs:List Rsn) (e:Int) (q:Nat × Nat):List (Nat × Ob):=
 [(7,.box [.d (lR l)]),(8,.box [.d (lP ps)]),(9,.box [.d (lRs rs)]),(10,.box [.d (I e)]),(11,.box [.d (lB L)]),(13,.box [.d (I (q.1:Int))]),(14,.box [.d (I (q.2:Int))])]
structure Key (G:Prop):Prop where
  out:G
theorem two_ {G T:Prop} (h:Key G->T) (g:G):T:=h ⟨g⟩
section
variable {s:Svc} {l:List Rpt} {L:List (Nat->Bool)} {ps:List Place} {rs:List Rsn} {n:Nat} {q:Nat × Nat}
theorem ck_no (hq:ckR s l L ps rs n=some q) (hn:n<s.n) (h:cks s l L ps rs n q=none):ckE s l L ps rs=false:=by
 have h1:ckR s l L ps rs (n+1)=none:=by
  show (ckR s l L ps rs n).bind _=none
  rw[hq]; exact h
 unfold ckE
 rw[zik h1 s.n (by omega)]
theorem zqQ {q':Nat × Nat} (hq:ckR s l L ps rs n=some q) (h:cks s l L ps rs n q=some q'):ckR s l L ps rs (n+1)=some q':=by
 show (ckR s l L ps rs n).bind _=_
 rw[hq]; exact h
theorem zqP (h:inB s ps q.1 n=outB s rs q.2 n):cks s l L ps rs n q=none:=by unfold cks; rw[kH h]
theorem zqO (h1:inB s ps q.1 n=true) (h2:outB s rs q.2 n=false):cks s l L ps rs n q=if 0<=fstI L n then none else some (q.1+1,q.2):=by
 unfold cks; rw[kG (by rw[h1,h2]; decide),kH h1]
theorem zo8 (h1:inB s ps q.1 n=false) (h2:outB s rs q.2 n=true):cks s l L ps rs n q=if rptI l (rs.getD q.2 default).R<0 \/ L.getD (rptI l (rs.getD q.2 default).R).toNat default n=true then none else some (q.1,q.2+1):=by
 unfold cks; rw[kG (by rw[h1,h2]; decide),kG (by rw[h1]; decide)]
theorem zox (h:outB s rs q.2 n=true):q.2<rs.length:=by
 unfold outB at h
 rw[jP,kI] at h
 exact h.1
end
theorem zoi {l:List Rpt} {id:Int} (h:¬ rptI l id<0):(rptI l id).toNat<l.length/\0<=rptI l id:=by
 rcases idxL_cases (fun r:Rpt=>r.ID==id) l default with⟨h1,_⟩ | ⟨i,h1,h2,_⟩
 ·exact absurd (show rptI l id<0 by unfold rptI; rw[h1]; decide) h
 unfold rptI; rw[h2]; exact⟨h1,by omega⟩
theorem zqU (x y:D) {f:Nat->D} (h0:f 0 = .ptr 1 (getD' [x])) (h1:f 1 = .ptr 1 (getD' [y])):∀ j,j<2->D.eqv (f j) (getD' [capB [x],capB [y]] j)
 | 0,_=>by rw[h0]; exact dE _
 | 1,_=>by rw[h1]; exact dE _
abbrev ckSl:List (Nat × AV):=[(7,.box 7 0),(8,.box 8 0),(9,.box 9 0),(10,.box 10 0),(11,.box 11 0),(13,.box 13 0),(14,.box 14 0)]
abbrev ckP (s:Svc) (n:Nat):List (Nat × Ob):=[(16,.box [.d (I (plc s.c.M n).X),.d (I (plc s.c.M n).Y)])]
theorem zg3 (s:Svc) (b:Brn) (l:List Rpt) (ps:List Place) (rs:List Rsn) (hp:ps.length<=1000000) (hr:rs.length<=1000000):Spec PP 137 [s.v,b.v,.d (lR l),.d (lP ps),.d (lRs rs)] [.d (.int .i64 (chkR s b l ps rs))]:=by
 refine zbV [9,14] Tryz.func137 rfl (by kernel_rfl) rfl ?_
 refine cR (zme s b l) rfl rfl ?_
 by_cases h0:givE s b l=0
 ·have e:allR s b l=(l.map (alwP s b),0):=by unfold allR; rw[kG (fun hh=>hh h0)]
  have e1:chkR s b l ps rs=if ckE s l (l.map (alwP s b)) ps rs=true then 0 else 8:=by unfold chkR; rw[kG (fun hh=>hh h0)]
  have ok:=zcu h0
  have hn:=ok.n
  have hL:(l.map (alwP s b)).length=l.length:=kV _
  have hl:=zcj ok.s.c.m
  rw[e,e1]
  generalize l.map (alwP s b)=L at hL
  refine sF ?_
  refine cR (zdO s.c.M) rfl rfl ?_
  refine CodeOb.rangeC [9,14] (zcs s.c.M ok.s.c.m) rfl (fun _=>rfl) (by decide) ckSl []
   (fun pre=>obCk s l L ps rs 0 (ckQ s l L ps rs pre.length)) rfl (fun _=>rfl) ?_ (Iv:=fun pre=>ckR s l L ps rs pre.length=some (ckQ s l L ps rs pre.length)) rfl (fun v pre x hx hI=>?_) (fun hI=>?_)
  ·exact⟨rfl,⟨obX rfl,obX rfl,obX rfl,obX rfl,obX rfl,obX rfl,obX rfl,trivial⟩,wq rfl⟩
  ·obtain⟨rfl,hk⟩:=zfR hx
   have hnn:=zbC ok.s.c.m (k:=pre.length)
   obtain⟨q,hq⟩:∃ q,ckQ s l L ps rs pre.length=q:=⟨_,rfl⟩
   have hle:=zkQ hI
   have hpl:(pre ++ [(pre.length / s.c.M.w,pre.length % s.c.M.w)]).length=pre.length+1:=by simp
   rw[hq] at hI hle ⊢
   have nx:∀ q',cks s l L ps rs pre.length q=some q'->ckR s l L ps rs (pre ++ [(pre.length / s.c.M.w,pre.length % s.c.M.w)]).length=some (ckQ s l L ps rs (pre ++ [(pre.length / s.c.M.w,pre.length % s.c.M.w)]).length)/\ckQ s l L ps rs (pre ++ [(pre.length / s.c.M.w,pre.length % s.c.M.w)]).length=q':=fun q' h=>by
    have h1:=zqQ hI h
    rw[hpl]
    have h2:ckQ s l L ps rs (pre.length+1)=q':=by unfold ckQ; rw[h1]; rfl
    exact⟨by rw[h1,h2],h2⟩
   have stop:cks s l L ps rs pre.length q=none->(8:Int)=if ckE s l L ps rs=true then 0 else 8:=fun h=>by rw[kG (by rw[ck_no hI hk h]; decide)]
   refine oN 13 ?_
   apply two_
   ·intro key
    apply bY <;> intro h1
    ·have h1:q.1<ps.length:=by have:=dT h1; omega
     refine⟨⟨rfl,by omega,by omega⟩,?_⟩
     repeat first | apply sT | apply sF
     refine kAt (pinS v ckSl ++ [(15,.d (I pre.length)),(16,.box 16 0),(17,.d (.bool (inB s ps q.1 pre.length)))]) (obCk s l L ps rs 0 q++ckP s pre.length) ?_ ?_
     refine⟨rfl,⟨obX rfl,obX rfl,obX rfl,obX rfl,obX rfl,obX rfl,obX rfl,obX rfl,trivial⟩,avQ rfl,avQ rfl,avQ rfl,avQ rfl,avQ rfl,avQ rfl,avQ rfl,avI rfl hnn,avQ rfl,avE rfl ?_,trivial⟩
     ·refine D.eqv_of_eq (jI D.bool ?_)
      unfold inB
      rw[jG h1,kT]
      exact eqPW (ps.getD q.1 default) (plc s.c.M pre.length)
     exact key.out
    have h1:¬ q.1<ps.length:=by have:=dF h1; omega
    repeat first | apply sT | apply sF
    refine kAt (pinS v ckSl ++ [(15,.d (I pre.length)),(16,.box 16 0),(17,.d (.bool (inB s ps q.1 pre.length)))]) (obCk s l L ps rs 0 q++ckP s pre.length) ?_ ?_
    refine⟨rfl,⟨obX rfl,obX rfl,obX rfl,obX rfl,obX rfl,obX rfl,obX rfl,obX rfl,trivial⟩,avQ rfl,avQ rfl,avQ rfl,avQ rfl,avQ rfl,avQ rfl,avQ rfl,avI rfl hnn,avQ rfl,avE rfl ?_,trivial⟩
    ·refine D.eqv_of_eq (jI D.bool ?_)
     unfold inB
     rw[jH h1]; rfl
    exact key.out
   refine oN 14 ?_
   apply two_
   ·intro key
    apply bY <;> intro h1
    ·have h1:q.2<rs.length:=by have:=dT h1; omega
     refine⟨⟨rfl,by omega,by omega⟩,?_⟩
     repeat first | apply sT | apply sF
     refine kAt (pinS v ckSl ++ [(15,.d (I pre.length)),(16,.box 16 0),(17,.d (.bool (inB s ps q.1 pre.length))),(18,.d (.bool (outB s rs q.2 pre.length)))]) (obCk s l L ps rs 0 q++ckP s pre.length) ?_ ?_
     refine⟨rfl,⟨obX rfl,obX rfl,obX rfl,obX rfl,obX rfl,obX rfl,obX rfl,obX rfl,trivial⟩,avQ rfl,avQ rfl,avQ rfl,avQ rfl,avQ rfl,avQ rfl,avQ rfl,avR _ rfl,avQ rfl,avR _ rfl,avE rfl ?_,trivial⟩
     ·refine D.eqv_of_eq (jI D.bool ?_)
      unfold outB
      rw[jG h1,kT]
      exact eqPW (rs.getD q.2 default).At (plc s.c.M pre.length)
     exact key.out
    have h1:¬ q.2<rs.length:=by have:=dF h1; omega
    repeat first | apply sT | apply sF
    refine kAt (pinS v ckSl ++ [(15,.d (I pre.length)),(16,.box 16 0),(17,.d (.bool (inB s ps q.1 pre.length))),(18,.d (.bool (outB s rs q.2 pre.length)))]) (obCk s l L ps rs 0 q++ckP s pre.length) ?_ ?_
    refine⟨rfl,⟨obX rfl,obX rfl,obX rfl,obX rfl,obX rfl,obX rfl,obX rfl,obX rfl,trivial⟩,avQ rfl,avQ rfl,avQ rfl,avQ rfl,avQ rfl,avQ rfl,avQ rfl,avR _ rfl,avQ rfl,avR _ rfl,avE rfl ?_,trivial⟩
    ·refine D.eqv_of_eq (jI D.bool ?_)
     unfold outB
     rw[jH h1]; rfl
    exact key.out
   have fail:cks s l L ps rs pre.length q=none->_:=fun h=>stop h
   apply bY <;> intro h1
   ·have h1:inB s ps q.1 pre.length=outB s rs q.2 pre.length:=by simpa using h1
    refine⟨obCk s l L ps rs 8 q,rfl,⟨rfl,⟨obX rfl,obX rfl,obX rfl,obX rfl,obX rfl,obX rfl,obX rfl,trivial⟩,wq rfl⟩,?_⟩
    exact r1CD rfl rfl rfl rfl rfl ⟨rfl,stop (zqP h1)⟩
   have h1:inB s ps q.1 pre.length≠outB s rs q.2 pre.length:=by simpa using h1
   apply bY <;> intro h2
   ·have h2:inB s ps q.1 pre.length=true:=h2
    have h3:outB s rs q.2 pre.length=false:=by
     cases ho:outB s rs q.2 pre.length with
     | false=>rfl
     | true=>rw[h2,ho] at h1; exact absurd rfl h1
    have hc:=zqO h2 h3 (l:=l) (L:=L)
    refine⟨i6,?_⟩
    refine cP (zkh L pre.length pre.length rfl (by omega) (by omega)) rfl rfl ?_
    apply bY <;> intro h4
    ·have h4:0<=fstI L pre.length:=dT h4
     refine⟨obCk s l L ps rs 8 (q.1+1,q.2),rfl,⟨rfl,⟨obX rfl,obX rfl,obX rfl,obX rfl,obX rfl,obX rfl,obX rfl,trivial⟩,wq rfl⟩,?_⟩
     exact r1CD rfl rfl rfl rfl rfl ⟨rfl,stop (by rw[hc,kH h4])⟩
    have h4:¬ 0<=fstI L pre.length:=dF h4
    obtain⟨n1,n2⟩:=nx _ (by rw[hc,kG h4])
    exact⟨n1,rfl,⟨obX rfl,obX rfl,obX rfl,obX rfl,obX rfl,obX (by rw[n2]; rfl),obX (by rw[n2]; rfl),trivial⟩,wq rfl⟩
   have h2:inB s ps q.1 pre.length=false:=h2
   have h3:outB s rs q.2 pre.length=true:=by
    cases ho:outB s rs q.2 pre.length with
    | true=>rfl
    | false=>rw[h2,ho] at h1; exact absurd rfl h1
   have hc:=zo8 h2 h3 (l:=l) (L:=L)
   have hw:=zox h3
   refine CallSt.lend [9,14] rfl (zob l 183 (capB [lRs rs]) (capB [I (q.2:Int)]) (fun r=>r.ID==(rs.getD q.2 default).R) (by omega) (fun i hi=>zgc _ rs q.2 hw)) rfl ⟨dE _,⟨rfl,rfl,zqU _ _ rfl rfl⟩,trivial⟩ rfl ?_
   apply bY <;> intro h4
   ·have h4:rptI l (rs.getD q.2 default).R<0:=dT h4
    repeat first | apply sT | apply sF
    refine⟨obCk s l L ps rs 8 q,rfl,⟨rfl,⟨obX rfl,obX rfl,obX rfl,obX rfl,obX rfl,obX rfl,obX rfl,trivial⟩,wq rfl⟩,?_⟩
    exact r1CD rfl rfl rfl rfl rfl ⟨rfl,stop (by rw[hc,kH (.inl h4)])⟩
   have h4:¬ rptI l (rs.getD q.2 default).R<0:=dF h4
   obtain⟨h5,h6⟩:=zoi h4
   have h7:(rptI l (rs.getD q.2 default).R).toNat<L.length:=by omega
   have hh:=zmb (L.getD (rptI l (rs.getD q.2 default).R).toNat default) pre.length (by omega)
   refine⟨⟨rfl,h6,by show rptI l (rs.getD q.2 default).R<(L.length:Int); omega⟩,?_⟩
   refine cP hh rfl rfl ?_
   repeat first | apply sT | apply sF
   apply bY <;> intro h8
   ·have h8:L.getD (rptI l (rs.getD q.2 default).R).toNat default pre.length=true:=h8
    refine⟨obCk s l L ps rs 8 q,rfl,⟨rfl,⟨obX rfl,obX rfl,obX rfl,obX rfl,obX rfl,obX rfl,obX rfl,trivial⟩,wq rfl⟩,?_⟩
    exact r1CD rfl rfl rfl rfl rfl ⟨rfl,stop (by rw[hc,kH (.inr h8)])⟩
   have h8:L.getD (rptI l (rs.getD q.2 default).R).toNat default pre.length=false:=h8
   obtain⟨n1,n2⟩:=nx _ (by rw[hc,kG (fun h=>h.elim h4 (fun g=>by rw[h8] at g; cases g))])
   refine⟨i6,?_⟩
   exact⟨n1,rfl,⟨obX rfl,obX rfl,obX rfl,obX rfl,obX rfl,obX (by rw[n2]; rfl),obX (by rw[n2]; rfl),trivial⟩,wq rfl⟩
  rw[zb8] at hI ⊢
  obtain⟨q,hq⟩:∃ q,ckQ s l L ps rs (s.c.M.w * s.c.M.h)=q:=⟨_,rfl⟩
  rw[hq] at hI ⊢
  have hle:=zkQ hI
  have ee:ckE s l L ps rs=(decide (ps.length<=q.1) && decide (rs.length<=q.2)):=by unfold ckE; rw[show ckR s l L ps rs s.n=some q from hI]
  apply bY <;> intro h1
  ·have h1:q.1<ps.length:=by have:=dT h1; omega
   repeat first | apply sT | apply sF
   exact r1CD rfl rfl rfl rfl rfl ⟨rfl,by rw[ee,jH (show ¬ ps.length<=q.1 by omega),qF,kG (by decide)]⟩
  have h1:¬ q.1<ps.length:=by have:=dF h1; omega
  repeat first | apply sT | apply sF
  apply bY <;> intro h2
  ·have h2:q.2<rs.length:=by have:=dT h2; omega
   exact r1CD rfl rfl rfl rfl rfl ⟨rfl,by rw[ee,jH (show ¬ rs.length<=q.2 by omega),wD,kG (by decide)]⟩
  have h2:¬ q.2<rs.length:=by have:=dF h2; omega
  exact r1CD rfl rfl rfl rfl rfl ⟨rfl,by rw[ee,jG (show ps.length<=q.1 by omega),jG (show rs.length<=q.2 by omega)]; rfl⟩
 have e:allR s b l=([],givE s b l):=by unfold allR; rw[kH h0]
 have e1:chkR s b l ps rs=givE s b l:=by unfold chkR; rw[kH h0]
 rw[e,e1]
 refine sYe (by simpa using h0) ?_
 exact r1CD rfl rfl rfl rfl rfl (dE _)
abbrev rowRp (l:List Rpt):Nat->Nat->D:=fun i=>(l.getD i default).at
theorem zps (l:List Rpt) (g:FuncId) (c0:D) (p:Rpt->Bool) (hn:l.length<=1000000) (hp:∀ i,i<l.length->Spec PP g [(l.getD i default).v,.d c0] [B (p (l.getD i default))]):Spec PP 116 [.d (lR l),.d (cloB g [c0])] [B (l.any p)]:=by
 refine sA Tryz.func116 ?_
 refine cP (zm7 l g c0 p hn hp) rfl rfl ?_
 refine r1B rfl ?_
 rw[kP,kI]
 exact za5 p l default
theorem zl1 (l:List Rpt) (hn:l.length<=1000000):SpecO PP 145 [.d (lR l)] 93 8 l.length (rowRp l):=by
 refine zdh Tryz.func145 rfl (by kernel_rfl) rfl ?_
 refine fun b hb=>?_
 apply bY <;> intro h1
 ·have h0:=hb h1
  refine⟨rfl,rfl,h0.symm,fun i hi=>?_⟩
  omega
 refine⟨⟨.inr rfl,by unfold maxLen; omega,by show (0+l.length) * 64<=140737488355328; omega⟩,?_⟩
 refine⟨rfl,rfl,qD _,fun i hi j hj=>?_⟩
 exact dE _
theorem znA (l:List Rpt) (m j:Nat):(rowRp l m j).flat=true:=by
 show ((l.getD m default).at j).flat=true
 unfold Rpt.at
 split <;> rfl
theorem zpN (l:List Int) (x:Int) (hn:l.length<=1000000):Spec PP 155 [.d (lI l),N x] [N (idxL (· == x) l)]:=by
 refine sA Tryz.func155 ?_
 refine lOf (σ:=Nat) (fun i=>([(0,.d (lI l)),(1,.d (I x)),(6,.d (lI l)),(7,.d (I l.length)),(8,.d (I i))],[])) (fun i=>i<=l.length /\ ∀ j,j<i->(l.getD j 0==x)=false) (fun i=>l.length - i) 0
  ⟨rfl,trivial,wq rfl⟩ z0L fun i hi=>?_
 obtain⟨hi,ha⟩:=hi
 apply bY <;> intro h1
 ·have h1:i<l.length:=by have:=dT h1; omega
  refine⟨⟨rfl,by omega,by omega⟩,?_⟩
  apply bY <;> intro h2
  ·have h2:(l.getD i 0==x)=true:=by rw[BEq.comm]; exact h2
   refine r1I rfl ?_
   exact (zao 0 h1 h2 ha).symm
  have h2:(l.getD i 0==x)=false:=by rw[BEq.comm]; exact h2
  refine⟨i6,?_⟩
  refine⟨i+1,⟨rfl,trivial,wq rfl⟩,⟨h1,fun j hj=>?_⟩,(msr (by omega))⟩
  by_cases e:j=i
  ·subst e; exact h2
  exact ha j (by omega)
 have h1:i=l.length:=by have:=dF h1; omega
 subst h1
 refine r1I rfl ?_
 exact (zaq 0 ha).symm
theorem zpm (l:List Int) (x:Int):l.any (· == x)=l.contains x:=by
 rw[kP,kL,kD]
 exact⟨fun⟨y,hy,e⟩=>by rw[<- eq_of_beq e]; exact hy,fun h=>⟨x,h,by simp⟩⟩
theorem zet (l:List Int) (x:Int) (hn:l.length<=1000000):Spec PP 103 [.d (lI l),N x] [B (l.contains x)]:=by
 refine sA Tryz.func103 ?_
 refine cP (zpN l x hn) rfl rfl ?_
 refine r1B rfl ?_
 rw[kP,kI,<- zpm]
 exact za5 (· == x) l 0
theorem zoc (l:List Int) (g:FuncId) (c0:D) (p:Int->Bool) (hn:l.length<=1000000) (hp:∀ i,i<l.length->Spec PP g [N (l.getD i 0),.d c0] [B (p (l.getD i 0))]):Spec PP 185 [.d (lI l),.d (cloB g [c0])] [N (idxL p l)]:=by
 refine sA Tryz.func185 ?_
 refine lOf (σ:=Nat) (fun i=>([(0,.d (lI l)),(1,.d (cloB g [c0])),(6,.d (lI l)),(7,.d (I l.length)),(8,.d (I i))],[])) (fun i=>i<=l.length /\ ∀ j,j<i->p (l.getD j 0)=false) (fun i=>l.length - i) 0
  ⟨rfl,trivial,wq rfl⟩ z0L fun i hi=>?_
 obtain⟨hi,ha⟩:=hi
 apply bY <;> intro h1
 ·have h1:i<l.length:=by have:=dT h1; omega
  refine⟨⟨rfl,by omega,by omega⟩,?_⟩
  refine cP (hp i h1) rfl rfl ?_
  apply bY <;> intro h2
  ·refine r1I rfl ?_
   exact (zao 0 h1 h2 ha).symm
  refine⟨i6,?_⟩
  refine⟨i+1,⟨rfl,trivial,wq rfl⟩,⟨h1,fun j hj=>?_⟩,(msr (by omega))⟩
  by_cases e:j=i
  ·subst e; exact h2
  exact ha j (by omega)
 have h1:i=l.length:=by have:=dF h1; omega
 subst h1
 refine r1I rfl ?_
 exact (zaq 0 ha).symm
theorem zof (l:List Int) (g:FuncId) (c0:D) (p:Int->Bool) (hn:l.length<=1000000) (hp:∀ i,i<l.length->Spec PP g [N (l.getD i 0),.d c0] [B (p (l.getD i 0))]):Spec PP 138 [.d (lI l),.d (cloB g [c0])] [B (l.any p)]:=by
 refine sA Tryz.func138 ?_
 refine cP (zoc l g c0 p hn hp) rfl rfl ?_
 refine r1B rfl ?_
 rw[kP,kI]
 exact za5 p l 0
abbrev lII (l:List (List Int)):D:=.slc 1 l.length fun i _=>lI (l.getD i [])
theorem zlH (l:List (List Int)) (g:FuncId) (c0 c1:D) (p:List Int->Bool) (hn:l.length<=1000000) (hp:∀ i,i<l.length->Spec PP g [.d (lI (l.getD i [])),.d c0,.d c1] [B (p (l.getD i []))]):Spec PP 119 [.d (lII l),.d (cloB g [c0,c1])] [N (idxL p l)]:=by
 refine sA Tryz.func119 ?_
 refine lOf (σ:=Nat) (fun i=>([(0,.d (lII l)),(1,.d (cloB g [c0,c1])),(6,.d (lII l)),(7,.d (I l.length)),(8,.d (I i))],[])) (fun i=>i<=l.length /\ ∀ j,j<i->p (l.getD j [])=false) (fun i=>l.length - i) 0
  ⟨rfl,trivial,wq rfl⟩ z0L fun i hi=>?_
 obtain⟨hi,ha⟩:=hi
 apply bY <;> intro h1
 ·have h1:i<l.length:=by have:=dT h1; omega
  refine⟨⟨rfl,by omega,by omega⟩,?_⟩
  refine cP (hp i h1) rfl rfl ?_
  apply bY <;> intro h2
  ·refine r1I rfl ?_
   exact (zao [] h1 h2 ha).symm
  refine⟨i6,?_⟩
  refine⟨i+1,⟨rfl,trivial,wq rfl⟩,⟨h1,fun j hj=>?_⟩,(msr (by omega))⟩
  by_cases e:j=i
  ·subst e; exact h2
  exact ha j (by omega)
 have h1:i=l.length:=by have:=dF h1; omega
 subst h1
 refine r1I rfl ?_
 exact (zaq [] ha).symm
theorem zlI (l:List (List Int)) (g:FuncId) (c0 c1:D) (p:List Int->Bool) (hn:l.length<=1000000) (hp:∀ i,i<l.length->Spec PP g [.d (lI (l.getD i [])),.d c0,.d c1] [B (p (l.getD i []))]):Spec PP 54 [.d (lII l),.d (cloB g [c0,c1])] [B (l.any p)]:=by
 refine sA Tryz.func54 ?_
 refine cP (zlH l g c0 c1 p hn hp) rfl rfl ?_
 refine r1B rfl ?_
 rw[kP,kI]
 exact za5 p l []
@[irreducible] def filR (p:Rpt->Bool) (l:List Rpt) (j:Nat):List Rpt:=(l.take j).filter fun r=>!p r
theorem zcA (p:Rpt->Bool) (l:List Rpt) {j:Nat} (hj:j<l.length):filR p l (j+1)=filR p l j++(if p (l.getD j default)=true then [] else [l.getD j default]):=by
 unfold filR
 rw[zaL hj default,qH]
 congr 1
 by_cases h:p (l.getD j default)=true
 ·rw[kH h,wB (by rw[h]; decide)]; rfl
 rw[kG h,wA (by rw[qN.2 h]; rfl)]; rfl
theorem zie (p:Rpt->Bool) (l:List Rpt) {j:Nat} (hj:j<=l.length) (h:∀ i,i<j->p (l.getD i default)=false):filR p l j=l.take j:=by
 induction j with
 | zero=>unfold filR; simp
 | succ j ih=>rw[zcA p l (by omega),kG (by rw[h j (by omega)]; decide),ih (by omega) fun i hi=>h i (by omega),zaL (by omega) default]
structure Day where
  s:Svc
  Rise:Int
  Long:Int
  R:List Rpt
  deriving Inhabited
abbrev Day.ds (d:Day):List D:=[I d.s.c.M.W,I d.s.c.M.H,lI d.s.c.M.G,lT d.s.c.T,lZ d.s.c.Z,lC d.s.k.C,lK d.s.k.K,I d.Rise,I d.Long,lR d.R]
abbrev Day.v (d:Day):V1:=.agg d.ds
theorem zh3 (n lo hi:Int):Spec PP 73 [N n,N lo,N hi] [B (within n lo hi)]:=by
 refine sA Tryz.func73 ?_
 unfold within
 apply bY <;> intro h1
 ·repeat first | apply sT | apply sF
  exact r1B rfl (by rw[h1,kT])
 repeat first | apply sT | apply sF
 exact r1B rfl (by rw[h1,qF])
def isSg (r:Rpt):Bool:=r.Kind==1
def sigK (l:List Rpt):List Int:=(l.filter isSg).map Rpt.ID
def sigL (l:List Rpt):List Int:=(sigK l).mergeSort fun x y=>decide (x<=y)
theorem ze2 {l:List Rpt} {i:Nat} (h:i<l.length) (h1:isSg (l.getD i default)=true):sigK (l.take (i+1))=sigK (l.take i) ++ [(l.getD i default).ID]:=by
 unfold sigK
 rw[zaL h default,qH,wA h1,jT]; rfl
theorem zjr {l:List Rpt} {i:Nat} (h:i<l.length) (h1:isSg (l.getD i default)=false):sigK (l.take (i+1))=sigK (l.take i):=by
 unfold sigK
 rw[zaL h default,qH,wB (by rw[h1]; decide)]; simp
theorem zck (l:List Rpt):(sigK l).length<=l.length:=by unfold sigK; rw[kV]; exact jar _ _
theorem zbW (l:List Rpt):(sigL l).length=(sigK l).length:=kU _
theorem zaD (d:Day) (hn:d.R.length<=1000000):Spec PP 53 [d.v] [.d (lI (sigL d.R))]:=by
 refine sA Tryz.func53 ?_
 refine lOf (σ:=Nat) (fun i=>([(3,.own 3),(7,.d (lR d.R)),(8,.d (I d.R.length)),(9,.d (I i))],[(3,.row 3 1 (sigK (d.R.take i)).length (rowI (sigK (d.R.take i))))])) (fun i=>i<=d.R.length) (fun i=>d.R.length - i) 0
  ⟨rfl,⟨obR rfl ⟨rfl,.inl rfl⟩,trivial⟩,wq rfl⟩ (jF _) fun i hi=>?_
 have hi:i<=d.R.length:=hi
 have hl:=zck (d.R.take i)
 rw[jQ] at hl
 apply bY <;> intro h1
 ·have h1:i<d.R.length:=by have:=dT h1; omega
  refine⟨⟨rfl,by omega,by omega⟩,?_⟩
  apply bY <;> intro h2
  ·refine⟨⟨.inr rfl,by unfold maxLen; omega,by show ((sigK (d.R.take i)).length+1) * 8<=140737488355328; omega⟩,?_⟩
   refine⟨i6,?_⟩
   refine⟨i+1,⟨rfl,⟨obR rfl ?_,trivial⟩,wq rfl⟩,h1,msr h1⟩
   rw[ze2 h1 h2]
   exact zop rfl
  refine⟨i6,?_⟩
  refine⟨i+1,⟨rfl,⟨obR rfl ?_,trivial⟩,wq rfl⟩,h1,msr h1⟩
  rw[zjr h1 h2]
  exact dE _
 have h1:i=d.R.length:=by have:=dF h1; omega
 subst h1
 rw[jZ] at hl ⊢
 refine CallSt.rw' rfl (zhJ (sigK d.R) (by omega)) ⟨⟨[],.tmp 22,[],[],rfl,rfl,rfl,rfl,rfl,rfl,rfl⟩⟩ rfl ?_
 exact⟨⟨_,_,_,_,rfl,(zbW d.R).symm,.inr ⟨rfl,fun i _ j _=>dE _⟩⟩,trivial⟩
def risB (l:List Int):Bool:=(List.range (l.length - 1)).all fun i=>decide (l.getD i 0<l.getD (i+1) 0)
def setB (l:List Int):Bool:=risB l && decide (0<l.length)
theorem zcP (l:List Int) (hn:l.length<=1000000):Spec PP 43 [.d (lI l)] [B (setB l)]:=by
 refine sA Tryz.func43 ?_
 refine lOf (σ:=Nat) (fun i=>([(0,.d (lI l)),(3,.d (I i))],[])) (fun i=>1<=i /\ ∀ j,j+1<i->j+1<l.length->l.getD j 0<l.getD (j+1) 0) (fun i=>l.length - i) 1
  ⟨rfl,trivial,wq rfl⟩ ⟨jE _,fun j hj=>by omega⟩ fun i hi=>?_
 obtain⟨hi,ha⟩:=hi
 apply bY <;> intro h1
 ·have h1:i<l.length:=by have:=dT h1; omega
  refine oN 10 ?_
  refine⟨⟨rfl,by omega,by omega⟩,?_⟩
  refine⟨i6,?_⟩
  refine⟨⟨rfl,by omega,by omega⟩,?_⟩
  have e:((i:Int) - 1).toNat=i - 1:=by omega
  apply bY <;> intro h2
  ·have h2:=dT h2
   rw[e,jaR] at h2
   refine r1B rfl ?_
   symm
   unfold setB risB
   rw[Bool.and_eq_false_iff]; left
   rw[qN]
   intro h
   have:=jC.1 h (i - 1) (kJ.2 (by omega))
   rw[show i - 1+1=i by omega] at this
   have:=kN this
   omega
  have h2:=dF h2
  rw[e,jaR] at h2
  refine⟨i6,?_⟩
  refine⟨i+1,⟨rfl,trivial,wq rfl⟩,⟨by omega,fun j hj hl=>?_⟩,msr h1⟩
  by_cases ej:j+1=i
  ·have:j=i - 1:=by omega
   subst this
   rw[show i - 1+1=i by omega]
   omega
  exact ha j (by omega) hl
 have h1:l.length<=i:=by have:=dF h1; omega
 refine r1B rfl ?_
 unfold setB
 have:risB l=true:=jC.2 fun j hj=>by
  have:=kJ.1 hj
  exact jG (ha j (by omega) (by omega))
 rw[this,kT]
 exact qO.2 (by omega)
def partB (a b:List Int):Bool:=a.all fun x=>b.contains x
theorem zoI (x:Int) (b:List Int) (hn:b.length<=1000000):Spec PP 139 [N x,.d (capB [lI b])] [B (!b.contains x)]:=by
 refine sA Tryz.func139 ?_
 refine cP (zet b x hn) rfl rfl ?_
 exact r1B rfl rfl
theorem zeG (a b:List Int) (ha:a.length<=1000000) (hb:b.length<=1000000):Spec PP 82 [.d (lI a),.d (lI b)] [B (partB a b)]:=by
 refine sA Tryz.func82 ?_
 refine fEq [3] (zof a 139 (capB [lI b]) (fun x=>!b.contains x) ha fun i _=>zoI _ b hb) rfl ⟨dE _,⟨rfl,rfl,fun j hj=>by obtain rfl:j=0:=jac.1 hj; exact dE _⟩,trivial⟩ rfl ?_
 refine r1B rfl ?_
 unfold partB
 rw[kP,jY,jai,jC]
 simp
section
variable {s:St} {o:Oper} {fo:Operand} {f:FuncId} {K:St->Prop} {E:Env}
theorem CallSt.tkF (ids:List Nat) {args:Array Operand} {at':Array TypeId} (hop:o.op = .call { callee:=.value fo,args,argTypes:=at' }) {pre post po:List V1} {i e k n n':Nat} {g g':Nat->Nat->D} (h:SpecT PP f pre post e k n g n' g')
  (ha:RowArgs (s.freezes ids) fo args.toList f pre i po) (he:eqV1s po post) (hi:(s.freezes ids).ob i=some (.row e k n g)) (hk:K (remk (s.freezes ids) i (.row e k n' g') o.dst)):CallSt EN PP s o fo args.toList K:=by
 rw[zae]
 refine .inr (.inr (.inl ⟨_,⟨fun cx a w hD hd hR=>?_⟩,hk⟩))
 obtain⟨γ,hg⟩:=R.freezes ids hR
 obtain⟨caps,vs,us,xs,h1,h2,h3,h4,h5⟩:=zcl hg ha hi
 refine .enter (zat hop h1 h.1) ?_
 rw[h2]
 refine (h.2 w _ vs us _ xs (fun b hb=>zak hg hb) h3 (zbb he h4) h5).mono fun en w' ⟨r,he,hgr,hbl,ys,y1,y2,y3⟩=>⟨r,he,?_⟩
 refine zcM (o':=.row e k n' g') hg hi hd hgr (fun e=>by have:=hD e; cases this) (fun b hb=>hbl b hb) (fun ok hok=>⟨ys,by rw[zac]; exact y1,(fun b hb=>?_),y2,fun m hm j hj=>?_⟩) (fun cs e=>by cases e)
 ·rw[zac] at hb
  rcases hbl b hb with h6 | h6
  ·exact (zaz hg hi h6).1
  exact .inl (jM hg.below.size h6)
 obtain⟨u,hu,hr⟩:=y3 m hm j hj
 exact⟨u,hu,Rep.keep0 (w:=w') (fun b hb=>hb.elim) hr⟩
end
theorem zcv {α:Type} (m:List α) (k i:Nat) (p d:α) (hk:k<m.length):(m.set k p).getD i d=if i=k then p else m.getD i d:=by
 rw[hX,List.getElem?_set,hX]
 by_cases h:k=i
 ·subst h; simp[hk]
 rw[kG h,kG fun e=>h e.symm]
theorem setRp {m:List Rpt} {n k k':Nat} {p q:Rpt} (hk:k<m.length) (e1:k'=k) (e2:q=p):D.eqv (.slc 8 n (storeRow (rowRp m) k' 0 [I q.ID,I q.Kind,I q.Tower,I q.C,I q.Tick,I q.From,I q.To,I q.Slack])) (.slc 8 n (rowRp (m.set k p))):=by
 subst e1; subst e2
 refine⟨rfl,.inr ⟨rfl,fun i hi j hj=>?_⟩⟩
 show D.eqv (storeRow (rowRp m) k' 0 _ i j) (((m.set k' q).getD i default).at j)
 rw[zcv m k' i q default hk]
 unfold storeRow
 by_cases h:i=k'
 ·rw[kH h,kH ⟨h,by omega,by simpa using hj⟩]
  match j,hj with
  | 0,_=>exact⟨rfl,rfl⟩
  | 1,_=>exact⟨rfl,rfl⟩
  | 2,_=>exact⟨rfl,rfl⟩
  | 3,_=>exact⟨rfl,rfl⟩
  | 4,_=>exact⟨rfl,rfl⟩
  | 5,_=>exact⟨rfl,rfl⟩
  | 6,_=>exact⟨rfl,rfl⟩
  | 7,_=>exact⟨rfl,rfl⟩
 rw[kG h,kG fun hh=>h hh.1]
 exact dE _
theorem zn3 (p:Rpt->Bool) (g:FuncId) (c0:D) (hg:∀ r:Rpt,Spec PP g [r.v,.d c0] [B (p r)]) (l:List Rpt) (hn:l.length<=1000000):SpecT PP 101 [] [.d (cloB g [c0])] 93 8 l.length (rowRp l) (filR p l l.length).length (rowRp (filR p l l.length)):=by
 refine zlA Tryz.func101 rfl (by kernel_rfl) (fun i _ j _=>znA _ i j) rfl fun v=>?_
 refine cP (zm7 l g c0 p hn fun i _=>hg _) rfl rfl ?_
 rcases idxL_cases p l default with⟨e0,h1⟩ | ⟨i,h1,e0,h2,h3⟩
 ·refine sYe (by rw[e0]; rfl) ?_
  have e:filR p l l.length=l:=by rw[zie p l (jE _) h1,jZ]
  rw[e]
  exact⟨rfl,rfl,rfl,fun i hi j hj=>dE _⟩
 refine sNo (by rw[e0]; simp) ?_
 have ck:filR p l (i+1)=l.take i:=by rw[zcA p l h1,kH h2,ja1,zie p l (by omega) h3]
 refine⟨by rw[e0]; exact i6,?_⟩
 refine lOf (σ:=Nat × Nat × List Rpt) (fun x=>([(0,.own 0),(1,.d (cloB g [c0])),(5,.d (I x.2.1)),(6,.d (I x.1))],[(0,.row 93 8 l.length (rowRp x.2.2))]))
  (fun x=>i+1<=x.1/\x.1<=l.length/\x.2.2.length=l.length/\x.2.1<=x.1 - 1/\x.2.2.take x.2.1=filR p l x.1 /\ ∀ m,x.1<=m->x.2.2.getD m default=l.getD m default) (fun x=>l.length - x.1) (i+1,i,l)
  ⟨rfl,⟨obR rfl (dE _),trivial⟩,rfl,avQ rfl,?_,?_,trivial⟩ ⟨jE _,h1,rfl,by simp,ck.symm,fun _ _=>rfl⟩ fun x hx=>?_
 ·exact avQ (by rw[e0]; rfl)
 ·exact avQ (by rw[e0]; rfl)
 obtain⟨x1,x2,x3,x4,x5,x6⟩:=hx
 apply bY <;> intro g1
 ·have g1:x.1<l.length:=by have:=dT g1; omega
  have e1:x.2.2.getD (x.1:Int).toNat default=l.getD x.1 default:=by rw[jaR,x6 x.1 (jE _)]
  refine⟨⟨by omega,by omega⟩,⟨by omega,?_⟩⟩
  refine cP (hg (x.2.2.getD (x.1:Int).toNat default)) rfl rfl ?_
  apply bY <;> intro g2
  ·have g2:p (l.getD x.1 default)=false:=by rw[e1] at g2; simpa using g2
   refine⟨⟨by omega,by omega⟩,⟨by omega,?_⟩⟩
   refine⟨i6,?_⟩
   refine⟨i6,?_⟩
   refine⟨(x.1+1,x.2.1+1,x.2.2.set x.2.1 (l.getD x.1 default)),⟨rfl,⟨obR rfl (setRp (by omega) (jaR _) e1),trivial⟩,rfl,wq rfl⟩,⟨by omega,by omega,by simp; omega,(show x.2.1+1<=x.1+1 - 1 by omega),?_,fun m hm=>?_⟩,?_⟩
   ·show (x.2.2.set x.2.1 (l.getD x.1 default)).take (x.2.1+1)=filR p l (x.1+1)
    rw[zcA p l g1,kG (by rw[g2]; decide),zaL (i:=x.2.1) (by simp; omega) default,zcv _ _ _ _ _ (by omega),kH rfl,<- x5,List.take_set_of_le (jE _)]
   ·have hm:x.1+1<=m:=hm
    show (x.2.2.set x.2.1 (l.getD x.1 default)).getD m default=_
    rw[zcv _ _ _ _ _ (by omega),kG (by omega)]
    exact x6 m (by omega)
   show l.length - (x.1+1)<l.length - x.1
   omega
  have g2:p (l.getD x.1 default)=true:=by rw[e1] at g2; simpa using g2
  refine⟨i6,?_⟩
  refine⟨(x.1+1,x.2.1,x.2.2),⟨rfl,⟨obR rfl (dE _),trivial⟩,rfl,wq rfl⟩,⟨by omega,by omega,x3,(show x.2.1<=x.1+1 - 1 by omega),?_,fun m hm=>x6 m (by have:x.1+1<=m:=hm; omega)⟩,?_⟩
  ·show x.2.2.take x.2.1=filR p l (x.1+1)
   rw[zcA p l g1,kH g2,ja1,x5]
  show l.length - (x.1+1)<l.length - x.1
  omega
 have g1:x.1=l.length:=by have:=dF g1; omega
 have hk':x.2.1=(filR p l l.length).length:=by
  have:=jI List.length x5
  rw[jQ,g1] at this
  omega
 refine⟨⟨rfl,by omega,by omega⟩,?_⟩
 refine⟨by omega,?_⟩
 refine⟨⟨by omega,by omega⟩,?_⟩
 refine⟨rfl,rfl,?_,fun i hi j hj=>?_⟩
 ·show (x.2.1:Int).toNat=_
  omega
 have e3:(filR p l l.length).getD i default=x.2.2.getD i default:=by
  rw[<- g1,<- x5,hX,jS,kH (by omega),<- hX]
 show D.eqv (clrRow (rowRp x.2.2) (x.2.1:Int).toNat (l.length - (x.2.1:Int).toNat) _ i j) (((filR p l l.length).getD i default).at j)
 unfold clrRow
 rw[kG (by omega),e3]
 exact dE _
def offB (ids:List Int) (r:Rpt):Bool:=(r.Kind==1) && !ids.contains r.ID
def lstD (d:Day) (ids:List Int):List Rpt:=d.R.filter fun r=>!offB ids r
theorem zhY (d:Day) (ids:List Int):(lstD d ids).length<=d.R.length:=jar _ _
theorem zoJ (ids:List Int) (hi:ids.length<=1000000) (r:Rpt):Spec PP 146 [r.v,.d (capB [lI ids])] [B (offB ids r)]:=by
 refine sA Tryz.func146 ?_
 apply bY <;> intro h1
 ·have h1:(r.Kind==1)=true:=h1
  refine cP (zet ids r.ID hi) rfl rfl ?_
  refine sT ?_
  exact r1B rfl (by unfold offB; rw[h1,kT])
 have h1:(r.Kind==1)=false:=h1
 refine sF ?_
 exact r1B rfl (by unfold offB; rw[h1,qF])
theorem zge (d:Day) (ids:List Int) (hn:d.R.length<=1000000) (hi:ids.length<=1000000):Spec PP 92 [d.v,.d (lI ids)] [.d (lR (lstD d ids))]:=by
 have e:filR (offB ids) d.R d.R.length=lstD d ids:=by unfold filR lstD; rw[jZ]
 refine sA Tryz.func92 ?_
 refine CallSt.own (zl1 d.R hn) rfl rfl (fun m j _ _=>znA _ m j) ?_
 refine CallSt.tkF [3] rfl (zn3 (offB ids) 146 (capB [lI ids]) (zoJ ids hi) d.R hn) ⟨⟨[],.tmp 7,[.tmp 8],[],rfl,rfl,rfl,rfl,rfl,rfl,rfl⟩⟩ ⟨⟨rfl,rfl,fun j hj=>by obtain rfl:j=0:=jac.1 hj; exact dE _⟩,trivial⟩ rfl ?_
 rw[e]
 exact⟨⟨_,_,_,_,rfl,rfl,.inr ⟨rfl,fun i _ j _=>dE _⟩⟩,trivial⟩
def day1E (d:Day) (i:Nat):Int:=
 if crpE d.s (d.R.getD i default)≠0 then crpE d.s (d.R.getD i default) else if ((d.R.take i).any fun x=>x.ID==(d.R.getD i default).ID)=true then 6 else 0
def dayE (d:Day):Int:=
 if svcE d.s≠0 then svcE d.s else if (!within d.Rise 0 200 || !within d.Long 0 1440)=true then 1
 else if 7<(sigK d.R).length \/ 10+(sigK d.R).length<d.R.length then 2 else err1 (day1E d) d.R.length
theorem zmn (x r:Rpt):Spec PP 117 [x.v,.d (capB r.ds)] [B (x.ID==r.ID)]:=by
 refine sA Tryz.func117 ?_
 exact r1B rfl rfl
theorem zoG (l:List Rpt) {i:Nat} (h:i<=l.length):D.eqv (.slc 8 i fun m=>(l.getD m default).at) (lR (l.take i)):=by
 refine⟨by rw[jQ]; omega,.inr ⟨rfl,fun m hm j _=>?_⟩⟩
 show D.eqv ((l.getD m default).at j) (((l.take i).getD m default).at j)
 rw[hX,hX,jS,kH hm]
 exact dE _
theorem zcQ (d:Day) (hn:d.R.length<=1000000):Spec PP 51 [d.v] [.d (.int .i64 (dayE d))]:=by
 refine sA Tryz.func51 ?_
 refine cP (zfn d.s) rfl rfl ?_
 apply bY <;> intro h0
 ·refine r1I rfl ?_
  unfold dayE; rw[kH (by simpa using h0)]
 have h0:svcE d.s=0:=by simpa using h0
 refine cP (zh3 d.Rise 0 200) rfl rfl ?_
 apply bY <;> intro h1
 ·have h1:(!within d.Rise 0 200)=true:=h1
  repeat first | apply sT | apply sF
  refine r1I rfl ?_
  unfold dayE; rw[kG (fun hh=>hh h0),kH (by rw[h1]; rfl)]
 have h1:(!within d.Rise 0 200)=false:=h1
 refine cP (zh3 d.Long 0 1440) rfl rfl ?_
 repeat first | apply sT | apply sF
 apply bY <;> intro h2
 ·have h2:(!within d.Long 0 1440)=true:=h2
  refine r1I rfl ?_
  unfold dayE; rw[kG (fun hh=>hh h0),kH (by rw[h1,h2]; rfl)]
 have h2:(!within d.Long 0 1440)=false:=h2
 refine cR (zaD d hn) rfl rfl ?_
 have e1:(sigL d.R).length=(sigK d.R).length:=zbW d.R
 have eg:dayE d=if 7<(sigK d.R).length \/ 10+(sigK d.R).length<d.R.length then 2 else err1 (day1E d) d.R.length:=by
  unfold dayE; rw[kG (fun hh=>hh h0),kG (by rw[h1,h2]; decide)]
 rw[eg]
 apply bY <;> intro h3
 ·have h3:7<(sigK d.R).length:=by have:(7:Int)<(sigL d.R).length:=dT h3; omega
  repeat first | apply sT | apply sF
  refine r1I rfl ?_
  rw[kH (.inl h3)]
 have h3:¬ 7<(sigK d.R).length:=by have:¬ (7:Int)<(sigL d.R).length:=dF h3; omega
 refine⟨i6,?_⟩
 repeat first | apply sT | apply sF
 apply bY <;> intro h4
 ·have h4:10+(sigK d.R).length<d.R.length:=by have:(10:Int)<(d.R.length:Int) - (sigL d.R).length:=dT h4; omega
  refine r1I rfl ?_
  rw[kH (.inr h4)]
 have h4:¬ 10+(sigK d.R).length<d.R.length:=by have:¬ (10:Int)<(d.R.length:Int) - (sigL d.R).length:=dF h4; omega
 rw[kG (fun h=>h.elim h3 h4)]
 have hl:d.R.length<=17:=by omega
 refine lOf (σ:=Nat) (fun i=>([(1,.box 1 0),(38,.d (lR d.R)),(39,.d (I d.R.length)),(40,.d (I i))],[(1,.box (d.ds.map AV.d))])) (fun i=>i<=d.R.length /\ ∀ j,j<i->day1E d j=0) (fun i=>d.R.length - i) 0
  ⟨rfl,⟨obD d.ds rfl,trivial⟩,wq rfl⟩ z0L fun i hi=>?_
 obtain⟨hi,ha⟩:=hi
 apply bY <;> intro h5
 ·have h5:i<d.R.length:=by have:=dT h5; omega
  refine⟨⟨rfl,by omega,by omega⟩,?_⟩
  refine cP (zfm d.s (d.R.getD i default)) rfl rfl ?_
  apply bY <;> intro h6
  ·have h6:crpE d.s (d.R.getD i default)≠0:=by simpa using h6
   have e2:day1E d i=crpE d.s (d.R.getD i default):=by unfold day1E; rw[kH h6]
   refine r1I rfl ?_
   rw[zaM ha (by rw[e2]; exact h6) h5,e2]
  have h6:crpE d.s (d.R.getD i default)=0:=by simpa using h6
  refine⟨⟨.inr rfl,by omega,by omega⟩,?_⟩
  refine fEq [6] (zps (d.R.take i) 117 (capB (d.R.getD i default).ds) (fun x=>x.ID==(d.R.getD i default).ID) (by rw[jQ]; omega) fun k _=>zmn _ _) rfl ⟨zoG d.R hi,⟨rfl,rfl,fun j hj=>?_⟩,trivial⟩ rfl ?_
  ·obtain rfl:j=0:=jac.1 hj
   exact dE _
  apply bY <;> intro h7
  ·have e2:day1E d i=6:=by unfold day1E; rw[kG (fun hh=>hh h6),kH h7]
   refine r1I rfl ?_
   rw[zaM ha (by rw[e2]; decide) h5,e2]
  have e2:day1E d i=0:=by unfold day1E; rw[kG (fun hh=>hh h6),kG (by rw[show ((d.R.take i).any fun x=>x.ID==(d.R.getD i default).ID)=false from h7]; decide)]
  refine⟨i6,?_⟩
  refine⟨i+1,⟨rfl,⟨obD d.ds rfl,trivial⟩,wq rfl⟩,⟨h5,fun j hj=>?_⟩,msr h5⟩
  by_cases e:j=i
  ·subst e; exact e2
  exact ha j (by omega)
 have h5:i=d.R.length:=by have:=dF h5; omega
 subst h5
 refine r1I rfl ?_
 rw[zbg ha]
def askE (d:Day) (ids:List Int):Int:=if dayE d≠0 then dayE d else if setB ids=false then 1 else if partB ids (sigL d.R)=false then 5 else 0
theorem zku (d:Day) (ids:List Int) (hn:d.R.length<=1000000) (hi:ids.length<=1000000):Spec PP 99 [d.v,.d (lI ids)] [.d (.int .i64 (askE d ids))]:=by
 refine sA Tryz.func99 ?_
 refine cP (zcQ d hn) rfl rfl ?_
 apply bY <;> intro h0
 ·refine r1I rfl ?_
  unfold askE; rw[kH (by simpa using h0)]
 have h0:dayE d=0:=by simpa using h0
 refine cP (zcP ids hi) rfl rfl ?_
 apply bY <;> intro h1
 ·have h1:setB ids=false:=by simpa using h1
  refine r1I rfl ?_
  unfold askE; rw[kG (fun hh=>hh h0),kH h1]
 have h1:setB ids=true:=by simpa using h1
 have hs:(sigL d.R).length<=1000000:=by rw[zbW]; exact jM (zck _) hn
 refine cR (zaD d hn) rfl rfl ?_
 refine cP (zeG ids (sigL d.R) hi hs) rfl rfl ?_
 apply bY <;> intro h2
 ·have h2:partB ids (sigL d.R)=false:=by simpa using h2
  refine r1I rfl ?_
  unfold askE; rw[kG (fun hh=>hh h0),kG (by rw[h1]; decide),kH h2]
 have h2:partB ids (sigL d.R)=true:=by simpa using h2
 refine r1I rfl ?_
 unfold askE; rw[kG (fun hh=>hh h0),kG (by rw[h1]; decide),kG (by rw[h2]; decide)]
def brn1 (ids:List Int) (x:Bool × Int × Int) (r:Rpt):Bool × Int × Int:=if ids.contains r.ID=true then (true,min (if x.1=true then x.2.1 else r.Tick) r.Tick,max (if x.1=true then x.2.2 else r.Tick) r.Tick) else x
def brnS (ids:List Int) (l:List Rpt):Bool × Int × Int:=l.foldl (brn1 ids) (false,0,0)
def brnD (d:Day) (ids:List Int):Brn:=⟨(brnS ids d.R).2.1,(brnS ids d.R).2.2,d.Rise⟩
theorem zcD (ids:List Int) (l:List Rpt) {i:Nat} (h:i<l.length):brnS ids (l.take (i+1))=brn1 ids (brnS ids (l.take i)) (l.getD i default):=by
 unfold brnS
 rw[zaL h default,jap]; rfl
theorem zgf (d:Day) (ids:List Int) (hn:d.R.length<=1000000) (hi:ids.length<=1000000):Spec PP 89 [d.v,.d (lI ids)] [(brnD d ids).v]:=by
 refine sA Tryz.func89 ?_
 refine lOf (σ:=Nat) (fun i=>([(1,.d (lI ids)),(2,.box 2 0),(4,.box 4 0),(5,.box 5 0),(6,.d (.bool (brnS ids (d.R.take i)).1)),(13,.d (lR d.R)),(14,.d (I d.R.length)),(15,.d (I i))],
   [(2,.box (d.ds.map AV.d)),(4,.box ([I 0,I 0,I 0].map AV.d)),(5,.box ([I (brnS ids (d.R.take i)).2.1,I (brnS ids (d.R.take i)).2.2,I d.Rise].map AV.d))])) (fun i=>i<=d.R.length) (fun i=>d.R.length - i) 0
  ⟨rfl,⟨obD d.ds rfl,obD [I 0,I 0,I 0] rfl,obD [I 0,I 0,I d.Rise] rfl,trivial⟩,wq rfl⟩ (jF _) fun i hi'=>?_
 have hi':i<=d.R.length:=hi'
 apply bY <;> intro h1
 ·have h1:i<d.R.length:=by have:=dT h1; omega
  have es:=zcD ids d.R h1
  refine⟨⟨rfl,by omega,by omega⟩,?_⟩
  refine cP (zet ids (d.R.getD i default).ID hi) rfl rfl ?_
  apply bY <;> intro h2
  ·have h2:ids.contains (d.R.getD i default).ID=false:=by simpa using h2
   have e:brnS ids (d.R.take (i+1))=brnS ids (d.R.take i):=by rw[es]; unfold brn1; rw[kG (by rw[h2]; decide)]
   refine⟨i6,?_⟩
   refine⟨i+1,⟨rfl,⟨obD d.ds rfl,obD [I 0,I 0,I 0] rfl,?_,trivial⟩,?_⟩,h1,msr h1⟩
   ·rw[e]; exact obD [I _,I _,I _] rfl
   rw[e]; exact wq rfl
  have h2:ids.contains (d.R.getD i default).ID=true:=by simpa using h2
  apply bY <;> intro h3
  ·have h3:(brnS ids (d.R.take i)).1=false:=by simpa using h3
   have e:brnS ids (d.R.take (i+1))=(true,min (d.R.getD i default).Tick (d.R.getD i default).Tick,max (d.R.getD i default).Tick (d.R.getD i default).Tick):=by rw[es]; unfold brn1; rw[kH h2,h3]; rfl
   refine oL [0,1,2,4,4003,5,6,7,8] (FzOb.fz [8] ⟨rfl,?_⟩)
   refine oL [0,1,2,3,4,5,6,7,10,4008,9,11,12,13] (FzOb.fz [8] ⟨rfl,?_⟩)
   refine⟨i6,?_⟩
   refine⟨i+1,⟨rfl,⟨obD d.ds rfl,obD [I 0,I 0,I 0] rfl,?_,trivial⟩,?_⟩,h1,msr h1⟩
   ·rw[e]; exact obD [I _,I _,I _] rfl
   rw[e]; exact wq rfl
  have h3:(brnS ids (d.R.take i)).1=true:=by simpa using h3
  have e:brnS ids (d.R.take (i+1))=(true,min (brnS ids (d.R.take i)).2.1 (d.R.getD i default).Tick,max (brnS ids (d.R.take i)).2.2 (d.R.getD i default).Tick):=by rw[es]; unfold brn1; rw[kH h2,kH h3,kH h3]
  refine oL [0,1,2,3,4,5,6,7,10,4008,9,11,12,13] (FzOb.fz [8] ⟨rfl,?_⟩)
  refine⟨i6,?_⟩
  refine⟨i+1,⟨rfl,⟨obD d.ds rfl,obD [I 0,I 0,I 0] rfl,?_,trivial⟩,?_⟩,h1,msr h1⟩
  ·rw[e]; exact obD [I _,I _,I _] rfl
  rw[e]; exact⟨avQ rfl,avQ rfl,avQ rfl,avQ rfl,avQ (jI (fun b=>AV.d (.bool b)) h3),avQ rfl,avQ rfl,avQ rfl,trivial⟩
 have h1:i=d.R.length:=by have:=dF h1; omega
 subst h1
 rw[jZ]
 exact⟨rtC (a:=4) rfl rfl rfl rfl rfl rfl (zaa _),trivial⟩
theorem zdQ (d:Day) (b:Brn) (hb:inR .i64 (b.To - b.From)):Spec PP 90 [d.v,b.v] [B (decide (b.To - b.From<=d.Long))]:=by
 refine sA Tryz.func90 ?_
 refine⟨hb,?_⟩
 exact r1B rfl rfl
structure DayOk (d:Day):Prop where
  s:svcE d.s=0
  rise:within d.Rise 0 200=true
  long:within d.Long 0 1440=true
  sg:(sigK d.R).length<=7
  bl:d.R.length<=10+(sigK d.R).length
  rp:∀ i,i<d.R.length->crpE d.s (d.R.getD i default)=0
  tw:∀ i,i<d.R.length->((d.R.take i).any fun x=>x.ID==(d.R.getD i default).ID)=false
theorem zaB {d:Day} (h:dayE d=0):DayOk d:=by
 unfold dayE at h
 split at h
 ·rename_i h1; exact absurd h h1
 rename_i h1
 split at h
 ·cases h
 rename_i h2
 split at h
 ·cases h
 rename_i h3
 have a:=zbf h
 have A:∀ i,i<d.R.length->crpE d.s (d.R.getD i default)=0/\((d.R.take i).any fun x=>x.ID==(d.R.getD i default).ID)=false:=fun i hi=>by
  have:=a i hi
  unfold day1E at this
  split at this
  ·rename_i h4; exact absurd this h4
  rename_i h4
  split at this
  ·cases this
  rename_i h5
  exact⟨jL h4,by simpa using h5⟩
 have h2:within d.Rise 0 200=true/\within d.Long 0 1440=true:=by
  cases e1:within d.Rise 0 200 <;> cases e2:within d.Long 0 1440 <;> simp_all
 exact⟨jL h1,h2.1,h2.2,by omega,by omega,fun i hi=>(A i hi).1,fun i hi=>(A i hi).2⟩
theorem DayOk.n {d:Day} (h:DayOk d):d.R.length<=17:=by have:=h.sg; have:=h.bl; omega
theorem ziy {n lo hi:Int} (h:within n lo hi=true):lo<=n/\n<=hi:=by
 unfold within at h
 simpa using h
theorem DayOk.tick {d:Day} (h:DayOk d) {i:Nat} (hi:i<d.R.length):0<=(d.R.getD i default).Tick/\(d.R.getD i default).Tick<=1048576:=by
 have h1:=(zo5 (h.rp i hi)).2.2
 unfold frmB frmC at h1
 have:within (d.R.getD i default).Tick 0 1048576=true:=by
  cases e:within (d.R.getD i default).Tick 0 1048576 with
  | true=>rfl
  | false=>rw[e] at h1; simp at h1
 exact ziy this
theorem zlb {d:Day} (h:DayOk d) (ids:List Int):∀ i,i<=d.R.length->0<=(brnS ids (d.R.take i)).2.1/\(brnS ids (d.R.take i)).2.1<=1048576/\0<=(brnS ids (d.R.take i)).2.2/\(brnS ids (d.R.take i)).2.2<=1048576
 | 0,_=>by simp[brnS]
 | i+1,hi=>by
  obtain⟨a1,a2,a3,a4⟩:=zlb h ids i (by omega)
  obtain⟨b1,b2⟩:=h.tick (show i<d.R.length by omega)
  rw[zcD ids d.R (by omega)]
  unfold brn1
  split
  ·show 0<=min _ _/\min _ _<=_/\0<=max _ _/\max _ _<=_
   split <;> omega
  exact⟨a1,a2,a3,a4⟩
theorem zd6 {d:Day} (h:DayOk d) (ids:List Int):inR .i64 ((brnD d ids).To - (brnD d ids).From):=by
 have:=zlb h ids d.R.length (jE _)
 rw[jZ] at this
 show inR .i64 ((brnS ids d.R).2.2 - (brnS ids d.R).2.1)
 exact i6
def plsD (d:Day) (ids:List Int):List Place:=if (brnD d ids).To - (brnD d ids).From<=d.Long then (plcR d.s (brnD d ids) (lstD d ids)).1 else []
theorem zh4 {d:Day} (h:DayOk d) (ids:List Int) (hi:ids.length<=1000000):Spec PP 56 [d.v,.d (lI ids)] [.d (lP (plsD d ids))]:=by
 have hn:=h.n
 refine sA Tryz.func56 ?_
 refine cP (zgf d ids (by omega) hi) rfl rfl ?_
 refine cP (zdQ d (brnD d ids) (zd6 h ids)) rfl rfl ?_
 apply bY <;> intro h1
 ·have h1:¬ (brnD d ids).To - (brnD d ids).From<=d.Long:=by simpa using h1
  have e:plsD d ids=[]:=by unfold plsD; rw[kG h1]
  rw[e]
  exact⟨⟨_,_,_,_,rfl,rfl,.inl rfl⟩,trivial⟩
 have h1:(brnD d ids).To - (brnD d ids).From<=d.Long:=by simpa using h1
 have e:plsD d ids=(plcR d.s (brnD d ids) (lstD d ids)).1:=by unfold plsD; rw[kH h1]
 rw[e]
 refine oN 12 ?_
 refine oRo (zge d ids (by omega) hi) rfl rfl ?_
 refine oRo (zmf d.s (brnD d ids) (lstD d ids)) rfl rfl ?_
 exact⟨dE _,trivial⟩
def offS (a i:Nat):Nat:=a &&& (127 - 2 ^ i)
def onS (a i:Nat):Nat:=a ||| 2 ^ i
theorem allL {n m:Nat} {P:Nat->Nat->Bool} (h:((List.range n).all fun a=>(List.range m).all (P a))=true) {a i:Nat} (ha:a<n) (hi:i<m):P a i=true:=
 jC.1 (jC.1 h a (kJ.2 ha)) i (kJ.2 hi)
theorem bShl {i:Nat} (hi:i<=7):IntKind.wrap .i64 (1 * 2 ^ (min ((i:Nat):Int).toNat 64))=((2 ^ i:Nat):Int):=by
 have:∀ i,i<8->IntKind.wrap .i64 (1 * 2 ^ (min ((i:Nat):Int).toNat 64))=((2 ^ i:Nat):Int):=by decide
 exact this i (by omega)
theorem bOff {a i:Nat} (ha:a<128) (hi:i<7):IntKind.wrap .i64 ((BitVec.ofInt 64 (a:Int) &&& ~~~ BitVec.ofInt 64 (IntKind.wrap .i64 (1 * 2 ^ (min ((i:Nat):Int).toNat 64)))).toNat:Int)=((offS a i:Nat):Int):=by
 have:=allL (n:=128) (m:=7) (P:=fun a i=>decide (IntKind.wrap .i64 ((BitVec.ofInt 64 (a:Int) &&& ~~~ BitVec.ofInt 64 (IntKind.wrap .i64 (1 * 2 ^ (min ((i:Nat):Int).toNat 64)))).toNat:Int)=((offS a i:Nat):Int))) (by decide +kernel) ha hi
 exact kN this
theorem bOn {a i:Nat} (ha:a<128) (hi:i<7):IntKind.wrap .i64 ((BitVec.ofInt 64 (a:Int) ||| BitVec.ofInt 64 (IntKind.wrap .i64 (1 * 2 ^ (min ((i:Nat):Int).toNat 64)))).toNat:Int)=((onS a i:Nat):Int):=by
 have:=allL (n:=128) (m:=7) (P:=fun a i=>decide (IntKind.wrap .i64 ((BitVec.ofInt 64 (a:Int) ||| BitVec.ofInt 64 (IntKind.wrap .i64 (1 * 2 ^ (min ((i:Nat):Int).toNat 64)))).toNat:Int)=((onS a i:Nat):Int))) (by decide +kernel) ha hi
 exact kN this
theorem bHas {a i:Nat} (ha:a<128) (hi:i<7):(IntKind.wrap .i64 ((BitVec.ofInt 64 ((a:Int).fdiv (2 ^ (min ((i:Nat):Int).toNat 64))) &&& BitVec.ofInt 64 1).toNat:Int)==1)=a.testBit i:=by
 have:=allL (n:=128) (m:=7) (P:=fun a i=>decide ((IntKind.wrap .i64 ((BitVec.ofInt 64 ((a:Int).fdiv (2 ^ (min ((i:Nat):Int).toNat 64))) &&& BitVec.ofInt 64 1).toNat:Int)==1)=a.testBit i)) (by decide +kernel) ha hi
 exact kN this
theorem zqf {a i:Nat} (ha:a<128) (hi:i<7):onS a i<128:=Nat.or_lt_two_pow (n:=7) ha (Nat.pow_lt_pow_right (by decide) hi)
def membA (ids:List Int) (set i:Nat):List Int:=((List.range i).filter (set.testBit ·)).map (ids.getD · 0)
def memb (ids:List Int) (set:Nat):List Int:=membA ids set ids.length
theorem zbG {ids:List Int} {set i:Nat} (h:set.testBit i=true):membA ids set (i+1)=membA ids set i ++ [ids.getD i 0]:=by
 unfold membA
 rw[jad,qH,wA h,jT]; rfl
theorem zcr {ids:List Int} {set i:Nat} (h:set.testBit i=false):membA ids set (i+1)=membA ids set i:=by
 unfold membA
 rw[jad,qH,wB (by rw[h]; decide)]; simp
theorem zaH (ids:List Int) (set i:Nat):(membA ids set i).length<=i:=by
 unfold membA
 rw[kV]
 exact jM (jar _ _) (by rw[List.length_range]; exact jE _)
theorem zdR (ids:List Int) (set:Nat) (hn:ids.length<=7) (hs:set<128):Spec PP 81 [.d (lI ids),N (set:Int)] [.d (lI (memb ids set))]:=by
 refine sA Tryz.func81 ?_
 refine lOf (σ:=Nat) (fun i=>([(1,.d (I set)),(5,.own 5),(8,.d (lI ids)),(9,.d (I ids.length)),(10,.d (I i))],[(5,.row 3 1 (membA ids set i).length (rowI (membA ids set i)))])) (fun i=>i<=ids.length) (fun i=>ids.length - i) 0
  ⟨rfl,⟨obR rfl ⟨rfl,.inl rfl⟩,trivial⟩,wq rfl⟩ (jF _) fun i hi=>?_
 have hi:i<=ids.length:=hi
 have hl:=zaH ids set i
 apply bY <;> intro h1
 ·have h1:i<ids.length:=by have:=dT h1; omega
  refine⟨⟨rfl,by omega,by omega⟩,?_⟩
  refine⟨by omega,?_⟩
  apply bY <;> intro h2
  ·have h2:set.testBit i=true:=by rw[<- bHas hs (show i<7 by omega)]; exact h2
   refine⟨⟨.inr rfl,by unfold maxLen; omega,by show ((membA ids set i).length+1) * 8<=140737488355328; omega⟩,?_⟩
   refine⟨i6,?_⟩
   refine⟨i+1,⟨rfl,⟨obR rfl ?_,trivial⟩,wq rfl⟩,h1,msr h1⟩
   rw[zbG h2]
   exact zop rfl
  have h2:set.testBit i=false:=by rw[<- bHas hs (show i<7 by omega)]; exact h2
  refine⟨i6,?_⟩
  refine⟨i+1,⟨rfl,⟨obR rfl ?_,trivial⟩,wq rfl⟩,h1,msr h1⟩
  rw[zcr h2]
  exact dE _
 have h1:i=ids.length:=by have:=dF h1; omega
 subst h1
 exact⟨⟨_,_,_,_,rfl,rfl,.inr ⟨rfl,fun i _ j _=>dE _⟩⟩,trivial⟩
abbrev celD (d:Day) (set:Nat):List Place:=plsD d (memb (sigL d.R) set)
abbrev keyN (ks:List Nat):List (List Int):=ks.map fun k=>[((k:Nat):Int)]
abbrev cmap (d:Day) (ks:List Nat):D:=.mp 1 (keyN ks) fun j=>lP (celD d (ks.getD j 0))
abbrev lkV (d:Day) (ks:List Nat):V1:=.agg (d.ds ++ [lI (sigL d.R),cmap d ks])
def fitK (d:Day) (ks:List Nat) (set:Nat):Bool:=ks.contains set && decide (0<(celD d set).length)
theorem idxN:∀ (ks:List Nat) (k:Nat),(keyN ks).idxOf [((k:Nat):Int)]=ks.idxOf k
 | [],_=>rfl
 | a :: r,k=>by
  show List.idxOf _ ([((a:Nat):Int)] :: keyN r)=_
  rw[List.idxOf_cons,List.idxOf_cons,idxN r k]
  by_cases h:a=k
  ·subst h; simp
  have h1:([((a:Nat):Int)] == [((k:Nat):Int)])=false:=by simp only[jao,ne_eq,jay,and_true]; omega
  have h2:(a==k)=false:=by simpa using h
  rw[h1,h2]
theorem znm (d:Day) (ks:List Nat) (k:Nat):D.eqv (lkD (keyN ks) (fun j=>lP (celD d (ks.getD j 0))) [((k:Nat):Int)] .nil) (lP (if ks.contains k=true then celD d k else [])):=by
 unfold lkD
 rw[idxN,kV]
 by_cases h:ks.contains k=true
 ·have hm:k∈ks:=kD.1 h
  have hl:=jbp.2 hm
  rw[kH hl,kH h]
  have:ks.getD (ks.idxOf k) 0=k:=by
   rw[hX,hZ hl]
   exact List.getElem_idxOf hl
  show D.eqv (lP (celD d (ks.getD (ks.idxOf k) 0))) _
  rw[this]
  exact dE _
 have hm:k∉ks:=fun hm=>h (kD.2 hm)
 rw[kG (fun hl=>hm (jbp.1 hl)),kG h]
 rfl
theorem zeH (d:Day) (ks:List Nat) (set:Nat):Spec PP 86 [lkV d ks,N (set:Int)] [B (fitK d ks set)]:=by
 refine sA Tryz.func86 ?_
 refine⟨⟨kInt,rfl⟩,_,znm d ks set,?_⟩
 refine r1B rfl ?_
 unfold fitK
 by_cases h:ks.contains set=true
 ·rw[kH h,h,kT]
  exact qO.2 (by omega)
 rw[kG h,qN.2 h]; rfl
def parK (d:Day) (ks:List Nat) (set i:Nat):Bool:=(offS set i==set) || (offS set i==0) || fitK d ks (offS set i)
def partK (d:Day) (ks:List Nat) (set:Nat):Bool:=(List.range (sigL d.R).length).all (parK d ks set)
def groK (d:Day) (ks:List Nat) (set i:Nat):Bool:=(onS set i != set) && fitK d ks (onS set i)
def growK (d:Day) (ks:List Nat) (set:Nat):Bool:=(List.range (sigL d.R).length).any (groK d ks set)
theorem neT {a b:Nat} (h:((a:Int) != (b:Int))=true):¬ a=b:=fun e=>by subst e; simp at h
theorem neF {a b:Nat} (h:((a:Int) != (b:Int))=false):a=b:=by
 have:(a:Int)=b:=by simpa using h
 omega
theorem sig7 {d:Day} (h:DayOk d):(sigL d.R).length<=7:=by rw[zbW]; exact h.sg
theorem zkq (d:Day) (ks:List Nat) (set:Nat) (hn:(sigL d.R).length<=7) (hs:set<128):Spec PP 88 [lkV d ks,N (set:Int)] [B (partK d ks set)]:=by
 refine sA Tryz.func88 ?_
 refine lOf (σ:=Nat) (fun i=>([(1,.d (I set)),(2,.box 2 0),(8,.d (lI (sigL d.R))),(9,.d (I (sigL d.R).length)),(10,.d (I i))],[(2,.box ((d.ds ++ [lI (sigL d.R),cmap d ks]).map AV.d))])) (fun i=>i<=(sigL d.R).length /\ ∀ j,j<i->parK d ks set j=true) (fun i=>(sigL d.R).length - i) 0
  ⟨rfl,⟨obD (d.ds ++ [lI (sigL d.R),cmap d ks]) rfl,trivial⟩,wq rfl⟩ z0L fun i hi=>?_
 obtain⟨hi,ha⟩:=hi
 apply bY <;> intro h1
 ·have h1:i<(sigL d.R).length:=by have:=dT h1; omega
  have eo:=bOff hs (show i<7 by omega)
  refine⟨by omega,?_⟩
  have next:parK d ks set i=true -> ∀ j,j<i+1->parK d ks set j=true:=fun e j hj=>by
   by_cases q:j=i
   ·subst q; exact e
   exact ha j (by omega)
  apply bY <;> intro h2
  ·have h2:((offS set i:Int) != set)=true:=by rw[<- eo]; exact h2
   have h2:¬ offS set i=set:=neT h2
   repeat first | apply sT | apply sF
   apply bY <;> intro h3
   ·have h3:((offS set i:Int) != 0)=true:=by rw[<- eo]; exact h3
    have h3:¬ offS set i=0:=neT (b:=0) h3
    repeat first | apply sT | apply sF
    refine fEq [] (zeH d ks (offS set i)) rfl ⟨zaa _,⟨rfl,eo⟩,trivial⟩ rfl ?_
    repeat first | apply sT | apply sF
    have ep:parK d ks set i=fitK d ks (offS set i):=by unfold parK; simp[h2,h3]
    apply bY <;> intro h4
    ·have h4:fitK d ks (offS set i)=false:=by simpa using h4
     refine r1B rfl ?_
     symm
     rw[qN]
     intro hh
     have:=jC.1 hh i (kJ.2 h1)
     rw[ep,h4] at this; cases this
    have h4:fitK d ks (offS set i)=true:=by simpa using h4
    refine⟨i6,?_⟩
    exact⟨i+1,⟨rfl,⟨obD (d.ds ++ [lI (sigL d.R),cmap d ks]) rfl,trivial⟩,wq rfl⟩,⟨h1,next (by rw[ep,h4])⟩,msr h1⟩
   have h3:((offS set i:Int) != 0)=false:=by rw[<- eo]; exact h3
   have h3:offS set i=0:=neF (b:=0) h3
   repeat first | apply sT | apply sF
   refine⟨i6,?_⟩
   exact⟨i+1,⟨rfl,⟨obD (d.ds ++ [lI (sigL d.R),cmap d ks]) rfl,trivial⟩,wq rfl⟩,⟨h1,next (by unfold parK; simp[h3])⟩,msr h1⟩
  have h2:((offS set i:Int) != set)=false:=by rw[<- eo]; exact h2
  have h2:offS set i=set:=neF h2
  repeat first | apply sT | apply sF
  refine⟨i6,?_⟩
  exact⟨i+1,⟨rfl,⟨obD (d.ds ++ [lI (sigL d.R),cmap d ks]) rfl,trivial⟩,wq rfl⟩,⟨h1,next (by unfold parK; simp[h2])⟩,msr h1⟩
 have h1:i=(sigL d.R).length:=by have:=dF h1; omega
 subst h1
 refine r1B rfl ?_
 exact (jC.2 fun j hj=>ha j (kJ.1 hj)).symm
theorem zoL (d:Day) (ks:List Nat) (set:Nat) (hn:(sigL d.R).length<=7) (hs:set<128):Spec PP 87 [lkV d ks,N (set:Int)] [B (growK d ks set)]:=by
 refine sA Tryz.func87 ?_
 refine lOf (σ:=Nat) (fun i=>([(1,.d (I set)),(2,.box 2 0),(8,.d (lI (sigL d.R))),(9,.d (I (sigL d.R).length)),(10,.d (I i))],[(2,.box ((d.ds ++ [lI (sigL d.R),cmap d ks]).map AV.d))])) (fun i=>i<=(sigL d.R).length /\ ∀ j,j<i->groK d ks set j=false) (fun i=>(sigL d.R).length - i) 0
  ⟨rfl,⟨obD (d.ds ++ [lI (sigL d.R),cmap d ks]) rfl,trivial⟩,wq rfl⟩ z0L fun i hi=>?_
 obtain⟨hi,ha⟩:=hi
 apply bY <;> intro h1
 ·have h1:i<(sigL d.R).length:=by have:=dT h1; omega
  have eo:=bOn hs (show i<7 by omega)
  refine⟨by omega,?_⟩
  have next:groK d ks set i=false -> ∀ j,j<i+1->groK d ks set j=false:=fun e j hj=>by
   by_cases q:j=i
   ·subst q; exact e
   exact ha j (by omega)
  apply bY <;> intro h2
  ·have h2:((onS set i:Int) != set)=true:=by rw[<- eo]; exact h2
   have h2:¬ onS set i=set:=neT h2
   refine fEq [] (zeH d ks (onS set i)) rfl ⟨zaa _,⟨rfl,eo⟩,trivial⟩ rfl ?_
   repeat first | apply sT | apply sF
   have ep:groK d ks set i=fitK d ks (onS set i):=by unfold groK; simp[h2]
   apply bY <;> intro h4
   ·have h4:fitK d ks (onS set i)=true:=h4
    refine r1B rfl ?_
    exact (kL.2 ⟨i,kJ.2 h1,by rw[ep,h4]⟩).symm
   have h4:fitK d ks (onS set i)=false:=h4
   refine⟨i6,?_⟩
   exact⟨i+1,⟨rfl,⟨obD (d.ds ++ [lI (sigL d.R),cmap d ks]) rfl,trivial⟩,wq rfl⟩,⟨h1,next (by rw[ep,h4])⟩,msr h1⟩
  have h2:((onS set i:Int) != set)=false:=by rw[<- eo]; exact h2
  have h2:onS set i=set:=neF h2
  repeat first | apply sT | apply sF
  refine⟨i6,?_⟩
  exact⟨i+1,⟨rfl,⟨obD (d.ds ++ [lI (sigL d.R),cmap d ks]) rfl,trivial⟩,wq rfl⟩,⟨h1,next (by unfold groK; simp[h2])⟩,msr h1⟩
 have h1:i=(sigL d.R).length:=by have:=dF h1; omega
 subst h1
 refine r1B rfl ?_
 symm
 rw[qN]
 intro hh
 obtain⟨j,hj,e⟩:=kL.1 hh
 rw[ha j (kJ.1 hj)] at e; cases e
def keysD (d:Day):Nat->List Nat
 | 0=>[]
 | m+1=>if m≠0/\partK d (keysD d m) m=true then keysD d m ++ [m] else keysD d m
theorem zds (d:Day):∀ (m:Nat),∀ k∈keysD d m,0<k/\k<m
 | 0,k,h=>by cases h
 | m+1,k,h=>by
  unfold keysD at h
  split at h
  ·rename_i hm
   rcases k9.1 h with h | h
   ·have:=zds d m k h; omega
   obtain rfl:=kO.1 h; omega
  have:=zds d m k h; omega
theorem zon {d:Day} {ks:List Nat} {m:Nat} (h:m∉ks):D.eqv (.mp 1 (putK (keyN ks) [((m:Nat):Int)]) (putF (keyN ks) (fun j=>lP (celD d (ks.getD j 0))) [((m:Nat):Int)] (lP (celD d m)))) (cmap d (ks ++ [m])):=by
 have hi:(keyN ks).idxOf [((m:Nat):Int)]=ks.length:=by rw[idxN]; exact List.idxOf_eq_length h
 have hn:¬ (keyN ks).idxOf [((m:Nat):Int)]<(keyN ks).length:=by rw[hi,kV]; exact Nat.lt_irrefl _
 refine⟨rfl,?_,fun j hj=>?_⟩
 ·unfold putK
  rw[kG hn]
  show keyN ks++_=keyN (ks ++ [m])
  rw[keyN,keyN,jT]; rfl
 unfold putF
 rw[hi]
 by_cases e:j=ks.length
 ·subst e
  rw[kH rfl]
  show D.eqv _ (lP (celD d ((ks ++ [m]).getD ks.length 0)))
  rw[hX,jK (jE _),kE]
  exact dE _
 have hj:j<ks.length:=by
  unfold putK at hj
  rw[kG hn,jR,kV] at hj
  simp at hj; omega
 rw[kG e]
 show D.eqv (lP (celD d (ks.getD j 0))) (lP (celD d ((ks ++ [m]).getD j 0)))
 rw[hX,hX,jJ hj]
 exact dE _
theorem zit {s:St} {ob:Nat->Option Ob}:∀ (cs:List AV),avles s ob cs (List.replicate cs.length .any)
 | []=>trivial
 | _ :: r=>⟨by unfold AVle; trivial,zit r⟩
theorem zav {s:St} {ob:Nat->Option Ob} {cs:List AV} {n:Nat} {o:Option Ob} (h:o=some (.box cs)) (hn:cs.length=n):Oble s ob o (.box (List.replicate n .any)):=by
 subst h; subst hn; exact zit cs
abbrev lkA (d:Day):List AV:=d.ds.map AV.d ++ [.d (lI (sigL d.R)),.own 8]
theorem zns {d:Day} (h:DayOk d):Spec PP 71 [d.v] [lkV d (keysD d (2 ^ (sigL d.R).length))]:=by
 have hn:=h.n
 have h7:=sig7 h
 refine zbV [7] Tryz.func71 rfl (by kernel_rfl) rfl ?_
 refine oL [0,1,2,2003,4,5,6] (fNo ?_)
 refine oRo (zaD d (by omega)) rfl rfl ?_
 refine⟨rfl,?_⟩
 refine lOf (σ:=Nat) (fun m=>([(1,.box 1 0),(2,.box 2 0),(3,.box 3 0),(4,.d (I m))],[(1,.box (d.ds.map AV.d)),(2,.box (List.replicate 12 .any)),(3,.box (lkA d)),(8,.mp 1 (keyN (keysD d m)) fun j=>lP (celD d ((keysD d m).getD j 0)))])) (fun m=>1<=m/\m<=2 ^ (sigL d.R).length) (fun m=>2 ^ (sigL d.R).length - m) 1
  ⟨rfl,⟨obD d.ds rfl,zav rfl rfl,obX rfl,obMp rfl ⟨rfl,rfl,fun j hj=>absurd hj (qI _)⟩,trivial⟩,avQ rfl,avQ rfl,avQ rfl,avQ rfl,trivial⟩ ⟨jE _,Nat.one_le_two_pow⟩ fun m hm=>?_
 obtain⟨hm,hm2⟩:=hm
 have hp:2 ^ (sigL d.R).length<=2 ^ 7:=wE (by decide) h7
 have es:=bShl h7
 refine⟨by omega,?_⟩
 apply bY <;> intro h1
 ·have h1:m<2 ^ (sigL d.R).length:=by
   have h1:(m:Int)<((2 ^ (sigL d.R).length:Nat):Int):=by rw[<- es]; exact dT h1
   omega
  refine cP (zkq d (keysD d m) m h7 (by omega)) rfl rfl ?_
  apply bY <;> intro h2
  ·have h2:partK d (keysD d m) m=true:=h2
   have e:keysD d (m+1)=keysD d m ++ [m]:=by rw[keysD,kH ⟨by omega,h2⟩]
   refine oN 10 ?_
   refine oRo (zdR (sigL d.R) m h7 (by omega)) rfl rfl ?_
   refine oRo (zh4 h (memb (sigL d.R) m) (jM (zaH _ _ _) (by omega))) rfl rfl ?_
   refine⟨⟨kInt,rfl⟩,?_⟩
   refine⟨i6,?_⟩
   refine⟨m+1,⟨rfl,⟨obD d.ds rfl,zav rfl rfl,obX rfl,obMp rfl ?_,trivial⟩,wq rfl⟩,⟨by omega,h1⟩,(show 2 ^ (sigL d.R).length - (m+1)<2 ^ (sigL d.R).length - m by omega)⟩
   rw[e]
   exact zon fun hm=>by have:=zds d m m hm; omega
  have h2:partK d (keysD d m) m=false:=h2
  have e:keysD d (m+1)=keysD d m:=by rw[keysD,kG fun hh=>by rw[h2] at hh; cases hh.2]
  refine⟨i6,?_⟩
  refine⟨m+1,⟨rfl,⟨obD d.ds rfl,zav rfl rfl,obX rfl,obMp rfl ?_,trivial⟩,wq rfl⟩,⟨by omega,h1⟩,(show 2 ^ (sigL d.R).length - (m+1)<2 ^ (sigL d.R).length - m by omega)⟩
  rw[e]
  exact dE _
 have h1:m=2 ^ (sigL d.R).length:=by
  have h1:¬ (m:Int)<((2 ^ (sigL d.R).length:Nat):Int):=by rw[<- es]; exact dF h1
  omega
 subst h1
 refine kAt [(2,.box 2 0),(3,.box 3 0)] [(2,.box (List.replicate 12 .any)),(3,.box ((d.ds ++ [lI (sigL d.R),cmap d (keysD d (2 ^ (sigL d.R).length))]).map AV.d))]
  ⟨rfl,⟨zav rfl rfl,⟨dE _,dE _,dE _,dE _,dE _,dE _,dE _,dE _,dE _,dE _,dE _,⟨rfl,_,_,_,rfl,dE _⟩,trivial⟩,trivial⟩,wq rfl⟩ ?_
 exact⟨rtC (a:=2) rfl rfl rfl rfl rfl rfl (zaa _),trivial⟩
abbrev ksD (d:Day):List Nat:=keysD d (2 ^ (sigL d.R).length)
theorem ordC (a b:Int):(ord a b = -1/\a<b) \/ (ord a b=1/\b<a) \/ (ord a b=0/\a=b):=by
 unfold ord
 by_cases h1:a<b
 ·exact .inl ⟨kH h1,h1⟩
 by_cases h2:b<a
 ·exact .inr (.inl ⟨by rw[kG h1,kH h2],h2⟩)
 exact .inr (.inr ⟨by rw[kG h1,kG h2],by omega⟩)
def cmpL:List Int->List Int->Int
 | [],[]=>0
 | [],_ :: _=>-1
 | _ :: _,[]=>1
 | a :: r,b :: q=>if ord a b≠0 then ord a b else cmpL r q
theorem zgv:∀ a,cmpL a a=0
 | []=>rfl
 | a :: r=>by
  have:ord a a=0:=by rcases ordC a a with⟨_,h⟩ | ⟨_,h⟩ | ⟨h,_⟩ <;> omega
  rw[cmpL,kG (by rw[this]; simp),zgv r]
theorem cmpL_cases:∀ a b,(cmpL a b = -1/\cmpL b a=1) \/ (cmpL a b=1/\cmpL b a = -1) \/ (cmpL a b=0/\a=b)
 | [],[]=>.inr (.inr ⟨rfl,rfl⟩)
 | [],_ :: _=>.inl ⟨rfl,rfl⟩
 | _ :: _,[]=>.inr (.inl ⟨rfl,rfl⟩)
 | a :: r,b :: q=>by
  unfold cmpL
  rcases ordC a b with⟨e,h⟩ | ⟨e,h⟩ | ⟨e,h⟩ <;> rcases ordC b a with⟨e',h'⟩ | ⟨e',h'⟩ | ⟨e',h'⟩ <;> first | omega | skip
  subst h
  rw[kG (by rw[e]; simp),kG (by rw[e]; simp)]
  rcases cmpL_cases r q with h | h | ⟨h,e⟩
  ·exact .inl h
  ·exact .inr (.inl h)
  exact .inr (.inr ⟨h,by rw[e]⟩)
theorem zcT:∀ a b c,cmpL a b = -1->cmpL b c = -1->cmpL a c = -1
 | [],[],_,h,_=>by cases h
 | [],_ :: _,[],_,h=>by cases h
 | [],_ :: _,_ :: _,_,_=>rfl
 | _ :: _,[],_,h,_=>by cases h
 | _ :: _,_ :: _,[],_,h=>by cases h
 | a :: r,b :: q,c :: p,h1,h2=>by
  unfold cmpL at h1 h2 ⊢
  rcases ordC a b with⟨e,h⟩ | ⟨e,h⟩ | ⟨e,h⟩ <;> rcases ordC b c with⟨e',h'⟩ | ⟨e',h'⟩ | ⟨e',h'⟩ <;> rcases ordC a c with⟨e2,h3⟩ | ⟨e2,h3⟩ | ⟨e2,h3⟩ <;> first | omega | skip
  all_goals rw[e] at h1; rw[e'] at h2; rw[e2]
  all_goals first | rfl | (simp at h1; done) | (simp at h2; done) | skip
  simp only[ne_eq,jaF,jaz] at h1 h2 ⊢
  exact zcT r q p h1 h2
theorem swoL {α:Type} (key:α->List Int):SWO (ltOf fun x y:α=>cmpL (key x) (key y)):=by
 have lt:∀ x y:α,ltOf (fun x y:α=>cmpL (key x) (key y)) x y=decide (cmpL (key x) (key y)<0):=fun _ _=>rfl
 have iff:∀ a b,cmpL a b<0 ↔ cmpL a b = -1:=fun a b=>by rcases cmpL_cases a b with⟨h,_⟩ | ⟨h,_⟩ | ⟨h,_⟩ <;> omega
 refine⟨fun x=>?_,fun x y z h1 h2=>?_,fun x y z h1 h2=>?_⟩
 ·rw[lt,zgv]; rfl
 ·rw[lt,kA,iff] at *
  exact zcT _ _ _ h1 h2
 rw[lt,jaZ,iff] at *
 intro h3
 rcases cmpL_cases (key x) (key y) with⟨h,_⟩ | ⟨_,h⟩ | ⟨_,h⟩
 ·exact h1 h
 ·exact h2 (zcT _ _ _ h h3)
 rw[h] at h3; exact h2 h3
theorem zgw {a b:List Int} (h1:decide (cmpL a b<0)=false) (h2:decide (cmpL b a<0)=false):a=b:=by
 rw[jaZ] at h1 h2
 rcases cmpL_cases a b with⟨h,_⟩ | ⟨_,h⟩ | ⟨_,h⟩
 ·omega
 ·omega
 exact h
theorem zqK (a b:List Int) (ha:a.length<=1000000) (hb:b.length<=1000000):SpecD PP 148 [.d (lI a),.d (lI b)] [N (cmpL a b)]:=by
 refine zbu Tryz.func148 rfl (by kernel_rfl) rfl ?_
 refine lOf (σ:=Nat) (fun i=>([(0,.d (lI a)),(1,.d (lI b)),(9,.d (lI a)),(10,.d (I a.length)),(11,.d (I i))],[])) (fun i=>i<=a.length/\i<=b.length/\cmpL (a.drop i) (b.drop i)=cmpL a b) (fun i=>a.length - i) 0
  ⟨rfl,trivial,wq rfl⟩ ⟨jF _,jF _,rfl⟩ fun i hi=>?_
 obtain⟨hi,hj,he⟩:=hi
 apply bY <;> intro h1
 ·have h1:i<a.length:=by have:=dT h1; omega
  have da:a.drop i=a.getD i 0 :: a.drop (i+1):=by rw[kZ h1,hX,hZ h1]; rfl
  refine⟨⟨rfl,by omega,by omega⟩,?_⟩
  apply bY <;> intro h2
  ·have h2:b.length<=i:=by have:(b.length:Int)<=i:=dT h2; omega
   have db:b.drop i=[]:=List.drop_eq_nil_iff.2 h2
   rw[da,db] at he
   exact r1I rfl he
  have h2:i<b.length:=by have:¬ (b.length:Int)<=i:=dF h2; omega
  have db:b.drop i=b.getD i 0 :: b.drop (i+1):=by rw[kZ h2,hX,hZ h2]; rfl
  refine⟨⟨rfl,by omega,by omega⟩,?_⟩
  refine cP (zqL (a.getD i 0) (b.getD i 0)) rfl rfl ?_
  rw[da,db,cmpL] at he
  apply bY <;> intro h3
  ·have h3:ord (a.getD i 0) (b.getD i 0)≠0:=by simpa using h3
   rw[kH h3] at he
   exact r1I rfl he
  have h3:ord (a.getD i 0) (b.getD i 0)=0:=by simpa using h3
  rw[kG (by rw[h3]; simp)] at he
  refine⟨i6,?_⟩
  exact⟨i+1,⟨rfl,trivial,wq rfl⟩,⟨h1,h2,he⟩,msr h1⟩
 have h1:i=a.length:=by have:=dF h1; omega
 subst h1
 rw[ja9] at he
 apply bY <;> intro h2
 ·have h2:a.length<b.length:=by have:(a.length:Int)<b.length:=dT h2; omega
  have db:b.drop a.length=b.getD a.length 0 :: b.drop (a.length+1):=by rw[kZ h2,hX,hZ h2]; rfl
  rw[db] at he
  exact r1I rfl he
 have h2:b.length<=a.length:=by have:¬ (a.length:Int)<b.length:=dF h2; omega
 rw[List.drop_eq_nil_iff.2 h2] at he
 exact r1I rfl he
theorem znD (a b:List Int) (ha:a.length<=1000000) (hb:b.length<=1000000):SpecD PP 95 [.d (lI a),.d (lI b)] [N (cmpL a b)]:=by
 refine zbu Tryz.func95 rfl (by kernel_rfl) rfl ?_
 refine cP (zqK a b ha hb) rfl rfl ?_
 exact r1I rfl rfl
structure Fit where
  IDs:List Int
  At:Place
  deriving Inhabited
structure Mis where
  IDs:List Int
  R:List Rsn
  deriving Inhabited
def Fit.at (x:Fit):Nat->D
 | 0=>lI x.IDs
 | 1=>I x.At.X
 | _=>I x.At.Y
def Mis.at (x:Mis):Nat->D
 | 0=>lI x.IDs
 | _=>lRs x.R
abbrev Fit.v (x:Fit):V1:=.agg [lI x.IDs,I x.At.X,I x.At.Y]
abbrev Mis.v (x:Mis):V1:=.agg [lI x.IDs,lRs x.R]
abbrev lFt (l:List Fit):D:=.slc 3 l.length fun i=>(l.getD i default).at
abbrev lMs (l:List Mis):D:=.slc 2 l.length fun i=>(l.getD i default).at
def FtD:Dats Fit 3 where
  lst x:=[lI x.IDs,I x.At.X,I x.At.Y]
  len _:=rfl
  at_ x:=x.at
  hat x j hj:=by
    match j,hj with
    | 0,_=>rfl
    | 1,_=>rfl
    | 2,_=>rfl
def MsD:Dats Mis 2 where
  lst x:=[lI x.IDs,lRs x.R]
  len _:=rfl
  at_ x:=x.at
  hat x j hj:=by
    match j,hj with
    | 0,_=>rfl
    | 1,_=>rfl
theorem zmm (x y:Fit) (hx:x.IDs.length<=1000000) (hy:y.IDs.length<=1000000):SpecD PP 94 [x.v,y.v] [N (cmpL x.IDs y.IDs)]:=by
 refine zbu Tryz.func94 rfl (by kernel_rfl) rfl ?_
 refine cP (znD x.IDs y.IDs hx hy) rfl rfl ?_
 exact r1I rfl rfl
theorem zml (x y:Mis) (hx:x.IDs.length<=1000000) (hy:y.IDs.length<=1000000):SpecD PP 97 [x.v,y.v] [N (cmpL x.IDs y.IDs)]:=by
 refine zbu Tryz.func97 rfl (by kernel_rfl) rfl ?_
 refine cP (znD x.IDs y.IDs hx hy) rfl rfl ?_
 exact r1I rfl rfl
def srtF (l:List Fit):List Fit:=l.mergeSort fun x y=>!decide (cmpL y.IDs x.IDs<0)
def srtM (l:List Mis):List Mis:=l.mergeSort fun x y=>!decide (cmpL y.IDs x.IDs<0)
theorem aggFt:∀ w,(isAgg (Tryz.sortFt_ren.t 24)).run PP w = .ok true w:=fun _=>by kernel_rfl
theorem sizFt:∀ w,(Go.sizeOf (Tryz.sortFt_ren.t 24)).run PP w = .ok 3 w:=fun _=>by kernel_rfl
theorem aggMs:∀ w,(isAgg (Tryz.sortMf_ren.t 24)).run PP w = .ok true w:=fun _=>by kernel_rfl
theorem sizMs:∀ w,(Go.sizeOf (Tryz.sortMf_ren.t 24)).run PP w = .ok 2 w:=fun _=>by kernel_rfl
theorem zlS (L:List Fit) (hn:L.length<=1000000) (hd:∀ i j,i<L.length->j<L.length->(L.getD i default).IDs=(L.getD j default).IDs->i=j) (hl:∀ x∈L,x.IDs.length<=1000000) :
  SpecW PP 93 [] [.d (.fn 94)] 101 3 L.length (FtD.row L) (FtD.row (srtF L)) []:=
 zep Tryz.sortFt ⟨_,Tryz.func93,by kernel_rfl,by kernel_rfl⟩ aggFt sizFt FtD L (fun x y=>cmpL x.IDs y.IDs) (swoL Fit.IDs) (fun i j hi hj h1 h2=>hd i j hi hj (zgw h1 h2)) 94 (fun x hx y hy=>zmm x y (hl x hx) (hl y hy)) 101 hn
theorem zlR (L:List Mis) (hn:L.length<=1000000) (hd:∀ i j,i<L.length->j<L.length->(L.getD i default).IDs=(L.getD j default).IDs->i=j) (hl:∀ x∈L,x.IDs.length<=1000000) :
  SpecW PP 96 [] [.d (.fn 97)] 104 2 L.length (MsD.row L) (MsD.row (srtM L)) []:=
 zep Tryz.sortMf ⟨_,Tryz.func96,by kernel_rfl,by kernel_rfl⟩ aggMs sizMs MsD L (fun x y=>cmpL x.IDs y.IDs) (swoL Mis.IDs) (fun i j hi hj h1 h2=>hd i j hi hj (zgw h1 h2)) 97 (fun x hx y hy=>zml x y (hl x hx) (hl y hy)) 104 hn
end Go.Pg
