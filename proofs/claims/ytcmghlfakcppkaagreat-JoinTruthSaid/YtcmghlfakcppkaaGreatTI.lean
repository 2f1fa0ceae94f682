/- Lemmas, joined by program. -/
import Derived.Test.YtcmghlfakcppkaaGreatTH
import Derived.Shelf.SlLaysE0
import Derived.Shelf.RegionOpenPlain
import Derived.WalkKit
import Derived.Deep.LoopGhost
import Derived.Deep.RegionLaw
import Derived.Lib.Walk
import Derived.Sort.WalkB12
import Derived.Lib.SliceRun
import Derived.Lib.SlicesDelete
set_option maxHeartbeats 4000000
set_option linter.all false
set_option maxRecDepth 100000
namespace Go.Pg
open Go.Proofs Go.RowKit
end Go.Pg
namespace Go.Pg
open Go.Proofs Go.Shelf Go.RowKit Go.Lib Go.Sort
variable {P:Program} {ρ:Ren}
theorem SpecT.congr {P:Program} {f:FuncId} {pre post:List V1} {e k n n' n2:Nat} {g g' g2:Nat->Nat->D} (h:SpecT P f pre post e k n g n' g') (hn:n'=n2) (hg:∀ m,m<n2 -> ∀ j,j<k->g' m j=g2 m j):SpecT P f pre post e k n g n2 g2:=by
 subst hn
 refine⟨h.1,fun w ok vs us v xs h1 h2 h3 h4=>(h.2 w ok vs us v xs h1 h2 h3 h4).mono ?_⟩
 rintro en w' ⟨v',e1,e2,e3,xs',e4,e5,e6⟩
 exact⟨v',e1,e2,e3,xs',e4,e5,fun m hm j hj=>by rw[<- hg m hm j hj]; exact e6 m hm j hj⟩
theorem zrn {s:Svc} {b:Brn} {S:List Rpt} {p:Place} (hon:onM s.c.M p=true) (h:∀ r∈S,allB s b r p=true):∃ n,n<s.n/\plc s.c.M n=p /\ ∀ r∈S,alwP s b r n=true:=by
 obtain⟨⟨x1,x2⟩,y1,y2⟩:=zad.1 hon
 have ew:(s.c.M.w:Int)=s.c.M.W:=by show ((s.c.M.W.toNat:Nat):Int)=s.c.M.W; omega
 have eh:(s.c.M.h:Int)=s.c.M.H:=by show ((s.c.M.H.toNat:Nat):Int)=s.c.M.H; omega
 have hx:p.X.toNat<s.c.M.w:=by omega
 have hy:p.Y.toNat<s.c.M.h:=by omega
 have ep:plc s.c.M (p.Y.toNat * s.c.M.w+p.X.toNat)=p:=by
  rw[zpg hx]
  cases p with
  | mk X Y=>rw[Place.mk.injEq]; dsimp only at *; omega
 have hn:p.Y.toNat * s.c.M.w+p.X.toNat<s.n:=by
  have:=jW s.c.M.w (show p.Y.toNat+1<=s.c.M.h from hy)
  rw[Nat.succ_mul] at this
  show _<s.c.M.w * s.c.M.h
  rw[qG s.c.M.w]; omega
 refine⟨_,hn,ep,fun r hr=>?_⟩
 show (decide (_<s.n) && allB s b r (plc s.c.M _))=true
 rw[jG hn,ep,h r hr]; rfl
theorem zou {s:Svc} {b:Brn} {S:List Rpt} {p:Place} (h0:givE s b S=0) (hon:onM s.c.M p=true) (h:∀ r∈S,allB s b r p=true):p∈(plcR s b S).1:=by
 obtain⟨n,h1,h2,h3⟩:=zrn hon h
 unfold plcR
 rw[kG (fun hh=>hh h0)]
 unfold plsL plsK
 refine kK.2 ⟨n,kX.2 ⟨kJ.2 h1,?_⟩,h2⟩
 unfold metP
 rw[jC]
 intro P hP
 obtain⟨r,hr,rfl⟩:=kK.1 hP
 exact h3 r hr
theorem zqC {d:Day} (h:DayOk d) {ids:List Int} {p:Place} (hB:(d.R.any fun r=>ids.contains r.ID)=true) (hl:(brnD d ids).To - (brnD d ids).From<=d.Long) (hon:onM d.s.c.M p=true) (ha:∀ r∈lstD d ids,allB d.s (brnD d ids) r p=true):p∈plsD d ids:=by
 unfold plsD
 rw[kH hl]
 exact zou (zl1 h (zmy h hB) ids) hon ha
theorem zrz {d:Day} (h:dayE d=0) {p:List (List Int)} (hp:p∈parts d):(fewR d).2=0/\(fewR d).1<=p.length/\((fewR d).1=p.length->p∈bsts d)/\(bsts d).length≠0:=by
 have e2:bsts d=fltP (fwP (parts d)) (parts d):=ztq
 have hne:fltP (fwP (parts d)) (parts d) ≠ []:=fun hh=>by
  have:=zi9 hh
  rw[this] at hp; cases hp
 have hl:(bsts d).length≠0:=by rw[e2]; exact fun hh=>hne (jau.1 hh)
 have hd:=zgN hne
 have ef:fewR d=(((((bsts d).getD 0 []).length:Nat):Int),0):=by unfold fewR; rw[kG (fun hh=>hh h),kG hl]
 have hm:=(zl6 (l:=parts d)).2.1 p hp
 rw[e2,hd] at ef
 rw[ef]
 refine⟨rfl,hm,fun he=>?_,hl⟩
 rw[e2]
 unfold fltP
 exact kX.2 ⟨hp,by have he:fwP (parts d)=p.length:=he; simp[he]⟩
theorem zpO {l:List (List (List Int))} {a b:Int} {p:List (List Int)} (hp:p∈l) (h:(vdtR l a b).Ans=2):togB a b p=true:=by
 unfold vdtR at h
 dsimp only at h
 split at h
 ·split at h
  ·cases h
  rename_i g
  cases ht:togB a b p with
  | true=>rfl
  | false=>exact absurd (kL.2 ⟨p,hp,by rw[ht]; rfl⟩) g
 cases h
theorem zrM {l:List (List (List Int))} {a b:Int} {p:List (List Int)} (hp:p∈l) (h:(vdtR l a b).Ans=1):togB a b p=false:=by
 unfold vdtR at h
 dsimp only at h
 split at h
 ·split at h <;> cases h
 rename_i g
 cases ht:togB a b p with
 | false=>rfl
 | true=>exact absurd (kL.2 ⟨p,hp,ht⟩) g
theorem zmW {d:Day} (h:dayE d=0) {p:List (List Int)} (hd:divB (sigL d.R) p=true) (hp:∀ s∈p,∃ q,q∈plsD d s):cprR d p=0/\p∈parts d:=by
 have hc:cprR d p=0:=by
  unfold cprR
  rw[kG (fun hh=>hh h),kH]
  rw[hd,qI,jC]
  intro s hs
  obtain⟨q,hq⟩:=hp s hs
  unfold posB
  exact jG (List.length_pos_of_mem hq)
 exact⟨hc,(zrh h p).2 hc⟩
def hbr1 (ids:List Int) (x:Int × Int) (r:Rpt):Int × Int:=if ids.contains r.ID=true then (min x.1 r.Tick,max x.2 r.Tick) else x
def hbrS (ids:List Int) (l:List Rpt):Int × Int:=l.foldl (hbr1 ids) (1048576,0)
theorem zd5 (ids:List Int) {l:List Rpt} {i:Nat} (h:i<l.length):hbrS ids (l.take (i+1))=hbr1 ids (hbrS ids (l.take i)) (l.getD i default):=by
 unfold hbrS
 rw[zav h default,wA]; rfl
abbrev hbr (d:Day) (ids:List Int):Brn:=⟨(hbrS ids d.R).1,(hbrS ids d.R).2,d.Rise⟩
def honA (d:Day) (p:Place) (ids:List Int) (r:Rpt):Bool:=decide ((alwR d.s (hbr d ids) r p).2=0) && (alwR d.s (hbr d ids) r p).1
def hstB (d:Day) (p:Place) (ids:List Int):Bool:=decide ((hbr d ids).To - (hbr d ids).From<=d.Long) && (lstD d ids).all (honA d p ids)
theorem zl0 {d:Day} (h:DayOk d) (ids:List Int):∀ i,i<=d.R.length->0<=(hbrS ids (d.R.take i)).1/\(hbrS ids (d.R.take i)).1<=1048576/\0<=(hbrS ids (d.R.take i)).2/\(hbrS ids (d.R.take i)).2<=1048576
 | 0,_=>by simp[hbrS]
 | i+1,hi=>by
  obtain⟨a1,a2,a3,a4⟩:=zl0 h ids i (by omega)
  obtain⟨b1,b2⟩:=h.tick (show i<d.R.length by omega)
  rw[zd5 ids (by omega)]
  unfold hbr1
  split
  ·show 0<=min _ _/\min _ _<=_/\0<=max _ _/\max _ _<=_
   omega
  exact⟨a1,a2,a3,a4⟩
def lstK (ids:List Int) (l:List Rpt):List Rpt:=l.filter fun r=>!offB ids r
theorem znQ (ids:List Int) {l:List Rpt} {i:Nat} (h:i<l.length) (h1:offB ids (l.getD i default)=false):lstK ids (l.take (i+1))=lstK ids (l.take i) ++ [l.getD i default]:=by
 unfold lstK
 rw[zav h default,kZ,qU (by rw[h1]; rfl)]; rfl
theorem zqO (ids:List Int) {l:List Rpt} {i:Nat} (h:i<l.length) (h1:offB ids (l.getD i default)=true):lstK ids (l.take (i+1))=lstK ids (l.take i):=by
 unfold lstK
 rw[zav h default,kZ,qV (by rw[h1]; decide)]; simp
abbrev bxI3 (a b c:Int):Ob:=.box ([I a,I b,I c].map AV.d)
theorem zkl {d:Day} (h:DayOk d) (p:Place) (ids:List Int) (hi:ids.length<=1000000):Spec PP 14 [d.v,p.v,.d (lI ids)] [B (hstB d p ids)]:=by
 have hn:=h.n
 refine zck [11] Tryz.func14 rfl (by kernel_rfl) rfl ?_
 refine lOf (σ:=Nat) (fun i=>([(2,.d (lI ids)),(3,.box 3 0),(4,.box 4 0),(7,.box 7 0),(8,.own 8),(9,.d (I i))],[(3,.box (d.ds.map AV.d)),(4,.box ([I p.X,I p.Y].map AV.d)),(7,bxI3 (hbrS ids (d.R.take i)).1 (hbrS ids (d.R.take i)).2 d.Rise),(8,.row 90 8 (lstK ids (d.R.take i)).length (rowRp (lstK ids (d.R.take i))))]))
  (fun i=>i<=d.R.length) (fun i=>d.R.length - i) 0
  ⟨rfl,⟨obD d.ds rfl,obD [I p.X,I p.Y] rfl,obD [I 1048576,I 0,I d.Rise] rfl,obR rfl ⟨rfl,.inl rfl⟩,trivial⟩,wq rfl⟩ (jF _) fun i hi'=>?_
 have hi':i<=d.R.length:=hi'
 apply bY <;> intro h1
 ·have h1:i<d.R.length:=by have:=dT h1; omega
  have es:=zd5 ids h1
  have ly:=znQ ids h1
  have ln:=zqO ids h1
  have lL:(lstK ids (d.R.take i)).length<=i:=by
   have:=jac (fun r=>!offB ids r) (d.R.take i)
   rw[jQ] at this
   unfold lstK; omega
  have eo:offB ids (d.R.getD i default)=((d.R.getD i default).Kind==1 && !ids.contains (d.R.getD i default).ID):=rfl
  refine⟨⟨rfl,by omega,by omega⟩,?_⟩
  have cS:=zkk [(d.R.getD i default).ID] ids (by simp) hi
  have ep:partB [(d.R.getD i default).ID] ids=ids.contains (d.R.getD i default).ID:=by simp[partB]
  rw[ep] at cS
  refine pEq cS rfl ⟨⟨rfl,.inr ⟨rfl,fun a ha j hj=>?_⟩⟩,dE _,trivial⟩ rfl ?_
  ·have ha:a<1:=ha
   have hj:j<1:=hj
   obtain rfl:a=0:=by omega
   obtain rfl:j=0:=by omega
   exact dE _
  apply two_
  ·intro key
   apply bY <;> intro h2
   ·have h2:ids.contains (d.R.getD i default).ID=true:=h2
    refine kAt [(2,.d (lI ids)),(3,.box 3 0),(4,.box 4 0),(7,.box 7 0),(8,.own 8),(9,.d (I i)),(10,.box 10 0),(11,.d (.bool (ids.contains (d.R.getD i default).ID)))] [(3,.box (d.ds.map AV.d)),(4,.box ([I p.X,I p.Y].map AV.d)),(7,bxI3 (hbrS ids (d.R.take (i+1))).1 (hbrS ids (d.R.take (i+1))).2 d.Rise),(8,.row 90 8 (lstK ids (d.R.take i)).length (rowRp (lstK ids (d.R.take i)))),(10,.box ((d.R.getD i default).ds.map AV.d))]
     ⟨rfl,⟨obD d.ds rfl,obD [I p.X,I p.Y] rfl,obX (by rw[es]; unfold hbr1; rw[kH h2]; rfl),obR rfl (dE _),obD (d.R.getD i default).ds rfl,trivial⟩,wq rfl⟩ ?_
    exact key.out
   have h2:ids.contains (d.R.getD i default).ID=false:=h2
   refine kAt [(2,.d (lI ids)),(3,.box 3 0),(4,.box 4 0),(7,.box 7 0),(8,.own 8),(9,.d (I i)),(10,.box 10 0),(11,.d (.bool (ids.contains (d.R.getD i default).ID)))] [(3,.box (d.ds.map AV.d)),(4,.box ([I p.X,I p.Y].map AV.d)),(7,bxI3 (hbrS ids (d.R.take (i+1))).1 (hbrS ids (d.R.take (i+1))).2 d.Rise),(8,.row 90 8 (lstK ids (d.R.take i)).length (rowRp (lstK ids (d.R.take i)))),(10,.box ((d.R.getD i default).ds.map AV.d))]
    ⟨rfl,⟨obD d.ds rfl,obD [I p.X,I p.Y] rfl,obX (by rw[es]; unfold hbr1; rw[kG (by rw[h2]; decide)]; rfl),obR rfl (dE _),obD (d.R.getD i default).ds rfl,trivial⟩,wq rfl⟩ ?_
   exact key.out
  cases h2:ids.contains (d.R.getD i default).ID with
  | true=>
   repeat first | apply sT | apply sF
   refine⟨⟨.inr rfl,(show (lstK ids (d.R.take i)).length+1<=maxLen by unfold maxLen; omega),(show ((lstK ids (d.R.take i)).length+1) * 64<=140737488355328 by omega)⟩,?_⟩
   refine⟨i6,?_⟩
   refine⟨i+1,⟨rfl,⟨obD d.ds rfl,obD [I p.X,I p.Y] rfl,obX rfl,obR rfl ?_,trivial⟩,wq rfl⟩,h1,msr h1⟩
   rw[ly (by rw[eo,h2]; simp)]
   refine zsn fun j hj=>?_
   match j,hj with
   | 0,_=>exact dE _
   | 1,_=>exact dE _
   | 2,_=>exact dE _
   | 3,_=>exact dE _
   | 4,_=>exact dE _
   | 5,_=>exact dE _
   | 6,_=>exact dE _
   | 7,_=>exact dE _
  | false=>
  repeat first | apply sT | apply sF
  apply bY <;> intro h3
  ·have h3:((d.R.getD i default).Kind==1)=false:=by simpa using h3
   repeat first | apply sT | apply sF
   refine⟨⟨.inr rfl,(show (lstK ids (d.R.take i)).length+1<=maxLen by unfold maxLen; omega),(show ((lstK ids (d.R.take i)).length+1) * 64<=140737488355328 by omega)⟩,?_⟩
   refine⟨i6,?_⟩
   refine⟨i+1,⟨rfl,⟨obD d.ds rfl,obD [I p.X,I p.Y] rfl,obX rfl,obR rfl ?_,trivial⟩,wq rfl⟩,h1,msr h1⟩
   rw[ly (by rw[eo,h3]; rfl)]
   refine zsn fun j hj=>?_
   match j,hj with
   | 0,_=>exact dE _
   | 1,_=>exact dE _
   | 2,_=>exact dE _
   | 3,_=>exact dE _
   | 4,_=>exact dE _
   | 5,_=>exact dE _
   | 6,_=>exact dE _
   | 7,_=>exact dE _
  have h3:((d.R.getD i default).Kind==1)=true:=by simpa using h3
  repeat first | apply sT | apply sF
  refine⟨i6,?_⟩
  refine⟨i+1,⟨rfl,⟨obD d.ds rfl,obD [I p.X,I p.Y] rfl,obX rfl,obR rfl ?_,trivial⟩,wq rfl⟩,h1,msr h1⟩
  rw[ln (by rw[eo,h2,h3]; rfl)]; exact dE _
 have h1:i=d.R.length:=by have:=dF h1; omega
 subst h1
 have hb:=zl0 h ids d.R.length (jE _)
 rw[jZ] at hb ⊢
 have eL:lstK ids d.R=lstD d ids:=rfl
 rw[eL]
 have lL:=ziU d ids
 refine⟨i6,?_⟩
 unfold hstB
 apply bY <;> intro h2
 ·have h2:¬ (hbr d ids).To - (hbr d ids).From<=d.Long:=by have:d.Long<(hbr d ids).To - (hbr d ids).From:=dT h2; omega
  exact r1B rfl (by rw[jH h2]; rfl)
 have h2:(hbr d ids).To - (hbr d ids).From<=d.Long:=by have:¬ d.Long<(hbr d ids).To - (hbr d ids).From:=dF h2; omega
 rw[jG h2,qI]
 refine lOf (σ:=Nat) (fun k=>([(3,.box 3 0),(4,.box 4 0),(7,.box 7 0),(8,.own 8),(12,.d (I k))],[(3,.box (d.ds.map AV.d)),(4,.box ([I p.X,I p.Y].map AV.d)),(7,bxI3 (hbr d ids).From (hbr d ids).To d.Rise),(8,.row 90 8 (lstD d ids).length (rowRp (lstD d ids)))]))
  (fun k=>k<=(lstD d ids).length /\ ∀ j,j<k->honA d p ids ((lstD d ids).getD j default)=true) (fun k=>(lstD d ids).length - k) 0
  ⟨rfl,⟨obD d.ds rfl,obD [I p.X,I p.Y] rfl,obX rfl,obR rfl (dE _),trivial⟩,wq rfl⟩ z0L fun k hk=>?_
 obtain⟨k1,k2⟩:=hk
 apply bY <;> intro h3
 ·have h3:k<(lstD d ids).length:=by have:=dT h3; omega
  refine oN 14 ?_
  refine⟨⟨by omega,(show ((k:Nat):Int)<(((lstD d ids).length:Nat):Int) by omega)⟩,?_⟩
  refine⟨h3,?_⟩
  refine oP (zkR d.s (hbr d ids) ((lstD d ids).getD k default) p) rfl rfl ?_
  have bad:honA d p ids ((lstD d ids).getD k default)=false->(lstD d ids).all (honA d p ids)=false:=fun hh=>List.all_eq_false.2 ⟨_,gd1 h3 default,by rw[hh]; decide⟩
  apply bY <;> intro h4
  ·repeat first | apply sT | apply sF
   have h4:(alwR d.s (hbr d ids) ((lstD d ids).getD k default) p).2≠0:=by simpa using h4
   exact r1B rfl (bad (by unfold honA; rw[jH h4]; rfl)).symm
  have h4:(alwR d.s (hbr d ids) ((lstD d ids).getD k default) p).2=0:=by simpa using h4
  repeat first | apply sT | apply sF
  apply bY <;> intro h5
  ·have h5:(alwR d.s (hbr d ids) ((lstD d ids).getD k default) p).1=false:=by simpa using h5
   exact r1B rfl (bad (by unfold honA; rw[h5,kU])).symm
  have h5:(alwR d.s (hbr d ids) ((lstD d ids).getD k default) p).1=true:=by simpa using h5
  refine⟨i6,?_⟩
  refine⟨k+1,⟨rfl,⟨obD d.ds rfl,obD [I p.X,I p.Y] rfl,obX rfl,obR rfl (dE _),trivial⟩,wq rfl⟩,⟨h3,fun j hj=>?_⟩,msr h3⟩
  by_cases e:j=k
  ·subst e; unfold honA; rw[h5,jG h4]; rfl
  exact k2 j (by omega)
 have h3:k=(lstD d ids).length:=by have:=dF h3; omega
 subst h3
 refine r1B rfl ?_
 symm
 rw[jC]
 intro r hr
 obtain⟨j,hj,rfl⟩:=zbk default hr
 exact k2 j hj
structure Zs where
  C:Int
  T:Int
  Z:List Int
  deriving Inhabited
abbrev Zs.ds (z:Zs):List D:=[I z.C,I z.T,lI z.Z]
abbrev Zs.v (z:Zs):V1:=.agg z.ds
def Zs.at (z:Zs):Nat->D
 | 0=>I z.C
 | 1=>I z.T
 | _=>lI z.Z
structure Fir where
  At:Place
  From:Int
  To:Int
  deriving Inhabited
def Fir.at (x:Fir):Nat->D
 | 0=>I x.At.X
 | 1=>I x.At.Y
 | 2=>I x.From
 | _=>I x.To
abbrev Fir.ds (x:Fir):List D:=[I x.At.X,I x.At.Y,I x.From,I x.To]
abbrev keyZ (ks:List Int):List (List Int):=ks.map fun x=>[x]
abbrev wmD (w:Int->Int) (ks:List Int):D:=.mp 1 (keyZ ks) fun j=>I (w (ks.getD j 0))
abbrev wmO (w:Int->Int) (ks:List Int):Ob:=.mp 1 (keyZ ks) fun j=>I (w (ks.getD j 0))
theorem idxZ:∀ (ks:List Int) (k:Int),(keyZ ks).idxOf [k]=ks.idxOf k
 | [],_=>rfl
 | a :: r,k=>by
  show List.idxOf _ ([a] :: keyZ r)=_
  rw[List.idxOf_cons,List.idxOf_cons,idxZ r k]
  by_cases h:a=k
  ·subst h; simp
  have h1:([a] == [k])=false:=by simp only[jaq,ne_eq,jam,and_true]; exact h
  have h2:(a==k)=false:=by simpa using h
  rw[h1,h2]
theorem put_w {w:Int->Int} {ks:List Int} {x v:Int} (h:x∉ks) (hv:v=w x):D.eqv (.mp 1 (putK (keyZ ks) [x]) (putF (keyZ ks) (fun j=>I (w (ks.getD j 0))) [x] (I v))) (wmD w (ks ++ [x])):=by
 subst hv
 have hi:(keyZ ks).idxOf [x]=ks.length:=by rw[idxZ]; exact List.idxOf_eq_length h
 have hn:¬ (keyZ ks).idxOf [x]<(keyZ ks).length:=by rw[hi,kW]; exact Nat.lt_irrefl _
 refine⟨rfl,?_,fun j hj=>?_⟩
 ·unfold putK
  rw[kG hn]
  show keyZ ks++_=keyZ (ks ++ [x])
  rw[keyZ,keyZ,jT]; rfl
 unfold putF
 rw[hi]
 by_cases e:j=ks.length
 ·subst e
  rw[kH rfl]
  show D.eqv _ (I (w ((ks ++ [x]).getD ks.length 0)))
  rw[hZ,jK (jE _),kE]
  exact dE _
 have hj:j<ks.length:=by
  unfold putK at hj
  rw[kG hn,jR,kW] at hj
  simp at hj
  omega
 rw[kG e]
 show D.eqv _ (I (w ((ks ++ [x]).getD j 0)))
 rw[hZ (l:=ks ++ [x]),jJ hj,<- hZ]
 exact dE _
theorem lk_w (w:Int->Int) {ks:List Int} {x:Int} (h:x∈ks):lkD (keyZ ks) (fun j=>I (w (ks.getD j 0))) [x] (I 0)=I (w x):=by
 unfold lkD
 rw[idxZ,kW]
 have hl:=jaV.2 h
 rw[kH hl]
 have:ks.getD (ks.idxOf x) 0=x:=by
  rw[hZ,kF hl]
  exact List.getElem_idxOf hl
 show I (w (ks.getD (ks.idxOf x) 0))=_
 rw[this]
def plcS (p:List (List Int)) (l:List Int):Nat:=(p.takeWhile fun s=>decide (s.getD 0 0<l.getD 0 0)).length
def putS (p:List (List Int)) (l:List Int):List (List Int):=p.take (plcS p l) ++ [l]++p.drop (plcS p l)
def prt1 (p:List (List Int)) (l:List Int):List (List Int):=if l.length=0 then p else putS p l
def prtO (of:List (List Int)):List (List Int):=of.foldl prt1 []
def whoO (of:List (List Int)) (x:Int):Int:=idxL (fun s=>s.contains x) of
theorem zdQ {of:List (List Int)} {i:Nat} (h:i<of.length):prtO (of.take (i+1))=prt1 (prtO (of.take i)) (of.getD i []):=by
 unfold prtO
 rw[zav h [],wA]; rfl
theorem ziz (p:List (List Int)) (l:List Int):(putS p l).length=p.length+1:=by
 have:plcS p l<=p.length:=(List.takeWhile_sublist _).length_le
 unfold putS
 simp
 omega
theorem ziF (of:List (List Int)):(prtO of).length<=of.length:=by
 have:∀ (l:List (List Int)) (p:List (List Int)),(l.foldl prt1 p).length<=p.length+l.length:=by
  intro l
  induction l with
  | nil=>intro p; simp
  | cons a r ih=>
  intro p
  rw[jal,ja1]
  have h1:=ih (prt1 p a)
  have h2:(prt1 p a).length<=p.length+1:=by
   unfold prt1
   split
   ·omega
   rw[ziz]; omega
  omega
 have:=this of []
 unfold prtO
 simpa using this
theorem zk6 : ∀ {p : List (List Int)} {l : List Int} {k : Nat}, k <= p.length -> (∀ j, j < k -> (p.getD j []).getD 0 0 < l.getD 0 0) -> (k < p.length -> ¬ (p.getD k []).getD 0 0 < l.getD 0 0) -> plcS p l = k
  | [], l, k, h, _, _ => by have : k = 0 := by simpa using h
                            subst this; rfl
  | x :: r, l, 0, _, _, h2 => by
    have : ¬ x.getD 0 0 < l.getD 0 0 := h2 (by simp)
    unfold plcS
    rw [List.takeWhile_cons_of_neg (by simpa using this)]; rfl
  | x :: r, l, k + 1, h, h1, h2 => by
    have hx : x.getD 0 0 < l.getD 0 0 := h1 0 (by omega)
    have := zk6 (p := r) (l := l) (k := k) (by simpa using h) (fun j hj => h1 (j + 1) (by omega)) (fun hk => h2 (by simpa using hk))
    unfold plcS at this ⊢
    rw [List.takeWhile_cons_of_pos (by simpa using hx), ja1, this]
theorem zny (p:List (List Int)) (l:List Int) (m:Nat):(putS p l).getD m []=if m<plcS p l then p.getD m [] else if m=plcS p l then l else p.getD (m - 1) []:=by
 have hl:plcS p l<=p.length:=(List.takeWhile_sublist _).length_le
 unfold putS
 rw[List.append_assoc,hZ]
 by_cases h1:m<plcS p l
 ·rw[kH h1,jJ (by rw[jQ]; omega),jS,kH h1,<- hZ]
 rw[kG h1,jK (by rw[jQ]; omega),jQ,show min (plcS p l) p.length=plcS p l by omega]
 by_cases h2:m=plcS p l
 ·rw[kH h2,h2,kE]; rfl
 rw[kG h2]
 obtain⟨d,hd⟩:∃ d,m - plcS p l=d+1:=⟨m - plcS p l - 1,by omega⟩
 rw[hd,List.singleton_append,qT,qS,show plcS p l+d=m - 1 by omega,<- hZ]
theorem znx {p:List (List Int)} {l:List Int} {K:Nat} (hi:K<=p.length) (hat:plcS p l=K) {n n':Nat} {F f:Nat->Nat->D} (hn:n=K) (hn':n'=K) (hF:∀ a,a<K -> ∀ j,j<1->F a j=lI (p.getD a [])) (h:f 0 0=lI l) :
  D.eqv (.slc 1 (n+1+(p.length - n')) (appRow (n+1) (appRow n F f) fun a _=>lI (p.getD (n'+a) []))) (lII (putS p l)):=by
 subst hn
 subst hn'
 refine⟨by rw[ziz]; omega,.inr ⟨rfl,fun m hm j hj=>?_⟩⟩
 show D.eqv (appRow (n'+1) (appRow n' F f) (fun a _=>lI (p.getD (n'+a) [])) m j) (lI ((putS p l).getD m []))
 rw[zny,hat]
 unfold appRow
 obtain rfl:j=0:=by omega
 by_cases h1:m<n'
 ·rw[kH (by omega),kH h1,kH h1,hF m h1 0 hj]; exact dE _
 by_cases h2:m=n'
 ·rw[kH (by omega),kG h1,kG h1,kH h2,h2,kE,h]; exact dE _
 rw[kG (by omega),kG h1,kG h2]
 show D.eqv (lI (p.getD (n'+(m - (n'+1))) [])) _
 rw[show n'+(m - (n'+1))=m - 1 by omega]; exact dE _
theorem ziE:∀ {of:List (List Int)} {i:Nat},i<=of.length -> ∀ s∈prtO (of.take i),0<s.length
 | of,0,_,s,h=>by simp[prtO] at h
 | of,i+1,hi,s,h=>by
  rw[zdQ (by omega)] at h
  have ih:=ziE (of:=of) (i:=i) (by omega)
  unfold prt1 at h
  split at h
  ·exact ih s h
  rename_i h0
  unfold putS at h
  rcases kN.1 h with h | h
  ·rcases kN.1 h with h | h
   ·exact ih s (wJ h)
   rw[kI.1 h]; omega
  exact ih s (jaS h)
theorem zc6 {of:List (List Int)} (hd:of.flatten.Nodup) {i:Nat} (hi:i<of.length) {x:Int} (hx:x∈of.getD i []):whoO of x=i:=by
 unfold whoO
 refine zal [] hi (kD.2 hx) fun j hj=>?_
 refine qK.2 fun hc=>?_
 have hc:=kD.1 hc
 rw[hZ,kF hi] at hx
 rw[hZ,kF (by omega)] at hc
 have:=kM.1 (List.pairwise_flatten.1 hd).2 j i (by omega) hi hj
 exact this x hc x hx rfl
def stnB (d:Day) (id:Int) (q:Place) (p:List (List Int)):Bool:=p.any fun s=>s.contains id && (plsD d s).contains q
def staB (d:Day) (id:Int) (n:Nat):Bool:=(bsts d).any (stnB d id (plc d.s.c.M n))
def staR (d:Day) (id:Int):List Place × Int:=
 if dayE d≠0 then ([],dayE d) else if (sigL d.R).contains id=false then ([],5) else if (bsts d).length=0 then ([],9) else (plsL d.s.c.M (staB d id),0)
theorem zp4 {d:Day} {id:Int} {q:Place} {p:List (List Int)}:stnB d id q p=true ↔ ∃ s∈p,s.contains id=true/\q∈plsD d s:=by
 unfold stnB
 rw[kL]
 refine exists_congr fun s=>and_congr_right fun _=>?_
 rw[jP,kD (a:=q)]
theorem znC (d:Day) (s:List Int):(plsD d s).length<=2401:=by
 unfold plsD
 split
 ·exact znD _ _ _
 simp
theorem zk0 {L:List Place} {p q:Place}:q∈putPl L p ↔ q∈L \/ q=p:=by
 unfold putPl
 split
 ·rename_i h
  exact⟨.inl,fun g=>g.elim id fun e=>e ▸ h⟩
 rw[kN,kI]
abbrev bxDy (d:Day):Ob:=.box (d.ds.map AV.d)
abbrev mpPl (L:List Place):Ob:=.mp 2 (L.map plK) fun _=>.bool true
theorem zn5 (d:Day) (id:Int) (hn:d.R.length<=1000000):Spec PP 17 [d.v,N id] [.d (lP (staR d id).1),.d (.int .i64 (staR d id).2)]:=by
 refine sA Tryz.func17 ?_
 refine cP (zcd d hn) rfl rfl ?_
 unfold staR
 apply bY <;> intro h0
 ·rw[kH (by simpa using h0)]
  exact⟨⟨_,_,_,_,rfl,rfl,.inl rfl⟩,rtI rfl rfl,trivial⟩
 have h0:dayE d=0:=by simpa using h0
 have h:=za5 h0
 rw[kG (fun hh=>hh h0)]
 refine cR (zaO d hn) rfl rfl ?_
 refine cP (zc7 (sigL d.R) id (by have:=sig7 h; omega)) rfl rfl ?_
 apply bY <;> intro h1
 ·rw[kH (by simpa using h1)]
  exact⟨⟨_,_,_,_,rfl,rfl,.inl rfl⟩,rtI rfl rfl,trivial⟩
 have h1:(sigL d.R).contains id=true:=by simpa using h1
 rw[kG (by rw[h1]; decide)]
 refine cR (zhK h) rfl rfl ?_
 by_cases h2:(bsts d).length=0
 ·have e:bsR d=([],9):=by unfold bsR; rw[kH h2]
  rw[e,kH h2]
  refine sT ?_
  exact⟨⟨_,_,_,_,rfl,rfl,.inl rfl⟩,rtI rfl rfl,trivial⟩
 have e:bsR d=(bsts d,0):=by unfold bsR; rw[kG h2]
 rw[e,kG h2]
 refine sF ?_
 have hl:(bsts d).length<=1000000:=by have:(bsts d).length<=(parts d).length:=zf3 (parts d); have:=zdS h; omega
 have hp:∀ p∈bsts d,p.length<=1000000 /\ ∀ s∈p,s.length<=1000000:=fun p hp=>by
  have:=zgt h (zjl hp)
  exact⟨by omega,fun s hs=>by have:=this.2 s hs; omega⟩
 generalize hB:bsts d=l at *
 refine lOf (σ:=Nat × List Place) (fun x=>([(1,.d (I id)),(2,.box 2 0),(9,.own 38),(39,.d (lPP l)),(40,.d (I l.length)),(41,.d (I x.1))],[(2,bxDy d),(38,mpPl x.2)])) (fun x=>x.1<=l.length /\ ∀ q,q∈x.2 ↔ ∃ p∈l.take x.1,stnB d id q p=true) (fun x=>l.length - x.1) (0,[])
  ⟨rfl,⟨obD d.ds rfl,obMp rfl ⟨rfl,rfl,fun j hj=>absurd hj (qD _)⟩,trivial⟩,wq rfl⟩ ⟨jF _,by simp⟩ fun x hx=>?_
 obtain⟨i,L⟩:=x
 obtain⟨hi,hL⟩:=hx
 have hi:i<=l.length:=hi
 have hL:∀ q,q∈L ↔ ∃ p∈l.take i,stnB d id q p=true:=hL
 apply bY <;> intro k1
 ·have k1:i<l.length:=by have:=dT k1; omega
  have hpi:=hp _ (gd1 k1 [])
  refine⟨⟨rfl,by omega,by omega⟩,?_⟩
  refine lOf (σ:=Nat × List Place) (fun x=>([(1,.d (I id)),(2,.box 2 0),(9,.own 38),(39,.d (lPP l)),(40,.d (I l.length)),(41,.d (I i)),(45,.d (lII (l.getD i []))),(46,.d (I (l.getD i []).length)),(47,.d (I x.1))],[(2,bxDy d),(38,mpPl x.2)])) (fun x=>x.1<=(l.getD i []).length /\ ∀ q,q∈x.2 ↔ q∈L \/ stnB d id q ((l.getD i []).take x.1)=true) (fun x=>(l.getD i []).length - x.1) (0,L)
   ⟨rfl,⟨obD d.ds rfl,obMp rfl (dE _),trivial⟩,wq rfl⟩ ⟨jF _,fun q=>by simp[stnB]⟩ fun x hx=>?_
  obtain⟨k,M⟩:=x
  obtain⟨hk,hM⟩:=hx
  have hk:k<=(l.getD i []).length:=hk
  have hM:∀ q,q∈M ↔ q∈L \/ stnB d id q ((l.getD i []).take k)=true:=hM
  apply bY <;> intro k2
  ·have k2:k<(l.getD i []).length:=by have:=dT k2; omega
   have hs:=hpi.2 _ (gd1 k2 [])
   have step:∀ q,stnB d id q ((l.getD i []).take (k+1))=(stnB d id q ((l.getD i []).take k) || (((l.getD i []).getD k []).contains id && (plsD d ((l.getD i []).getD k [])).contains q)):=fun q=>by
    unfold stnB
    rw[zav k2 [],List.any_append]; simp
   refine⟨⟨rfl,by omega,by omega⟩,?_⟩
   refine cP (zc7 ((l.getD i []).getD k []) id hs) rfl rfl ?_
   apply bY <;> intro k3
   ·have k3:((l.getD i []).getD k []).contains id=false:=by simpa using k3
    refine⟨i6,?_⟩
    refine⟨(k+1,M),⟨rfl,⟨obD d.ds rfl,obMp rfl (dE _),trivial⟩,wq rfl⟩,⟨k2,fun q=>?_⟩,msr k2⟩
    rw[step,k3,qQ,jag]; exact hM q
   have k3:((l.getD i []).getD k []).contains id=true:=by simpa using k3
   have hpl:=znC d ((l.getD i []).getD k [])
   refine cR (zdB h ((l.getD i []).getD k []) hs) rfl rfl ?_
   generalize hQ:plsD d ((l.getD i []).getD k [])=Q at *
   refine lOf (σ:=Nat × List Place) (fun x=>([(1,.d (I id)),(2,.box 2 0),(9,.own 38),(39,.d (lPP l)),(40,.d (I l.length)),(41,.d (I i)),(45,.d (lII (l.getD i []))),(46,.d (I (l.getD i []).length)),(47,.d (I k)),(57,.d (lP Q)),(58,.d (I Q.length)),(59,.d (I x.1))],[(2,bxDy d),(38,mpPl x.2)])) (fun x=>x.1<=Q.length /\ ∀ q,q∈x.2 ↔ q∈M \/ q∈Q.take x.1) (fun x=>Q.length - x.1) (0,M)
    ⟨rfl,⟨obD d.ds rfl,obMp rfl (dE _),trivial⟩,wq rfl⟩ ⟨jF _,fun q=>by simp⟩ fun x hx=>?_
   obtain⟨m,W⟩:=x
   obtain⟨hm,hW⟩:=hx
   have hm:m<=Q.length:=hm
   have hW:∀ q,q∈W ↔ q∈M \/ q∈Q.take m:=hW
   apply bY <;> intro k4
   ·have k4:m<Q.length:=by have:=dT k4; omega
    refine⟨⟨rfl,by omega,by omega⟩,?_⟩
    refine⟨⟨kPl,rfl⟩,?_⟩
    refine⟨i6,?_⟩
    refine⟨(m+1,putPl W (Q.getD m default)),⟨rfl,⟨obD d.ds rfl,obMp rfl (zpa W (Q.getD m default)),trivial⟩,wq rfl⟩,⟨k4,fun q=>?_⟩,msr k4⟩
    show q∈putPl W (Q.getD m default) ↔ q∈M \/ q∈Q.take (m+1)
    rw[zk0,hW,zav k4 default,kN,kI,or_assoc]
   have k4:m=Q.length:=by have:=dF k4; omega
   subst k4
   refine⟨i6,?_⟩
   refine⟨(k+1,W),⟨rfl,⟨obD d.ds rfl,obMp rfl (dE _),trivial⟩,wq rfl⟩,⟨k2,fun q=>?_⟩,msr k2⟩
   show q∈W ↔ q∈L \/ stnB d id q ((l.getD i []).take (k+1))=true
   rw[hW,hM,step,k3,qI,jX,jZ,kD,or_assoc]
  have k2:k=(l.getD i []).length:=by have:=dF k2; omega
  subst k2
  refine⟨i6,?_⟩
  refine⟨(i+1,M),⟨rfl,⟨obD d.ds rfl,obMp rfl (dE _),trivial⟩,wq rfl⟩,⟨k1,fun q=>?_⟩,msr k1⟩
  show q∈M ↔ ∃ p∈l.take (i+1),stnB d id q p=true
  rw[hM,jZ,hL,zav k1 []]
  constructor
  ·rintro (⟨r,hr,g⟩ | g)
   ·exact⟨r,kN.2 (.inl hr),g⟩
   exact⟨_,kN.2 (.inr (kI.2 rfl)),g⟩
  rintro⟨r,hr,g⟩
  rcases kN.1 hr with hr | hr
  ·exact .inl ⟨r,hr,g⟩
  rw[kI.1 hr] at g; exact .inr g
 have k1:i=l.length:=by have:=dF k1; omega
 subst k1
 rw[jZ] at hL
 have eB:∀ n,staB d id n=decide (plc d.s.c.M n∈L):=fun n=>by
  unfold staB
  rw[hB,kR,k9,hL,kL]
 obtain⟨wW,wH,-,-⟩:=zah (zdI h.s).c.m
 have ew:(d.s.c.M.w:Int)=d.s.c.M.W:=by show ((d.s.c.M.W.toNat:Nat):Int)=d.s.c.M.W; omega
 have eh:(d.s.c.M.h:Int)=d.s.c.M.H:=by show ((d.s.c.M.H.toNat:Nat):Int)=d.s.c.M.H; omega
 have hwh:=zbw (zdI h.s).c.m
 have bd:∀ y x:Nat,y<d.s.c.M.h->x<d.s.c.M.w->y * d.s.c.M.w+x<2401:=fun y x hy hx=>by
  have:=jW d.s.c.M.w (show y+1<=d.s.c.M.h from hy)
  rw[Nat.succ_mul,qG d.s.c.M.h] at this
  omega
 generalize hS:staB d id=S at *
 generalize hMw:d.s.c.M.w=w at *
 generalize hMh:d.s.c.M.h=hh at *
 refine lOf (σ:=Nat) (fun y=>([(2,.box 2 0),(9,.own 38),(16,.own 16),(72,.d (I d.s.c.M.H)),(73,.d (I y))],[(2,bxDy d),(38,mpPl L),(16,.row 60 2 (plsK d.s.c.M S (y * w)).length (rowP (plsK d.s.c.M S (y * w))))])) (fun y=>y<=hh) (fun y=>hh - y) 0
  ⟨rfl,⟨obD d.ds rfl,obMp rfl (dE _),obR rfl ⟨by rw[Nat.zero_mul]; rfl,.inl rfl⟩,trivial⟩,wq rfl⟩ (jF _) fun y hy=>?_
 have hy:y<=hh:=hy
 apply bY <;> intro m1
 ·have m1:y<hh:=by have:=dT m1; omega
  refine lOf (σ:=Nat) (fun x=>([(2,.box 2 0),(9,.own 38),(16,.own 16),(17,.d (I y)),(72,.d (I d.s.c.M.H)),(73,.d (I y)),(80,.d (I d.s.c.M.W)),(81,.d (I x))],[(2,bxDy d),(38,mpPl L),(16,.row 60 2 (plsK d.s.c.M S (y * w+x)).length (rowP (plsK d.s.c.M S (y * w+x))))])) (fun x=>x<=w) (fun x=>w - x) 0
   ⟨rfl,⟨obD d.ds rfl,obMp rfl (dE _),obR rfl (dE _),trivial⟩,wq rfl⟩ (jF _) fun x hx=>?_
  have hx:x<=w:=hx
  apply bY <;> intro m2
  ·have m2:x<w:=by have:=dT m2; omega
   have ep:plc d.s.c.M (y * w+x)=⟨(x:Int),(y:Int)⟩:=by rw[<- hMw]; exact zpg (by rw[hMw]; exact m2)
   have eb:=eB (y * w+x)
   rw[ep] at eb
   have hlen:=zcs d.s.c.M S (y * w+x)
   have hb:=bd y x m1 m2
   refine⟨⟨kPl,rfl⟩,.bool (decide ((⟨(x:Int),(y:Int)⟩:Place)∈L)),D.eqv_of_eq (zsR L ⟨(x:Int),(y:Int)⟩),?_⟩
   rw[<- eb]
   apply bY <;> intro m3
   ·refine⟨⟨.inr rfl,by unfold maxLen; omega,by show ((plsK d.s.c.M S (y * w+x)).length+1) * 16<=140737488355328; omega⟩,?_⟩
    refine⟨i6,?_⟩
    refine⟨x+1,⟨rfl,⟨obD d.ds rfl,obMp rfl (dE _),obR rfl ?_,trivial⟩,wq rfl⟩,m2,msr m2⟩
    rw[<- jaO,zfu m3,ep]
    exact zqv (at2 rfl rfl)
   refine⟨i6,?_⟩
   refine⟨x+1,⟨rfl,⟨obD d.ds rfl,obMp rfl (dE _),obR rfl ?_,trivial⟩,wq rfl⟩,m2,msr m2⟩
   rw[<- jaO,zhC m3]; exact dE _
  have m2:x=w:=by have:=dF m2; omega
  subst m2
  refine⟨i6,?_⟩
  refine⟨y+1,⟨rfl,⟨obD d.ds rfl,obMp rfl (dE _),obR rfl ?_,trivial⟩,wq rfl⟩,m1,msr m1⟩
  rw[Nat.succ_mul]; exact dE _
 have m1:y=hh:=by have:=dF m1; omega
 subst m1
 refine⟨⟨_,_,_,_,rfl,?_⟩,rtI rfl rfl,trivial⟩
 show D.eqv _ (lP (plsK d.s.c.M S (d.s.c.M.w * d.s.c.M.h)))
 rw[hMw,hMh,qG]
 exact dE _
abbrev Fst (p:List (List Int)):Prop:=p.Pairwise fun a b=>a.getD 0 0<b.getD 0 0
theorem putS_mem {p:List (List Int)} {l s:List Int}:s∈putS p l ↔ s=l \/ s∈p:=by
 unfold putS
 rw[kN,kN,kI]
 constructor
 ·rintro ((h | h) | h)
  ·exact .inr (wJ h)
  ·exact .inl h
  exact .inr (jaS h)
 rintro (h | h)
 ·exact .inl (.inr h)
 rw[<- List.take_append_drop (plcS p l) p,kN] at h
 rcases h with h | h
 ·exact .inl (.inl h)
 exact .inr h
theorem zkZ (x:List Int) (r:List (List Int)) (l:List Int):putS (x :: r) l=if x.getD 0 0<l.getD 0 0 then x :: putS r l else l :: x :: r:=by
 unfold putS plcS
 by_cases h:x.getD 0 0<l.getD 0 0
 ·rw[kH h,List.takeWhile_cons_of_pos (by simpa using h)]; simp
 rw[kG h,List.takeWhile_cons_of_neg (by simpa using h)]; simp
theorem ziA:∀ {p:List (List Int)} {l:List Int},Fst p->(∀ s∈p,s.getD 0 0≠l.getD 0 0)->Fst (putS p l)
 | [],l,_,_=>by
  show Fst ([] ++ [l] ++ [])
  simp
 | x :: r,l,hp,hn=>by
  obtain⟨p1,p2⟩:=List.pairwise_cons.1 hp
  rw[zkZ]
  split
  ·rename_i h
   refine List.pairwise_cons.2 ⟨fun s hs=>?_,ziA p2 fun s hs=>hn s (qX _ hs)⟩
   rcases putS_mem.1 hs with rfl | hs
   ·exact h
   exact p1 s hs
  rename_i h
  have hx:=hn x (wL ..)
  refine List.pairwise_cons.2 ⟨fun s hs=>?_,hp⟩
  rcases kT.1 hs with rfl | hs
  ·omega
  have:=p1 s hs; omega
theorem zkY (p:List (List Int)) (l:List Int):(putS p l).flatten.Perm (p.flatten++l):=by
 unfold putS
 rw[List.flatten_append,List.flatten_append]
 have e:p.flatten=(p.take (plcS p l)).flatten++(p.drop (plcS p l)).flatten:=by rw[<- List.flatten_append,List.take_append_drop]
 rw[e,List.append_assoc,List.append_assoc]
 refine List.Perm.append_left _ ?_
 simpa using List.perm_append_comm
theorem zfs:∀ (of p:List (List Int)),Fst p->(∀ s∈p,0<s.length)->(p.flatten++of.flatten).Nodup->Fst (of.foldl prt1 p)/\(of.foldl prt1 p).flatten.Perm (p.flatten++of.flatten) /\ ∀ s,s∈of.foldl prt1 p ↔ s∈p \/ (s∈of/\0<s.length)
 | [],p,h1,_,_=>⟨h1,by simp,fun s=>by simp⟩
 | l :: r,p,h1,h2,h3=>by
  rw[jal]
  by_cases h0:l.length=0
  ·have el:l=[]:=jau.1 h0
   subst el
   have e1:prt1 p []=p:=rfl
   rw[e1]
   obtain⟨a,b,c⟩:=zfs r p h1 h2 (by simpa using h3)
   refine⟨a,by simpa using b,fun s=>?_⟩
   rw[c s]
   refine or_congr_right ⟨fun⟨x,y⟩=>⟨qX _ x,y⟩,fun⟨x,y⟩=>?_⟩
   rcases kT.1 x with rfl | x
   ·exact absurd y (Nat.lt_irrefl _)
   exact⟨x,y⟩
  have e1:prt1 p l=putS p l:=by unfold prt1; rw[kG h0]
  rw[e1]
  rw[List.flatten_cons,<- List.append_assoc] at h3
  have hn:=(jas.1 h3).1
  have hd:=(jas.1 hn).2.2
  have hf:∀ s∈p,s.getD 0 0≠l.getD 0 0:=fun s hs e=>by
   have a1:s.getD 0 0∈p.flatten:=List.mem_flatten.2 ⟨s,hs,gd1 (h2 s hs) 0⟩
   have a2:l.getD 0 0∈l:=gd1 (by omega) 0
   exact hd _ a1 _ a2 e
  have hp:=zkY p l
  obtain⟨a,b,c⟩:=zfs r (putS p l) (ziA h1 hf) (fun s hs=>by
   rcases putS_mem.1 hs with rfl | hs
   ·omega
   exact h2 s hs) ((hp.append_right r.flatten).nodup_iff.2 h3)
  refine⟨a,?_,fun s=>?_⟩
  ·rw[List.flatten_cons,<- List.append_assoc]
   exact b.trans (hp.append_right _)
  rw[c s,putS_mem]
  constructor
  ·rintro ((rfl | h) | ⟨h,h'⟩)
   ·exact .inr ⟨wL ..,by omega⟩
   ·exact .inl h
   exact .inr ⟨qX _ h,h'⟩
  rintro (h | ⟨h,h'⟩)
  ·exact .inl (.inr h)
  rcases kT.1 h with rfl | h
  ·exact .inl (.inl rfl)
  exact .inr ⟨h,h'⟩
theorem zbq {of:List (List Int)} (hn:of.flatten.Nodup):Fst (prtO of)/\(prtO of).flatten.Perm of.flatten /\ ∀ s,s∈prtO of ↔ s∈of/\0<s.length:=by
 obtain⟨a,b,c⟩:=zfs of [] .nil (fun s hs=>by cases hs) (by simpa using hn)
 exact⟨a,b.trans (by simp),fun s=>by rw[show prtO of=of.foldl prt1 [] from rfl,c s]; simp⟩
theorem zr4 {s:List Int} (h:s.Pairwise (· < ·)) (h0:0<s.length):setB s=true:=by
 unfold setB risB
 rw[jP]
 refine⟨jC.2 fun j hj=>?_,jG h0⟩
 rw[kJ] at hj
 refine jG ?_
 rw[hZ,hZ,kF (show j<s.length by omega),kF (show j+1<s.length by omega)]
 exact kM.1 h j (j+1) _ _ (by omega)
theorem zon {d:Day} (h:DayOk d) {of:List (List Int)} (hs:∀ s∈of,s.Pairwise (· < ·)) (hp:of.flatten.Perm (sigK d.R)):of.flatten.Nodup/\divB (sigL d.R) (prtO of)=true:=by
 have hl:(sigL d.R).Perm (sigK d.R):=wD _ _
 have hn:of.flatten.Nodup:=(hp.trans hl.symm).nodup_iff.2 (za6 h.lt)
 obtain⟨a,b,c⟩:=zbq hn
 refine⟨hn,?_⟩
 unfold divB
 rw[jP,jC]
 refine⟨fun i hi=>?_,jG ?_⟩
 ·rw[kJ] at hi
  have hm:=(c _).1 (gd1 hi [])
  rw[zr4 (hs _ hm.1) hm.2,qI]
  unfold fstB
  by_cases h0:i=0
  ·rw[jG h0]; rfl
  rw[jH h0,jao]
  refine jG ?_
  have:=kM.1 a (i - 1) i (by omega) hi (by omega)
  rw[hZ (l:=prtO of),hZ (l:=prtO of),kF (show i - 1<_ by omega),kF hi]
  exact this
 have hs':Srt ((prtO of).flatten.mergeSort fun x y=>decide (x<=y)):=List.pairwise_mergeSort (fun a b c=>by simp only[kA]; omega) (fun a b=>by simp only[jX,kA]; omega) _
 exact zcl hs' (ziT h.lt) (((wD _ _).trans (b.trans hp)).trans hl.symm)
theorem zmX {of:List (List Int)} (hn:of.flatten.Nodup) {x y:Int} (hx:x∈of.flatten) (hy:y∈of.flatten):togB x y (prtO of)=true ↔ whoO of x=whoO of y:=by
 obtain⟨a,b,c⟩:=zbq hn
 obtain⟨m,hm,mx⟩:=zbz.1 hx
 obtain⟨k,hk,ky⟩:=zbz.1 hy
 rw[zc6 hn hm mx,zc6 hn hk ky]
 unfold togB
 rw[kL]
 constructor
 ·rintro⟨s,hs,hb⟩
  unfold bthB at hb
  rw[jP] at hb
  have h1:=kD.1 hb.1
  have h2:=kD.1 hb.2
  obtain⟨j,hj,rfl⟩:=kO ((c s).1 hs).1
  have e:of.getD j []=of[j]:=by rw[hZ,kF hj]; rfl
  rw[<- e] at h1 h2
  rw[<- zc6 hn hm mx,<- zc6 hn hk ky,zc6 hn hj h1,zc6 hn hj h2]
 intro e
 have e:m=k:=by omega
 subst e
 refine⟨of.getD m [],(c _).2 ⟨gd1 hm [],List.length_pos_of_mem mx⟩,?_⟩
 unfold bthB
 rw[jP]
 exact⟨kD.2 mx,kD.2 ky⟩
theorem zjC {d:Day} (h:dayE d=0) {id:Int} (hid:(sigL d.R).contains id=true) {p:List (List Int)} (hp:p∈bsts d) {s:List Int} (hs:s∈p) (hi:id∈s) {q:Place} (hq:q∈plsD d s):(staR d id).2=0/\q∈(staR d id).1:=by
 have hl:(bsts d).length≠0:=fun e=>by rw[jau.1 e] at hp; cases hp
 have e:staR d id=(plsL d.s.c.M (staB d id),0):=by
  unfold staR
  rw[kG (fun hh=>hh h),kG (by rw[hid]; decide),kG hl]
 rw[e]
 refine⟨rfl,?_⟩
 have hB:(d.R.any fun r=>s.contains r.ID)=true:=by
  have hm:id∈sigK d.R:=(wD _ _).mem_iff.1 (kD.1 hid)
  unfold sigK at hm
  obtain⟨r,hr,e⟩:=kK.1 hm
  exact kL.2 ⟨r,(kX.1 hr).1,kD.2 (e ▸ hi)⟩
 have hq':=hq
 rw[zk2 (za5 h) hB] at hq'
 split at hq'
 ·obtain⟨n,h1,_,h3⟩:=zdp.1 hq'
  refine zdp.2 ⟨n,h1,?_,h3⟩
  unfold staB
  refine kL.2 ⟨p,hp,?_⟩
  rw[h3]
  exact zp4.2 ⟨s,hs,kD.2 hi,hq⟩
 cases hq'
theorem zi3 (ids:List Int) (l:List Rpt) (ht:∀ r∈l,0<=r.Tick/\r.Tick<=1048576):∀ i,i<=l.length->if (brnS ids (l.take i)).1=true then hbrS ids (l.take i)=(brnS ids (l.take i)).2 else hbrS ids (l.take i)=(1048576,0)
 | 0,_=>by
  rw[kG (by simp[brnS])]; rfl
 | i+1,hi=>by
  have ih:=zi3 ids l ht i (by omega)
  have hr:=ht _ (gd1 (show i<l.length by omega) default)
  rw[zbV ids l (by omega),zd5 ids (by omega)]
  generalize brnS ids (l.take i)=x at *
  generalize hbrS ids (l.take i)=y at *
  generalize l.getD i default=r at *
  obtain⟨x1,x2,x3⟩:=x
  unfold brn1 hbr1
  by_cases hc:ids.contains r.ID=true
  ·rw[kH hc,kH hc,kH rfl]
   cases x1 with
   | true=>
    rw[kH rfl] at ih
    rw[ih]; rfl
   | false=>
   rw[kG (show ¬ (false=true) by decide)] at ih
   rw[ih,Prod.mk.injEq]
   simp only[qJ,jaz]
   omega
  rw[kG hc,kG hc]; exact ih
theorem zs2 {d:Day} (h:DayOk d) {ids:List Int} (hB:(d.R.any fun r=>ids.contains r.ID)=true):hbr d ids=brnD d ids:=by
 have:=zi3 ids d.R (fun r hr=>(h.rpt hr).2.2) d.R.length (jE _)
 rw[jZ] at this
 have he:=zh0 ids d.R d.R.length (jE _)
 rw[jZ] at he
 obtain⟨r,hr,hc⟩:=kL.1 hB
 rw[kH (he.1.2 ⟨r,hr,hc⟩)] at this
 show (⟨_,_,_⟩:Brn)=⟨_,_,_⟩
 rw[this]
theorem ztx {s:Svc} {b:Brn} {r:Rpt} {p:Place} (h:(alwR s b r p).2=0):onM s.c.M p=true/\(alwR s b r p).1=allB s b r p:=by
 unfold alwR at h ⊢
 split at h
 ·rename_i g; exact absurd h g
 rename_i g1
 split at h
 ·cases h
 rename_i g2
 split at h
 ·rename_i g; exact absurd h g
 rename_i g3
 split at h
 ·cases h
 rename_i g4
 rw[kG g1,kG g2,kG g3,kG g4]
 exact⟨by simpa using g4,rfl⟩
theorem zrE {d:Day} {ids:List Int} (h0:0<ids.length) (hm:∀ x∈ids,x∈sigL d.R):∃ r∈d.R,ids.contains r.ID=true:=by
 have h1:=(wD _ _).mem_iff.1 (hm _ (gd1 h0 0))
 unfold sigK at h1
 obtain⟨r,hr,e⟩:=kK.1 h1
 exact⟨r,(kX.1 hr).1,kD.2 (by rw[e]; exact gd1 h0 0)⟩
theorem zlZ {d:Day} (h:DayOk d) {ids:List Int} (h0:0<ids.length) (hm:∀ x∈ids,x∈sigL d.R) {p:Place} (hh:hstB d p ids=true):p∈plsD d ids:=by
 obtain⟨r,hr,hc⟩:=zrE h0 hm
 have hB:(d.R.any fun r=>ids.contains r.ID)=true:=kL.2 ⟨r,hr,hc⟩
 have e:=zs2 h hB
 unfold hstB at hh
 rw[jP,k9,jC] at hh
 obtain⟨h1,h2⟩:=hh
 rw[e] at h1
 have ok:∀ r∈lstD d ids,onM d.s.c.M p=true/\allB d.s (brnD d ids) r p=true:=fun r hr=>by
  have:=h2 r hr
  unfold honA at this
  rw[jP,k9,e] at this
  obtain⟨a1,a2⟩:=ztx this.1
  exact⟨a1,a2 ▸ this.2⟩
 have hl:r∈lstD d ids:=kX.2 ⟨hr,by unfold offB; rw[hc]; simp⟩
 exact zqC h hB h1 (ok r hl).1 fun r hr=>(ok r hr).2
theorem zgk {ids bs:List Int} {n:Nat} (hn:0<n) (hl:ids.Pairwise (· < ·)):∀ i,i<=ids.length->(∀ s∈smkK ids bs n i,s.Pairwise (· < ·))/\(smkK ids bs n i).flatten.Perm (ids.take i)
 | 0,_=>⟨fun s hs=>by rw[List.eq_of_mem_replicate hs]; exact .nil,by
   show (List.replicate n ([]:List Int)).flatten.Perm _
   rw[List.flatten_replicate_nil]; exact .nil⟩
 | i+1,hi=>by
  obtain⟨a,b⟩:=zgk (bs:=bs) hn hl i (by omega)
  have sl:=zcm ids bs n i
  have kl:=zpp (bs:=bs) (i:=i) hn
  rw[zdK]
  unfold smk1
  generalize smkK ids bs n i=o at *
  generalize kOf bs n i=k at *
  have hlt:∀ x∈o.flatten,x<ids.getD i 0:=fun x hx=>by
   obtain⟨j,hj,rfl⟩:=kO (b.mem_iff.1 hx)
   rw[jQ] at hj
   rw[jbd,hZ,kF (by omega)]
   exact kM.1 hl j i (by omega) (by omega) (by omega)
  refine⟨fun s hs=>?_,?_⟩
  ·rcases ja9 hs with hs | rfl
   ·exact a s hs
   refine List.pairwise_append.2 ⟨a _ (gd1 (by omega) []),by simp,fun x hx y hy=>?_⟩
   rw[kI.1 hy]
   exact hlt x (List.mem_flatten.2 ⟨_,gd1 (by omega) [],hx⟩)
  rw[zav (show i<ids.length by omega) 0]
  refine List.Perm.trans ?_ (b.append_right _)
  have key:∀ (o:List (List Int)) (k:Nat),k<o.length->(o.set k (o.getD k [] ++ [ids.getD i 0])).flatten.Perm (o.flatten ++ [ids.getD i 0]):=by
   intro o
   induction o with
   | nil=>intro k hk; cases hk
   | cons x r ih=>
   intro k hk
   cases k with
   | zero=>
    show (x ++ [ids.getD i 0]++r.flatten).Perm (x++r.flatten ++ [ids.getD i 0])
    rw[List.append_assoc,List.append_assoc]
    exact List.Perm.append_left _ List.perm_append_comm
   | succ k=>
   show (x++(r.set k (r.getD k [] ++ [ids.getD i 0])).flatten).Perm (x++r.flatten ++ [ids.getD i 0])
   rw[List.append_assoc]
   exact List.Perm.append_left _ (ih k (by simpa using hk))
  exact key o k (by omega)
theorem zk5 {p:List (List Int)} {l:List Int} {k:Nat} (hp:Fst p) (hne:∀ s∈p,s.getD 0 0≠l.getD 0 0) (hk:k<=p.length) (h1:0<k -> ¬ l.getD 0 0<(p.getD (k - 1) []).getD 0 0) (h2:∀ j,k<=j->j<p.length->l.getD 0 0<(p.getD j []).getD 0 0):plcS p l=k:=by
 refine zk6 hk (fun j hj=>?_) fun hk'=>by have:=h2 k (jE _) hk'; omega
 have e1:=h1 (by omega)
 have e2:=hne _ (gd1 (show k - 1<p.length by omega) [])
 by_cases e:j=k - 1
 ·subst e; omega
 have:=kM.1 hp j (k - 1) (by omega) (by omega) (by omega)
 have g:∀ q,(hq:q<p.length)->p.getD q []=p[q]:=fun q hq=>by rw[hZ,kF hq]; rfl
 rw[<- g j (by omega),<- g (k - 1) (by omega)] at this
 omega
structure Tru (d:Day) (tr:List Place) (O:List (List Int)):Prop where
  cp:cprR d (prtO O)=0
  few:(fewR d).2=0/\(fewR d).1<=(prtO O).length
  std:(fewR d).1=(prtO O).length -> ∀ x∈sigL d.R,∃ n,n<tr.length/\whoO O x=(n:Int)/\(staR d x).2=0/\(tr.getD n default)∈(staR d x).1
  sam:(fewR d).1=(prtO O).length -> ∀ x∈sigL d.R,∀ y∈sigL d.R,x≠y->(samR d x y).2=0/\((samR d x y).1.Ans=2->whoO O x=whoO O y)/\((samR d x y).1.Ans=1->whoO O x≠whoO O y)
theorem zrR {d:Day} (hd:dayE d=0) {tr:List Place} {O:List (List Int)} (hlen:O.length=tr.length) (hs:∀ s∈O,s.Pairwise (· < ·)) (hp:O.flatten.Perm (sigL d.R))
  (hh:∀ n,n<O.length->0<(O.getD n []).length->hstB d (tr.getD n default) (O.getD n [])=true):Tru d tr O:=by
 have ok:=za5 hd
 have hl:(sigL d.R).Perm (sigK d.R):=wD _ _
 obtain⟨nod,dv⟩:=zon ok (of:=O) hs (hp.trans hl)
 obtain⟨pa,pb,pc⟩:=zbq nod
 have mem:∀ x,x∈O.flatten ↔ x∈sigL d.R:=fun x=>hp.mem_iff
 have place:∀ n,n<O.length->0<(O.getD n []).length->(tr.getD n default)∈plsD d (O.getD n []):=fun n hn h0=>
  zlZ ok h0 (fun x hx=>(mem x).1 (zbz.2 ⟨n,hn,hx⟩)) (hh n hn h0)
 obtain⟨cp,inp⟩:=zmW hd dv fun t ht=>by
  obtain⟨h1,h2⟩:=(pc t).1 ht
  obtain⟨n,hn,rfl⟩:=kO h1
  have e:O.getD n []=O[n]:=by rw[hZ,kF hn]; rfl
  rw[<- e] at h2 ⊢
  exact⟨_,place n hn h2⟩
 obtain⟨f1,f2,f3,f4⟩:=zrz hd inp
 have ofx:∀ x∈sigL d.R,∃ n,n<O.length/\x∈O.getD n []:=fun x hx=>zbz.1 ((mem x).2 hx)
 refine⟨cp,⟨f1,f2⟩,fun he x hx=>?_,fun he x hx y hy hxy=>?_⟩
 ·obtain⟨n,hn,hm⟩:=ofx x hx
  have hs:O.getD n []∈prtO O:=(pc _).2 ⟨gd1 hn [],List.length_pos_of_mem hm⟩
  exact⟨n,by rw[<- hlen]; exact hn,zc6 nod hn hm,zjC hd (kD.2 hx) (f3 he) hs hm (place n hn (List.length_pos_of_mem hm))⟩
 have pe:parE d x y=0:=by
  unfold parE
  rw[kG (fun hh=>hh hd),kG,kG hxy]
  rw[jah]
  refine jC.2 fun z hz=>kD.2 ?_
  rcases kT.1 hz with rfl | hz
  ·exact hx
  rw[kI.1 hz]; exact hy
 have es:samR d x y=(vdtR (bsts d) x y,0):=by unfold samR; rw[kG (fun hh=>hh pe),kG f4]
 have tg:=zmX nod ((mem x).2 hx) ((mem y).2 hy)
 rw[es]
 refine⟨rfl,fun ha=>tg.1 (zpO (f3 he) ha),fun ha hw=>?_⟩
 have:=zrM (f3 he) ha
 rw[tg.2 hw] at this; cases this
theorem zrc {d:Day} (h:few7 d) (hd:dayE d=0):(sigK d.R).length<=5:=by
 have ok:=za5 hd
 have:=ok.sg
 have:=ok.bl
 rcases h.2 with h | h | h
 ·exact h.1
 ·omega
 omega
theorem wr8 {a n:Nat} (ha:a<=255):(IntKind.wrap .i64 ((a:Nat):Int)).tmod ((n:Nat):Int)=((a % n:Nat):Int):=by
 rw[zbt (by exact i6)]; rfl
theorem zkx (d:Day) (id:Int):(staR d id).1.length<=1000000:=by
 unfold staR
 split
 ·exact jF _
 split
 ·exact jF _
 split
 ·exact jF _
 rename_i h0 _ _
 have ok:=zdI (za5 (jL h0)).s
 exact jM (zcs _ _ _) (jM (zbw ok.c.m) (by decide))
theorem s_JoinTruth (d:Day) (tr:List Place) (bs:List Int) (a:Int) (ha:0<=a/\a<=255) (b:Int) (hb:0<=b/\b<=255) (hbs:∀ x∈bs,0<=x/\x<=255) :
  Spec PP 4 [d.v,.d (lP tr),.d (lU8 bs),.d (.int .u8 a),.d (.int .u8 b)] [B true]:=by
 obtain⟨a,rfl⟩:=Int.eq_ofNat_of_zero_le ha.1
 obtain⟨b,rfl⟩:=Int.eq_ofNat_of_zero_le hb.1
 refine zck [8,23,26,35] Tryz.func4 rfl (by kernel_rfl) rfl ?_
 refine cP zpR rfl rfl ?_
 refine cP (zrO d) rfl rfl ?_
 apply bY <;> intro h0
 ·repeat first | apply sT | apply sF
  exact r1B rfl rfl
 have hf:few7 d:=by simpa using h0
 have hn:=ztg hf
 repeat first | apply sT | apply sF
 apply bY <;> intro h1
 ·repeat first | apply sT | apply sF
  exact r1B rfl rfl
 have h1:tr.length≠0:=by
  have:¬ ((tr.length:Nat):Int)=0:=by simpa using h1
  omega
 repeat first | apply sT | apply sF
 apply bY <;> intro h2
 ·exact r1B rfl rfl
 have h2:tr.length<=5:=by have:¬ (5:Int)<(tr.length:Nat):=dF h2; omega
 have hSg:=zhL d (by omega)
 by_cases hd:dayE d=0
 case neg=>
  have e2:sigR d=([],dayE d):=by unfold sigR; rw[kH hd]
  rw[e2] at hSg
  refine cR hSg rfl rfl ?_
  refine sYe (by simpa using hd) ?_
  exact r1B rfl rfl
 have ok:=za5 hd
 have h7:=zrc hf hd
 rw[<- zby] at h7
 have e2:sigR d=(sigL d.R,0):=by unfold sigR; rw[kG (fun hh=>hh hd)]
 rw[e2] at hSg
 refine cR hSg rfl rfl ?_
 repeat first | apply sT | apply sF
 refine cR (zmQ (sigL d.R) bs tr.length (by omega) ⟨by omega,h2⟩ hbs) rfl rfl ?_
 obtain⟨o1,o2⟩:=zgk (bs:=bs) (n:=tr.length) (by omega) ok.lt (sigL d.R).length (jE _)
 rw[jZ] at o2
 have oL:=zcm (sigL d.R) bs tr.length (sigL d.R).length
 generalize smkK (sigL d.R) bs tr.length (sigL d.R).length=O at *
 obtain⟨ids,hI⟩:∃ ids,ids=sigL d.R:=⟨_,rfl⟩
 refine kAt [(1,.d (lP tr)),(3,.d (.int .u8 (a:Int))),(4,.d (.int .u8 (b:Int))),(5,.box 5 0),(11,.d (.bool true)),(12,.d (lI ids)),(14,.d (lII O))] [(5,.box (d.ds.map AV.d))] ⟨rfl,⟨obD d.ds rfl,trivial⟩,avQ rfl,avQ rfl,avQ rfl,avQ rfl,avQ rfl,avE rfl (show D.eqv (lI (sigL d.R)) (lI ids) by rw[hI]; exact dE _),avQ rfl,trivial⟩ ?_
 rw[<- hI] at o2 h7
 have nod:O.flatten.Nodup:=o2.nodup_iff.2 (by rw[hI]; exact za6 ok.lt)
 have fO:O.flatten.length<=5:=by rw[o2.length_eq]; exact h7
 have sO:∀ s∈O,s.length<=5:=fun s hs=>jM (List.sublist_flatten_of_mem hs).length_le fO
 obtain⟨pa,pb,pc⟩:=zbq nod
 have lP':=ziF O
 refine lOf (σ:=Nat) (fun i=>([(1,.d (lP tr)),(3,.d (.int .u8 (a:Int))),(4,.d (.int .u8 (b:Int))),(5,.box 5 0),(11,.d (.bool true)),(12,.d (lI ids)),(14,.d (lII O)),(15,.d (lII (prtO (O.take i)))),(16,.own 58),(17,.d (I i))],[(5,.box (d.ds.map AV.d)),(58,wmO (whoO O) (O.take i).flatten)]))
  (fun i=>i<=O.length /\ ∀ q,q<i->0<(O.getD q []).length->hstB d (tr.getD q default) (O.getD q [])=true) (fun i=>O.length - i) 0
  ⟨rfl,⟨obD d.ds rfl,obMp rfl ⟨rfl,rfl,fun j hj=>absurd hj (qD _)⟩,trivial⟩,avQ rfl,avQ rfl,avQ rfl,avQ rfl,avQ rfl,avQ rfl,avQ rfl,avOw rfl rfl rfl ⟨rfl,.inl rfl⟩,avQ rfl,avQ rfl,trivial⟩ z0L fun i hi=>?_
 obtain⟨i1,i2⟩:i<=O.length /\ ∀ q,q<i->0<(O.getD q []).length->hstB d (tr.getD q default) (O.getD q [])=true:=hi
 apply bY <;> intro g0
 ·have gi:i<O.length:=by have:=dT g0; omega
  have hsi:=sO _ (gd1 gi [])
  have hpl:=ziF (O.take i)
  rw[jQ] at hpl
  refine⟨⟨rfl,by omega,(show ((i:Nat):Int)<((O.length:Nat):Int) by omega)⟩,?_⟩
  apply bY <;> intro g2
  ·have g2:(O.getD i []).length=0:=by
    have:(((O.getD i []).length:Nat):Int)=0:=by simpa using g2
    omega
   refine⟨i6,?_⟩
   refine⟨i+1,⟨rfl,⟨obD d.ds rfl,obMp rfl ?_,trivial⟩,avQ rfl,avQ rfl,avQ rfl,avQ rfl,avQ rfl,avQ rfl,avQ rfl,?_,avQ rfl,avQ rfl,trivial⟩,⟨gi,fun q hq h0=>?_⟩,msr gi⟩
   ·rw[zav gi [],List.flatten_append,jau.1 g2]
    simp only[List.flatten_cons,List.flatten_nil,jaK]
    exact dE _
   ·show D.eqv _ (lII (prtO (O.take (i+1))))
    rw[zdQ gi]; unfold prt1; rw[kH g2]; exact dE _
   by_cases e:q=i
   ·subst e; omega
   exact i2 q (by omega) h0
  have g2:(O.getD i []).length≠0:=by
   have:¬ (((O.getD i []).length:Nat):Int)=0:=by simpa using g2
   omega
  have hP:=ziE (of:=O) (i:=i) i1
  have e3:(O.take (i+1)).flatten=(O.take i).flatten++O.getD i []:=by
   rw[zav gi [],List.flatten_append]; simp
  have hnd:((O.take i).flatten++O.getD i []).Nodup:=by
   rw[<- e3]
   have e2:O.flatten=(O.take (i+1)).flatten++(O.drop (i+1)).flatten:=by rw[<- List.flatten_append,List.take_append_drop]
   rw[e2] at nod
   exact (jas.1 nod).1
  have hti:i<tr.length:=by omega
  refine oN 12 ?_
  refine⟨⟨rfl,by omega,(show ((i:Nat):Int)<((tr.length:Nat):Int) by omega)⟩,?_⟩
  refine⟨⟨rfl,by omega,(show ((i:Nat):Int)<((O.length:Nat):Int) by omega)⟩,?_⟩
  refine oP (zkl ok (tr.getD i default) (O.getD i []) (by omega)) rfl rfl ?_
  apply bY <;> intro g3
  ·exact r1B rfl rfl
  have g3:hstB d (tr.getD i default) (O.getD i [])=true:=by simpa using g3
  refine lOf (σ:=Nat) (fun k=>([(1,.d (lP tr)),(3,.d (.int .u8 (a:Int))),(4,.d (.int .u8 (b:Int))),(5,.box 5 0),(11,.d (.bool true)),(12,.d (lI ids)),(14,.d (lII O)),(15,.d (lII (prtO (O.take i)))),(16,.own 58),(17,.d (I i)),(18,.d (I k))],[(5,.box (d.ds.map AV.d)),(58,wmO (whoO O) ((O.take i).flatten++(O.getD i []).take k))])) (fun k=>k<=(O.getD i []).length) (fun k=>(O.getD i []).length - k) 0
   ⟨rfl,⟨obD d.ds rfl,obMp rfl (by rw[List.take_zero,jaK]; exact dE _),trivial⟩,wq rfl⟩ (jF _) fun k hk=>?_
  have hk:k<=(O.getD i []).length:=hk
  refine⟨⟨rfl,by omega,(show ((i:Nat):Int)<((O.length:Nat):Int) by omega)⟩,?_⟩
  apply bY <;> intro g4
  ·have g4:k<(O.getD i []).length:=by have:((k:Nat):Int)<(((O.getD i []).length:Nat):Int):=dT g4; omega
   refine⟨⟨rfl,by omega,(show ((i:Nat):Int)<((O.length:Nat):Int) by omega)⟩,?_⟩
   refine⟨⟨rfl,by omega,(show ((k:Nat):Int)<(((O.getD i []).length:Nat):Int) by omega)⟩,?_⟩
   refine⟨⟨kInt,rfl⟩,?_⟩
   refine⟨i6,?_⟩
   refine⟨k+1,⟨rfl,⟨obD d.ds rfl,obMp rfl ?_,trivial⟩,wq rfl⟩,g4,msr g4⟩
   rw[zav g4 0,<- List.append_assoc]
   refine put_w (fun hm=>?_) (zc6 nod gi (gd1 g4 0)).symm
   have:=jas.1 hnd
   have hx:(O.getD i []).getD k 0∈O.getD i []:=gd1 g4 0
   rcases kN.1 hm with hm | hm
   ·exact this.2.2 _ hm _ hx rfl
   obtain⟨j,hj,e⟩:=kO hm
   rw[jQ] at hj
   rw[jbd] at e
   have e2:(O.getD i []).getD k 0=(O.getD i [])[k]:=by rw[hZ,kF g4]; rfl
   have e:_=(O.getD i []).getD k 0:=e
   rw[e2] at e
   exact kM.1 this.2.1 j k (by omega) g4 (by omega) e
  have g4:k=(O.getD i []).length:=by have:¬ ((k:Nat):Int)<(((O.getD i []).length:Nat):Int):=dF g4; omega
  subst g4
  rw[jZ]
  obtain⟨ta,tb,tc⟩:=zbq (of:=O.take i) (jas.1 hnd).1
  have hne:∀ s∈prtO (O.take i),s.getD 0 0≠(O.getD i []).getD 0 0:=fun s hs e=>by
   have a1:s.getD 0 0∈(O.take i).flatten:=List.mem_flatten.2 ⟨s,((tc s).1 hs).1,gd1 (hP s hs) 0⟩
   exact (jas.1 hnd).2.2 _ a1 _ (gd1 (show 0<(O.getD i []).length by omega) 0) e
  refine lOf (σ:=Nat) (fun k=>([(1,.d (lP tr)),(3,.d (.int .u8 (a:Int))),(4,.d (.int .u8 (b:Int))),(5,.box 5 0),(11,.d (.bool true)),(12,.d (lI ids)),(14,.d (lII O)),(15,.d (lII (prtO (O.take i)))),(16,.own 58),(17,.d (I i)),(19,.d (I k))],[(5,.box (d.ds.map AV.d)),(58,wmO (whoO O) ((O.take i).flatten++O.getD i []))]))
   (fun k=>k<=(prtO (O.take i)).length /\ ∀ j,k<=j->j<(prtO (O.take i)).length->(O.getD i []).getD 0 0<((prtO (O.take i)).getD j []).getD 0 0) (fun k=>k) (prtO (O.take i)).length
   ⟨rfl,⟨obD d.ds rfl,obMp rfl (dE _),trivial⟩,wq rfl⟩ ⟨jE _,fun j h1 h2=>by omega⟩ fun k hk=>?_
  obtain⟨k1,k2⟩:=hk
  have out:(0<k -> ¬ (O.getD i []).getD 0 0<((prtO (O.take i)).getD (k - 1) []).getD 0 0)->plcS (prtO (O.take i)) (O.getD i [])=k:=fun h=>zk5 ta hne k1 h k2
  have kc:0<k->((k:Nat):Int) - 1=(((k - 1:Nat)):Int):=fun h=>by omega
  apply two_
  ·intro key
   refine oN 18 ?_
   apply bY <;> intro g5
   ·have g5:0<k:=by have:=dT g5; omega
    have hp1:=hP _ (gd1 (show k - 1<(prtO (O.take i)).length by omega) [])
    have hkt:(((k:Nat):Int) - 1).toNat=k - 1:=by omega
    repeat first | apply sT | apply sF
    refine⟨i6,?_⟩
    refine⟨⟨rfl,by omega,(show ((k:Nat):Int) - 1<(((prtO (O.take i)).length:Nat):Int) by omega)⟩,?_⟩
    refine⟨⟨rfl,by decide,(show (0:Int)<((((prtO (O.take i)).getD (((k:Nat):Int) - 1).toNat []).length:Nat):Int) by rw[hkt]; omega)⟩,?_⟩
    refine⟨⟨rfl,by omega,(show ((i:Nat):Int)<((O.length:Nat):Int) by omega)⟩,?_⟩
    refine⟨⟨rfl,by decide,(show (0:Int)<(((O.getD i []).length:Nat):Int) by omega)⟩,?_⟩
    repeat first | apply sT | apply sF
    apply bY <;> intro g6
    ·have g6:(O.getD i []).getD 0 0<((prtO (O.take i)).getD (k - 1) []).getD 0 0:=by rw[<- hkt]; exact dT g6
     repeat first | apply sT | apply sF
     refine⟨i6,?_⟩
     refine⟨k - 1,⟨rfl,⟨obD d.ds rfl,obMp rfl (dE _),trivial⟩,avQ rfl,avQ rfl,avQ rfl,avQ rfl,avQ rfl,avQ rfl,avQ rfl,avQ rfl,avQ rfl,avQ rfl,avI rfl (kc g5),trivial⟩,⟨by omega,fun j h1 h2=>?_⟩,(show k - 1<k by omega)⟩
     by_cases e:j=k - 1
     ·subst e; exact g6
     exact k2 j (by omega) h2
    have g6:¬ (O.getD i []).getD 0 0<((prtO (O.take i)).getD (k - 1) []).getD 0 0:=by rw[<- hkt]; exact dF g6
    repeat first | apply sT | apply sF
    refine kAt [(1,.d (lP tr)),(3,.d (.int .u8 (a:Int))),(4,.d (.int .u8 (b:Int))),(5,.box 5 0),(11,.d (.bool true)),(12,.d (lI ids)),(14,.d (lII O)),(15,.d (lII (prtO (O.take i)))),(16,.own 58),(17,.d (I i)),(19,.d (I (plcS (prtO (O.take i)) (O.getD i []))))] [(5,.box (d.ds.map AV.d)),(58,wmO (whoO O) ((O.take i).flatten++O.getD i []))]
     ⟨rfl,⟨obD d.ds rfl,obMp rfl (dE _),trivial⟩,avQ rfl,avQ rfl,avQ rfl,avQ rfl,avQ rfl,avQ rfl,avQ rfl,avQ rfl,avQ rfl,avQ rfl,avI rfl (by rw[out fun _=>g6]),trivial⟩ ?_
    exact key.out
   have g5:¬ 0<k:=by have:=dF g5; omega
   repeat first | apply sT | apply sF
   refine kAt [(1,.d (lP tr)),(3,.d (.int .u8 (a:Int))),(4,.d (.int .u8 (b:Int))),(5,.box 5 0),(11,.d (.bool true)),(12,.d (lI ids)),(14,.d (lII O)),(15,.d (lII (prtO (O.take i)))),(16,.own 58),(17,.d (I i)),(19,.d (I (plcS (prtO (O.take i)) (O.getD i []))))] [(5,.box (d.ds.map AV.d)),(58,wmO (whoO O) ((O.take i).flatten++O.getD i []))]
    ⟨rfl,⟨obD d.ds rfl,obMp rfl (dE _),trivial⟩,avQ rfl,avQ rfl,avQ rfl,avQ rfl,avQ rfl,avQ rfl,avQ rfl,avQ rfl,avQ rfl,avQ rfl,avI rfl (by rw[out fun h=>absurd h g5]),trivial⟩ ?_
   exact key.out
  have hK:plcS (prtO (O.take i)) (O.getD i [])<=(prtO (O.take i)).length:=(List.takeWhile_sublist _).length_le
  have e1:prtO (O.take (i+1))=putS (prtO (O.take i)) (O.getD i []):=by rw[zdQ gi]; unfold prt1; rw[kG g2]
  generalize hKK:plcS (prtO (O.take i)) (O.getD i [])=K at hK
  refine⟨⟨.inr rfl,by omega,by omega⟩,?_⟩
  refine⟨⟨.inr rfl,by simp only[maxLen]; omega,by dsimp only; omega⟩,?_⟩
  refine⟨⟨rfl,by omega,(show ((i:Nat):Int)<((O.length:Nat):Int) by omega)⟩,?_⟩
  refine⟨⟨.inr rfl,by simp only[maxLen]; omega,by dsimp only; omega⟩,?_⟩
  refine⟨⟨.inr rfl,by omega,by omega⟩,?_⟩
  refine⟨⟨.inr rfl,by simp only[maxLen]; omega,by dsimp only; omega⟩,?_⟩
  refine⟨i6,?_⟩
  refine⟨i+1,⟨rfl,⟨obD d.ds rfl,obMp rfl (by rw[e3]; exact dE _),trivial⟩,avQ rfl,avQ rfl,avQ rfl,avQ rfl,avQ rfl,avQ rfl,avQ rfl,avOw rfl rfl rfl ?_,avQ rfl,avQ rfl,trivial⟩,⟨gi,fun q hq h0=>?_⟩,msr gi⟩
  ·rw[e1]
   exact znx hK hKK (qF _) rfl (fun a _ j _=>rfl) rfl
  by_cases e:q=i
  ·subst e; exact g3
  exact i2 q (by omega) h0
 have gi:i=O.length:=by have:=dF g0; omega
 subst gi
 rw[jZ]
 refine kAt [(1,.d (lP tr)),(3,.d (.int .u8 (a:Int))),(4,.d (.int .u8 (b:Int))),(5,.box 5 0),(11,.d (.bool true)),(12,.d (lI ids)),(15,.d (lII (prtO O))),(16,.d (wmD (whoO O) O.flatten))] [(5,.box (d.ds.map AV.d))] ⟨rfl,⟨obD d.ds rfl,trivial⟩,avQ rfl,avQ rfl,avQ rfl,avQ rfl,avQ rfl,avQ rfl,avQ rfl,?_,trivial⟩ ?_
 ·exact (show AVle _ _ (.own 58) (.d (wmD (whoO O) O.flatten)) from⟨rfl,_,_,_,rfl,dE _⟩)
 have T:=zrR hd oL o1 (by rw[<- hI]; exact o2) i2
 obtain⟨f1,f2⟩:=T.few
 have cC:=zdh d (prtO O) (by omega) (by omega) (by rw[pb.length_eq]; omega)
 rw[T.cp] at cC
 have cF:=zfO d (by omega)
 rw[f1] at cF
 obtain⟨m,hm⟩:∃ m,m=(fewR d).1:=⟨_,rfl⟩
 have std:=T.std
 have sam:=T.sam
 rw[<- hm] at cF f2 std sam
 refine cP cC rfl rfl ?_
 repeat first | apply sT | apply sF
 refine cP cF rfl rfl ?_
 repeat first | apply sT | apply sF
 refine sNo (jH (show ¬ (((prtO O).length:Nat):Int)<m by omega)) ?_
 apply bY <;> intro h11
 ·repeat first | apply sT | apply sF
  exact r1B rfl rfl
 have h11:m=((prtO O).length:Int):=by have:¬ m<((prtO O).length:Int):=dF h11; omega
 repeat first | apply sT | apply sF
 apply bY <;> intro h12
 ·repeat first | apply sT | apply sF
  exact r1B rfl rfl
 have h12:2<=ids.length:=by have:¬ (ids.length:Int)<2:=dF h12; omega
 repeat first | apply sT | apply sF
 have wa:=wr8 (a:=a) (n:=ids.length) (by omega)
 have wb:=wr8 (a:=b) (n:=ids.length) (by omega)
 have ka:a % ids.length<ids.length:=jar _ (by omega)
 have kb:b % ids.length<ids.length:=jar _ (by omega)
 have nz:((ids.length:Nat):Int)≠0:=by omega
 refine⟨nz,?_⟩
 refine⟨⟨rfl,(by rw[wa]; omega),(by rw[wa]; omega)⟩,?_⟩
 refine⟨nz,?_⟩
 refine⟨⟨rfl,(by rw[wb]; omega),(by rw[wb]; omega)⟩,?_⟩
 obtain⟨A,hA⟩:∃ A,A=ids.getD ((IntKind.wrap .i64 ((a:Nat):Int)).tmod ((ids.length:Nat):Int)).toNat 0:=⟨_,rfl⟩
 obtain⟨B',hB'⟩:∃ A,A=ids.getD ((IntKind.wrap .i64 ((b:Nat):Int)).tmod ((ids.length:Nat):Int)).toNat 0:=⟨_,rfl⟩
 refine kAt [(1,.d (lP tr)),(5,.box 5 0),(11,.d (.bool true)),(16,.d (wmD (whoO O) O.flatten)),(23,.d (I A)),(24,.d (I B'))] [(5,.box (d.ds.map AV.d))]
  ⟨rfl,⟨obD d.ds rfl,trivial⟩,avQ rfl,avQ rfl,avQ rfl,avQ rfl,avI rfl hA.symm,avI rfl hB'.symm,trivial⟩ ?_
 have mA:A∈sigL d.R:=by
  rw[hA,wa,<- hI,jaJ]
  exact gd1 ka 0
 have mB:B'∈sigL d.R:=by
  rw[hB',wb,<- hI,jaJ]
  exact gd1 kb 0
 clear hA hB' wa wb ka kb nz
 have fA:A∈O.flatten:=o2.mem_iff.2 (by rw[hI]; exact mA)
 have fB:B'∈O.flatten:=o2.mem_iff.2 (by rw[hI]; exact mB)
 obtain⟨n,n1,n2,n3,n4⟩:=std h11 A mA
 have cSt:=zn5 d A (by omega)
 rw[n3] at cSt
 have cW:=zkj [tr.getD n default] (staR d A).1 (by simp) (zkx d A)
 have eW:([tr.getD n default].all fun p=>decide (p∈(staR d A).1))=true:=by
  rw[jav,jbb,jaa]; exact jG n4
 rw[eW] at cW
 refine cR cSt rfl rfl ?_
 refine⟨⟨kInt,rfl⟩,.int .i64 (n:Int),D.eqv_of_eq ((lk_w (whoO O) fA).trans (by rw[n2])),?_⟩
 refine⟨⟨rfl,by omega,(show ((n:Nat):Int)<((tr.length:Nat):Int) by omega)⟩,?_⟩
 refine pEq cW rfl ⟨⟨rfl,.inr ⟨rfl,fun q hq j hj=>?_⟩⟩,dE _,trivial⟩ rfl ?_
 ·have hq:q<1:=hq
  have hj:j<2:=hj
  obtain rfl:q=0:=by omega
  match j,hj with
  | 0,_=>exact dE _
  | 1,_=>exact dE _
 repeat first | apply sT | apply sF
 have cM:=ziZ d A B' (by omega)
 by_cases hAB:A=B'
 ·have es:samR d A B'=(⟨0,[],[]⟩,1):=by
   have pe:parE d A B'=1:=by
    unfold parE
    rw[kG (fun hh=>hh hd),kG,kH hAB]
    rw[jah]
    refine jC.2 fun z hz=>kD.2 ?_
    rcases kT.1 hz with rfl | hz
    ·exact mA
    rw[kI.1 hz]; exact mB
   unfold samR
   rw[pe,kH (by decide)]
  rw[es] at cM
  refine cR cM rfl rfl ?_
  refine sYe (by simpa using hAB) ?_
  repeat first | apply sT | apply sF
  exact r1B rfl rfl
 obtain⟨s0,sy,sn⟩:=sam h11 A mA B' mB hAB
 rw[s0] at cM
 generalize (samR d A B').1=V at *
 refine cR cM rfl rfl ?_
 refine sNo (by simpa using hAB) ?_
 repeat first | apply sT | apply sF
 apply bY <;> intro h14
 ·have h14:V.Ans≠2:=by simpa using h14
  repeat first | apply sT | apply sF
  apply bY <;> intro h15
  ·repeat first | apply sT | apply sF
   exact r1B rfl rfl
  have h15:V.Ans=1:=by simpa using h15
  refine⟨⟨kInt,rfl⟩,.int .i64 (whoO O A),D.eqv_of_eq (lk_w (whoO O) fA),?_⟩
  refine⟨⟨kInt,rfl⟩,.int .i64 (whoO O B'),D.eqv_of_eq (lk_w (whoO O) fB),?_⟩
  repeat first | apply sT | apply sF
  refine r1B rfl ?_
  have:=sn h15
  simpa using this
 have h14:V.Ans=2:=by simpa using h14
 have e:=sy h14
 refine⟨⟨kInt,rfl⟩,.int .i64 (whoO O A),D.eqv_of_eq (lk_w (whoO O) fA),?_⟩
 refine⟨⟨kInt,rfl⟩,.int .i64 (whoO O B'),D.eqv_of_eq (lk_w (whoO O) fB),?_⟩
 repeat first | apply sT | apply sF
 refine sYe (by rw[e]; simp) ?_
 refine sYe (by rw[h14]; decide) ?_
 repeat first | apply sT | apply sF
 exact r1B rfl rfl
end Go.Pg
