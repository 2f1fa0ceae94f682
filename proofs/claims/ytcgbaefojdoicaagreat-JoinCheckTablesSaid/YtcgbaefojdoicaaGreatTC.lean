/- Lemmas, joined by program. -/
import Derived.Test.YtcgbaefojdoicaaGreatTB
import Derived.Deep.Slices
import Derived.Deep.Fields
import Derived.ChangeSame
import Derived.OpenShut
import Derived.ProofKit
import Derived.ChangeOld
import Derived.Below
set_option maxHeartbeats 4000000
set_option linter.all false
set_option maxRecDepth 100000
namespace Go.Pg
open Go.Proofs Go.RowKit
theorem zoJ {L:List Prf} {Q:Prf} {kk q:Nat} (h:kk<q) (hq:q<=L.length) {z:Nat} (hz:z<6):getD' (shL L Q q ((q:Int) - 1).toNat).ds z=(L.getD (q - 1) default).at z:=by
 have e:shL L Q q ((q:Int) - 1).toNat=L.getD (q - 1) default:=by
  have e1:((q:Int) - 1).toNat=q - 1:=by omega
  rw[e1]
  unfold shL; rw[kI (by omega)]
 rw[e]
 have h6:z=0 \/ z=1 \/ z=2 \/ z=3 \/ z=4 \/ z=5:=by omega
 rcases h6 with rfl | rfl | rfl | rfl | rfl | rfl <;> rfl
theorem zkG {L:List Prf} {Q:Prf} {kk q:Nat} (h:kk<q) (hq:q<=L.length) {ys:List D} (hl:ys.length=6) (hy:∀ z,z<6->getD' ys z=(L.getD (q - 1) default).at z):D.eqv (.slc 6 (L.length+1) (storeRow (shR L Q q) q 0 ys)) (.slc 6 (L.length+1) (shR L Q (q - 1))):=by
 refine⟨rfl,.inr ⟨rfl,fun n hn j hj=>?_⟩⟩
 show D.eqv (storeRow (shR L Q q) q 0 ys n j) (shR L Q (q - 1) n j)
 unfold storeRow
 by_cases h1:n=q
 ·subst h1
  rw[kI ⟨rfl,jF _,by omega⟩,Nat.sub_zero,hy j hj]
  unfold shR shL
  rw[kG (by omega),kG (by omega)]
  exact dE _
 rw[kG fun hh=>h1 hh.1]
 unfold shR shL
 by_cases h2:n<q
 ·rw[kI h2]
  by_cases h3:n<q - 1
  ·rw[kI h3]; exact dE _
  have e:n=q - 1:=by omega
  rw[kG h3,kI e,kG (by omega),e]; exact dE _
 rw[kG h2,kG h1,kG (by omega),kG (by omega)]; exact dE _
theorem zoK {L:List Prf} {Q:Prf} {q:Nat} (hp:posS Q L=q) {ys:List D} (hl:ys.length=6) (hy:∀ z,z<6->D.eqv (getD' ys z) (Q.at z)):D.eqv (.slc 6 (L.length+1) (storeRow (shR L Q q) q 0 ys)) (.slc 6 (insF L Q).length (rowPf (insF L Q))):=by
 refine⟨(zi8 L Q).symm,.inr ⟨rfl,fun n hn j hj=>?_⟩⟩
 show D.eqv (storeRow (shR L Q q) q 0 ys n j) (((insF L Q).getD n default).at j)
 rw[znZ,hp]
 unfold storeRow
 by_cases h1:n=q
 ·subst h1
  rw[kI ⟨rfl,jF _,by omega⟩,Nat.sub_zero,kG (Nat.lt_irrefl _),kI rfl]
  exact hy j hj
 rw[kG fun hh=>h1 hh.1]
 unfold shR shL
 by_cases h2:n<q
 ·rw[kI h2,kI h2]; exact dE _
 rw[kG h2,kG h1,kG h2,kG h1]; exact dE _
theorem zqa (m:Mp) (a b:Place) (ax:Nat) (k:Int) (hv:validM m=true) (ha:onM m a=true) (hb:onM m b=true) (hax:ax<2) (hk:1<=k/\k<=48):Spec PP 351 [m.v,a.v,b.v,.agg [I ax,I k]] (if k<dAx a b ax then [(prfOf (pntA m a b ax k)).v,B true] else [.agg [I 0,I 0,I 0,I 0,I 0,I 0],B false]):=by
 have h:ax=0 \/ ax=1:=by omega
 rcases h with rfl | rfl
 ·exact zhD m a b k hv ha hb hk
 exact zhC m a b k hv ha hb hk
theorem zoY {m:Mp} {a b:Place} {ax:Nat} {k:Int} (hv:validM m=true) (ha:onM m a=true) (hb:onM m b=true) (hax:ax<2) (hk:1<=k/\k<dAx a b ax):PrfOk (prfOf (pntA m a b ax k)):=by
 have h:ax=0 \/ ax=1:=by omega
 rcases h with rfl | rfl
 ·have h2:k<dX a b:=hk.2
  exact ziI (zcX hv ha hb ⟨hk.1,h2⟩) (show 0<dX a b by omega)
 have h2:k<dY a b:=hk.2
 exact ziI (zcW hv ha hb ⟨hk.1,h2⟩) (show 0<dY a b by omega)
theorem zlA {m:Mp} {a b:Place} {i j:Nat} (hv:validM m=true) (ha:onM m a=true) (hb:onM m b=true) (hi:i<2) (hU:∀ x∈linU m a b i,PrfOk x):∀ x∈linS m a b i (linU m a b i) j,PrfOk x:=fun x hx=>by
 rcases linS_mem.1 hx with h | ⟨k,h1,h2,rfl⟩
 ·exact hU x h
 exact zoY hv ha hb hi ⟨by omega,h2⟩
theorem zlz {m:Mp} {a b:Place} (hv:validM m=true) (ha:onM m a=true) (hb:onM m b=true):∀ i,i<=2 -> ∀ x∈linU m a b i,PrfOk x
 | 0,_,x,hx=>by cases hx
 | i+1,hi,x,hx=>zlA hv ha hb (by omega) (zlz hv ha hb i (by omega)) x hx
theorem zqd (m:Mp) (a b:Place) (hv:validM m=true) (ha:onM m a=true) (hb:onM m b=true):Spec PP 340 [m.v,a.v,b.v] [.d (lPf (linL m a b))]:=by
 refine sA Tryz.func340 ?_
 refine lOf (σ:=Nat) (fun i=>([(3,.box 3 0),(4,.box 4 0),(5,.box 5 0),(7,.own 7),(8,.d (I i))],[(3,.box (m.ds.map AV.d)),(4,.box ([I a.X,I a.Y].map AV.d)),(5,.box ([I b.X,I b.Y].map AV.d)),(7,.row 407 6 (linU m a b i).length (rowPf (linU m a b i)))])) (fun i=>i<=2) (fun i=>2 - i) 0
  ⟨rfl,⟨obD m.ds rfl,obD [I a.X,I a.Y] rfl,obD [I b.X,I b.Y] rfl,obR rfl ⟨rfl,.inl rfl⟩,trivial⟩,wq rfl⟩ (jF _) fun i hi=>?_
 apply bY <;> intro h0
 ·have h0:i<2:=by have:(i:Int)<2:=dT h0; omega
  refine lOf (σ:=Nat) (fun j=>([(3,.box 3 0),(4,.box 4 0),(5,.box 5 0),(7,.own 7),(8,.d (I i)),(9,.d (I ((j:Int)+1)))],[(3,.box (m.ds.map AV.d)),(4,.box ([I a.X,I a.Y].map AV.d)),(5,.box ([I b.X,I b.Y].map AV.d)),(7,.row 407 6 (linS m a b i (linU m a b i) j).length (rowPf (linS m a b i (linU m a b i) j)))])) (fun j=>j<=48) (fun j=>48 - j) 0
   ⟨rfl,⟨obD m.ds rfl,obD [I a.X,I a.Y] rfl,obD [I b.X,I b.Y] rfl,obR rfl (dE _),trivial⟩,wq rfl⟩ (jF _) fun j hj=>?_
  apply bY <;> intro h1
  ·have h1:(j:Int)+1<=48:=dT h1
   have hP:=zqa m a b i ((j:Int)+1) hv ha hb h0 (by omega)
   by_cases hk:(j:Int)+1<dAx a b i
   ·rw[kI hk] at hP
    have eN:linS m a b i (linU m a b i) (j+1)=insF (linS m a b i (linU m a b i) j) (prfOf (pntA m a b i ((j:Int)+1))):=by
     show (if _ then _ else _)=_
     rw[kI hk]
    have hQ:PrfOk (prfOf (pntA m a b i ((j:Int)+1))):=zoY hv ha hb h0 ⟨by omega,hk⟩
    have hL:=zlA (j:=j) hv ha hb h0 (zlz hv ha hb i hi)
    refine cP hP rfl rfl ?_
    refine sNo rfl ?_
    obtain⟨Q,eQ⟩:∃ Q,Q=prfOf (pntA m a b i ((j:Int)+1)):=⟨_,rfl⟩
    rw[<- eQ] at hQ eN ⊢
    obtain⟨L,eL⟩:∃ L,L=linS m a b i (linU m a b i) j:=⟨_,rfl⟩
    have L1:L.length<=1000:=by
     rw[eL]
     have a1:=zfK m a b i (linU m a b i) j
     have a2:=zfJ m a b i
     omega
    rw[<- eL] at hL eN ⊢
    refine lOf (σ:=Nat) (fun kk=>([(3,.box 3 0),(4,.box 4 0),(5,.box 5 0),(7,.own 7),(8,.d (I i)),(9,.d (I ((j:Int)+1))),(10,.box 10 0),(12,.d (I kk))],[(3,.box (m.ds.map AV.d)),(4,.box ([I a.X,I a.Y].map AV.d)),(5,.box ([I b.X,I b.Y].map AV.d)),(10,.box (Q.ds.map AV.d)),(7,.row 407 6 L.length (rowPf L))])) (fun kk=>kk<=L.length /\ ∀ z,kk<=z->z<L.length->lsF Q (L.getD z default)=true) (fun kk=>kk) L.length
     ⟨rfl,⟨obD m.ds rfl,obD [I a.X,I a.Y] rfl,obD [I b.X,I b.Y] rfl,obD Q.ds rfl,obR rfl (dE _),trivial⟩,wq rfl⟩ ⟨jE _,fun z h1 h2=>absurd h2 (by omega)⟩ fun kk hkk0=>?_
    obtain⟨hkk,hall⟩:=hkk0
    refine oN 13 ?_
    apply bY <;> intro h2
    ·have h2:0<kk:=by have:=dT h2; omega
     refine⟨i6,⟨⟨by omega,by omega⟩,?_⟩⟩
     have hm:=gd1 (l:=L) (i:=kk - 1) (by omega) default
     have hz:((kk:Int) - 1).toNat=kk - 1:=by omega
     refine⟨by omega,?_⟩
     rw[hz]
     refine oP (zqe Q (L.getD (kk - 1) default) hQ (hL _ hm)) rfl rfl ?_
     refine sT ?_
     apply bY <;> intro h3
     ·have h3:lsF Q (L.getD (kk - 1) default)=true:=h3
      refine⟨i6,?_⟩
      refine⟨kk - 1,⟨rfl,⟨obD m.ds rfl,obD [I a.X,I a.Y] rfl,obD [I b.X,I b.Y] rfl,obD Q.ds rfl,obR rfl (dE _),trivial⟩,avQ rfl,avQ rfl,avQ rfl,avQ rfl,avR _ rfl,avR _ rfl,avQ rfl,avI rfl (by omega),trivial⟩,⟨by omega,fun z h4 h5=>?_⟩,(show kk - 1<kk by omega)⟩
      by_cases e:z=kk - 1
      ·subst e; exact h3
      exact hall z (by omega) h5
     have h3:lsF Q (L.getD (kk - 1) default)=false:=h3
     have hpos:posS Q L=kk:=zfw Q L kk hkk hall fun _=>h3
     refine⟨⟨.inr rfl,by simp only[maxLen]; omega,by dsimp only; omega⟩,?_⟩
     refine⟨i6,?_⟩
     refine lOf (σ:=Nat) (fun q=>([(3,.box 3 0),(4,.box 4 0),(5,.box 5 0),(7,.own 7),(8,.d (I i)),(9,.d (I ((j:Int)+1))),(10,.box 10 0),(12,.d (I kk)),(13,.d (I q))],[(3,.box (m.ds.map AV.d)),(4,.box ([I a.X,I a.Y].map AV.d)),(5,.box ([I b.X,I b.Y].map AV.d)),(10,.box (Q.ds.map AV.d)),(7,.row 407 6 (L.length+1) (shR L Q q))])) (fun q=>kk<=q/\q<=L.length) (fun q=>q) L.length
      ⟨rfl,⟨obD m.ds rfl,obD [I a.X,I a.Y] rfl,obD [I b.X,I b.Y] rfl,obD Q.ds rfl,obR rfl (zoU (at6 rfl rfl rfl rfl rfl rfl)),trivial⟩,avQ rfl,avQ rfl,avQ rfl,avQ rfl,avR _ rfl,avR _ rfl,avQ rfl,avR _ rfl,avI rfl (by omega),trivial⟩ ⟨hkk,jE _⟩ fun q hq=>?_
     apply bY <;> intro h5
     ·have h5:kk<q:=by have:=dT h5; omega
      refine⟨i6,⟨⟨by omega,by omega⟩,⟨by omega,⟨⟨by omega,by omega⟩,⟨by omega,?_⟩⟩⟩⟩⟩
      refine⟨i6,?_⟩
      exact⟨q - 1,⟨rfl,⟨obD m.ds rfl,obD [I a.X,I a.Y] rfl,obD [I b.X,I b.Y] rfl,obD Q.ds rfl,obR rfl (zkG h5 hq.2 rfl (fun z hz=>zoJ h5 hq.2 hz)),trivial⟩,avQ rfl,avQ rfl,avQ rfl,avQ rfl,avR _ rfl,avR _ rfl,avQ rfl,avR _ rfl,avI rfl (by omega),trivial⟩,(show kk<=q - 1/\q - 1<=L.length by omega),(show q - 1<q by omega)⟩
     have h5:q=kk:=by have:=dF h5; omega
     subst h5
     refine⟨⟨by omega,by omega⟩,⟨by omega,?_⟩⟩
     refine⟨i6,?_⟩
     exact⟨j+1,⟨rfl,⟨obD m.ds rfl,obD [I a.X,I a.Y] rfl,obD [I b.X,I b.Y] rfl,obR rfl (by rw[eN]; exact zoK hpos rfl (at6 rfl rfl rfl rfl rfl rfl)),trivial⟩,avQ rfl,avQ rfl,avQ rfl,avQ rfl,avR _ rfl,avI rfl (by omega),trivial⟩,(show j+1<=48 by omega),(msr (by omega))⟩
    have h2:kk=0:=by have:=dF h2; omega
    have hpos:posS Q L=kk:=zfw Q L kk hkk hall fun h=>by omega
    refine sF (sF ?_)
    refine⟨⟨.inr rfl,by simp only[maxLen]; omega,by dsimp only; omega⟩,?_⟩
    refine⟨i6,?_⟩
    refine lOf (σ:=Nat) (fun q=>([(3,.box 3 0),(4,.box 4 0),(5,.box 5 0),(7,.own 7),(8,.d (I i)),(9,.d (I ((j:Int)+1))),(10,.box 10 0),(12,.d (I kk)),(13,.d (I q))],[(3,.box (m.ds.map AV.d)),(4,.box ([I a.X,I a.Y].map AV.d)),(5,.box ([I b.X,I b.Y].map AV.d)),(10,.box (Q.ds.map AV.d)),(7,.row 407 6 (L.length+1) (shR L Q q))])) (fun q=>kk<=q/\q<=L.length) (fun q=>q) L.length
     ⟨rfl,⟨obD m.ds rfl,obD [I a.X,I a.Y] rfl,obD [I b.X,I b.Y] rfl,obD Q.ds rfl,obR rfl (zoU (at6 rfl rfl rfl rfl rfl rfl)),trivial⟩,avQ rfl,avQ rfl,avQ rfl,avQ rfl,avR _ rfl,avR _ rfl,avQ rfl,avR _ rfl,avI rfl (by omega),trivial⟩ ⟨hkk,jE _⟩ fun q hq=>?_
    apply bY <;> intro h5
    ·have h5:kk<q:=by have:=dT h5; omega
     refine⟨i6,⟨⟨by omega,by omega⟩,⟨by omega,⟨⟨by omega,by omega⟩,⟨by omega,?_⟩⟩⟩⟩⟩
     refine⟨i6,?_⟩
     exact⟨q - 1,⟨rfl,⟨obD m.ds rfl,obD [I a.X,I a.Y] rfl,obD [I b.X,I b.Y] rfl,obD Q.ds rfl,obR rfl (zkG h5 hq.2 rfl (fun z hz=>zoJ h5 hq.2 hz)),trivial⟩,avQ rfl,avQ rfl,avQ rfl,avQ rfl,avR _ rfl,avR _ rfl,avQ rfl,avR _ rfl,avI rfl (by omega),trivial⟩,(show kk<=q - 1/\q - 1<=L.length by omega),(show q - 1<q by omega)⟩
    have h5:q=kk:=by have:=dF h5; omega
    subst h5
    refine⟨⟨by omega,by omega⟩,⟨by omega,?_⟩⟩
    refine⟨i6,?_⟩
    exact⟨j+1,⟨rfl,⟨obD m.ds rfl,obD [I a.X,I a.Y] rfl,obD [I b.X,I b.Y] rfl,obR rfl (by rw[eN]; exact zoK hpos rfl (at6 rfl rfl rfl rfl rfl rfl)),trivial⟩,avQ rfl,avQ rfl,avQ rfl,avQ rfl,avR _ rfl,avI rfl (by omega),trivial⟩,(show j+1<=48 by omega),(msr (by omega))⟩
   rw[kG hk] at hP
   have eN:linS m a b i (linU m a b i) (j+1)=linS m a b i (linU m a b i) j:=by
    show (if _ then _ else _)=_
    rw[kG hk]
   refine cP hP rfl rfl ?_
   refine sYe rfl ?_
   refine⟨i6,?_⟩
   exact⟨j+1,⟨rfl,⟨obD m.ds rfl,obD [I a.X,I a.Y] rfl,obD [I b.X,I b.Y] rfl,obR rfl (by rw[eN]; exact dE _),trivial⟩,avQ rfl,avQ rfl,avQ rfl,avQ rfl,avR _ rfl,avI rfl (by omega),trivial⟩,(show j+1<=48 by omega),(msr (by omega))⟩
  have h1:j=48:=by have:¬ (j:Int)+1<=48:=dF h1; omega
  subst h1
  refine⟨i6,?_⟩
  exact⟨i+1,⟨rfl,⟨obD m.ds rfl,obD [I a.X,I a.Y] rfl,obD [I b.X,I b.Y] rfl,obR rfl (dE _),trivial⟩,wq rfl⟩,(show i+1<=2 by omega),(msr (by omega))⟩
 have h0:i=2:=by have:¬ (i:Int)<2:=dF h0; omega
 subst h0
 exact⟨⟨_,_,_,_,rfl,dE _⟩,trivial⟩
def fstF (l:List Prf) (lo hi:Int):(Int × Int) × Bool:=if idxL (fun x=>ovF x lo hi) l<0 then ((0,0),false) else (((l.getD (idxL (fun x=>ovF x lo hi) l).toNat default).ax,(l.getD (idxL (fun x=>ovF x lo hi) l).toNat default).k),true)
theorem zqV (l:List Prf) (lo hi:Int):(fstF l lo hi).2=l.any fun x=>ovF x lo hi:=by
 unfold fstF
 have h:=za9 (fun x=>ovF x lo hi) l default
 split
 ·rename_i h1
  symm
  refine kX.2 fun h2=>?_
  have:=h.2 h2
  omega
 rename_i h1
 exact (h.1 (by omega)).symm
theorem znk (m:Mp) (a b:Place) (up rise:Int) (hv:validM m=true) (ha:onM m a=true) (hb:onM m b=true) (hu:0<=up/\up<=1000) (hr:0<=rise/\rise<=1000) :
  Spec PP 336 [m.v,a.v,N up,b.v,N rise] [.agg [I (fstF (linL m a b) (grd m a+up) (grd m b+rise)).1.1,I (fstF (linL m a b) (grd m a+up) (grd m b+rise)).1.2],B (fstF (linL m a b) (grd m a+up) (grd m b+rise)).2]:=by
 have hok:=zsA hv ha hb
 have ga:=(zaU hv ha).2
 have gb:=(zaU hv hb).2
 have hlen:(linL m a b).length<=96:=zfJ m a b 2
 refine sA Tryz.func336 ?_
 refine cR (zqd m a b hv ha hb) rfl rfl ?_
 generalize linL m a b=l at *
 refine lOf (σ:=Nat) (fun i=>([(2,.d (I up)),(4,.d (I rise)),(5,.box 5 0),(6,.box 6 0),(8,.box 8 0),(10,.box 10 0),(12,.d (lPf l)),(13,.d (I i))],[(5,.box (m.ds.map AV.d)),(6,.box ([I a.X,I a.Y].map AV.d)),(8,.box ([I b.X,I b.Y].map AV.d)),(10,.box ([I 0,I 0].map AV.d))])) (fun i=>i<=l.length /\ ∀ j,j<i->ovF (l.getD j default) (grd m a+up) (grd m b+rise)=false) (fun i=>l.length - i) 0
  ⟨rfl,⟨obD m.ds rfl,obD [I a.X,I a.Y] rfl,obD [I b.X,I b.Y] rfl,obD [I 0,I 0] rfl,trivial⟩,wq rfl⟩ z0L fun i hi=>?_
 obtain⟨hi,hall⟩:=hi
 apply bY <;> intro h1
 ·have h1:i<l.length:=by have:=dT h1; omega
  refine oN 15 ?_
  refine⟨⟨rfl,by omega,by omega⟩,?_⟩
  refine oP (zcs m a hv ha) rfl rfl ?_
  refine⟨i6,?_⟩
  refine oP (zcs m b hv hb) rfl rfl ?_
  refine⟨i6,?_⟩
  refine oP (zqb (l.getD i default) (grd m a+up) (grd m b+rise) (hok _ (gd1 h1 default)) (by omega) (by omega)) rfl rfl ?_
  apply bY <;> intro h2
  ·have e:idxL (fun x=>ovF x (grd m a+up) (grd m b+rise)) l=(i:Int):=zai (p:=fun x=>ovF x (grd m a+up) (grd m b+rise)) default h1 h2 hall
   have e2:fstF l (grd m a+up) (grd m b+rise)=(((l.getD i default).ax,(l.getD i default).k),true):=by unfold fstF; rw[e,kG (by omega)]; rfl
   rw[e2]
   refine⟨⟨rfl,by omega,by omega⟩,?_⟩
   exact⟨rtC (a:=10) rfl rfl rfl rfl rfl rfl (zaa _),rtB rfl rfl,trivial⟩
  refine⟨i6,?_⟩
  refine⟨i+1,⟨rfl,⟨obD m.ds rfl,obD [I a.X,I a.Y] rfl,obD [I b.X,I b.Y] rfl,obD [I 0,I 0] rfl,trivial⟩,wq rfl⟩,⟨h1,fun j hj=>?_⟩,(msr (by omega))⟩
  by_cases e:j=i
  ·subst e; exact h2
  exact hall j (by omega)
 have h1:i=l.length:=by have:=dF h1; omega
 subst h1
 have e:idxL (fun x=>ovF x (grd m a+up) (grd m b+rise)) l = -1:=zaj (p:=fun x=>ovF x (grd m a+up) (grd m b+rise)) default hall
 have e2:fstF l (grd m a+up) (grd m b+rise)=((0,0),false):=by unfold fstF; rw[e]; rfl
 rw[e2]
 exact⟨rtC (a:=10) rfl rfl rfl rfl rfl rfl (zaa _),rtB rfl rfl,trivial⟩
theorem zp9 (m:Mp) (t:Twr) (p:Place) (rise:Int) (hv:validM m=true) (ht:onM m t.At=true) (hp:onM m p=true) (hh:0<=t.H/\t.H<=200) (hr:0<=rise/\rise<=200) :
  Spec PP 324 [m.v,t.v,p.v,N rise] [B (freeB m t.At t.H p rise)]:=by
 refine sA Tryz.func324 ?_
 refine cP (znk m t.At p t.H rise hv ht hp (by omega) (by omega)) rfl rfl ?_
 refine r1B rfl ?_
 unfold freeB
 rw[zqV,znE hv ht hp]
theorem r4_in (c:Ctry) (t:Twr) (p:Place) (rise far:Int) (hv:validM c.M=true) (ht:TwrOk c t) (hp:onM c.M p=true) (hr:0<=rise/\rise<=200) (hf:0<=far/\far<=100) :
  Spec PP 315 [c.M.v,t.v,p.v,N rise,N far] [B (seesB c t p rise far)]:=by
 refine sA Tryz.func315 ?_
 refine cP (zqc t.At p far (ziS hv ht.on) (ziS hv hp) hf) rfl rfl ?_
 apply bY <;> intro h1
 ·have h1:nearB t.At p far=true:=h1
  refine cP (zp9 c.M t p rise hv ht.on hp ht.h hr) rfl rfl ?_
  refine sT ?_
  refine r1B rfl ?_
  unfold seesB; rw[h1]; rfl
 have h1:nearB t.At p far=false:=h1
 refine sF ?_
 refine r1B rfl ?_
 unfold seesB; rw[h1]; rfl
theorem zoH {T:List Twr} {i:Nat} (h:i<T.length):towI T (T.getD i default).ID<i ↔ ((T.take i).any fun x=>x.ID==(T.getD i default).ID)=true:=by
 rcases idxL_cases (fun t:Twr=>t.ID==(T.getD i default).ID) T default with⟨_,h2⟩ | ⟨j,h1,h2,h3,h4⟩
 ·have:=h2 i h
  simp at this
 unfold towI
 rw[h2,kO]
 constructor
 ·intro hj
  have hj:j<i:=by omega
  refine⟨T.getD j default,?_,h3⟩
  have e:(T.take i).getD j default=T.getD j default:=by
   rw[hZ,jS,kI hj,<- hZ]
  rw[<- e]
  exact gd1 (by rw[jQ]; omega) default
 rintro⟨x,hx,hp⟩
 obtain⟨q,hq,rfl⟩:=zbs default hx
 rw[jQ] at hq
 have e:(T.take i).getD q default=T.getD q default:=by
  rw[hZ,jS,kI (by omega),<- hZ]
 rw[e] at hp
 rcases jau q j with h5 | h5
 ·rw[h4 q h5] at hp; cases hp
 omega
theorem zc8 {Z:List Hz} {j:Nat} (h:(Z.getD j default).From<0 \/ (Z.getD j default).To<(Z.getD j default).From \/ 1048576<(Z.getD j default).To \/ (Z.getD j default).From<=lastZ Z j \/ (Z.getD j default).Far<0 \/ 100<(Z.getD j default).Far):hzE Z j=1:=by
 unfold hzE
 refine kI (jL fun h0=>?_)
 simp only[jX,jY,not_or,jar,kA,zab] at h0
 omega
theorem zsK {Z:List Hz} {j:Nat} (h:¬ ((Z.getD j default).From<0 \/ (Z.getD j default).To<(Z.getD j default).From \/ 1048576<(Z.getD j default).To \/ (Z.getD j default).From<=lastZ Z j \/ (Z.getD j default).Far<0 \/ 100<(Z.getD j default).Far)):hzE Z j=0:=by
 unfold hzE
 refine kG fun h0=>h ?_
 simp only[jX,jY,kA] at h0
 rcases h0 with ((h0 | h0) | h0) | h0
 ·have:¬ (0<=(Z.getD j default).From/\(Z.getD j default).From<=(Z.getD j default).To):=fun hh=>by rw[zab.2 hh] at h0; cases h0
  omega
 ·omega
 ·omega
 have:¬ (0<=(Z.getD j default).Far/\(Z.getD j default).Far<=100):=fun hh=>by rw[zab.2 hh] at h0; cases h0
 omega
abbrev Hz.ds (x:Hz):List D:=[I x.From,I x.To,I x.Far]
theorem ziB (c:Ctry):Spec PP 174 [c.v] [.d (.int .i64 (ctryE c))]:=by
 refine sA Tryz.func174 ?_
 refine cP (znl c.M) rfl rfl ?_
 apply bY <;> intro h0
 ·have h0:validM c.M=false:=by
   have:(!validM c.M)=true:=h0
   simpa using this
  refine r1I rfl ?_
  unfold ctryE; rw[kI h0]
 have h0:validM c.M=true:=by
  have:(!validM c.M)=false:=h0
  simpa using this
 apply bY <;> intro h1
 ·have h1:12<c.T.length:=by have:=dT h1; omega
  repeat first | apply sT | apply sF
  refine r1I rfl ?_
  unfold ctryE; rw[kG (by rw[h0]; decide),kI (.inl h1)]
 have h1:¬ 12<c.T.length:=by have:=dF h1; omega
 repeat first | apply sT | apply sF
 apply bY <;> intro h2
 ·have h2:60<c.Z.length:=by have:=dT h2; omega
  refine r1I rfl ?_
  unfold ctryE; rw[kG (by rw[h0]; decide),kI (.inr h2)]
 have h2:¬ 60<c.Z.length:=by have:=dF h2; omega
 have e0:ctryE c=if err1 (towE c) c.T.length≠0 then err1 (towE c) c.T.length else err1 (hzE c.Z) c.Z.length:=by unfold ctryE; rw[kG (by rw[h0]; decide),kG (by omega)]
 refine lOf (σ:=Nat) (fun i=>([(1,.box 1 0),(3,.d (I i))],[(1,bxCt c)])) (fun i=>i<=c.T.length /\ ∀ j,j<i->towE c j=0) (fun i=>c.T.length - i) 0
  ⟨rfl,⟨obCt rfl,trivial⟩,wq rfl⟩ z0L fun i hi=>?_
 obtain⟨hi,ha⟩:=hi
 apply bY <;> intro h3
 ·have h3:i<c.T.length:=by have:=dT h3; omega
  have bad:towE c i≠0->ctryE c=towE c i:=fun h=>by
   have:=zao ha h h3
   rw[e0,kI (by rw[this]; exact h),this]
  have bad1:(!within (c.T.getD i default).ID 1 1099511627776 || !onM c.M (c.T.getD i default).At || !within (c.T.getD i default).H 0 200)=true->ctryE c=1:=fun h=>by
   have:towE c i=1:=by unfold towE; rw[kI h]
   rw[bad (by rw[this]; decide),this]
  refine⟨⟨rfl,by omega,by omega⟩,?_⟩
  apply bY <;> intro k1
  ·have k1:(c.T.getD i default).ID<1:=dT k1
   repeat first | apply sT | apply sF
   refine r1I rfl ?_
   rw[bad1 (by unfold within; rw[jH (show ¬ 1<=(c.T.getD i default).ID by omega)]; rfl)]
  have k1:¬ (c.T.getD i default).ID<1:=dF k1
  repeat first | apply sT | apply sF
  apply bY <;> intro k2
  ·have k2:1099511627776<(c.T.getD i default).ID:=dT k2
   repeat first | apply sT | apply sF
   refine r1I rfl ?_
   rw[bad1 (by unfold within; rw[jH (show ¬ (c.T.getD i default).ID<=1099511627776 by omega),kU]; rfl)]
  have k2:¬ 1099511627776<(c.T.getD i default).ID:=dF k2
  have w1:within (c.T.getD i default).ID 1 1099511627776=true:=zab.2 (by omega)
  repeat first | apply sT | apply sF
  refine cP (zqg c.M (c.T.getD i default).At) rfl rfl ?_
  repeat first | apply sT | apply sF
  apply bY <;> intro k3
  ·have k3:(!onM c.M (c.T.getD i default).At)=true:=k3
   repeat first | apply sT | apply sF
   refine r1I rfl ?_
   rw[bad1 (by rw[k3,kV]; rfl)]
  have k3:(!onM c.M (c.T.getD i default).At)=false:=k3
  repeat first | apply sT | apply sF
  refine cP (zk1 (c.T.getD i default).H) rfl rfl ?_
  repeat first | apply sT | apply sF
  apply bY <;> intro k4
  ·have k4:(!within (c.T.getD i default).H 0 200)=true:=k4
   refine r1I rfl ?_
   rw[bad1 (by rw[k4,kV])]
  have k4:(!within (c.T.getD i default).H 0 200)=false:=k4
  have eT:towE c i=if ((c.T.take i).any fun x=>x.ID==(c.T.getD i default).ID)=true then 6 else 0:=by
   unfold towE; rw[kG (by rw[w1,k3,k4]; decide)]
  refine cP (zeR c (c.T.getD i default).ID (by omega)) rfl rfl ?_
  apply bY <;> intro k5
  ·have k5:towI c.T (c.T.getD i default).ID<i:=dT k5
   have e:towE c i=6:=by rw[eT,kI ((zoH h3).1 k5)]
   refine r1I rfl ?_
   rw[bad (by rw[e]; decide),e]
  have k5:¬ towI c.T (c.T.getD i default).ID<i:=dF k5
  have e:towE c i=0:=by rw[eT,kG fun h=>k5 ((zoH h3).2 h)]
  refine⟨i6,?_⟩
  refine⟨i+1,⟨rfl,⟨obCt rfl,trivial⟩,wq rfl⟩,⟨h3,fun j hj=>?_⟩,(msr (by omega))⟩
  by_cases q:j=i
  ·subst q; exact e
  exact ha j (by omega)
 have h3:i=c.T.length:=by have:=dF h3; omega
 subst h3
 have e1:ctryE c=err1 (hzE c.Z) c.Z.length:=by rw[e0,zaJ ha]; rfl
 clear ha
 refine lOf (σ:=Nat) (fun i=>([(1,.box 1 0),(5,.d (I i))],[(1,bxCt c)])) (fun i=>i<=c.Z.length /\ ∀ j,j<i->hzE c.Z j=0) (fun i=>c.Z.length - i) 0
  ⟨rfl,⟨obCt rfl,trivial⟩,wq rfl⟩ z0L fun i hi=>?_
 obtain⟨hi,ha⟩:=hi
 apply bY <;> intro h3
 ·have h3:i<c.Z.length:=by have:=dT h3; omega
  have bad1:hzE c.Z i=1->ctryE c=1:=fun h=>by rw[e1,zao ha (by rw[h]; decide) h3,h]
  refine⟨⟨rfl,by omega,by omega⟩,?_⟩
  refine oN 41 ?_
  apply bY <;> intro k1
  ·have k1:(c.Z.getD i default).From<0:=dT k1
   repeat first | apply sT | apply sF
   refine r1I rfl ?_
   rw[bad1 (zc8 (.inl k1))]
  have k1:¬ (c.Z.getD i default).From<0:=dF k1
  repeat first | apply sT | apply sF
  apply bY <;> intro k2
  ·have k2:(c.Z.getD i default).To<(c.Z.getD i default).From:=dT k2
   repeat first | apply sT | apply sF
   refine r1I rfl ?_
   rw[bad1 (zc8 (.inr (.inl k2)))]
  have k2:¬ (c.Z.getD i default).To<(c.Z.getD i default).From:=dF k2
  repeat first | apply sT | apply sF
  apply bY <;> intro k3
  ·have k3:1048576<(c.Z.getD i default).To:=dT k3
   repeat first | apply sT | apply sF
   refine r1I rfl ?_
   rw[bad1 (zc8 (.inr (.inr (.inl k3))))]
  have k3:¬ 1048576<(c.Z.getD i default).To:=dF k3
  repeat first | apply sT | apply sF
  apply bY <;> intro k4
  ·have k4:0<i:=by have:(0:Int)<i:=dT k4; omega
   have eL:lastZ c.Z i=(c.Z.getD (i - 1) default).To:=by
    obtain⟨d,rfl⟩:∃ d,i=d+1:=⟨i - 1,by omega⟩
    rfl
   have hz:((i:Int) - 1).toNat=i - 1:=by omega
   refine⟨i6,⟨⟨rfl,by omega,by omega⟩,?_⟩⟩
   rw[hz]
   refine sT ?_
   refine sF ?_
   apply bY <;> intro k5
   ·have k5:(c.Z.getD i default).From<=(c.Z.getD (i - 1) default).To:=dT k5
    repeat first | apply sT | apply sF
    refine r1I rfl ?_
    rw[bad1 (zc8 (.inr (.inr (.inr (.inl (by rw[eL]; exact k5))))))]
   have k5:¬ (c.Z.getD i default).From<=(c.Z.getD (i - 1) default).To:=dF k5
   repeat first | apply sT | apply sF
   apply bY <;> intro k6
   ·have k6:(c.Z.getD i default).Far<0:=dT k6
    repeat first | apply sT | apply sF
    refine r1I rfl ?_
    rw[bad1 (zc8 (.inr (.inr (.inr (.inr (.inl k6))))))]
   have k6:¬ (c.Z.getD i default).Far<0:=dF k6
   repeat first | apply sT | apply sF
   apply bY <;> intro k7
   ·have k7:100<(c.Z.getD i default).Far:=dT k7
    refine r1I rfl ?_
    rw[bad1 (zc8 (.inr (.inr (.inr (.inr (.inr k7))))))]
   have k7:¬ 100<(c.Z.getD i default).Far:=dF k7
   have e:hzE c.Z i=0:=zsK (by rw[eL]; omega)
   refine⟨i6,?_⟩
   refine⟨i+1,⟨rfl,⟨obCt rfl,trivial⟩,wq rfl⟩,⟨h3,fun j hj=>?_⟩,(msr (by omega))⟩
   by_cases q:j=i
   ·subst q; exact e
   exact ha j (by omega)
  have k4:i=0:=by have:¬ (0:Int)<i:=dF k4; omega
  subst k4
  repeat first | apply sT | apply sF
  apply bY <;> intro k6
  ·have k6:(c.Z.getD 0 default).Far<0:=dT k6
   repeat first | apply sT | apply sF
   refine r1I rfl ?_
   rw[bad1 (zc8 (.inr (.inr (.inr (.inr (.inl k6))))))]
  have k6:¬ (c.Z.getD 0 default).Far<0:=dF k6
  repeat first | apply sT | apply sF
  apply bY <;> intro k7
  ·have k7:100<(c.Z.getD 0 default).Far:=dT k7
   refine r1I rfl ?_
   rw[bad1 (zc8 (.inr (.inr (.inr (.inr (.inr k7))))))]
  have k7:¬ 100<(c.Z.getD 0 default).Far:=dF k7
  have e:hzE c.Z 0=0:=zsK (by show ¬ (_ \/ _ \/ _ \/ _<=(-1:Int) \/ _ \/ _); omega)
  refine⟨i6,?_⟩
  refine⟨0+1,⟨rfl,⟨obCt rfl,trivial⟩,wq rfl⟩,⟨h3,fun j hj=>?_⟩,(msr (by omega))⟩
  obtain rfl:j=0:=by omega
  exact e
 have h3:i=c.Z.length:=by have:=dF h3; omega
 subst h3
 refine r1I rfl ?_
 rw[e1,zaJ ha]
theorem zqf (c:Ctry) (id:Int) (p:Place) (h t:Int):Spec PP 299 [c.v,N id,p.v,N h,N t] [B (seesE c id p h t).1,.d (.int .i64 (seesE c id p h t).2)]:=by
 refine sA Tryz.func299 ?_
 refine cP (ziB c) rfl rfl ?_
 apply bY <;> intro h0
 ·have e:seesE c id p h t=(false,ctryE c):=by unfold seesE; rw[kI (by simpa using h0)]
  rw[e]; exact r2BI rfl rfl rfl rfl
 have h0:ctryE c=0:=by simpa using h0
 have ok:=zee h0
 refine cP (zeR c id (by have:=ok.t; omega)) rfl rfl ?_
 apply bY <;> intro h1
 ·have h1:towI c.T id<0:=dT h1
  have e1:(towG c.T id).2=false:=by unfold towG; rw[kI h1]
  have e:seesE c id p h t=(false,5):=by unfold seesE; rw[kG (fun hh=>hh h0),kI e1]
  rw[e]; exact r2BI rfl rfl rfl rfl
 have h1:¬ towI c.T id<0:=dF h1
 have eG:towG c.T id=(c.T.getD (towI c.T id).toNat default,true):=by unfold towG; rw[kG h1]
 have e0:seesE c id p h t=if (!onM c.M p || !within h 0 200 || !within t 0 1048576)=true then (false,1) else (seesB c (c.T.getD (towI c.T id).toNat default) p h (farZ t c.Z),0):=by unfold seesE; rw[kG (fun hh=>hh h0),kG (by rw[eG]; exact fun hh=>by cases hh),eG]
 refine cP (zqg c.M p) rfl rfl ?_
 apply bY <;> intro h2
 ·have h2:(!onM c.M p)=true:=h2
  repeat first | apply sT | apply sF
  rw[e0,kI (by rw[h2]; rfl)]; exact r2BI rfl rfl rfl rfl
 have h2:(!onM c.M p)=false:=h2
 refine cP (zk1 h) rfl rfl ?_
 repeat first | apply sT | apply sF
 apply bY <;> intro h3
 ·have h3:(!within h 0 200)=true:=h3
  repeat first | apply sT | apply sF
  rw[e0,kI (by rw[h3,kV]; rfl)]; exact r2BI rfl rfl rfl rfl
 have h3:(!within h 0 200)=false:=h3
 refine cP (zk2 t) rfl rfl ?_
 repeat first | apply sT | apply sF
 apply bY <;> intro h4
 ·have h4:(!within t 0 1048576)=true:=h4
  rw[e0,kI (by rw[h4,kV])]; exact r2BI rfl rfl rfl rfl
 have h4:(!within t 0 1048576)=false:=h4
 rw[e0,kG (by rw[h2,h3,h4]; decide)]
 have hp:onM c.M p=true:=by simpa using h2
 have hh:within h 0 200=true:=by simpa using h3
 have hw:=zkt ok (id:=id) (by rw[eG])
 rw[eG] at hw
 have ht:within t 0 1048576=true:=by simpa using h4
 have hlt:(towI c.T id).toNat<c.T.length:=by
  rcases idxL_cases (fun x:Twr=>x.ID==id) c.T default with⟨g1,_⟩ | ⟨i,g1,g2,_⟩
  ·exact absurd (show towI c.T id<0 by unfold towI; rw[g1]; decide) h1
  unfold towI; rw[g2]; exact g1
 refine oN 15 ?_
 refine⟨⟨rfl,by omega,by omega⟩,?_⟩
 refine oP (zr1 c t (by have:=ok.z; omega)) rfl rfl ?_
 refine oP (r4_in c (c.T.getD (towI c.T id).toNat default) p h (farZ t c.Z) ok.m hw hp (zab.1 hh) (zhY ok.f)) rfl rfl ?_
 exact r2BI rfl rfl rfl rfl
theorem zeq (n lo hi:Int):Spec PP 252 [N n,N lo,N hi] [B (within n lo hi)]:=by
 refine sA Tryz.func252 ?_
 apply bY <;> intro h1
 ·have h1:decide (lo<=n)=true:=h1
  refine sT ?_
  refine r1B rfl ?_
  unfold within; rw[h1]; rfl
 have h1:decide (lo<=n)=false:=h1
 refine sF ?_
 refine r1B rfl ?_
 unfold within; rw[h1]; rfl
end Go.Pg
namespace Go.Pg
open Go.Proofs Go.RowKit Go.Sort Go.Shelf
theorem zpg {g:Int->Int->Int} (hg:∀ x y,g x y=0) (a b c d k:Int):crsH g a b c d k=0:=by
 unfold crsH
 simp only[hg,Int.mul_zero,Int.add_zero,ite_self]
theorem zhG {m:Mp} (hm:∀ p,grd m p=0) (a b:Place):∀ (n:Nat) (k0 k1:Int),∀ p∈ptsF m a b n k0 k1,p.hi=0
 | 0,_,_,p,hp=>by cases hp
 | n+1,k0,k1,p,hp=>by
  unfold ptsF at hp
  split at hp
  ·split at hp
   ·rcases kZ.1 hp with rfl | hp
    ·exact zpg (g:=fun y x=>grd m ⟨x,y⟩) (fun _ _=>hm _) _ _ _ _ _
    exact zhG hm a b n _ _ p hp
   rcases kZ.1 hp with rfl | hp
   ·exact zpg (g:=fun x y=>grd m ⟨x,y⟩) (fun _ _=>hm _) _ _ _ _ _
   exact zhG hm a b n _ _ p hp
  cases hp
theorem zgR {m:Mp} (hm:∀ p,grd m p=0) (hv:validM m=true) {a b:Place} (ha:onM m a=true) (hb:onM m b=true) {ta tb:Int} (h1:0<=ta) (h2:0<=tb):freeB m a ta b tb=true:=by
 unfold freeB
 rw[jY,jan]
 intro p hp
 have ok:=zoX hv ha hb p hp
 have h3:=zhG hm a b _ _ _ p hp
 unfold ovrB abvI
 rw[h3,hm,hm]
 have k1:=jaa (show 0<=p.n - p.k by have:=ok.k; omega) (show 0<=0+ta by omega)
 have k2:=jaa ok.k.1 (show 0<=0+tb by omega)
 simp only[kA]
 omega
end Go.Pg
namespace Go.Pg
open Go.RowKit Go.ChangeShapes Go.WideShapes Go.Deep
section
variable {H:Type} {enc:TypeId × Value->H} {P:Program} {w:World} {base:Nat} {spare:Nat->Bool} {held:Bool}
theorem zrs {n:Int} (h:(Lit.int .i64 n).wf=true):-9223372036854775808<=n/\n<=9223372036854775807:=by
 have h:(decide (IntKind.min .i64<=n) && decide (n<=IntKind.max .i64))=true:=h
 simp only[jP,kA] at h
 exact h
def IntFs (P:Program) (fs:Array Field):Prop:=∀ (j:Nat) (f:Field),fs[j]?=some f->P.underlying f.type=some (.int .i64)
theorem open_aggI {r:Reach} {b0:Nat} {t:TypeId} {fs:Array Field} {v:Value} {d:DataW H} {p:List MemPlace} (hs:P.underlying t=some (.struct fs)) (hone:oneCellFields P fs=true) (hC:P.cellsOf t=fs.size) (hI:IntFs P fs)
  (hv:Value.okWide P w r b0 t v) (h:DataW.Trod enc P w base spare held t v d p) :
  ∃ ns:List Int,ns.length=fs.size/\(∀ n∈ns,-9223372036854775808<=n/\n<=9223372036854775807)/\v = .agg (ns.map (Value.int .i64)).toArray:=by
 obtain⟨cs,rfl,hsz⟩:=okWide_struct hs hv
 obtain⟨l⟩:=cs
 have hl:l.length=fs.size:=by simpa [hC] using hsz
 obtain⟨fuel,hf⟩:=h
 obtain⟨xs,n,_,hx,_,hlen,hg⟩:=DataW.trod_struct hs hf
 have key:∀ j,j<l.length -> ∃ n:Int,l[j]?=some (.int .i64 n)/\(Lit.int .i64 n).wf=true:=fun j hj=>by
  have hjf:fs[j]?=some (fs[j]'(by omega)):=wA (by omega)
  obtain⟨o0,k0⟩:=hone_of hone j _ hjf
  have h1:=hg j _ hjf
  rw[o0,k0] at h1
  have hxs:xs[j]?=some (xs[j]'(by omega)):=kH (by omega)
  rw[hxs] at h1
  obtain⟨n,hc,_,hw⟩:=DataW.trod_int (hI j _ hjf) h1
  refine⟨n,?_,hw⟩
  have:(l.drop j).take 1=[.int .i64 n]:=by simpa [Value.cells] using hc
  rw[qK hj] at this
  have h3:l[j]=Value.int .i64 n:=(List.cons.inj this).1
  rw[kH hj,h3]
 have:∀ l:List Value,(∀ j,j<l.length -> ∃ n:Int,l[j]?=some (.int .i64 n)/\(Lit.int .i64 n).wf=true) -> ∃ ns:List Int,ns.length=l.length/\(∀ n∈ns,-9223372036854775808<=n/\n<=9223372036854775807)/\l=ns.map (Value.int .i64):=by
  intro l
  induction l with
  | nil=>intro _; exact⟨[],rfl,by simp,rfl⟩
  | cons u r ih=>
  intro hk
  obtain⟨n,h1,h2⟩:=hk 0 (by simp)
  obtain⟨ns,h3,h4,h5⟩:=ih fun j hj=>by simpa using hk (j+1) (by simpa using hj)
  refine⟨n :: ns,by simp[h3],fun m hm=>?_,?_⟩
  ·rcases kZ.1 hm with rfl | hm
   ·exact zrs h2
   exact h4 m hm
  simp only[List.getElem?_cons_zero,jO] at h1
  rw[h1,h5]; rfl
 obtain⟨ns,h1,h2,h3⟩:=this l key
 exact⟨ns,by omega,h2,by rw[h3]⟩
theorem all2I {ok:Nat->Prop} (ns:List Int):All2 (Rep w ok) (ns.map I) (ns.map (Value.int .i64)):=by
 induction ns with
 | nil=>exact .nil
 | cons n r ih=>exact .cons rfl ih
end
section
variable {w:World} {ok:Nat->Prop} {len:Nat} {g:Nat->Nat->Int} {v:Value}
theorem rep_aggI (ns:List Int):Rep1 w ok (.agg (ns.map I)) (.agg (ns.map (Value.int .i64)).toArray):=⟨_,rfl,all2I ns⟩
end
inductive Sh where
  | int (k:IntKind)
  | sl (k:Nat) (f:Nat->Sh)
def Fits:Sh->D->Prop
 | .int k,x=>∃ n:Int,(k.min<=n/\n<=k.max)/\x = .int k n
 | .sl k s,x=>∃ (n:Nat) (f:Nat->Nat->D),x = .slc k n f/\n<=maxLen /\ ∀ i,i<n -> ∀ j,j<k->Fits (s j) (f i j)
def GdS (w:World) (s:Sh) (v:Value):Prop:=∃ x:D,Rep w (fun b=>b<w.heap.size) x v/\Fits s x
def shFs (cells:TypeId->Nat) (g:TypeId->Option (List Sh)):Nat->List Field->Option (List Sh)
 | _,[]=>some []
 | off,f :: r=>(g f.type).bind fun a=>bif f.offset==off && a.length==cells f.type then (shFs cells g (off+a.length) r).map fun b=>a++b else none
def shSt (P:Program) (g:TypeId->Option (List Sh)) (t:TypeId) (fs:Array Field):Option (List Sh):=(shFs P.cellsOf g 0 fs.toList).bind fun ks=>bif ks.length==P.cellsOf t then some ks else none
def shSl (P:Program) (g:TypeId->Option (List Sh)) (e:TypeId):Option (List Sh):=(g e).bind fun ks=>bif ks.length==P.cellsOf e then some [.sl ks.length fun j=>getD' ks j] else none
where getD':List Sh->Nat->Sh
 | [],_=>.int .i64
 | x :: _,0=>x
 | _ :: r,j+1=>getD' r j
def shOf (P:Program):Nat->TypeId->Option (List Sh)
 | 0,_=>none
 | n+1,t=>match P.underlying t with
  | some (.int k)=>some [.int k]
  | some (.slice e)=>shSl P (shOf P n) e
  | some (.struct fs)=>shSt P (shOf P n) t fs
  | _=>none
theorem zm0 {l:List Sh} {j:Nat} (h:j<l.length):l[j]?=some (shSl.getD' l j):=by
 induction l generalizing j with
 | nil=>cases h
 | cons x r ih=>cases j with
  | zero=>rfl
  | succ j=>simpa [shSl.getD'] using ih (by simpa using h)
theorem All2.app' {α β:Type} {R:α->β->Prop} {a c:List α} {b d:List β} (h1:All2 R a b) (h2:All2 R c d):All2 R (a++c) (b++d):=by
 induction h1 with
 | nil=>exact h2
 | cons h _ ih=>exact .cons h ih
theorem zra {w:World} {a:Addr} {v:Value} (h:w.cell? a=some v):a.block<w.heap.size:=by
 rcases jau a.block w.heap.size with h1 | h1
 ·exact h1
 simp only[World.cell?,jaj h1] at h
 cases h
theorem wf_kind {k:IntKind} {n:Int} (h:(Lit.int k n).wf=true):k.min<=n/\n<=k.max:=by
 have h:(decide (IntKind.min k<=n) && decide (n<=IntKind.max k))=true:=h
 simp only[jP,kA] at h
 exact h
section
variable {H:Type} {enc:TypeId × Value->H} {P:Program} {w:World} {base:Nat} {spare:Nat->Bool} {held:Bool}
theorem zgr {g:TypeId->Option (List Sh)} {n:Nat} {cs:List Value}
  (ih:∀ t ks,g t=some ks -> ∀ cs x,DataW.trod enc P w base spare held n t cs=some x->All2 (GdS w) ks cs) :
  ∀ (r:List Field) (off:Nat) (ks:List Sh),shFs P.cellsOf g off r=some ks->(∀ f∈r,∃ x,DataW.trod enc P w base spare held n f.type ((cs.drop f.offset).take (P.cellsOf f.type))=some x)->All2 (GdS w) ks ((cs.drop off).take ks.length)
 | [],off,ks,h,_=>by
  simp only[shFs,jO] at h
  subst h
  exact .nil
 | f :: r,off,ks,h,hx=>by
  unfold shFs at h
  obtain⟨a,ha,h⟩:=jbA.1 h
  cases hc:f.offset==off && a.length==P.cellsOf f.type with
  | false=>rw[hc] at h; cases h
  | true=>
  rw[hc] at h
  obtain⟨b,hb,rfl⟩:=Option.map_eq_some_iff.1 (show (shFs P.cellsOf g (off+a.length) r).map (fun b=>a++b)=some ks from h)
  simp only[jP,jaE] at hc
  obtain⟨x,h1⟩:=hx f (jaw ..)
  rw[hc.1,<- hc.2] at h1
  have g1:=ih _ _ ha _ _ h1
  have g2:=zgr ih r (off+a.length) b hb fun f hf=>hx f (jaA _ hf)
  rw[jR,List.take_add,List.drop_drop]
  exact g1.app' g2
theorem zfj:∀ (n:Nat) (t:TypeId) (ks:List Sh),shOf P n t=some ks -> ∀ (fuel:Nat) (cs:List Value) (x:DataW H × List MemPlace),DataW.trod enc P w base spare held fuel t cs=some x->All2 (GdS w) ks cs
 | 0,_,_,h,_,_,_,_=>by cases h
 | n+1,t,ks,h,fuel,cs,x,ht=>by
  unfold shOf at h
  split at h
  ·rename_i k hu
   simp only[jO] at h
   subst h
   obtain⟨m,rfl,_,hw⟩:=DataW.trod_int hu ht
   exact .cons ⟨.int k m,rfl,m,wf_kind hw,rfl⟩ .nil
  ·rename_i e hu
   unfold shSl at h
   obtain⟨ks',hk,h⟩:=jbA.1 h
   cases hc:ks'.length==P.cellsOf e with
   | false=>rw[hc] at h; cases h
   | true=>
   rw[hc] at h
   simp only[kR,jO] at h
   subst h
   have hc:=jaE.1 hc
   obtain⟨v,rfl⟩:∃ v,cs=[v]:=by
    rcases open_slice hu ht with⟨rfl,_⟩ | ⟨ad,len,cap,m,n',D,Pl,rfl,_⟩
    ·exact⟨_,rfl⟩
    exact⟨_,rfl⟩
   refine .cons ?_ .nil
   rcases open_slice hu ht with⟨h1,_⟩ | ⟨ad,len,cap,m,n',D,Pl,h1,hb,hl,hm,hmm,hx,hi⟩
   ·cases h1
    exact⟨.slc ks'.length 0 fun _ _=>.nil,.inl ⟨rfl,rfl⟩,0,_,rfl,by unfold maxLen; omega,fun i hi=>absurd hi (qI _)⟩
   cases h1
   have key:∀ i,i<len -> ∀ j,j<ks'.length -> ∃ v,w.cell? (ad.add (i * ks'.length+j))=some v/\GdS w (shSl.getD' ks' j) v:=fun i him j hjl=>by
    obtain⟨cs',hcc,ht'⟩:=hi i (by rw[hmm]; split <;> omega)
    have hg:=zfj n e ks' hk _ _ _ ht'
    obtain⟨_,hcl,hat⟩:=World.cells?_some hcc
    obtain⟨v,hv,hgv⟩:=hg.get j _ (zm0 hjl)
    refine⟨v,?_,hgv⟩
    rw[<- Go.Deep.add_add,hc]
    rw[hat j (by omega)]; exact hv
   refine⟨.slc ks'.length len fun i j=>if h:i<len/\j<ks'.length then Classical.choose (jav (key i h.1 j h.2)).2 else .nil,.inr ⟨ad,cap,rfl,hl,hm,fun i hi j hj=>?_⟩,len,_,rfl,by omega,fun i hi j hj=>?_⟩
   ·have hs:=jav (key i hi j hj)
    have hs2:=jav hs.2
    refine⟨?_,_,hs.1,?_⟩
    ·have:=zra hs.1
     rwa [zaL] at this
    dsimp only; rw[dif_pos ⟨hi,hj⟩]; exact hs2.1
   dsimp only; rw[dif_pos ⟨hi,hj⟩]
   exact (jav (jav (key i hi j hj)).2).2
  ·rename_i fs hu
   unfold shSt at h
   obtain⟨ks',hk,h⟩:=jbA.1 h
   cases hc:ks'.length==P.cellsOf t with
   | false=>rw[hc] at h; cases h
   | true=>
   rw[hc] at h
   simp only[kR,jO] at h
   subst h
   obtain⟨xs,m,rfl,_,hl,hlen,hf⟩:=DataW.trod_struct hu ht
   have key:=zgr (cs:=cs) (n:=m) (fun t ks h cs x hx=>zfj n t ks h m cs x hx) fs.toList 0 ks' hk fun f hf'=>by
    obtain⟨i,hi,rfl⟩:=kQ hf'
    have hi':i<fs.size:=by simpa using hi
    have h1:=hf i fs[i] (wA hi')
    rw[kH (show i<xs.length by omega)] at h1
    exact⟨_,by simpa using h1⟩
   rw[List.drop_zero,List.take_of_length_le (by have:=jaE.1 hc; omega)] at key
   exact key
  cases h
theorem zd6:∀ {ks:List Sh} {cs:List Value},All2 (GdS w) ks cs -> ∃ xs:List D,All2 (Rep w (fun b=>b<w.heap.size)) xs cs/\All2 Fits ks xs
 | [],[],.nil=>⟨[],.nil,.nil⟩
 | _ :: _,_ :: _,.cons ⟨x,h1,h2⟩ h=>by
  obtain⟨xs,h3,h4⟩:=zd6 h
  exact⟨x :: xs,.cons h1 h3,.cons h2 h4⟩
theorem openS {r:Reach} {b0:Nat} (n:Nat) {t:TypeId} {fs:Array Field} {ks:List Sh} {v:Value} {d:DataW H} {p:List MemPlace} (hs:P.underlying t=some (.struct fs)) (hk:shOf P n t=some ks)
  (hv:Value.okWide P w r b0 t v) (h:DataW.Trod enc P w base spare held t v d p):∃ xs:List D,Rep1 w (fun b=>b<w.heap.size) (.agg xs) v/\All2 Fits ks xs:=by
 obtain⟨cs,rfl,hsz⟩:=okWide_struct hs hv
 obtain⟨fuel,hf⟩:=h
 obtain⟨xs,h1,h2⟩:=zd6 (zfj n t ks hk fuel _ _ (by simpa [Value.cells] using hf))
 exact⟨xs,⟨cs.toList,by simp,h1⟩,h2⟩
theorem openL {r:Reach} {b0:Nat} (n:Nat) {t e:TypeId} {ks:List Sh} {v:Value} {d:DataW H} {p:List MemPlace} (hs:P.underlying t=some (.slice e)) (hk:shOf P (n+1) t=some ks)
  (hv:Value.okWide P w r b0 t v) (h:DataW.Trod enc P w base spare held t v d p):∃ x:D,Rep1 w (fun b=>b<w.heap.size) (.d x) v/\All2 Fits ks [x]:=by
 obtain⟨a,len,cap,rfl⟩:=okWide_slice hs hv
 obtain⟨fuel,hf⟩:=h
 obtain⟨xs,h1,h2⟩:=zd6 (zfj (n+1) t ks hk fuel _ _ (by simpa [Value.cells] using hf))
 cases h1 with
 | cons h h'=>cases h'; exact⟨_,h,h2⟩
end
theorem fitsL {α:Type} [Inhabited α] {k:Nat} {at_:α->Nat->D} {s:Nat->Sh} {x:D} (mkα:(Nat->Int)->α) (hi:∀ j,j<k->s j = .int .i64) (hk:∀ g:Nat->Int,∀ j,j<k->at_ (mkα g) j=I (g j)) (h:Fits (.sl k s) x) :
  ∃ l:List α,l.length<=maxLen/\(∀ a∈l,∃ g:Nat->Int,a=mkα g /\ ∀ j,j<k -> -9223372036854775808<=g j/\g j<=9223372036854775807)/\D.eqv x (.slc k l.length fun i=>at_ (l.getD i default)):=by
 obtain⟨n,f,rfl,hn,hf⟩:=h
 have key:∀ i,i<n -> ∀ j,j<k -> ∃ z:Int,(-9223372036854775808<=z/\z<=9223372036854775807)/\f i j=I z:=fun i hi' j hj=>by
  have h1:=hf i hi' j hj
  rw[hi j hj] at h1
  exact h1
 let g:Nat->Nat->Int:=fun i j=>if h:i<n/\j<k then Classical.choose (key i h.1 j h.2) else 0
 have hg:∀ i,i<n -> ∀ j,j<k->(-9223372036854775808<=g i j/\g i j<=9223372036854775807)/\f i j=I (g i j):=fun i hi' j hj=>by
  have e:g i j=Classical.choose (key i hi' j hj):=dif_pos ⟨hi',hj⟩
  rw[e]
  exact jav (key i hi' j hj)
 refine⟨(List.range n).map fun i=>mkα (g i),by simpa using hn,fun a ha=>?_,by simp,.inr ⟨rfl,fun i hi' j hj=>?_⟩⟩
 ·obtain⟨i,hi',rfl⟩:=kK.1 ha
  exact⟨g i,rfl,fun j hj=>(hg i (kJ.1 hi') j hj).1⟩
 have e:((List.range n).map fun i=>mkα (g i)).getD i default=mkα (g i):=by
  rw[hZ,jU,qZ hi']; rfl
 show D.eqv (f i j) (at_ (((List.range n).map fun i=>mkα (g i)).getD i default) j)
 rw[e,hk _ j hj,(hg i hi' j hj).2]
 exact⟨rfl,rfl⟩
end Go.Pg
namespace Go.Pg
open Go.Proofs Go.RowKit
theorem avBl {s:St} {ob:Nat->Option Ob} {v:AV} {a b:Bool} (h:v = .d (.bool a)) (e:a=b):AVle s ob v (.d (.bool b)):=by subst h; subst e; exact dE _
theorem zeN (s:Svc) (id:Int) (hn:s.c.T.length<=1000000):Spec PP 243 [s.v,N id] [N (towI s.c.T id)]:=by
 refine sA Tryz.func243 ?_
 refine lOf (σ:=Nat) (fun i=>([(1,.d (I id)),(2,.box 2 0),(5,.d (I i))],[(2,.box (s.ds.map AV.d))])) (fun i=>i<=s.c.T.length /\ ∀ j,j<i->((s.c.T.getD j default).ID==id)=false) (fun i=>s.c.T.length - i) 0
  ⟨rfl,⟨obD s.ds rfl,trivial⟩,wq rfl⟩ z0L fun i hi=>?_
 obtain⟨hi,ha⟩:=hi
 apply bY <;> intro h1
 ·have h1:i<s.c.T.length:=by have:=dT h1; omega
  refine⟨⟨rfl,by omega,by omega⟩,?_⟩
  apply bY <;> intro h2
  ·refine r1I rfl ?_
   exact (zai (p:=fun t:Twr=>t.ID==id) default h1 h2 ha).symm
  refine⟨i6,?_⟩
  refine⟨i+1,⟨rfl,⟨obD s.ds rfl,trivial⟩,wq rfl⟩,⟨h1,fun j hj=>?_⟩,(msr (by omega))⟩
  by_cases e:j=i
  ·subst e; exact h2
  exact ha j (by omega)
 have h1:i=s.c.T.length:=by have:=dF h1; omega
 subst h1
 refine r1I rfl ?_
 exact (zaj (p:=fun t:Twr=>t.ID==id) default ha).symm
theorem zhx (s:Svc) (id:Int) (hn:s.k.C.length<=1000000):Spec PP 244 [s.v,N id] [N (cirI s.k id)]:=by
 refine sA Tryz.func244 ?_
 refine lOf (σ:=Nat) (fun i=>([(1,.d (I id)),(2,.box 2 0),(5,.d (I i))],[(2,.box (s.ds.map AV.d))])) (fun i=>i<=s.k.C.length /\ ∀ j,j<i->((s.k.C.getD j default).ID==id)=false) (fun i=>s.k.C.length - i) 0
  ⟨rfl,⟨obD s.ds rfl,trivial⟩,wq rfl⟩ z0L fun i hi=>?_
 obtain⟨hi,ha⟩:=hi
 apply bY <;> intro h1
 ·have h1:i<s.k.C.length:=by have:=dT h1; omega
  refine⟨⟨rfl,by omega,by omega⟩,?_⟩
  apply bY <;> intro h2
  ·refine r1I rfl ?_
   exact (zai (p:=fun t:Cir=>t.ID==id) default h1 h2 ha).symm
  refine⟨i6,?_⟩
  refine⟨i+1,⟨rfl,⟨obD s.ds rfl,trivial⟩,wq rfl⟩,⟨h1,fun j hj=>?_⟩,(msr (by omega))⟩
  by_cases e:j=i
  ·subst e; exact h2
  exact ha j (by omega)
 have h1:i=s.k.C.length:=by have:=dF h1; omega
 subst h1
 refine r1I rfl ?_
 exact (zaj (p:=fun t:Cir=>t.ID==id) default ha).symm
theorem tm36 (n:Int):(n.tmod 3600+3600).tmod 3600=n % 3600:=by
 have h1:=wF n (show (0:Int)<3600 by decide)
 have h2:=wF (-n) (show (0:Int)<3600 by decide)
 rw[jbq] at h2
 rw[wH (by omega)]
 rw[Int.tmod_eq_emod]
 split
 ·show (n % 3600 - 0+3600) % 3600=n % 3600
  omega
 show (n % 3600 - 3600+3600) % 3600=n % 3600
 omega
theorem zdl (n:Int) (hn:-1000000000000<=n/\n<=1000000000000):Spec PP 282 [N n] [N (n % 3600)]:=by
 have h1:=wF n (show (0:Int)<3600 by decide)
 have h2:=wF (-n) (show (0:Int)<3600 by decide)
 rw[jbq] at h2
 refine sA Tryz.func282 ?_
 refine⟨by decide,⟨i6,⟨by decide,?_⟩⟩⟩
 exact r1I rfl (tm36 n)
theorem zov {α:Type} {p:α->Bool} {l:List α} {j:Nat} (h:j<l.length) (d:α):(l.take (j+1)).any p=((l.take j).any p || p (l.getD j d)):=by
 rw[zaK h d,List.any_append,List.any_cons,List.any_nil,jat]
theorem zdm (s:Svc):Spec PP 121 [s.v] [.d (.int .i64 (svcE s))]:=by
 refine sA Tryz.func121 ?_
 refine cP (ziB s.c) rfl rfl ?_
 apply bY <;> intro h0
 ·have h0:ctryE s.c≠0:=by simpa using h0
  refine r1I rfl ?_
  unfold svcE; rw[kI h0]
 have h0:ctryE s.c=0:=by simpa using h0
 have ok0:=zee h0
 refine cP (zfs s.k) rfl rfl ?_
 apply bY <;> intro h1
 ·have h1:cirsE s.k≠0:=by simpa using h1
  refine r1I rfl ?_
  unfold svcE; rw[kG (fun hh=>hh h0),kI h1]
 have h1:cirsE s.k=0:=by simpa using h1
 have ok1:=zbN h1
 have e0:svcE s=err1 (svc1E s) s.k.C.length:=by unfold svcE; rw[kG (fun hh=>hh h0),kG (fun hh=>hh h1)]
 have hn:=ok1.n
 have ht:=ok0.t
 refine lOf (σ:=Nat) (fun i=>([(1,.box 1 0),(4,.d (I i))],[(1,.box (s.ds.map AV.d))])) (fun i=>i<=s.k.C.length /\ ∀ j,j<i->svc1E s j=0) (fun i=>s.k.C.length - i) 0
  ⟨rfl,⟨obD s.ds rfl,trivial⟩,wq rfl⟩ z0L fun i hi=>?_
 obtain⟨hi,ha⟩:=hi
 apply bY <;> intro h3
 ·have h3:i<s.k.C.length:=by have:=dT h3; omega
  refine lOf (σ:=Nat) (fun j=>([(1,.box 1 0),(4,.d (I i)),(5,.d (.bool ((s.c.T.take j).any fun w=>decide (w.At=(s.k.C.getD i default).At)))),(6,.d (I j))],[(1,.box (s.ds.map AV.d))])) (fun j=>j<=s.c.T.length) (fun j=>s.c.T.length - j) 0
   ⟨rfl,⟨obD s.ds rfl,trivial⟩,wq rfl⟩ (jF _) fun j hj=>?_
  have hj:j<=s.c.T.length:=hj
  apply bY <;> intro h4
  ·have h4:j<s.c.T.length:=by have:=dT h4; omega
   have eA:=zov (p:=fun w:Twr=>decide (w.At=(s.k.C.getD i default).At)) h4 default
   refine oN 19 ?_
   apply bY <;> intro h5
   ·have h5:((s.c.T.take j).any fun w=>decide (w.At=(s.k.C.getD i default).At))=true:=h5
    repeat first | apply sT | apply sF
    refine⟨i6,?_⟩
    exact⟨j+1,⟨rfl,⟨obD s.ds rfl,trivial⟩,avQ rfl,avR _ rfl,avBl rfl (by rw[eA,h5]; rfl),avI rfl rfl,trivial⟩,h4,(msr (by omega))⟩
   have h5:((s.c.T.take j).any fun w=>decide (w.At=(s.k.C.getD i default).At))=false:=h5
   refine⟨⟨rfl,by omega,by omega⟩,⟨⟨rfl,by omega,by omega⟩,?_⟩⟩
   repeat first | apply sT | apply sF
   refine⟨i6,?_⟩
   exact⟨j+1,⟨rfl,⟨obD s.ds rfl,trivial⟩,avQ rfl,avR _ rfl,avBl rfl (by rw[eA,h5,wB]; exact eqPW _ _),avI rfl rfl,trivial⟩,h4,(msr (by omega))⟩
  have h4:j=s.c.T.length:=by have:=dF h4; omega
  subst h4
  rw[jZ]
  apply bY <;> intro h5
  ·have h5:(s.c.T.any fun w=>decide (w.At=(s.k.C.getD i default).At))=false:=by simpa using h5
   have e:svc1E s i=5:=by unfold svc1E; rw[kG (by rw[h5]; decide)]
   refine r1I rfl ?_
   rw[e0,zao ha (by rw[e]; decide) h3,e]
  have h5:(s.c.T.any fun w=>decide (w.At=(s.k.C.getD i default).At))=true:=by simpa using h5
  have e:svc1E s i=0:=by unfold svc1E; rw[kI h5]
  refine⟨i6,?_⟩
  refine⟨i+1,⟨rfl,⟨obD s.ds rfl,trivial⟩,wq rfl⟩,⟨h3,fun j hj=>?_⟩,(msr (by omega))⟩
  by_cases q:j=i
  ·subst q; exact e
  exact ha j (by omega)
 have h3:i=s.k.C.length:=by have:=dF h3; omega
 subst h3
 refine r1I rfl ?_
 rw[e0,zaJ ha]
theorem zjd {r:Rpt} (h:frmC r=true):frmB r=false:=by unfold frmB; rw[h]; rfl
theorem zsW {r:Rpt} (h:within r.Kind 1 2=false):frmB r=false:=by
 have h1:r.Kind≠1:=fun e=>by
  have:within r.Kind 1 2=true:=zab.2 (by omega)
  rw[this] at h; cases h
 have h2:r.Kind≠2:=fun e=>by
  have:within r.Kind 1 2=true:=zab.2 (by omega)
  rw[this] at h; cases h
 unfold frmB; rw[kG h1,kG h2,kU]
theorem zkS (r:Rpt):Spec PP 242 [r.v] [B (frmB r)]:=by
 refine sA Tryz.func242 ?_
 refine cP (zeq r.ID 1 1099511627776) rfl rfl ?_
 apply bY <;> intro k0
 ·have k0:(!within r.ID 1 1099511627776)=true:=k0
  repeat first | apply sT | apply sF
  exact r1B rfl (zjd (by unfold frmC; rw[k0]; rfl)).symm
 have k0:(!within r.ID 1 1099511627776)=false:=k0
 refine cP (zeq r.Kind 1 2) rfl rfl ?_
 repeat first | apply sT | apply sF
 apply bY <;> intro k1
 ·have k1:(!within r.Kind 1 2)=true:=k1
  repeat first | apply sT | apply sF
  exact r1B rfl (zsW (by simpa using k1)).symm
 have k1:(!within r.Kind 1 2)=false:=k1
 refine cP (zeq r.Tick 0 1048576) rfl rfl ?_
 repeat first | apply sT | apply sF
 apply bY <;> intro k2
 ·have k2:(!within r.Tick 0 1048576)=true:=k2
  repeat first | apply sT | apply sF
  exact r1B rfl (zjd (by unfold frmC; rw[k0,k2]; rfl)).symm
 have k2:(!within r.Tick 0 1048576)=false:=k2
 refine cP (zeq r.From 0 3599) rfl rfl ?_
 repeat first | apply sT | apply sF
 apply bY <;> intro k3
 ·have k3:(!within r.From 0 3599)=true:=k3
  repeat first | apply sT | apply sF
  exact r1B rfl (zjd (by unfold frmC; rw[k0,k2,k3]; rfl)).symm
 have k3:(!within r.From 0 3599)=false:=k3
 refine cP (zeq r.Slack 1 100) rfl rfl ?_
 repeat first | apply sT | apply sF
 apply bY <;> intro k4
 ·have k4:(!within r.Slack 1 100)=true:=k4
  repeat first | apply sT | apply sF
  exact r1B rfl (zjd (by unfold frmC; rw[k0,k2,k3,k4]; rfl)).symm
 have k4:(!within r.Slack 1 100)=false:=k4
 have e0:frmB r=if r.Kind=1 then decide (r.To=0) else if r.Kind=2 then within r.To 0 3599 && decide ((r.To - r.From) % 3600<=900) else false:=by
  unfold frmB frmC; rw[k0,k2,k3,k4]; rfl
 have hk:=zab.1 (show within r.Kind 1 2=true by simpa using k1)
 have hf:=zab.1 (show within r.From 0 3599=true by simpa using k3)
 apply bY <;> intro h1
 ·have h1:r.Kind=1:=by simpa using h1
  refine r1B rfl ?_
  rw[e0,kI h1,kN]; simp
 have h1:r.Kind≠1:=by simpa using h1
 rw[kG h1,kI (show r.Kind=2 by omega)] at e0
 refine cP (zeq r.To 0 3599) rfl rfl ?_
 apply bY <;> intro h3
 ·have h4:=zab.1 h3
  refine⟨i6,?_⟩
  refine cP (zdl (r.To - r.From) (by omega)) rfl rfl ?_
  repeat first | apply sT | apply sF
  refine r1B rfl ?_
  rw[e0,h3]; rfl
 repeat first | apply sT | apply sF
 refine r1B rfl ?_
 rw[e0,h3]; rfl
theorem zeO (b:Brn):Spec PP 186 [b.v] [B (brnB b)]:=by
 refine sA Tryz.func186 ?_
 refine cP (zeq b.From 0 1048576) rfl rfl ?_
 apply bY <;> intro h1
 ·have h1':=zab.1 h1
  refine cP (zeq b.To b.From 1048576) rfl rfl ?_
  repeat first | apply sT | apply sF
  apply bY <;> intro h2
  ·have h2':=zab.1 h2
   refine cP (zeq b.Rise 0 200) rfl rfl ?_
   repeat first | apply sT | apply sF
   refine r1B rfl ?_
   unfold brnB; rw[jG (by omega),jG (by omega),jG (by omega)]; rfl
  have h2':¬ (b.From<=b.To/\b.To<=1048576):=fun hh=>by rw[zab.2 hh] at h2; cases h2
  repeat first | apply sT | apply sF
  refine r1B rfl ?_
  unfold brnB
  by_cases h3:b.From<=b.To
  ·rw[jH (p:=b.To<=1048576) (fun h4=>h2' ⟨h3,h4⟩),kU]; rfl
  rw[jH h3,kU]; rfl
 have h1':¬ (0<=b.From/\b.From<=1048576):=fun hh=>by rw[zab.2 hh] at h1; cases h1
 repeat first | apply sT | apply sF
 refine r1B rfl ?_
 unfold brnB
 by_cases h3:0<=b.From
 ·by_cases h4:b.From<=b.To
  ·rw[jH (p:=b.To<=1048576) (by omega),kU]; rfl
  rw[jH h4,kU]; rfl
 rw[jH h3]; rfl
theorem zim {T:List Twr} {id:Int} (h:¬ towI T id<0):towG T id=(T.getD (towI T id).toNat default,true):=by unfold towG; rw[kG h]
theorem r6_at (s:Svc) (r:Rpt) (hn:s.c.T.length<=1000000) (h:¬ towI s.c.T r.Tower<0):Spec PP 256 [s.v,r.v] [(towG s.c.T r.Tower).1.At.v]:=by
 have h1:=zdA h
 refine sA Tryz.func256 ?_
 refine oN 12 ?_
 refine oP (zeN s r.Tower hn) rfl rfl ?_
 refine⟨⟨rfl,by show 0<=max 0 (towI s.c.T r.Tower); omega,by show max 0 (towI s.c.T r.Tower)<s.c.T.length; omega⟩,?_⟩
 have e:s.c.T.getD (max 0 (towI s.c.T r.Tower)).toNat default=(towG s.c.T r.Tower).1:=by rw[zim h,show max 0 (towI s.c.T r.Tower)=towI s.c.T r.Tower by omega]
 exact r1C rfl rfl rfl rfl rfl rfl (zbz (jI (fun t:Twr=>t.At.X) e) (jI (fun t:Twr=>t.At.Y) e))
theorem zkT (s:Svc) (b:Brn) (r:Rpt) (p:Place):Spec PP 254 [s.v,b.v,r.v,p.v] [B (lookB s b r p)]:=by
 refine sA Tryz.func254 ?_
 refine cP (zeq r.Tick b.From b.To) rfl rfl ?_
 apply bY <;> intro h1
 ·have h1:within r.Tick b.From b.To=false:=by simpa using h1
  refine r1B rfl ?_
  unfold lookB; rw[h1,kU]
 have h1:within r.Tick b.From b.To=true:=by simpa using h1
 refine cP (zqf s.c r.Tower p b.Rise r.Tick) rfl rfl ?_
 apply bY <;> intro h2
 ·have h2:(seesE s.c r.Tower p b.Rise r.Tick).2=0:=by simpa using h2
  repeat first | apply sT | apply sF
  refine r1B rfl ?_
  unfold lookB; rw[h1,jG h2,wL]; rfl
 have h2:(seesE s.c r.Tower p b.Rise r.Tick).2≠0:=by simpa using h2
 repeat first | apply sT | apply sF
 refine r1B rfl ?_
 unfold lookB; rw[jH h2]; rfl
theorem zdI (s:Svc) (r:Rpt) (hT:s.c.T.length<=1000000) (hC:s.k.C.length<=1000000):Spec PP 176 [s.v,r.v] [.d (.int .i64 (rptE s r))]:=by
 refine sA Tryz.func176 ?_
 refine cP (zkS r) rfl rfl ?_
 apply bY <;> intro h1
 ·refine r1I rfl ?_
  unfold rptE; rw[kI (by simpa using h1)]
 have h1:frmB r=true:=by simpa using h1
 refine cP (zeN s r.Tower hT) rfl rfl ?_
 refine cP (zhx s r.C hC) rfl rfl ?_
 apply bY <;> intro h2
 ·have h2:towI s.c.T r.Tower<0:=dT h2
  repeat first | apply sT | apply sF
  refine r1I rfl ?_
  have h3:(towG s.c.T r.Tower).2=false:=by unfold towG; rw[kI h2]
  unfold rptE; rw[kG (by rw[h1]; decide),kI (.inl h3)]
 have h2:¬ towI s.c.T r.Tower<0:=dF h2
 repeat first | apply sT | apply sF
 apply bY <;> intro h3
 ·have h3:cirI s.k r.C<0:=dT h3
  refine r1I rfl ?_
  unfold rptE; rw[kG (by rw[h1]; decide),kI (.inr h3)]
 have h3:¬ cirI s.k r.C<0:=dF h3
 obtain⟨h4,h5⟩:=zaS h3
 obtain⟨g4,g5⟩:=zdA h2
 have eT:=zim h2
 have e0:rptE s r=if (s.k.C.getD (cirI s.k r.C).toNat default).At≠(s.c.T.getD (towI s.c.T r.Tower).toNat default).At then 1 else if (zerR s.k r.C r.Tick).2≠0 then (zerR s.k r.C r.Tick).2 else if r.Kind=1 then (wdgR s.k (rdgO r)).2 else 0:=by
  unfold rptE; rw[kG (by rw[h1]; decide),kG (by rw[eT]; simp; omega),eT]
 refine oN 15 ?_
 refine⟨⟨rfl,by show 0<=towI s.c.T r.Tower; omega,by show towI s.c.T r.Tower<s.c.T.length; omega⟩,⟨⟨rfl,by show 0<=cirI s.k r.C; omega,by show cirI s.k r.C<s.k.C.length; omega⟩,?_⟩⟩
 apply bY <;> intro h6
 ·have h6:(s.k.C.getD (cirI s.k r.C).toNat default).At≠(s.c.T.getD (towI s.c.T r.Tower).toNat default).At:=by
   have:=(jI (!·) (eqPW (s.c.T.getD (towI s.c.T r.Tower).toNat default).At (s.k.C.getD (cirI s.k r.C).toNat default).At)).symm.trans h6
   have h7:¬ (s.c.T.getD (towI s.c.T r.Tower).toNat default).At=(s.k.C.getD (cirI s.k r.C).toNat default).At:=by simpa using this
   exact fun e=>h7 e.symm
  refine r1I rfl ?_
  rw[e0,kI h6]
 have h6:(s.k.C.getD (cirI s.k r.C).toNat default).At=(s.c.T.getD (towI s.c.T r.Tower).toNat default).At:=by
  have:=(jI (!·) (eqPW (s.c.T.getD (towI s.c.T r.Tower).toNat default).At (s.k.C.getD (cirI s.k r.C).toNat default).At)).symm.trans h6
  have h7:(s.c.T.getD (towI s.c.T r.Tower).toNat default).At=(s.k.C.getD (cirI s.k r.C).toNat default).At:=by simpa using this
  exact h7.symm
 refine cP (zhA s.k r.C r.Tick) rfl rfl ?_
 apply bY <;> intro h7
 ·have h7:(zerR s.k r.C r.Tick).2≠0:=by simpa using h7
  repeat first | apply sT | apply sF
  refine r1I rfl ?_
  rw[e0,kG (fun hh=>hh h6),kI h7]
 have h7:(zerR s.k r.C r.Tick).2=0:=by simpa using h7
 repeat first | apply sT | apply sF
 apply bY <;> intro h8
 ·have h8:r.Kind=2:=by simpa using h8
  refine r1I rfl ?_
  rw[e0,kG (fun hh=>hh h6),kG (fun hh=>hh h7),kG (by omega)]; exact h7
 have h8:r.Kind≠2:=by simpa using h8
 have h9:r.Kind=1:=by
  refine jL fun h10=>?_
  have:=zsW (r:=r) (by
   cases hw:within r.Kind 1 2 with
   | false=>rfl
   | true=>have:=zab.1 hw; omega)
  rw[h1] at this; cases this
 refine cP (ziA s.k (rdgO r)) rfl rfl ?_
 refine r1I rfl ?_
 rw[e0,kG (fun hh=>hh h6),kG (fun hh=>hh h7),kI h9]
structure RptOk (s:Svc) (r:Rpt):Prop where
  f:frmB r=true
  t:¬ towI s.c.T r.Tower<0
  w:r.Kind=1->(wdgR s.k (rdgO r)).2=0
theorem zkL {s:Svc} {r:Rpt} (h:rptE s r=0):RptOk s r:=by
 unfold rptE at h
 split at h
 ·cases h
 rename_i h1
 split at h
 ·cases h
 rename_i h2
 split at h
 ·cases h
 split at h
 ·rename_i h4; exact absurd h h4
 refine⟨by simpa using h1,fun h3=>h2 (.inl (by unfold towG; rw[kI h3])),fun hk=>?_⟩
 rw[kI hk] at h; exact h
theorem zkU (s:Svc) (r:Rpt) (h:RptOk s r):Spec PP 255 [s.v,r.v] [(secR s r).1.v,B (secR s r).2]:=by
 refine sA Tryz.func255 ?_
 apply bY <;> intro h1
 ·have h1:r.Kind=1:=by simpa using h1
  have e:secR s r=((wdgR s.k (rdgO r)).1,true):=by unfold secR; rw[kI h1,jG (h.w h1)]
  refine cP (ziA s.k (rdgO r)) rfl rfl ?_
  rw[e]
  exact⟨rtC (a:=4) rfl rfl rfl rfl rfl rfl (zaa _),rtB rfl rfl,trivial⟩
 have h1:r.Kind≠1:=by simpa using h1
 have e0:secR s r=blkR s r:=by unfold secR; rw[kG h1]
 rw[e0]
 obtain⟨b1,b2,b3⟩:=zsX h.f h1
 have zb:=zij s.k r.C r.Tick
 refine cP (zhA s.k r.C r.Tick) rfl rfl ?_
 refine oN 16 ?_
 refine⟨i6,?_⟩
 refine oP (zdl (r.To - r.From) (by omega)) rfl rfl ?_
 refine⟨i6,⟨i6,⟨i6,?_⟩⟩⟩
 apply bY <;> intro h2
 ·have e:blkR s r=(⟨0,0⟩,false):=by unfold blkR; rw[kI (dT h2)]
  rw[e]
  exact⟨rtC (a:=4) rfl rfl rfl rfl rfl rfl (zaa _),rtB rfl rfl,trivial⟩
 have e:blkR s r=(⟨(r.From+r.Slack - (zerR s.k r.C r.Tick).1.Lo) % 3600,(r.To - r.Slack - (zerR s.k r.C r.Tick).1.Hi) % 3600⟩,true):=by unfold blkR; rw[kG (dF h2)]
 rw[e]
 refine oN 21 ?_
 refine⟨i6,⟨i6,?_⟩⟩
 refine oP (zdl (r.From+r.Slack - (zerR s.k r.C r.Tick).1.Lo) (by omega)) rfl rfl ?_
 refine⟨i6,⟨i6,?_⟩⟩
 refine oP (zdl (r.To - r.Slack - (zerR s.k r.C r.Tick).1.Hi) (by omega)) rfl rfl ?_
 exact⟨rtC (a:=4) rfl rfl rfl rfl rfl rfl (zaa _),rtB rfl rfl,trivial⟩
abbrev madD (s:Svc) (r:Rpt):List D:=[I r.ID,I r.Kind,I r.Tower,I r.C,I r.Tick,I r.From,I r.To,I r.Slack,I (secR s r).1.F,I (secR s r).1.T,.bool (secR s r).2,I (towG s.c.T r.Tower).1.At.X,I (towG s.c.T r.Tower).1.At.Y]
theorem zkV (s:Svc) (r:Rpt) (hn:s.c.T.length<=1000000) (h:RptOk s r):Spec PP 189 [s.v,r.v] [.agg (madD s r)]:=by
 refine sA Tryz.func189 ?_
 refine cP (zkU s r h) rfl rfl ?_
 refine oN 8 ?_
 refine oP (r6_at s r hn h.t) rfl rfl ?_
 exact r1C rfl rfl rfl rfl rfl rfl (zaa _)
theorem zdJ (s:Svc) (b:Brn) (r:Rpt) (p:Place):Spec PP 188 [s.v,b.v,.agg (madD s r),p.v] [B (allB s b r p)]:=by
 have e4:seenB s b r p=((secR s r).2 && liesW (secR s r).1 (towG s.c.T r.Tower).1.At p && lookB s b r p):=rfl
 refine sA Tryz.func188 ?_
 have tail:∀ (v:Bool),v=((secR s r).2 && liesW (secR s r).1 (towG s.c.T r.Tower).1.At p)->seenB s b r p=(v && lookB s b r p):=fun v hv=>by rw[hv,e4]
 apply bY <;> intro h1
 ·have h1:(secR s r).2=true:=h1
  refine cP (zp8 (secR s r).1 (towG s.c.T r.Tower).1.At p) rfl rfl ?_
  repeat first | apply sT | apply sF
  apply bY <;> intro hk
  ·have hk:r.Kind=1:=by simpa using hk
   have e:allB s b r p=seenB s b r p:=by unfold allB; rw[kI hk]
   apply bY <;> intro h2
   ·have h2:liesW (secR s r).1 (towG s.c.T r.Tower).1.At p=true:=h2
    refine cP (zkT s b r p) rfl rfl ?_
    repeat first | apply sT | apply sF
    refine r1B rfl ?_
    rw[e,tail true (by rw[h1,h2]; rfl)]; rfl
   have h2:liesW (secR s r).1 (towG s.c.T r.Tower).1.At p=false:=h2
   repeat first | apply sT | apply sF
   refine r1B rfl ?_
   rw[e,tail false (by rw[h1,h2]; rfl)]; rfl
  have hk:r.Kind≠1:=by simpa using hk
  have e:allB s b r p = !seenB s b r p:=by unfold allB; rw[kG hk]
  apply bY <;> intro h2
  ·have h2:liesW (secR s r).1 (towG s.c.T r.Tower).1.At p=false:=by simpa using h2
   repeat first | apply sT | apply sF
   refine r1B rfl ?_
   rw[e,tail false (by rw[h1,h2]; rfl)]; rfl
  have h2:liesW (secR s r).1 (towG s.c.T r.Tower).1.At p=true:=by simpa using h2
  refine cP (zkT s b r p) rfl rfl ?_
  repeat first | apply sT | apply sF
  refine r1B rfl ?_
  rw[e,tail true (by rw[h1,h2]; rfl)]; rfl
 have h1:(secR s r).2=false:=h1
 repeat first | apply sT | apply sF
 apply bY <;> intro hk
 ·have hk:r.Kind=1:=by simpa using hk
  have e:allB s b r p=seenB s b r p:=by unfold allB; rw[kI hk]
  repeat first | apply sT | apply sF
  refine r1B rfl ?_
  rw[e,tail false (by rw[h1]; rfl)]; rfl
 have hk:r.Kind≠1:=by simpa using hk
 have e:allB s b r p = !seenB s b r p:=by unfold allB; rw[kG hk]
 repeat first | apply sT | apply sF
 refine r1B rfl ?_
 rw[e,tail false (by rw[h1]; rfl)]; rfl
theorem zkW (s:Svc) (l:List Rpt) (hT:s.c.T.length<=1000000) (hC:s.k.C.length<=1000000):Spec PP 247 [s.v,.d (lR l)] [.d (.int .i64 (if 24<l.length then 2 else err1 (rp1E s l) l.length))]:=by
 refine sA Tryz.func247 ?_
 apply bY <;> intro h2
 ·have h2:24<l.length:=by have:(24:Int)<l.length:=dT h2; omega
  refine r1I rfl ?_
  rw[kI h2]
 have h2:¬ 24<l.length:=by have:¬ (24:Int)<l.length:=dF h2; omega
 rw[kG h2]
 refine lOf (σ:=Nat) (fun i=>([(1,.d (lR l)),(2,.box 2 0),(5,.d (I i))],[(2,.box (s.ds.map AV.d))])) (fun i=>i<=l.length /\ ∀ j,j<i->rp1E s l j=0) (fun i=>l.length - i) 0
  ⟨rfl,⟨obD s.ds rfl,trivial⟩,wq rfl⟩ z0L fun i hi=>?_
 obtain⟨hi,ha⟩:=hi
 apply bY <;> intro h3
 ·have h3:i<l.length:=by have:=dT h3; omega
  refine oN 7 ?_
  refine⟨⟨rfl,by omega,by omega⟩,?_⟩
  refine oP (zdI s (l.getD i default) hT hC) rfl rfl ?_
  apply bY <;> intro h4
  ·have h4:rptE s (l.getD i default)≠0:=by simpa using h4
   have e1:rp1E s l i=rptE s (l.getD i default):=by unfold rp1E; rw[kI h4]
   refine r1I rfl ?_
   rw[zao ha (by rw[e1]; exact h4) h3,e1]
  have h4:rptE s (l.getD i default)=0:=by simpa using h4
  refine lOf (σ:=Nat) (fun j=>([(1,.d (lR l)),(2,.box 2 0),(5,.d (I i)),(7,.d (I j))],[(2,.box (s.ds.map AV.d))])) (fun j=>j<=i /\ ∀ z,z<j->(l.getD z default).ID≠(l.getD i default).ID) (fun j=>i - j) 0
   ⟨rfl,⟨obD s.ds rfl,trivial⟩,wq rfl⟩ z0L fun j hj=>?_
  obtain⟨hj,hb⟩:=hj
  apply bY <;> intro h5
  ·have h5:j<i:=by have:=dT h5; omega
   refine oN 11 ?_
   refine⟨⟨rfl,by omega,by omega⟩,⟨⟨rfl,by omega,by omega⟩,?_⟩⟩
   apply bY <;> intro h6
   ·have h6:(l.getD j default).ID=(l.getD i default).ID:=by simpa using h6
    have e1:rp1E s l i=6:=by unfold rp1E; rw[kG (fun hh=>hh h4),kI ((zlX hi _).2 ⟨j,h5,h6⟩)]
    refine r1I rfl ?_
    rw[zao ha (by rw[e1]; decide) h3,e1]
   have h6:(l.getD j default).ID≠(l.getD i default).ID:=by simpa using h6
   refine⟨i6,?_⟩
   refine⟨j+1,⟨rfl,⟨obD s.ds rfl,trivial⟩,wq rfl⟩,⟨h5,fun z hz=>?_⟩,(msr (by omega))⟩
   by_cases q:z=j
   ·subst q; exact h6
   exact hb z (by omega)
  have h5:j=i:=by have:=dF h5; omega
  subst h5
  have hc:((l.take j).map Rpt.ID).contains (l.getD j default).ID=false:=by
   cases hh:((l.take j).map Rpt.ID).contains (l.getD j default).ID with
   | false=>rfl
   | true=>obtain⟨z,hz,e⟩:=(zlX hi _).1 hh; exact absurd e (hb z hz)
  have e1:rp1E s l j=0:=by unfold rp1E; rw[kG (fun hh=>hh h4),kG (by rw[hc]; decide)]
  refine⟨i6,?_⟩
  refine⟨j+1,⟨rfl,⟨obD s.ds rfl,trivial⟩,wq rfl⟩,⟨h3,fun z hz=>?_⟩,(msr (by omega))⟩
  by_cases q:z=j
  ·subst q; exact e1
  exact ha z (by omega)
 have h3:i=l.length:=by have:=dF h3; omega
 subst h3
 refine r1I rfl ?_
 rw[zaJ ha]
theorem zeP (s:Svc) (b:Brn) (l:List Rpt):Spec PP 177 [s.v,b.v,.d (lR l)] [.d (.int .i64 (givE s b l))]:=by
 refine sA Tryz.func177 ?_
 refine cP (zdm s) rfl rfl ?_
 apply bY <;> intro h0
 ·refine r1I rfl ?_
  unfold givE; rw[kI (by simpa using h0)]
 have h0:svcE s=0:=by simpa using h0
 have ok:=zdB h0
 refine cP (zeO b) rfl rfl ?_
 apply bY <;> intro h1
 ·refine r1I rfl ?_
  unfold givE; rw[kG (fun hh=>hh h0),kI (by simpa using h1)]
 have h1:brnB b=true:=by simpa using h1
 refine cP (zkW s l (by have:=ok.c.t; omega) (by have:=ok.k.n; omega)) rfl rfl ?_
 refine r1I rfl ?_
 have e1:givE s b l=if brnB b=false then 1 else if 24<l.length then 2 else err1 (rp1E s l) l.length:=by unfold givE; rw[kG (fun hh=>hh h0)]
 have e2:¬ brnB b=false:=by rw[h1]; decide
 rw[e1,kG e2]
theorem pushG {α:Type} [Inhabited α] {k:Nat} {at_:α->Nat->D} {vs:List α} {p:α} {g:Nat->Nat->D} (hg:∀ j,j<k->D.eqv (g 0 j) (at_ p j)) :
  D.eqv (.slc k (vs.length+1) (appRow vs.length (fun i=>at_ (vs.getD i default)) g)) (.slc k (vs ++ [p]).length (fun i=>at_ ((vs ++ [p]).getD i default))):=by
 refine⟨by simp,.inr ⟨rfl,fun i hi j hj=>?_⟩⟩
 show D.eqv (appRow vs.length (fun i=>at_ (vs.getD i default)) g i j) (at_ ((vs ++ [p]).getD i default) j)
 unfold appRow
 by_cases h:i<vs.length
 ·rw[kI h,hZ,jJ h,<- hZ]
  exact dE _
 have e:i=vs.length:=by omega
 subst e
 rw[kG h,kE,hZ,jK (jE _),kE]
 exact hg j hj
def madAt (s:Svc) (r:Rpt):Nat->D
 | 0=>I r.ID
 | 1=>I r.Kind
 | 2=>I r.Tower
 | 3=>I r.C
 | 4=>I r.Tick
 | 5=>I r.From
 | 6=>I r.To
 | 7=>I r.Slack
 | 8=>I (secR s r).1.F
 | 9=>I (secR s r).1.T
 | 10=>.bool (secR s r).2
 | 11=>I (towG s.c.T r.Tower).1.At.X
 | _=>I (towG s.c.T r.Tower).1.At.Y
abbrev rowM (s:Svc) (l:List Rpt):Nat->Nat->D:=fun i=>madAt s (l.getD i default)
abbrev lM (s:Svc) (l:List Rpt):D:=.slc 13 l.length (rowM s l)
theorem zqC (s:Svc) (r:Rpt):∀ j,j<13->D.eqv (getD' (madD s r) (0 * 13+j)) (madAt s r j)
 | 0,_=>⟨rfl,rfl⟩
 | 1,_=>⟨rfl,rfl⟩
 | 2,_=>⟨rfl,rfl⟩
 | 3,_=>⟨rfl,rfl⟩
 | 4,_=>⟨rfl,rfl⟩
 | 5,_=>⟨rfl,rfl⟩
 | 6,_=>⟨rfl,rfl⟩
 | 7,_=>⟨rfl,rfl⟩
 | 8,_=>⟨rfl,rfl⟩
 | 9,_=>⟨rfl,rfl⟩
 | 10,_=>dE _
 | 11,_=>⟨rfl,rfl⟩
 | 12,_=>⟨rfl,rfl⟩
theorem zoQ (s:Svc) (l:List Rpt) (hT:s.c.T.length<=1000000) (hl:l.length<=24) (hr:∀ i,i<l.length->RptOk s (l.getD i default)):Spec PP 190 [s.v,.d (lR l)] [.d (lM s l)]:=by
 refine sA Tryz.func190 ?_
 refine lOf (σ:=Nat) (fun i=>([(1,.d (lR l)),(2,.box 2 0),(5,.own 5),(6,.d (I i))],[(2,.box (s.ds.map AV.d)),(5,.row 249 13 (l.take i).length (rowM s (l.take i)))])) (fun i=>i<=l.length) (fun i=>l.length - i) 0
  ⟨rfl,⟨obD s.ds rfl,obR rfl ⟨rfl,.inl rfl⟩,trivial⟩,wq rfl⟩ (jF _) fun i hi=>?_
 have hi:i<=l.length:=hi
 apply bY <;> intro h3
 ·have h3:i<l.length:=by have:=dT h3; omega
  have hlen:(l.take i).length=i:=by rw[jQ]; omega
  refine oN 10 ?_
  refine⟨⟨rfl,by omega,by omega⟩,?_⟩
  refine oP (zkV s (l.getD i default) hT (hr i h3)) rfl rfl ?_
  refine⟨⟨.inr rfl,by unfold maxLen; omega,by show ((l.take i).length+1) * 104<=140737488355328; omega⟩,?_⟩
  refine⟨i6,?_⟩
  refine⟨i+1,⟨rfl,⟨obD s.ds rfl,obR rfl ?_,trivial⟩,wq rfl⟩,h3,(msr (by omega))⟩
  rw[zaK h3 default]
  exact pushG (fun j hj=>zqC s (l.getD i default) j hj)
 have h3:i=l.length:=by have:=dF h3; omega
 subst h3
 refine⟨⟨_,_,_,_,rfl,?_⟩,trivial⟩
 rw[jZ]
 exact dE _
def mapK (m:Mp) (k:Nat):List Place:=(List.range k).map (plc m)
theorem zdp (m:Mp) (k:Nat):(mapK m k).length=k:=by unfold mapK; simp
theorem zsv (m:Mp) (k:Nat):mapK m (k+1)=mapK m k ++ [plc m k]:=by unfold mapK; rw[wD,jT]; rfl
theorem ziV {m:Mp} {n k:Nat} (h:k<n):(mapK m n).getD k default=plc m k:=by
 unfold mapK
 rw[hZ,jU,qZ h]; rfl
theorem zse {m:Mp} {y x:Nat} (hx:x<m.w):plc m (y * m.w+x)=⟨(x:Int),(y:Int)⟩:=by
 unfold plc
 have e1:(y * m.w+x) % m.w=x:=by rw[Nat.add_comm,Nat.add_mul_mod_self_right,jax hx]
 have e2:(y * m.w+x) / m.w=y:=by rw[Nat.add_comm,Nat.add_mul_div_right _ _ (by omega),jbg hx,qF]
 rw[e1,e2]
theorem zoR (s:Svc) (hv:validM s.c.M=true):Spec PP 191 [s.v] [.d (lP (mapK s.c.M (s.c.M.w * s.c.M.h)))]:=by
 obtain⟨bw,bh,-,-⟩:=zaf hv
 have ew:((s.c.M.w:Nat):Int)=s.c.M.W:=by show ((s.c.M.W.toNat:Nat):Int)=s.c.M.W; omega
 have eh:((s.c.M.h:Nat):Int)=s.c.M.H:=by show ((s.c.M.H.toNat:Nat):Int)=s.c.M.H; omega
 refine sA Tryz.func191 ?_
 refine lOf (σ:=Nat) (fun y=>([(1,.box 1 0),(3,.own 3),(4,.d (I y))],[(1,.box (s.ds.map AV.d)),(3,.row 75 2 (mapK s.c.M (y * s.c.M.w)).length (rowP (mapK s.c.M (y * s.c.M.w))))])) (fun y=>y<=s.c.M.h) (fun y=>s.c.M.h - y) 0
  ⟨rfl,⟨obD s.ds rfl,obR rfl ⟨by rw[zdp]; omega,.inl rfl⟩,trivial⟩,wq rfl⟩ (jF _) fun y hy=>?_
 have hy:y<=s.c.M.h:=hy
 apply bY <;> intro h1
 ·have h1:y<s.c.M.h:=by have:=dT h1; omega
  have hm:y * s.c.M.w<=48 * 49:=jbb (by omega) (by omega)
  refine lOf (σ:=Nat) (fun x=>([(1,.box 1 0),(3,.own 3),(4,.d (I y)),(5,.d (I x))],[(1,.box (s.ds.map AV.d)),(3,.row 75 2 (mapK s.c.M (y * s.c.M.w+x)).length (rowP (mapK s.c.M (y * s.c.M.w+x))))])) (fun x=>x<=s.c.M.w) (fun x=>s.c.M.w - x) 0
   ⟨rfl,⟨obD s.ds rfl,obR rfl (dE _),trivial⟩,wq rfl⟩ (jF _) fun x hx=>?_
  have hx:x<=s.c.M.w:=hx
  apply bY <;> intro h2
  ·have h2:x<s.c.M.w:=by have:=dT h2; omega
   have hl:=zdp s.c.M (y * s.c.M.w+x)
   refine⟨⟨.inr rfl,by unfold maxLen; omega,by show ((mapK s.c.M (y * s.c.M.w+x)).length+1) * 16<=140737488355328; omega⟩,?_⟩
   refine⟨i6,?_⟩
   refine⟨x+1,⟨rfl,⟨obD s.ds rfl,obR rfl ?_,trivial⟩,wq rfl⟩,h2,(msr (by omega))⟩
   rw[show y * s.c.M.w+(x+1)=y * s.c.M.w+x+1 by omega,zsv,zse h2]
   exact zno (at2 rfl rfl)
  have h2:x=s.c.M.w:=by have:=dF h2; omega
  subst h2
  refine⟨i6,?_⟩
  refine⟨y+1,⟨rfl,⟨obD s.ds rfl,obR rfl ?_,trivial⟩,wq rfl⟩,h1,(msr (by omega))⟩
  rw[Nat.succ_mul]; exact dE _
 have h1:y=s.c.M.h:=by have:=dF h1; omega
 refine⟨⟨_,_,_,_,rfl,?_⟩,trivial⟩
 rw[h1,qS]
 exact dE _
def fstT (s:Svc) (b:Brn) (l:List Rpt) (p:Place):Int:=idxL (fun r=>!allB s b r p) l
theorem ziz (s:Svc) (b:Brn) (l:List Rpt) (p:Place) (hl:l.length<=24):Spec PP 192 [s.v,b.v,.d (lM s l),p.v] [N (fstT s b l p)]:=by
 refine sA Tryz.func192 ?_
 refine lOf (σ:=Nat) (fun i=>([(2,.d (lM s l)),(4,.box 4 0),(5,.box 5 0),(7,.box 7 0),(9,.d (I i))],[(4,.box (s.ds.map AV.d)),(5,.box (b.ds.map AV.d)),(7,.box ([I p.X,I p.Y].map AV.d))])) (fun i=>i<=l.length /\ ∀ j,j<i->(!allB s b (l.getD j default) p)=false) (fun i=>l.length - i) 0
  ⟨rfl,⟨obD s.ds rfl,obD b.ds rfl,obD [I p.X,I p.Y] rfl,trivial⟩,wq rfl⟩ z0L fun i hi=>?_
 obtain⟨hi,ha⟩:=hi
 apply bY <;> intro h1
 ·have h1:i<l.length:=by have:=dT h1; omega
  refine oN 9 ?_
  refine⟨⟨rfl,by omega,by omega⟩,?_⟩
  refine oP (zdJ s b (l.getD i default) p) rfl rfl ?_
  apply bY <;> intro h2
  ·refine r1I rfl ?_
   exact (zai (p:=fun r:Rpt=>!allB s b r p) default h1 h2 ha).symm
  refine⟨i6,?_⟩
  refine⟨i+1,⟨rfl,⟨obD s.ds rfl,obD b.ds rfl,obD [I p.X,I p.Y] rfl,trivial⟩,wq rfl⟩,⟨h1,fun j hj=>?_⟩,(msr (by omega))⟩
  by_cases e:j=i
  ·subst e; exact h2
  exact ha j (by omega)
 have h1:i=l.length:=by have:=dF h1; omega
 subst h1
 refine r1I rfl ?_
 exact (zaj (p:=fun r:Rpt=>!allB s b r p) default ha).symm
def telR (s:Svc) (b:Brn) (l:List Rpt) (k:Nat):List Rsn:=((List.range k).filter fun n=>!decide (fstT s b l (plc s.c.M n)<0)).map fun n=>⟨plc s.c.M n,(l.getD (fstT s b l (plc s.c.M n)).toNat default).ID⟩
theorem zmN {s:Svc} {b:Brn} {l:List Rpt} {k:Nat} (h:¬ fstT s b l (plc s.c.M k)<0):telR s b l (k+1)=telR s b l k ++ [⟨plc s.c.M k,(l.getD (fstT s b l (plc s.c.M k)).toNat default).ID⟩]:=by
 unfold telR
 rw[wD,qA,jT,wJ (p:=fun n=>!decide (fstT s b l (plc s.c.M n)<0)) (by rw[jH h]; rfl)]; rfl
theorem zpK {s:Svc} {b:Brn} {l:List Rpt} {k:Nat} (h:fstT s b l (plc s.c.M k)<0):telR s b l (k+1)=telR s b l k:=by
 unfold telR
 rw[wD,qA,jT,wK (p:=fun n=>!decide (fstT s b l (plc s.c.M n)<0)) (by rw[jG h]; decide)]; simp
theorem zmO (s:Svc) (b:Brn) (l:List Rpt) (k:Nat):(telR s b l k).length<=k:=by
 unfold telR
 have:=wG (fun n=>!decide (fstT s b l (plc s.c.M n)<0)) (List.range k)
 simpa using this
def telP (s:Svc) (b:Brn) (l:List Rpt) (n:Nat):Bool:=decide (fstT s b l (plc s.c.M n)<0)
def obTel (s:Svc) (b:Brn) (l:List Rpt) (k:Nat):List (Nat × Ob):=[(3,.box (s.ds.map AV.d)),(4,.box (b.ds.map AV.d)),(6,.box [.nilsl,.nilsl,.d (I 0)]),(7,.box [.own 33,.own 34,.d (I 0)]),(33,.row 75 2 (plsK s.c.M (telP s b l) k).length (rowP (plsK s.c.M (telP s b l) k))),(34,.row 143 3 (telR s b l k).length (rowS (telR s b l k)))]
theorem zsU {s:Svc} {b:Brn} {l:List Rpt} {p:Place} (h:¬ fstT s b l p<0):0<=fstT s b l p/\fstT s b l p<l.length:=by
 rcases idxL_cases (fun r:Rpt=>!allB s b r p) l default with⟨e,-⟩ | ⟨i,hi,e,-,-⟩
 ·exact absurd (show fstT s b l p<0 by unfold fstT; rw[e]; decide) h
 have:fstT s b l p=(i:Int):=e
 omega
theorem zp6 (s:Svc) (b:Brn) (l:List Rpt) (hv:validM s.c.M=true) (hT:s.c.T.length<=1000000) (hl:l.length<=24) (hr:∀ i,i<l.length->RptOk s (l.getD i default)) :
  Spec PP 178 [s.v,b.v,.d (lR l)] [.agg [lP (plsL s.c.M (telP s b l)),lRs (telR s b l s.n),I 0]]:=by
 obtain⟨bw,bh,-,-⟩:=zaf hv
 have hn:s.n<=49 * 49:=jbb (by show s.c.M.W.toNat<=49; omega) (by show s.c.M.H.toNat<=49; omega)
 refine zbG [11] Tryz.func178 rfl (by kernel_rfl) rfl ?_
 refine cR (zoQ s l hT hl hr) rfl rfl ?_
 refine cR (zoR s hv) rfl rfl ?_
 refine lOf (σ:=Nat) (fun k=>([(2,.d (lR l)),(3,.box 3 0),(4,.box 4 0),(6,.box 6 0),(7,.box 7 0),(8,.d (lM s l)),(9,.d (lP (mapK s.c.M s.n))),(10,.d (I k))],obTel s b l k)) (fun k=>k<=s.n) (fun k=>s.n - k) 0
  ⟨rfl,⟨obD s.ds rfl,obD b.ds rfl,obX rfl,⟨avNl rfl rfl rfl,avNl rfl rfl rfl,dE _,trivial⟩,obZ rfl rfl,obZ rfl rfl,trivial⟩,wq rfl⟩ (jF _) fun k hk=>?_
 have hk:k<=s.n:=hk
 have hml:=zdp s.c.M s.n
 apply bY <;> intro h1
 ·have h1:k<s.n:=by have:=dT h1; rw[hml] at this; omega
  have hg:=ziV (m:=s.c.M) h1
  have hpl:=zfy s.c.M (telP s b l) k
  have hrl:=zmO s b l k
  refine oN 9 ?_
  refine⟨⟨rfl,by omega,by rw[hml]; omega⟩,?_⟩
  refine CallOb.pureE (ziz s b l (plc s.c.M k) hl) rfl ⟨zaa _,zaa _,dE _,zbz (jI Place.X hg) (jI Place.Y hg),trivial⟩ rfl ?_
  apply bY <;> intro h2
  ·have h2:fstT s b l (plc s.c.M k)<0:=dT h2
   refine oN 10 ?_
   refine⟨⟨rfl,by omega,by rw[hml]; omega⟩,?_⟩
   refine⟨⟨.inr rfl,by unfold maxLen; omega,by show ((plsK s.c.M (telP s b l) k).length+1) * 16<=140737488355328; omega⟩,?_⟩
   refine⟨i6,?_⟩
   refine⟨k+1,⟨rfl,⟨obD s.ds rfl,obD b.ds rfl,obX rfl,⟨rfl,rfl,dE _,trivial⟩,obR rfl ?_,obR rfl ?_,trivial⟩,wq rfl⟩,h1,(msr (by omega))⟩
   ·rw[zfx (P:=telP s b l) (jG h2)]
    exact zno (at2 (jI (fun p:Place=>I p.X) hg) (jI (fun p:Place=>I p.Y) hg))
   rw[zpK h2]; exact dE _
  have h2:¬ fstT s b l (plc s.c.M k)<0:=dF h2
  have h3:=zsU h2
  refine oN 16 ?_
  refine⟨⟨rfl,by omega,by rw[hml]; omega⟩,⟨⟨rfl,by omega,by omega⟩,?_⟩⟩
  refine⟨⟨.inr rfl,by unfold maxLen; omega,by show ((telR s b l k).length+1) * 24<=140737488355328; omega⟩,?_⟩
  refine⟨i6,?_⟩
  refine⟨k+1,⟨rfl,⟨obD s.ds rfl,obD b.ds rfl,obX rfl,⟨rfl,rfl,dE _,trivial⟩,obR rfl ?_,obR rfl ?_,trivial⟩,wq rfl⟩,h1,(msr (by omega))⟩
  ·rw[zhK (P:=telP s b l) (jH h2)]; exact dE _
  rw[zmN h2]
  exact zr3 (at3 (jI (fun p:Place=>I p.X) hg) (jI (fun p:Place=>I p.Y) hg) rfl)
 have h1:k=s.n:=by have:=dF h1; rw[hml] at this; omega
 subst h1
 refine kAt [(6,.box 6 0),(7,.box 7 0)] [(6,.box [.nilsl,.nilsl,.d (I 0)]),(7,.box [.d (lP (plsL s.c.M (telP s b l))),.d (lRs (telR s b l s.n)),.d (I 0)])] ⟨rfl,⟨obX rfl,⟨avOw rfl rfl rfl (dE _),avOw rfl rfl rfl (dE _),dE _,trivial⟩,trivial⟩,wq rfl⟩ ?_
 exact r1C rfl rfl rfl rfl rfl rfl (zaa _)
theorem zjb {s:Svc} {b:Brn} {l:List Rpt} {n:Nat} (h:n<s.n):fstT s b l (plc s.c.M n)=fstI (l.map (alwP s b)) n:=by
 have key:∀ (l:List Rpt) (k:Nat),idxA (fun r=>!allB s b r (plc s.c.M n)) l k=idxA (fun P:Nat->Bool=>!P n) (l.map (alwP s b)) k:=fun l=>by
  induction l with
  | nil=>intro k; rfl
  | cons r t ih=>
  intro k
  have e:alwP s b r n=allB s b r (plc s.c.M n):=by
   show (decide (n<s.n) && allB s b r (plc s.c.M n))=_
   rw[jG h,kL]
  show (if (!allB s b r (plc s.c.M n))=true then (k:Int) else idxA _ t (k+1))=(if (!alwP s b r n)=true then (k:Int) else idxA _ (t.map (alwP s b)) (k+1))
  rw[e,ih]
 exact key l 0
theorem zqU {s:Svc} {b:Brn} {l:List Rpt} {n:Nat} (h:n<s.n):telP s b l n=metP (l.map (alwP s b)) n:=by
 unfold telP
 rw[zjb h]
 have h1:=za9 (fun P:Nat->Bool=>!P n) (l.map (alwP s b)) default
 have e:metP (l.map (alwP s b)) n = !((l.map (alwP s b)).any fun P=>!P n):=by
  unfold metP
  rw[List.not_any_eq_all_not]
  simp
 rw[e]
 cases hh:(l.map (alwP s b)).any fun P=>!P n with
 | true=>exact jH (by have:=h1.2 hh; show ¬ idxL _ _<0; omega)
 | false=>exact jG (by
   refine jL fun g=>?_
   have:0<=idxL (fun P:Nat->Bool=>!P n) (l.map (alwP s b)):=by
    have:¬ idxL (fun P:Nat->Bool=>!P n) (l.map (alwP s b))<0:=g
    omega
   rw[h1.1 this] at hh; cases hh)
theorem ze0 {k:Nat} {p q:Nat->Bool} (h:∀ n,n<k->p n=q n):(List.range k).filter p=(List.range k).filter q:=
 List.filter_congr fun n hn=>h n (kJ.1 hn)
theorem zmM (s:Svc) (b:Brn) (l:List Rpt):plsL s.c.M (telP s b l)=plsL s.c.M (metP (l.map (alwP s b))):=by
 unfold plsL plsK
 rw[ze0 fun n hn=>zqU hn]
theorem zmL (s:Svc) (b:Brn) (l:List Rpt):telR s b l s.n=rsnK s l (l.map (alwP s b)) s.n:=by
 unfold telR rsnK
 have e:((List.range s.n).filter fun n=>!decide (fstT s b l (plc s.c.M n)<0))=(List.range s.n).filter fun n=>decide (0<=fstI (l.map (alwP s b)) n):=ze0 fun n hn=>by
  rw[zjb hn,<- decide_not]
  exact k9.2 (by omega)
 rw[e]
 refine qN fun n hn=>?_
 have hn:=kJ.1 (qV.1 hn).1
 rw[zjb hn]; rfl
theorem zp7 (s:Svc) (b:Brn) (l:List Rpt):Spec PP 126 [s.v,b.v,.d (lR l)] [.agg [lP (plcR s b l).1,lRs (rsnR s b l).1,I (givE s b l)]]:=by
 refine sA Tryz.func126 ?_
 refine cP (zeP s b l) rfl rfl ?_
 apply bY <;> intro h0
 ·have h0:givE s b l≠0:=by simpa using h0
  have e1:plcR s b l=([],givE s b l):=by unfold plcR; rw[kI h0]
  have e2:rsnR s b l=([],givE s b l):=by unfold rsnR; rw[kI h0]
  rw[e1,e2]
  exact r1C rfl rfl rfl rfl rfl rfl ⟨rfl,rfl,⟨rfl,rfl⟩,trivial⟩
 have h0:givE s b l=0:=by simpa using h0
 have ok:=zda h0
 have e1:plcR s b l=(plsL s.c.M (metP (l.map (alwP s b))),0):=by unfold plcR; rw[kG (fun hh=>hh h0)]
 have e2:rsnR s b l=(rsnK s l (l.map (alwP s b)) s.n,0):=by unfold rsnR; rw[kG (fun hh=>hh h0)]
 rw[e1,e2,h0]
 have ht:=zp6 s b l ok.s.c.m (by have:=ok.s.c.t; omega) ok.n (fun i hi=>zkL (ok.r i hi).2)
 rw[zmM,zmL] at ht
 refine cR ht rfl rfl ?_
 exact r1C rfl rfl rfl rfl rfl rfl (zaa _)
end Go.Pg
namespace Go.Pg
open Go.Proofs Go.RowKit Go.Sort Go.Shelf
theorem zp5 (l:List Int) (x:Int) (hn:l.length<=1000000):Spec PP 106 [.d (lI l),N x] [N (idxL (· == x) l)]:=by
 refine sA Tryz.func106 ?_
 refine lOf (σ:=Nat) (fun i=>([(0,.d (lI l)),(1,.d (I x)),(5,.d (I i))],[])) (fun i=>i<=l.length /\ ∀ j,j<i->(l.getD j 0==x)=false) (fun i=>l.length - i) 0
  ⟨rfl,trivial,wq rfl⟩ z0L fun i hi=>?_
 obtain⟨hi,ha⟩:=hi
 apply bY <;> intro h1
 ·have h1:i<l.length:=by have:=dT h1; omega
  refine⟨⟨rfl,by omega,by omega⟩,?_⟩
  apply bY <;> intro h2
  ·have h2:(l.getD i 0==x)=true:=h2
   refine r1I rfl ?_
   exact (zai 0 h1 h2 ha).symm
  have h2:(l.getD i 0==x)=false:=h2
  refine⟨i6,?_⟩
  refine⟨i+1,⟨rfl,trivial,wq rfl⟩,⟨h1,fun j hj=>?_⟩,msr h1⟩
  by_cases e:j=i
  ·subst e; exact h2
  exact ha j (by omega)
 have h1:i=l.length:=by have:=dF h1; omega
 subst h1
 refine r1I rfl ?_
 exact (zaj 0 ha).symm
theorem zj2 (l:List Int) (x:Int):decide (0<=idxL (· == x) l)=l.contains x:=by
 rw[kN,kS,<- zmz]
 exact za9 (· == x) l 0
theorem in_lt (l:List Int) (x:Int):decide (idxL (· == x) l<0) = !l.contains x:=by
 rw[<- zj2,<- decide_not]
 exact k9.2 (by omega)
theorem rdR8 (r:Rpt):∀ j,j<8->D.eqv (rowOf 8 r.ds 0 j) (r.at j):=fun j hj=>by
 have e:rowOf 8 r.ds 0 j=getD' r.ds j:=by show getD' r.ds (0 * 8+j)=_; rw[Nat.zero_mul,qF]
 rw[e]
 match j,hj with
 | 0,_=>exact dE _
 | 1,_=>exact dE _
 | 2,_=>exact dE _
 | 3,_=>exact dE _
 | 4,_=>exact dE _
 | 5,_=>exact dE _
 | 6,_=>exact dE _
 | 7,_=>exact dE _
theorem zhu (d:Day) (ids:List Int) (hn:d.R.length<=1000000) (hi:ids.length<=1000000):Spec PP 128 [d.v,.d (lI ids)] [.d (lR (lstD d ids))]:=by
 have e:filR (offB ids) d.R d.R.length=lstD d ids:=by unfold filR lstD; rw[jZ]
 refine sA Tryz.func128 ?_
 refine lOf (σ:=Nat) (fun i=>([(1,.d (lI ids)),(2,.box 2 0),(5,.own 5),(6,.d (I i))],[(2,.box (d.ds.map AV.d)),(5,.row 93 8 (filR (offB ids) d.R i).length (rowRp (filR (offB ids) d.R i)))])) (fun i=>i<=d.R.length) (fun i=>d.R.length - i) 0
  ⟨rfl,⟨obD d.ds rfl,obR rfl ⟨by unfold filR; rfl,.inl rfl⟩,trivial⟩,wq rfl⟩ (jF _) fun i hi'=>?_
 have hi':i<=d.R.length:=hi'
 have hl:=zn8 (offB ids) d.R i
 apply bY <;> intro h1
 ·have h1:i<d.R.length:=by have:=dT h1; omega
  have es:=zbU (offB ids) d.R h1
  refine⟨⟨rfl,by omega,by omega⟩,?_⟩
  have yes:offB ids (d.R.getD i default)=false->filR (offB ids) d.R (i+1)=filR (offB ids) d.R i ++ [d.R.getD i default]:=fun h=>by rw[es,kG (by rw[h]; decide)]
  have no:offB ids (d.R.getD i default)=true->filR (offB ids) d.R (i+1)=filR (offB ids) d.R i:=fun h=>by rw[es,kI h,ja6]
  apply bY <;> intro h2
  ·have h2:((d.R.getD i default).Kind==1)=false:=by simpa using h2
   have ho:offB ids (d.R.getD i default)=false:=by unfold offB; rw[h2,kP]
   repeat first | apply sT | apply sF
   refine⟨⟨.inr rfl,by unfold maxLen; omega,by show ((filR (offB ids) d.R i).length+1) * 64<=140737488355328; omega⟩,?_⟩
   refine⟨i6,?_⟩
   refine⟨i+1,⟨rfl,⟨obD d.ds rfl,obR rfl ?_,trivial⟩,wq rfl⟩,h1,msr h1⟩
   rw[yes ho]
   exact zr4 (rdR8 _)
  have h2:((d.R.getD i default).Kind==1)=true:=by simpa using h2
  refine cP (zp5 ids (d.R.getD i default).ID hi) rfl rfl ?_
  repeat first | apply sT | apply sF
  apply bY <;> intro h3
  ·have h3:ids.contains (d.R.getD i default).ID=true:=by rw[<- zj2]; exact h3
   have ho:offB ids (d.R.getD i default)=false:=by unfold offB; rw[h3]; simp
   refine⟨⟨.inr rfl,by unfold maxLen; omega,by show ((filR (offB ids) d.R i).length+1) * 64<=140737488355328; omega⟩,?_⟩
   refine⟨i6,?_⟩
   refine⟨i+1,⟨rfl,⟨obD d.ds rfl,obR rfl ?_,trivial⟩,wq rfl⟩,h1,msr h1⟩
   rw[yes ho]
   exact zr4 (rdR8 _)
  have h3:ids.contains (d.R.getD i default).ID=false:=by rw[<- zj2]; exact h3
  have ho:offB ids (d.R.getD i default)=true:=by unfold offB; rw[h2,h3]; rfl
  refine⟨i6,?_⟩
  refine⟨i+1,⟨rfl,⟨obD d.ds rfl,obR rfl ?_,trivial⟩,wq rfl⟩,h1,msr h1⟩
  rw[no ho]
  exact dE _
 have h1:i=d.R.length:=by have:=dF h1; omega
 subst h1
 rw[e]
 exact⟨⟨_,_,_,_,rfl,rfl,.inr ⟨rfl,fun i _ j _=>dE _⟩⟩,trivial⟩
def brn2 (ids:List Int) (x:Int × Int) (r:Rpt):Int × Int:=if ids.contains r.ID=true then (min x.1 r.Tick,max x.2 r.Tick) else x
def brnT (ids:List Int) (l:List Rpt):Int × Int:=l.foldl (brn2 ids) (1048576,0)
def brn7 (d:Day) (ids:List Int):Brn:=⟨(brnT ids d.R).1,(brnT ids d.R).2,d.Rise⟩
theorem zeh (ids:List Int) (l:List Rpt) {i:Nat} (h:i<l.length):brnT ids (l.take (i+1))=brn2 ids (brnT ids (l.take i)) (l.getD i default):=by
 unfold brnT
 rw[zaK h default,jaS]; rfl
theorem zfr (d:Day) (ids:List Int) (hn:d.R.length<=1000000) (hi:ids.length<=1000000):Spec PP 127 [d.v,.d (lI ids)] [(brn7 d ids).v]:=by
 refine sA Tryz.func127 ?_
 refine lOf (σ:=Nat) (fun i=>([(1,.d (lI ids)),(2,.box 2 0),(4,.box 4 0),(5,.box 5 0),(6,.d (I i))],
   [(2,.box (d.ds.map AV.d)),(4,.box ([I 0,I 0,I 0].map AV.d)),(5,.box ([I (brnT ids (d.R.take i)).1,I (brnT ids (d.R.take i)).2,I d.Rise].map AV.d))])) (fun i=>i<=d.R.length) (fun i=>d.R.length - i) 0
  ⟨rfl,⟨obD d.ds rfl,obD [I 0,I 0,I 0] rfl,obD [I 1048576,I 0,I d.Rise] rfl,trivial⟩,wq rfl⟩ (jF _) fun i hi'=>?_
 have hi':i<=d.R.length:=hi'
 apply bY <;> intro h1
 ·have h1:i<d.R.length:=by have:=dT h1; omega
  have es:=zeh ids d.R h1
  refine⟨⟨rfl,by omega,by omega⟩,?_⟩
  refine cP (zp5 ids (d.R.getD i default).ID hi) rfl rfl ?_
  apply bY <;> intro h2
  ·have h2:ids.contains (d.R.getD i default).ID=true:=by rw[<- zj2]; exact h2
   have e:brnT ids (d.R.take (i+1))=(min (brnT ids (d.R.take i)).1 (d.R.getD i default).Tick,max (brnT ids (d.R.take i)).2 (d.R.getD i default).Tick):=by rw[es]; unfold brn2; rw[kI h2]
   refine⟨i6,?_⟩
   refine⟨i+1,⟨rfl,⟨obD d.ds rfl,obD [I 0,I 0,I 0] rfl,?_,trivial⟩,wq rfl⟩,h1,msr h1⟩
   rw[e]; exact obD [I _,I _,I _] rfl
  have h2:ids.contains (d.R.getD i default).ID=false:=by rw[<- zj2]; exact h2
  have e:brnT ids (d.R.take (i+1))=brnT ids (d.R.take i):=by rw[es]; unfold brn2; rw[kG (by rw[h2]; decide)]
  refine⟨i6,?_⟩
  refine⟨i+1,⟨rfl,⟨obD d.ds rfl,obD [I 0,I 0,I 0] rfl,?_,trivial⟩,wq rfl⟩,h1,msr h1⟩
  rw[e]; exact obD [I _,I _,I _] rfl
 have h1:i=d.R.length:=by have:=dF h1; omega
 subst h1
 rw[jZ]
 exact⟨rtC (a:=4) rfl rfl rfl rfl rfl rfl (zaa _),trivial⟩
theorem zmp {d:Day} (h:DayOk d) (ids:List Int):∀ i,i<=d.R.length->0<=(brnT ids (d.R.take i)).1/\(brnT ids (d.R.take i)).1<=1048576/\0<=(brnT ids (d.R.take i)).2/\(brnT ids (d.R.take i)).2<=1048576
 | 0,_=>by simp[brnT]
 | i+1,hi=>by
  obtain⟨a1,a2,a3,a4⟩:=zmp h ids i (by omega)
  obtain⟨b1,b2⟩:=h.tick (show i<d.R.length by omega)
  rw[zeh ids d.R (by omega)]
  unfold brn2
  split
  ·show 0<=min _ _/\min _ _<=_/\0<=max _ _/\max _ _<=_
   omega
  exact⟨a1,a2,a3,a4⟩
theorem zrj {d:Day} (h:DayOk d) (ids:List Int):inR .i64 ((brn7 d ids).To - (brn7 d ids).From):=by
 have:=zmp h ids d.R.length (jE _)
 rw[jZ] at this
 show inR .i64 ((brnT ids d.R).2 - (brnT ids d.R).1)
 exact i6
theorem zjw {d:Day} (h:DayOk d) (ids:List Int):∀ i,i<=d.R.length->if ((d.R.take i).any fun r=>ids.contains r.ID)=true then brnS ids (d.R.take i)=(true,(brnT ids (d.R.take i)).1,(brnT ids (d.R.take i)).2) else brnS ids (d.R.take i)=(false,0,0)/\brnT ids (d.R.take i)=(1048576,0)
 | 0,_=>by simp[brnS,brnT]
 | i+1,hi=>by
  have ih:=zjw h ids i (by omega)
  obtain⟨b1,b2⟩:=h.tick (show i<d.R.length by omega)
  have ea:((d.R.take (i+1)).any fun r=>ids.contains r.ID)=(((d.R.take i).any fun r=>ids.contains r.ID) || ids.contains (d.R.getD i default).ID):=by
   rw[zaK (by omega) default,List.any_append]; simp
  rw[zcD ids d.R (by omega),zeh ids d.R (by omega),ea]
  generalize brnS ids (d.R.take i)=u at ih ⊢
  generalize brnT ids (d.R.take i)=v at ih ⊢
  cases ha:((d.R.take i).any fun r=>ids.contains r.ID) with
  | true=>
   rw[ha,kI rfl] at ih
   rw[kI (by rfl),ih]
   unfold brn1 brn2
   cases hc:ids.contains (d.R.getD i default).ID <;> rfl
  | false=>
  rw[ha,kG (by decide)] at ih
  obtain⟨rfl,rfl⟩:=ih
  cases hc:ids.contains (d.R.getD i default).ID with
  | true=>
   rw[kI (by rfl)]
   unfold brn1 brn2
   rw[kI hc,kI hc]
   show (true,min _ _,max _ _)=(true,min _ _,max _ _)
   congr 2
   ·show min (d.R.getD i default).Tick (d.R.getD i default).Tick=min 1048576 (d.R.getD i default).Tick
    omega
   ·show max (d.R.getD i default).Tick (d.R.getD i default).Tick=max 0 (d.R.getD i default).Tick
    omega
  | false=>
  rw[kG (by decide)]
  unfold brn1 brn2
  rw[kG (by rw[hc]; decide),kG (by rw[hc]; decide)]
  exact⟨rfl,rfl⟩
theorem zf5 {d:Day} (h:DayOk d) {ids:List Int} (ha:(d.R.any fun r=>ids.contains r.ID)=true):brn7 d ids=brnD d ids:=by
 have:=zjw h ids d.R.length (jE _)
 rw[jZ,kI ha] at this
 unfold brn7 brnD
 rw[this]
theorem zht {d:Day} (h:DayOk d) (ids:List Int) (hi:ids.length<=1000000):Spec PP 125 [d.v,.d (lI ids)] [B (decide (d.Long<(brn7 d ids).To - (brn7 d ids).From))]:=by
 refine sA Tryz.func125 ?_
 refine cP (zfr d ids (by have:=h.n; omega) hi) rfl rfl ?_
 refine⟨zrj h ids,?_⟩
 exact r1B rfl rfl
def tldL (d:Day) (ids:List Int):List Place:=if d.Long<(brn7 d ids).To - (brn7 d ids).From then [] else (plcR d.s (brn7 d ids) (lstD d ids)).1
def tldR (d:Day) (ids:List Int):List Rsn:=if d.Long<(brn7 d ids).To - (brn7 d ids).From then [] else (rsnR d.s (brn7 d ids) (lstD d ids)).1
def tldE (d:Day) (ids:List Int):Int:=if d.Long<(brn7 d ids).To - (brn7 d ids).From then 0 else givE d.s (brn7 d ids) (lstD d ids)
theorem zhs {d:Day} (h:DayOk d) (ids:List Int) (hi:ids.length<=1000000):Spec PP 62 [d.v,.d (lI ids)] [.agg [lP (tldL d ids),lRs (tldR d ids),I (tldE d ids)]]:=by
 have hn:=h.n
 refine sA Tryz.func62 ?_
 refine cP (zht h ids hi) rfl rfl ?_
 unfold tldL tldR tldE
 apply bY <;> intro h1
 ·have h1:=qB h1
  rw[kI h1,kI h1,kI h1]
  exact⟨rtC (a:=4) rfl rfl rfl rfl rfl rfl ⟨rfl,rfl,⟨rfl,rfl⟩,trivial⟩,trivial⟩
 have h1:=jad h1
 rw[kG h1,kG h1,kG h1]
 refine oN 10 ?_
 refine oP (zfr d ids (by omega) hi) rfl rfl ?_
 refine oRo (zhu d ids (by omega) hi) rfl rfl ?_
 refine oRo (zp7 d.s (brn7 d ids) (lstD d ids)) rfl rfl ?_
 exact⟨rtC (a:=4) rfl rfl rfl rfl rfl rfl (zaa _),trivial⟩
abbrev leI (x y:Int):Bool:=decide (x<=y)
def Srt (l:List Int):Prop:=l.Pairwise fun x y=>leI x y=true
theorem zgn {l m:List Int} (h1:Srt l) (h2:Srt m) (hp:l.Perm m):l=m:=
 List.Perm.eq_of_pairwise (le:=fun x y=>leI x y=true) (fun a b _ _ h3 h4=>by
  have h3:=qB h3
  have h4:=qB h4
  omega) h1 h2 hp
theorem zit (l:List Rpt):Srt (sigL l):=
 List.pairwise_mergeSort (le:=fun x y=>decide (x<=y)) (fun a b c h1 h2=>by
  have h1:=qB h1
  have h2:=qB h2
  exact jG (by omega)) (fun a b=>by
  rw[jX,kS,kS]
  omega) _
def insK (l:List Int) (x:Int) (k:Nat):List Int:=l.take k++x :: l.drop k
theorem zd1 (l:List Int) (x:Int) (k:Nat):(insK l x k).Perm (l ++ [x]):=by
 unfold insK
 have h1:(l.take k++x :: l.drop k).Perm (x :: (l.take k++l.drop k)):=List.perm_middle
 rw[List.take_append_drop] at h1
 exact h1.trans (List.perm_append_comm (l₁:=[x]) (l₂:=l))
theorem zi6 {l:List Int} {x:Int} {k:Nat} (hk:k<=l.length) (hs:Srt l) (h1:∀ j,k<=j->j<l.length->x<l.getD j 0) (h2:0<k->l.getD (k - 1) 0<=x):Srt (insK l x k):=by
 have hd:=hs
 unfold Srt at hd
 rw[<- List.take_append_drop k l,List.pairwise_append] at hd
 obtain⟨d1,d2,d3⟩:=hd
 have g:∀ i j,i<j->j<l.length->l.getD i 0<=l.getD j 0:=fun i j hij hj=>by
  have:=qQ.1 hs i j (by omega) hj hij
  have:=qB this
  rw[hZ,hZ,kH hj,kH (by omega)]
  exact this
 have lo:∀ y∈l.take k,y<=x:=fun y hy=>by
  obtain⟨j,hj,rfl⟩:=kQ hy
  rw[jQ] at hj
  rw[jaR]
  have e:l[j]'(by omega)=l.getD j 0:=by rw[hZ,kH (by omega)]; rfl
  rw[e]
  have h3:=h2 (by omega)
  by_cases q:j=k - 1
  ·rw[q]; exact h3
  have:=g j (k - 1) (by omega) (by omega); omega
 have hi:∀ y∈l.drop k,x<=y:=fun y hy=>by
  obtain⟨j,hj,rfl⟩:=kQ hy
  rw[qO] at hj
  rw[List.getElem_drop]
  have e:l[k+j]'(by omega)=l.getD (k+j) 0:=by rw[hZ,kH (by omega)]; rfl
  rw[e]
  have:=h1 (k+j) (by omega) (by omega)
  omega
 unfold Srt insK
 rw[List.pairwise_append]
 refine⟨d1,List.pairwise_cons.2 ⟨fun y hy=>jG (hi y hy),d2⟩,fun a ha c hc=>?_⟩
 rcases kZ.1 hc with rfl | hc
 ·exact jG (lo a ha)
 have:=lo a ha
 have:=hi c hc
 exact jG (by omega)
theorem znX (l:List Int) (x:Int) {k:Nat} (hk:k<=l.length) (m:Nat):(insK l x k).getD m 0=if m<k then l.getD m 0 else if m=k then x else l.getD (m - 1) 0:=by
 unfold insK
 rw[hZ]
 by_cases h1:m<k
 ·rw[kI h1,jJ (by rw[jQ]; omega),jS,kI h1,<- hZ]
 rw[kG h1,jK (by rw[jQ]; omega),jQ]
 rw[show min k l.length=k by omega]
 by_cases h2:m=k
 ·rw[kI h2,h2,kE]; rfl
 rw[kG h2]
 obtain⟨d,hd⟩:∃ d,m - k=d+1:=⟨m - k - 1,by omega⟩
 rw[hd,wI,qM,show k+d=m - 1 by omega,<- hZ]
theorem zi7 {l:List Int} {x:Int} {k:Nat} (hk:k<=l.length) {n n':Nat} {F f:Nat->Nat->D} (hn:n=k) (hn':n'=k) (hF:∀ a,a<k->F a 0=I (l.getD a 0)) (h:f 0 0=I x) :
  D.eqv (.slc 1 (n+1+(l.length - n')) (appRow (n+1) (appRow n F f) fun a _=>I (l.getD (n'+a) 0))) (lI (insK l x k)):=by
 subst hn
 subst hn'
 refine⟨by rw[(zd1 l x n').length_eq,jR,qW]; omega,.inr ⟨rfl,fun m hm j hj=>?_⟩⟩
 obtain rfl:j=0:=by omega
 show D.eqv (appRow (n'+1) (appRow n' F f) (fun a _=>I (l.getD (n'+a) 0)) m 0) (I ((insK l x n').getD m 0))
 rw[znX l x hk]
 unfold appRow
 by_cases h1:m<n'
 ·rw[kI (by omega),kI h1,kI h1,hF m h1]; exact dE _
 by_cases h2:m=n'
 ·rw[kI (by omega),kG h1,kG h1,kI h2,h2,kE,h]; exact dE _
 rw[kG (by omega),kG h1,kG h2]
 show D.eqv (I (l.getD (n'+(m - (n'+1))) 0)) _
 rw[show n'+(m - (n'+1))=m - 1 by omega]; exact dE _
theorem zdH (d:Day) (hn:d.R.length<=1000000):Spec PP 38 [d.v] [.d (lI (sigL d.R))]:=by
 refine sA Tryz.func38 ?_
 refine lOf (σ:=List Int × Nat) (fun x=>([(1,.box 1 0),(3,.d (lI x.1)),(4,.d (I x.2))],[(1,.box (d.ds.map AV.d))])) (fun x=>x.2<=d.R.length/\Srt x.1/\x.1.Perm (sigK (d.R.take x.2))) (fun x=>d.R.length - x.2) ([],0)
  ⟨rfl,⟨obD d.ds rfl,trivial⟩,avQ rfl,avOw rfl rfl rfl ⟨rfl,.inl rfl⟩,avQ rfl,trivial⟩ ⟨jF _,List.Pairwise.nil,List.Perm.refl _⟩ fun⟨U,i⟩ ⟨hi,hs,hp⟩=>?_
 have hi:i<=d.R.length:=hi
 have hs:Srt U:=hs
 have hp:U.Perm (sigK (d.R.take i)):=hp
 have hU:U.length<=i:=by
  rw[hp.length_eq]
  have:=zcm (d.R.take i)
  rw[jQ] at this; omega
 apply bY <;> intro h1
 ·have h1:i<d.R.length:=by have:(i:Int)<d.R.length:=dT h1; omega
  refine⟨⟨rfl,by omega,by show (i:Int)<d.R.length; omega⟩,?_⟩
  apply bY <;> intro h2
  ·have h2:isSg (d.R.getD i default)=false:=by simpa [isSg] using h2
   refine⟨i6,?_⟩
   refine⟨(U,i+1),⟨rfl,⟨obD d.ds rfl,trivial⟩,wq rfl⟩,⟨h1,hs,by rw[zkF h1 h2]; exact hp⟩,msr h1⟩
  have h2:isSg (d.R.getD i default)=true:=by simpa [isSg] using h2
  refine lOf (σ:=Nat) (fun k=>([(1,.box 1 0),(3,.d (lI U)),(4,.d (I i)),(5,.d (I k))],[(1,.box (d.ds.map AV.d))])) (fun k=>k<=U.length /\ ∀ j,k<=j->j<U.length->(d.R.getD i default).ID<U.getD j 0) (fun k=>k) U.length
   ⟨rfl,⟨obD d.ds rfl,trivial⟩,wq rfl⟩ ⟨jE _,fun j h3 h4=>absurd h4 (by omega)⟩ fun k hk=>?_
  obtain⟨hk,ha⟩:=hk
  refine oN 16 ?_
  apply bY <;> intro h3
  ·have h3:0<k:=by have:=dT h3; omega
   refine⟨i6,?_⟩
   refine⟨⟨rfl,by omega,by omega⟩,?_⟩
   refine⟨⟨rfl,by omega,by show (i:Int)<d.R.length; omega⟩,?_⟩
   have ek:((k:Int) - 1).toNat=k - 1:=by omega
   repeat first | apply sT | apply sF
   apply bY <;> intro h4
   ·have h4:(d.R.getD i default).ID<U.getD (k - 1) 0:=by have h4:=dT h4; rw[ek] at h4; exact h4
    refine⟨i6,?_⟩
    refine⟨k - 1,⟨rfl,⟨obD d.ds rfl,trivial⟩,avQ rfl,avQ rfl,avQ rfl,avI rfl (by omega),trivial⟩,⟨by omega,fun j h5 h6=>?_⟩,by omega⟩
    by_cases e:j=k - 1
    ·rw[e]; exact h4
    exact ha j (by omega) h6
   have h4:U.getD (k - 1) 0<=(d.R.getD i default).ID:=by have h4:=dF h4; rw[ek] at h4; have:¬ (d.R.getD i default).ID<U.getD (k - 1) 0:=h4; omega
   refine⟨⟨.inr rfl,by omega,by omega⟩,?_⟩
   refine⟨⟨.inr rfl,by simp only[maxLen]; omega,by dsimp only; omega⟩,?_⟩
   refine⟨⟨rfl,by omega,by show (i:Int)<d.R.length; omega⟩,?_⟩
   refine⟨⟨.inr rfl,by simp only[maxLen]; omega,by dsimp only; omega⟩,?_⟩
   refine⟨⟨.inr rfl,by omega,by omega⟩,?_⟩
   refine⟨⟨.inr rfl,by simp only[maxLen]; omega,by dsimp only; omega⟩,?_⟩
   refine⟨i6,?_⟩
   refine⟨(insK U (d.R.getD i default).ID k,i+1),⟨rfl,⟨obD d.ds rfl,trivial⟩,avQ rfl,avOw rfl rfl rfl ?_,avQ rfl,trivial⟩,⟨h1,zi6 hk hs ha (fun _=>h4),?_⟩,msr h1⟩
   ·exact zi7 hk (by omega) (by omega) (fun a _=>rfl) rfl
   rw[zfh h1 h2]
   exact (zd1 _ _ _).trans (hp.append_right _)
  have h3:k=0:=by have:=dF h3; omega
  repeat first | apply sT | apply sF
  refine⟨⟨.inr rfl,by omega,by omega⟩,?_⟩
  refine⟨⟨.inr rfl,by simp only[maxLen]; omega,by dsimp only; omega⟩,?_⟩
  refine⟨⟨rfl,by omega,by show (i:Int)<d.R.length; omega⟩,?_⟩
  refine⟨⟨.inr rfl,by simp only[maxLen]; omega,by dsimp only; omega⟩,?_⟩
  refine⟨⟨.inr rfl,by omega,by omega⟩,?_⟩
  refine⟨⟨.inr rfl,by simp only[maxLen]; omega,by dsimp only; omega⟩,?_⟩
  refine⟨i6,?_⟩
  refine⟨(insK U (d.R.getD i default).ID k,i+1),⟨rfl,⟨obD d.ds rfl,trivial⟩,avQ rfl,avOw rfl rfl rfl ?_,avQ rfl,trivial⟩,⟨h1,zi6 hk hs ha (fun h=>by omega),?_⟩,msr h1⟩
  ·exact zi7 hk (by omega) (by omega) (fun a _=>rfl) rfl
  rw[zfh h1 h2]
  exact (zd1 _ _ _).trans (hp.append_right _)
 have h1:i=d.R.length:=by have:¬ (i:Int)<d.R.length:=dF h1; omega
 subst h1
 rw[jZ] at hp
 rw[zgn (zit d.R) hs ((jap _ _).trans hp.symm)]
 exact⟨dE _,trivial⟩
theorem zth {a i:Nat} (ha:a<128) (hi:i<7):((((a:Int).tdiv (IntKind.wrap .i64 (1 * 2 ^ (min ((i:Nat):Int).toNat 64)))).tmod 2)==1)=a.testBit i:=by
 have:=allL (n:=128) (m:=7) (P:=fun a i=>decide (((((a:Int).tdiv (IntKind.wrap .i64 (1 * 2 ^ (min ((i:Nat):Int).toNat 64)))).tmod 2)==1)=a.testBit i)) (by decide +kernel) ha hi
 exact qB this
theorem bQuo {a i:Nat} (ha:a<128) (hi:i<7):IntKind.wrap .i64 (1 * 2 ^ (min ((i:Nat):Int).toNat 64))≠0/\inR .i64 ((a:Int).tdiv (IntKind.wrap .i64 (1 * 2 ^ (min ((i:Nat):Int).toNat 64)))):=by
 rw[bShl (by omega)]
 have h1:0<2 ^ i:=Nat.two_pow_pos i
 have h2:((a:Int).tdiv ((2 ^ i:Nat):Int))=((a / 2 ^ i:Nat):Int):=by rw[Int.ofNat_tdiv]
 have h3:a / 2 ^ i<=a:=Nat.div_le_self _ _
 refine⟨by omega,?_⟩
 rw[h2]
 clear h2
 generalize a / 2 ^ i=q at h3 ⊢
 exact i6
theorem zgs (ids:List Int) (set:Nat) (hn:ids.length<=7) (hs:set<128):Spec PP 113 [.d (lI ids),N (set:Int)] [.d (lI (memb ids set))]:=by
 refine sA Tryz.func113 ?_
 refine lOf (σ:=Nat) (fun i=>([(0,.d (lI ids)),(1,.d (I set)),(5,.own 5),(6,.d (I i))],[(5,.row 3 1 (membA ids set i).length (rowI (membA ids set i)))])) (fun i=>i<=ids.length) (fun i=>ids.length - i) 0
  ⟨rfl,⟨obR rfl ⟨rfl,.inl rfl⟩,trivial⟩,wq rfl⟩ (jF _) fun i hi=>?_
 have hi:i<=ids.length:=hi
 have hl:=zaG ids set i
 apply bY <;> intro h1
 ·have h1:i<ids.length:=by have:=dT h1; omega
  refine⟨by omega,?_⟩
  refine⟨bQuo hs (by omega),?_⟩
  refine⟨by decide,?_⟩
  apply bY <;> intro h2
  ·have h2:set.testBit i=true:=by rw[<- zth hs (show i<7 by omega)]; exact h2
   refine⟨⟨rfl,by omega,by omega⟩,?_⟩
   refine⟨⟨.inr rfl,by unfold maxLen; omega,by show ((membA ids set i).length+1) * 8<=140737488355328; omega⟩,?_⟩
   refine⟨i6,?_⟩
   refine⟨i+1,⟨rfl,⟨obR rfl ?_,trivial⟩,wq rfl⟩,h1,msr h1⟩
   rw[zgB h2]
   exact zqm rfl
  have h2:set.testBit i=false:=by rw[<- zth hs (show i<7 by omega)]; exact h2
  refine⟨i6,?_⟩
  refine⟨i+1,⟨rfl,⟨obR rfl ?_,trivial⟩,wq rfl⟩,h1,msr h1⟩
  rw[ziU h2]
  exact dE _
 have h1:i=ids.length:=by have:=dF h1; omega
 subst h1
 exact⟨⟨_,_,_,_,rfl,rfl,.inr ⟨rfl,fun i _ j _=>dE _⟩⟩,trivial⟩
theorem zkQ (a b:List Int) (hb:b.length<=1000000) (hn:a.length<=1000000):Spec PP 124 [.d (lI a),.d (lI b)] [B (decide (cmpL a b<0))]:=by
 refine sA Tryz.func124 ?_
 refine lOf (σ:=Nat) (fun i=>([(0,.d (lI a)),(1,.d (lI b)),(5,.d (I i))],[])) (fun i=>i<=a.length/\i<=b.length/\cmpL (a.drop i) (b.drop i)=cmpL a b) (fun i=>a.length - i) 0
  ⟨rfl,trivial,wq rfl⟩ ⟨jF _,jF _,rfl⟩ fun i hi=>?_
 obtain⟨hi,hj,he⟩:=hi
 have d0:∀ {l:List Int},i<l.length->l.drop i=l.getD i 0 :: l.drop (i+1):=fun {l} h=>by rw[qK h,hZ,kH h]; rfl
 have fin:(i=a.length \/ i=b.length)->decide ((a.length:Int)<(b.length:Int))=decide (cmpL a b<0):=fun h=>by
  rw[<- he]
  apply k9.2
  by_cases ha:i<a.length
  ·have hb':i=b.length:=by omega
   rw[d0 ha,List.drop_eq_nil_iff.2 (by omega:b.length<=i)]
   show _ ↔ (1:Int)<0
   omega
  rw[List.drop_eq_nil_iff.2 (by omega:a.length<=i)]
  by_cases hb':i<b.length
  ·rw[d0 hb']
   show _ ↔ (-1:Int)<0
   omega
  rw[List.drop_eq_nil_iff.2 (by omega:b.length<=i)]
  show _ ↔ (0:Int)<0
  omega
 apply bY <;> intro h1
 ·have h1:i<a.length:=by have:=dT h1; omega
  repeat first | apply sT | apply sF
  apply bY <;> intro h2
  ·have h2:i<b.length:=by have:=dT h2; omega
   refine oN 9 ?_
   refine⟨⟨rfl,by omega,by omega⟩,?_⟩
   refine⟨⟨rfl,by omega,by omega⟩,?_⟩
   rw[d0 h1,d0 h2,cmpL] at he
   apply bY <;> intro h3
   ·have h3:a.getD i 0≠b.getD i 0:=by simpa using h3
    refine oN 10 ?_
    refine⟨⟨rfl,by omega,by omega⟩,?_⟩
    refine⟨⟨rfl,by omega,by omega⟩,?_⟩
    refine r1B rfl ?_
    rcases ordC (a.getD i 0) (b.getD i 0) with⟨e,h⟩ | ⟨e,h⟩ | ⟨e,h⟩
    ·rw[kI (by rw[e]; decide),e] at he
     rw[<- he]
     exact k9.2 ⟨fun _=>by decide,fun _=>h⟩
    ·rw[kI (by rw[e]; decide),e] at he
     rw[<- he]
     exact k9.2 ⟨fun h'=>by have h':a.getD i 0<b.getD i 0:=h'; omega,fun h'=>absurd h' (by decide)⟩
    exact absurd h h3
   have h3:a.getD i 0=b.getD i 0:=by simpa using h3
   have e:ord (a.getD i 0) (b.getD i 0)=0:=by
    rcases ordC (a.getD i 0) (b.getD i 0) with⟨_,h⟩ | ⟨_,h⟩ | ⟨e,_⟩
    ·omega
    ·omega
    exact e
   rw[kG (by rw[e]; simp)] at he
   refine⟨i6,?_⟩
   exact⟨i+1,⟨rfl,trivial,wq rfl⟩,⟨h1,h2,he⟩,msr h1⟩
  have h2:¬ i<b.length:=by have:=dF h2; omega
  exact r1B rfl (fin (.inr (by omega)))
 have h1:¬ i<a.length:=by have:=dF h1; omega
 repeat first | apply sT | apply sF
 exact r1B rfl (fin (.inl (by omega)))
theorem bPart {a b:Nat} (ha:a<128) (hb:b<128):(IntKind.wrap .i64 ((BitVec.ofInt 64 (a:Int) &&& BitVec.ofInt 64 (b:Int)).toNat:Int)==(a:Int))=decide (a &&& b=a):=by
 have:=allL (n:=128) (m:=128) (P:=fun a b=>decide ((IntKind.wrap .i64 ((BitVec.ofInt 64 (a:Int) &&& BitVec.ofInt 64 (b:Int)).toNat:Int)==(a:Int))=decide (a &&& b=a))) (by decide +kernel) ha hb
 exact qB this
theorem zfp (a b:Nat) (ha:a<128) (hb:b<128):Spec PP 60 [N (a:Int),N (b:Int)] [B (decide (a &&& b=a))]:=by
 refine sA Tryz.func60 ?_
 exact r1B rfl (bPart ha hb)
end Go.Pg
