/- Lemmas, joined by program. -/
import Derived.Test.YtcmghlfakcppkaaGreatJ8
import Derived.KernelRfl
import Derived.Shelf.SlSortCmp.NoneTotal
import Derived.Test.YtcmghlfakcppkaaGreatChecked
import Derived.Shelf.Sort.Plain
import Derived.Shelf.Slices.In.SortNone
set_option maxHeartbeats 4000000
set_option linter.all false
set_option maxRecDepth 100000
namespace Go.Pg
open Go.Proofs Go.RowKit
structure PntOk(p:Pnt):Prop where
  k:0<=p.k/\p.k<=p.n
  n:p.n<=48
  hi:0<=p.hi/\p.hi<=192000
theorem zjd{n r g1 g2:Int}(hn:0<=n/\n<=48)(hr:0<=r/\r<=n)(h1:0<=g1/\g1<=4000)(h2:0<=g2/\g2<=4000):0<=(n-r)*g1+r*g2/\(n-r)*g1+r*g2<=192000:=by
 have a1:=wK (show 0<=n-r by omega) h1.1
 have a2:=wK hr.1 h2.1
 have b1:=jaJ h1.2 (show 0<=n-r by omega)
 have b2:=jaJ h2.2 hr.1
 omega
theorem zda{m:Mp}{a b:Place}{k:Int}(hv:validM m=true)(ha:onM m a=true)(hb:onM m b=true)(hk:1<=k/\k<dX a b):PntOk (crs0 m a b k):=by
 obtain⟨w,h,-,-⟩:=zaf hv
 obtain⟨a1,a2⟩:=zad.1 ha
 obtain⟨b1,b2⟩:=zad.1 hb
 have hd:=(zlL hv ha hb).2.2.1
 have C:=zfd (f0:=a.X) (f1:=a.Y) (t0:=b.X) (t1:=b.Y) (k:=k) (lo:=0) (hi:=m.H-1) (by omega) (by omega) (by omega) hk
 have hx:=C.x
 have hw:=C.w
 have hr:=C.r
 have hu:=C.u
 have d1:=(zaV hv (p:=⟨(crsX a.X b.X k),((crsY a.X a.Y b.X b.Y k).tdiv ((b.X-a.X).natAbs:Int))⟩) (zad.2 (by dsimp only;omega))).2
 refine⟨by unfold crs0;dsimp only;unfold dX at hk;omega,by unfold crs0;dsimp only;unfold dX at hd;omega,?_⟩
 unfold crs0 crsH
 dsimp only
 unfold dX at hd
 split
 ·rename_i h1
  have hu1:=hu h1
  have d2:=(zaV hv (p:=⟨(crsX a.X b.X k),(((crsY a.X a.Y b.X b.Y k).tdiv ((b.X-a.X).natAbs:Int))+1)⟩) (zad.2 (by dsimp only;omega))).2
  exact zjd hd (by omega) d1 d2
 have:=zjd hd (r:=(crsY a.X a.Y b.X b.Y k).tmod ((b.X-a.X).natAbs:Int)) (by omega) d1 (g2:=0) (by omega)
 simpa using this
theorem zc9{m:Mp}{a b:Place}{k:Int}(hv:validM m=true)(ha:onM m a=true)(hb:onM m b=true)(hk:1<=k/\k<dY a b):PntOk (crs1 m a b k):=by
 obtain⟨w,h,-,-⟩:=zaf hv
 obtain⟨a1,a2⟩:=zad.1 ha
 obtain⟨b1,b2⟩:=zad.1 hb
 have hd:=(zlL hv ha hb).2.2.2
 have C:=zfd (f0:=a.Y) (f1:=a.X) (t0:=b.Y) (t1:=b.X) (k:=k) (lo:=0) (hi:=m.W-1) (by omega) (by omega) (by omega) hk
 have hx:=C.x
 have hw:=C.w
 have hr:=C.r
 have hu:=C.u
 have d1:=(zaV hv (p:=⟨((crsY a.Y a.X b.Y b.X k).tdiv ((b.Y-a.Y).natAbs:Int)),(crsX a.Y b.Y k)⟩) (zad.2 (by dsimp only;omega))).2
 refine⟨by unfold crs1;dsimp only;unfold dY at hk;omega,by unfold crs1;dsimp only;unfold dY at hd;omega,?_⟩
 unfold crs1 crsH
 dsimp only
 unfold dY at hd
 split
 ·rename_i h1
  have hu1:=hu h1
  have d2:=(zaV hv (p:=⟨(((crsY a.Y a.X b.Y b.X k).tdiv ((b.Y-a.Y).natAbs:Int))+1),(crsX a.Y b.Y k)⟩) (zad.2 (by dsimp only;omega))).2
  exact zjd hd (by omega) d1 d2
 have:=zjd hd (r:=(crsY a.Y a.X b.Y b.X k).tmod ((b.Y-a.Y).natAbs:Int)) (by omega) d1 (g2:=0) (by omega)
 simpa using this
theorem zhQ{m:Mp}{a b:Place}(hv:validM m=true)(ha:onM m a=true)(hb:onM m b=true):∀(f:Nat) (k0 k1:Int),1<=k0->1<=k1->∀p∈ptsF m a b f k0 k1,PntOk p
 |0,_,_,_,_,p,hp=>by cases hp
 |f+1,k0,k1,h0,h1,p,hp=>by
  unfold ptsF at hp
  split at hp
  ·rename_i c0
   split at hp
   ·rename_i c1
    rcases qC.1 hp with rfl|hp
    ·exact zc9 hv ha hb ⟨h1,by omega⟩
    exact zhQ hv ha hb f k0 (k1+1) h0 (by omega) p hp
   rename_i c1
   rcases qC.1 hp with rfl|hp
   ·exact zda hv ha hb ⟨h0,by omega⟩
   exact zhQ hv ha hb f (k0+1) k1 (by omega) h1 p hp
  cases hp
theorem zpY{m:Mp}{a b:Place}(hv:validM m=true)(ha:onM m a=true)(hb:onM m b=true):∀p∈ptsL m a b,PntOk p:=zhQ hv ha hb _ 1 1 (by omega) (by omega)
theorem r1CD{T:TT}{s:St}{a t i:Nat}{ti:TI}{x y:D}(h1:s.sl a= .box i 0)(h2:T t=some ti)(h3:s.ob i=some (.box [.d x]))(h4:Nat.beq 1 ti.size=true)(h5:ti.agg=false)(he:D.eqv x y):RetAll T s [.cell a t] [.d y]:=by
 refine⟨?_,trivial⟩
 rw[h1]
 unfold RetCell
 simp only[h2,h3,h5,and_true,true_and]
 exact⟨h4,he⟩
abbrev ptsClo(m:Mp)(a b:Place):D:=.clo 295 3 (ptsCap m a b)
theorem zo1(m:Mp)(a b:Place):Spec PP 290 [m.v,a.v,b.v] [.d (ptsClo m a b)]:=by
 refine sA Tryz.func290 ?_
 refine⟨⟨rfl,rfl,fun j hj=>?_⟩,trivial⟩
 match j,hj with
 |0,_=>exact⟨_,rfl,rfl,_,_,rfl,rfl,rfl,fun j hj=>dE _⟩
 |1,_=>exact⟨_,rfl,rfl,_,_,rfl,rfl,rfl,fun j hj=>dE _⟩
 |2,_=>exact⟨_,rfl,rfl,_,_,rfl,rfl,rfl,fun j hj=>dE _⟩
def abvI(m:Mp)(a:Place)(ta:Int)(b:Place)(tb:Int)(p:Pnt):Int:=p.hi-(p.n-p.k)*(grd m a+ta)-p.k*(grd m b+tb)
theorem zsa(m:Mp)(a b:Place)(ta tb:Int)(p:Pnt)(hv:validM m=true)(ha:onM m a=true)(hb:onM m b=true)(hta:0<=ta/\ta<=1073741824)(htb:0<=tb/\tb<=1073741824)(hp:PntOk p):Spec PP 291 [m.v,a.v,N ta,b.v,N tb,p.v] [N (abvI m a ta b tb p)]:=by
 obtain⟨p1,p2,p3⟩:=hp
 have ga:=(zaV hv ha).2
 have gb:=(zaV hv hb).2
 have m1:=mulB (a:=p.n-p.k) (b:=grd m a+ta) (x:=48) (y:=1073745824) (by omega) (by omega)
 have m2:=mulB (a:=p.k) (b:=grd m b+tb) (x:=48) (y:=1073745824) (by omega) (by omega)
 refine sA Tryz.func291 ?_
 refine oN 24 ?_
 refine⟨i6,?_⟩
 refine oP (zce m a hv ha) rfl rfl ?_
 refine⟨i6,⟨i6,⟨i6,?_⟩⟩⟩
 refine oP (zce m b hv hb) rfl rfl ?_
 refine⟨i6,⟨i6,⟨i6,?_⟩⟩⟩
 exact r1I rfl rfl
def ovrB(m:Mp)(a:Place)(ta:Int)(b:Place)(tb:Int)(p:Pnt):Bool:=decide (0<abvI m a ta b tb p)
def freeB(m:Mp)(a:Place)(ta:Int)(b:Place)(tb:Int):Bool:=!((ptsL m a b).any (ovrB m a ta b tb))
theorem zur(m:Mp)(a b:Place)(ta tb:Int)(hv:validM m=true)(ha:onM m a=true)(hb:onM m b=true)(hta:0<=ta/\ta<=1073741824)(htb:0<=tb/\tb<=1073741824):Spec PP 279 [m.v,a.v,N ta,b.v,N tb] [B (freeB m a ta b tb)]:=by
 refine sA Tryz.func279 ?_
 refine cR (zo1 m a b) rfl rfl ?_
 refine CodeOb.rangeAt (zmF m a b hv ha hb) rfl (fun _=>rfl) (by decide) [(5,.box 5 0),(6,.box 6 0),(7,.box 7 0),(8,.box 8 0),(9,.box 9 0),(10,.box 10 0)] []
  (fun _=>[(5,.box (m.ds.map AV.d)),(6,.box [.d (I a.X),.d (I a.Y)]),(7,.box [.d (I ta)]),(8,.box [.d (I b.X),.d (I b.Y)]),(9,.box [.d (I tb)]),(10,.box [.d (.bool false)])]) rfl (fun _=>rfl) ?_
  (Iv:=fun pre=>pre.any (ovrB m a ta b tb)=false) rfl (fun v pre x hx hI=>?_) (fun hI=>?_)
 ·exact⟨rfl,⟨obD m.ds rfl,obD [I a.X,I a.Y] rfl,obD [I ta] rfl,obD [I b.X,I b.Y] rfl,obD [I tb] rfl,obD [.bool false] rfl,trivial⟩,wq rfl⟩
 ·have hxm:x∈ptsL m a b:=hx.subset (by simp)
  refine cP (zsa m a b ta tb x hv ha hb hta htb (zpY hv ha hb x hxm)) rfl rfl ?_
  apply bY<;>intro h1
  ·refine⟨[(5,.box (m.ds.map AV.d)),(6,.box [.d (I a.X),.d (I a.Y)]),(7,.box [.d (I ta)]),(8,.box [.d (I b.X),.d (I b.Y)]),(9,.box [.d (I tb)]),(10,.box [.d (.bool false)])],rfl,⟨rfl,⟨obD m.ds rfl,obD [I a.X,I a.Y] rfl,obD [I ta] rfl,obD [I b.X,I b.Y] rfl,obD [I tb] rfl,obD [.bool false] rfl,trivial⟩,wq rfl⟩,?_⟩
   refine r1CD rfl rfl rfl rfl rfl ?_
   show false=freeB m a ta b tb
   unfold freeB
   rw[kM.2 ⟨x,hxm,h1⟩];rfl
  refine⟨?_,rfl,⟨obD m.ds rfl,obD [I a.X,I a.Y] rfl,obD [I ta] rfl,obD [I b.X,I b.Y] rfl,obD [I tb] rfl,obD [.bool false] rfl,trivial⟩,wq rfl⟩
  show(pre++[x]).any (ovrB m a ta b tb)=false
  rw[List.any_append,hI]
  show(ovrB m a ta b tb x||false)=false
  rw[qZ];exact jH (dF h1)
 refine r1CD rfl rfl rfl rfl rfl ?_
 show true=freeB m a ta b tb
 unfold freeB
 rw[hI];rfl
def seesB(c:Ctry)(w:Twr)(p:Place)(h far:Int):Bool:=nearB w.At p far&&freeB c.M w.At w.H p h
structure TwrOk(c:Ctry)(w:Twr):Prop where
  id:1<=w.ID/\w.ID<=1099511627776
  on:onM c.M w.At=true
  h:0<=w.H/\w.H<=200
theorem zjc{m:Mp}{p:Place}(hv:validM m=true)(h:onM m p=true):on p=true:=by
 obtain⟨w,h',-,-⟩:=zaf hv
 have:=zad.1 h
 exact zbk.2 (by omega)
theorem zup(c:Ctry)(w:Twr)(p:Place)(h far:Int)(hv:validM c.M=true)(hw:TwrOk c w)(hp:onM c.M p=true)(hh:0<=h/\h<=200)(hf:0<=far/\far<=100):Spec PP 268 [c.v,w.v,p.v,N h,N far] [B (seesB c w p h far)]:=by
 have o1:=zjc hv hw.on
 have o2:=zjc hv hp
 have hwh:=hw.h
 refine sA Tryz.func268 ?_
 refine cP (zuq w.At p far o1 o2 hf) rfl rfl ?_
 apply bY<;>intro h1
 ·refine cP (zur c.M w.At p w.H h hv hw.on hp (by omega) (by omega)) rfl rfl ?_
  refine sT ?_
  refine r1B rfl ?_
  unfold seesB;rw[h1];rfl
 refine sF ?_
 refine r1B rfl ?_
 unfold seesB;rw[h1];rfl
theorem zo2(a b:Twr):Spec PP 165 [a.v,.d (capB [I b.ID,I b.At.X,I b.At.Y,I b.H])] [B (a.ID==b.ID)]:=by
 refine sA Tryz.func165 ?_
 refine r1B rfl ?_
 rfl
def towE(c:Ctry)(i:Nat):Int:=
 if !within (c.T.getD i default).ID 1 1099511627776|| !onM c.M (c.T.getD i default).At|| !within (c.T.getD i default).H 0 200 then 1
 else if(c.T.take i).any fun x=>x.ID==(c.T.getD i default).ID then 6 else 0
def lastZ(Z:List Hz):Nat->Int
 |0=>-1
 |j+1=>(Z.getD j default).To
def hzE(Z:List Hz)(j:Nat):Int:=
 if !within (Z.getD j default).From 0 (Z.getD j default).To||decide (1048576<(Z.getD j default).To)||decide ((Z.getD j default).From<=lastZ Z j)|| !within (Z.getD j default).Far 0 100 then 1 else 0
def ctryE(c:Ctry):Int:=
 if validM c.M=false then 1 else if 12<c.T.length\/60<c.Z.length then 2
 else if err1 (towE c) c.T.length≠0 then err1 (towE c) c.T.length else err1 (hzE c.Z) c.Z.length
theorem zrT(l:List Twr){i:Nat}(h:i<=l.length):D.eqv (.slc 4 i fun k=>(l.getD k default).at) (lT (l.take i)):=
 ⟨by simp;omega,.inr ⟨rfl,fun k hk j hj=>by
  show D.eqv ((l.getD k default).at j) (((l.take i).getD k default).at j)
  have e:(l.take i).getD k default=l.getD k default:=by
   rw[hZ,hZ,jS,kH hk]
  rw[e];exact dE _⟩⟩
theorem zmG(c:Ctry):Spec PP 106 [c.v] [.d (.int .i64 (ctryE c))]:=by
 refine sA Tryz.func106 ?_
 refine cP (zr8 c.M) rfl rfl ?_
 apply bY<;>intro h0
 ·refine r1I rfl ?_
  unfold ctryE;rw[kH (by simpa using h0)]
 have h0:validM c.M=true:=by simpa using h0
 apply bY<;>intro h1
 ·have h1:12<c.T.length:=by have:=dT h1;omega
  refine sT ?_
  refine sT ?_
  refine r1I rfl ?_
  unfold ctryE;rw[kG (by simp[h0]),kH (.inl h1)]
 have h1:¬12<c.T.length:=by have:=dF h1;omega
 refine sF ?_
 apply bY<;>intro h2
 ·have h2:60<c.Z.length:=by have:=dT h2;omega
  refine r1I rfl ?_
  unfold ctryE;rw[kG (by simp[h0]),kH (.inr h2)]
 have h2:¬60<c.Z.length:=by have:=dF h2;omega
 have e0:ctryE c=if err1 (towE c) c.T.length≠0 then err1 (towE c) c.T.length else err1 (hzE c.Z) c.Z.length:=by
  unfold ctryE;rw[kG (by simp[h0]),kG (by omega)]
 refine lOf (σ:=Nat) (fun i=>([(1,.box 1 0),(25,.d (lT c.T)),(26,.d (I c.T.length)),(27,.d (I i))],[(1,bxCt c)])) (fun i=>i<=c.T.length/\∀j,j<i->towE c j=0) (fun i=>c.T.length-i) 0
  ⟨rfl,⟨obCt rfl,trivial⟩,wq rfl⟩ z0L fun i hi=>?_
 obtain⟨hi,ha⟩:=hi
 apply bY<;>intro h3
 ·have h3:i<c.T.length:=by have:=dT h3;omega
  refine⟨⟨rfl,by omega,by omega⟩,?_⟩
  refine cP (za0 (c.T.getD i default).ID 1 1099511627776) rfl rfl ?_
  have bad:towE c i≠0->ctryE c=towE c i:=fun h=>by
   have:=zan ha h h3
   rw[e0,kH (by rw[this];exact h),this]
  have one:(!within (c.T.getD i default).ID 1 1099511627776|| !onM c.M (c.T.getD i default).At|| !within (c.T.getD i default).H 0 200)=true->towE c i=1:=fun h=>by unfold towE;rw[kH h]
  apply bY<;>intro h4
  ·refine sT (sT (sT (sT ?_)))
   refine r1I rfl ?_
   have e:=one (by rw[h4];rfl)
   rw[bad (by rw[e];decide),e]
  refine cP (g_On c.M (c.T.getD i default).At h0) rfl rfl ?_
  refine sF ?_
  apply bY<;>intro h5
  ·refine sT (sT ?_)
   refine r1I rfl ?_
   have e:=one (by rw[h4,h5];rfl)
   rw[bad (by rw[e];decide),e]
  refine cP (za0 (c.T.getD i default).H 0 200) rfl rfl ?_
  refine sF ?_
  apply bY<;>intro h6
  ·refine r1I rfl ?_
   have e:=one (by rw[h4,h5,h6];rfl)
   rw[bad (by rw[e];decide),e]
  have two:towE c i=if((c.T.take i).any fun x=>x.ID==(c.T.getD i default).ID)then 6 else 0:=by unfold towE;rw[kG (by rw[h4,h5,h6];decide)]
  refine⟨⟨.inr rfl,by omega,by omega⟩,?_⟩
  refine CallSt.fzP [4] (zpO (c.T.take i) 165 (capB [I (c.T.getD i default).ID,I (c.T.getD i default).At.X,I (c.T.getD i default).At.Y,I (c.T.getD i default).H]) (fun x=>x.ID==(c.T.getD i default).ID) (by simp;omega) (fun k hk=>zo2 _ _)) rfl ⟨zrT c.T (by omega),⟨rfl,rfl,fun j hj=>?_⟩,trivial⟩ rfl ?_
  ·obtain rfl:j=0:=by
    have:j<1:=hj
    omega
   exact dE _
  apply bY<;>intro h7
  ·refine r1I rfl ?_
   rw[h7,kH rfl]at two
   rw[bad (by rw[two];decide),two]
  rw[h7]at two
  refine⟨i6,?_⟩
  refine⟨i+1,⟨rfl,⟨obCt rfl,trivial⟩,wq rfl⟩,⟨h3,fun j hj=>?_⟩,(msr (by omega))⟩
  by_cases e:j=i
  ·subst e;rw[two];rfl
  exact ha j (by omega)
 have h3:i=c.T.length:=by have:=dF h3;omega
 subst h3
 have e1:ctryE c=err1 (hzE c.Z) c.Z.length:=by rw[e0,zaJ ha];rfl
 refine lOf (σ:=Nat) (fun i=>([(5,.d (I (lastZ c.Z i))),(60,.d (lZ c.Z)),(61,.d (I c.Z.length)),(62,.d (I i))],[])) (fun i=>i<=c.Z.length/\∀j,j<i->hzE c.Z j=0) (fun i=>c.Z.length-i) 0
  ⟨rfl,trivial,wq rfl⟩ z0L fun i hi=>?_
 obtain⟨hi,ha⟩:=hi
 apply bY<;>intro h3
 ·have h3:i<c.Z.length:=by have:=dT h3;omega
  refine⟨⟨rfl,by omega,by omega⟩,?_⟩
  refine cP (za0 (c.Z.getD i default).From 0 (c.Z.getD i default).To) rfl rfl ?_
  have bad:hzE c.Z i≠0->ctryE c=hzE c.Z i:=fun h=>by rw[e1,zan ha h h3]
  have one:(!within (c.Z.getD i default).From 0 (c.Z.getD i default).To||decide (1048576<(c.Z.getD i default).To)||decide ((c.Z.getD i default).From<=lastZ c.Z i)|| !within (c.Z.getD i default).Far 0 100)=true->hzE c.Z i=1:=fun h=>by unfold hzE;rw[kH h]
  apply bY<;>intro h4
  ·refine sT (sT (sT (sT (sT (sT ?_)))))
   refine r1I rfl ?_
   have e:=one (by rw[h4];rfl)
   rw[bad (by rw[e];decide),e]
  refine sF ?_
  apply bY<;>intro h5
  ·have h5:decide (1048576<(c.Z.getD i default).To)=true:=h5
   refine sT (sT (sT (sT ?_)))
   refine r1I rfl ?_
   have e:=one (by rw[h4,h5];rfl)
   rw[bad (by rw[e];decide),e]
  have h5:decide (1048576<(c.Z.getD i default).To)=false:=h5
  refine sF ?_
  apply bY<;>intro h6
  ·have h6:decide ((c.Z.getD i default).From<=lastZ c.Z i)=true:=h6
   refine sT (sT ?_)
   refine r1I rfl ?_
   have e:=one (by rw[h4,h5,h6];rfl)
   rw[bad (by rw[e];decide),e]
  have h6:decide ((c.Z.getD i default).From<=lastZ c.Z i)=false:=h6
  refine cP (za0 (c.Z.getD i default).Far 0 100) rfl rfl ?_
  refine sF ?_
  apply bY<;>intro h7
  ·refine r1I rfl ?_
   have e:=one (by rw[h4,h5,h6,h7];rfl)
   rw[bad (by rw[e];decide),e]
  have zero:hzE c.Z i=0:=by unfold hzE;rw[kG (by rw[h4,h5,h6,h7];decide)]
  refine⟨i6,?_⟩
  refine⟨i+1,⟨rfl,trivial,wq rfl⟩,⟨h3,fun j hj=>?_⟩,(msr (by omega))⟩
  by_cases e:j=i
  ·subst e;exact zero
  exact ha j (by omega)
 have h3:i=c.Z.length:=by have:=dF h3;omega
 subst h3
 refine r1I rfl ?_
 rw[e1,zaJ ha]
structure CtryOk(c:Ctry):Prop where
  m:validM c.M=true
  t:c.T.length<=12
  z:c.Z.length<=60
  w:∀i,i<c.T.length->TwrOk c (c.T.getD i default)
  d:∀i,i<c.T.length->((c.T.take i).any fun x=>x.ID==(c.T.getD i default).ID)=false
  f:∀x∈c.Z,0<=x.Far/\x.Far<=100
  h:∀j,j<c.Z.length->hzE c.Z j=0
theorem zes{c:Ctry}(h:ctryE c=0):CtryOk c:=by
 unfold ctryE at h
 cases hv:validM c.M with
 |false=>rw[kH hv]at h;cases h
 |true=>
 rw[kG (by rw[hv];decide)]at h
 split at h
 ·cases h
 rename_i h1
 split at h
 ·rename_i h2;exact absurd h h2
 rename_i h2
 have hT:err1 (towE c) c.T.length=0:=jL h2
 have a:=zbr hT
 have b:=zbr h
 refine⟨hv,by omega,by omega,fun i hi=>?_,fun i hi=>?_,fun x hx=>?_,b⟩
 ·have:=a i hi
  unfold towE at this
  split at this
  ·cases this
  rename_i h3
  simp only[jX,jY,not_or,jao]at h3
  exact⟨zab.1 h3.1.1,h3.1.2,zab.1 h3.2⟩
 ·have:=a i hi
  unfold towE at this
  split at this
  ·cases this
  split at this
  ·cases this
  rename_i h4;simpa using h4
 obtain⟨j,hj,rfl⟩:=za4 default hx
 have:=b j hj
 unfold hzE at this
 split at this
 ·cases this
 rename_i h3
 simp only[jX,jY,not_or,jao]at h3
 exact zab.1 h3.2
theorem zh8{t:Int}:∀{l:List Hz},(∀x∈l,0<=x.Far/\x.Far<=100)->0<=farZ t l/\farZ t l<=100
 | [],_=>⟨(by decide:(0:Int)<=100),(by decide:(100:Int)<=100)⟩
 |x::r,h=>by
  unfold farZ
  split
  ·exact h x (by simp)
  exact zh8 fun y hy=>h y (by simp[hy])
def seesE(c:Ctry)(id:Int)(p:Place)(h t:Int):Bool×Int:=
 if ctryE c≠0 then(false,ctryE c)else if(towG c.T id).2=false then(false,5)
 else if(!onM c.M p|| !within h 0 200|| !within t 0 1048576)=true then(false,1)else(seesB c (towG c.T id).1 p h (farZ t c.Z),0)
theorem r2BI{T:TT}{s:St}{t u:Nat}{k:IntKind}{m n:Int}{b c:Bool}(h:s.sl t= .d (.bool b))(h':s.sl u= .d (.int k m))(e:b=c)(e':m=n):RetAll T s [.tmp t,.tmp u] [.d (.bool c),.d (.int k n)]:=⟨rtB h e,rtI h' e',trivial⟩
theorem zkN{c:Ctry}(h:CtryOk c){id:Int}(ht:(towG c.T id).2=true):TwrOk c (towG c.T id).1:=by
 unfold towG at ht⊢
 split at ht
 ·cases ht
 rename_i h1
 rw[kG h1]
 exact h.w _ (zdQ h1).1
theorem zus(c:Ctry)(id:Int)(p:Place)(h t:Int):Spec PP 255 [c.v,N id,p.v,N h,N t] [B (seesE c id p h t).1,.d (.int .i64 (seesE c id p h t).2)]:=by
 refine sA Tryz.func255 ?_
 refine cP (zmG c) rfl rfl ?_
 apply bY<;>intro h0
 ·have h0:ctryE c≠0:=by simpa using h0
  have e:seesE c id p h t=(false,ctryE c):=by unfold seesE;rw[kH h0]
  rw[e]
  exact r2BI rfl rfl rfl rfl
 have h0:ctryE c=0:=by simpa using h0
 have ok:=zes h0
 refine cP (zr9 c id (by have:=ok.t;omega)) rfl rfl ?_
 apply bY<;>intro h1
 ·have h1:(towG c.T id).2=false:=by simpa using h1
  have e:seesE c id p h t=(false,5):=by unfold seesE;rw[kG (fun hh=>hh h0),kH h1]
  rw[e]
  exact r2BI rfl rfl rfl rfl
 have h1:(towG c.T id).2=true:=by simpa using h1
 have e1:seesE c id p h t=if(!onM c.M p|| !within h 0 200|| !within t 0 1048576)=true then(false,1)else(seesB c (towG c.T id).1 p h (farZ t c.Z),0):=by
  unfold seesE;rw[kG (fun hh=>hh h0),kG (by rw[h1];decide)]
 refine cP (g_On c.M p ok.m) rfl rfl ?_
 apply bY<;>intro h2
 ·refine sT (sT (sT (sT ?_)))
  rw[e1,kH (by rw[h2];rfl)]
  exact r2BI rfl rfl rfl rfl
 refine cP (za0 h 0 200) rfl rfl ?_
 refine sF ?_
 apply bY<;>intro h3
 ·refine sT (sT ?_)
  rw[e1,kH (by rw[h2,h3];rfl)]
  exact r2BI rfl rfl rfl rfl
 refine cP (za0 t 0 1048576) rfl rfl ?_
 refine sF ?_
 apply bY<;>intro h4
 ·rw[e1,kH (by rw[h2,h3,h4];rfl)]
  exact r2BI rfl rfl rfl rfl
 have hon:onM c.M p=true:=by simpa using h2
 have hh:within h 0 200=true:=by simpa using h3
 refine oN 10 ?_
 refine oP (g_far c t (by have:=ok.z;omega)) rfl rfl ?_
 refine oP (zup c (towG c.T id).1 p h (farZ t c.Z) ok.m (zkN ok h1) hon (zab.1 hh) (zh8 ok.f)) rfl rfl ?_
 rw[e1,kG (by rw[h2,h3,h4];decide)]
 exact r2BI rfl rfl rfl rfl
theorem zmZ(n p:Int)(hp:0<p/\p<=1000000)(hn:-1000000000000<=n/\n<=1000000000000):Spec PP 286 [N n,N p] [N (n/p)]:=by
 have h1:=wD n hp.1
 have h2:=wD (-n) hp.1
 rw[jbx]at h2
 have e:(n.tmod p+p).tmod p=n%p:=by
  rw[wE (by omega),jbA]
  rw[Int.tmod_def,jbv]
 have hm:=Int.emod_nonneg n (show p≠0 by omega)
 have hl:=jbz n hp.1
 have hd:=Int.emod_add_mul_ediv n p
 have eq:(n-(n.tmod p+p).tmod p).tdiv p=n/p:=by
  rw[e,show n-n%p=n/p*p by rw[jae];omega]
  exact Int.mul_tdiv_cancel _ (by omega)
 have g1:-1000000000000<=n/p:=(jaM hp.1).2 (by omega)
 have g2:n/p<=1000000000000:=jbl hp.1 (by omega)
 refine sA Tryz.func286 ?_
 refine⟨by omega,⟨i6,⟨by omega,⟨zaZ (by rw[e];omega) (by rw[e];omega),⟨⟨by omega,zaZ (by rw[eq];omega) (by rw[eq];omega)⟩,?_⟩⟩⟩⟩⟩
 exact r1I rfl eq
theorem zqq(n p:Int)(hp:0<p/\p<=1000000)(hn:-1000000000000<=n/\n<=1000000000000):Spec PP 275 [N n,N p] [N (-(-n/p))]:=by
 have g1:-1000000000000<= -n/p:=(jaM hp.1).2 (by omega)
 have g2:-n/p<=1000000000000:=jbl hp.1 (by omega)
 refine sA Tryz.func275 ?_
 refine⟨i6,?_⟩
 refine cP (zmZ (-n) p hp (by omega)) rfl rfl ?_
 refine⟨i6,?_⟩
 exact r1I rfl rfl
theorem zdd(n:Int)(l:List Int)(hn:l.length<=1000000):Spec PP 285 [N n,.d (lI l)] [N (l.foldl max n)]:=by
 refine sA Tryz.func285 ?_
 refine lOf (σ:=Nat) (fun i=>([(0,.d (I ((l.take i).foldl max n))),(7,.d (lI l)),(8,.d (I l.length)),(9,.d (I i))],[])) (fun i=>i<=l.length) (fun i=>l.length-i) 0
  ⟨rfl,trivial,wq rfl⟩ (jF _) fun i hi=>?_
 apply bY<;>intro h1
 ·have h1:i<l.length:=by have:=dT h1;omega
  refine⟨⟨rfl,by omega,by omega⟩,?_⟩
  refine⟨i6,?_⟩
  refine⟨i+1,⟨rfl,trivial,avI rfl ?_,wq rfl⟩,h1,(msr (by omega))⟩
  rw[zav h1 0,wJ];rfl
 have h1:i=l.length:=by have:=dF h1;omega
 subst h1
 refine r1I rfl ?_
 rw[jZ]
theorem zgc{f:Nat->Nat->D}{a:Int}(h:f 0 0=I a):D.eqv (.slc 1 1 f) (lI [a]):=
 ⟨rfl,.inr ⟨rfl,fun i hi j hj=>by
  obtain rfl:i=0:=by omega
  obtain rfl:j=0:=by omega
  rw[h];exact⟨rfl,rfl⟩⟩⟩
def drf(x:Cir)(a b:Int):Int:=-(-(x.Drift*max (a-b) (b-a))/60)
theorem zm0(x:Cir)(a b:Int)(hx:0<=x.Drift/\x.Drift<=60)(ha:0<=a/\a<=1048576)(hb:0<=b/\b<=1048576):Spec PP 261 [x.v,N a,N b] [N (drf x a b)]:=by
 have m1:=mulB (a:=x.Drift) (b:=max (a-b) (b-a)) (x:=60) (y:=1048576) (by omega) (by omega)
 refine sA Tryz.func261 ?_
 have mI:inR .i64 (x.Drift*max (a-b) (b-a)):=i6
 refine⟨i6,⟨i6,⟨mI,?_⟩⟩⟩
 refine cP (zqq (x.Drift*max (a-b) (b-a)) 60 (by decide) (by omega)) rfl rfl ?_
 exact r1I rfl rfl
def cirE(x:Cir):Int:=if((!within x.ID 1 1099511627776)||(![x.At].all on)||decide (x.From<0)||decide (x.To<x.From)||decide (1048576<x.To)||decide (x.Lo< -300)||decide (x.Hi<x.Lo)||decide (300<x.Hi)||(!within x.Drift 0 60))=true then 1 else 0
theorem zm2(x:Cir):Spec PP 166 [x.v] [.d (.int .i64 (cirE x))]:=by
 refine sA Tryz.func166 ?_
 refine cP (za2 x.ID 1 1099511627776) rfl rfl ?_
 apply bY<;>intro k0
 ·have k0:(!within x.ID 1 1099511627776)=true:=k0
  refine sT (sT (sT (sT (sT (sT (sT (sT (sT (sT (sT (sT (sT (sT (sT (sT ?_)))))))))))))))
  refine r1I rfl ?_
  unfold cirE;rw[kH (by simp only[k0,k9,qS])]
 have k0:(!within x.ID 1 1099511627776)=false:=k0
 refine pEq (c_on [x.At] (jD rfl)) rfl (zjC (at2 rfl rfl)) rfl ?_
 refine sF ?_
 apply bY<;>intro k1
 ·have k1:(![x.At].all on)=true:=k1
  refine sT (sT (sT (sT (sT (sT (sT (sT (sT (sT (sT (sT (sT (sT ?_)))))))))))))
  refine r1I rfl ?_
  unfold cirE;rw[kH (by simp only[k0,k1,k9,qS])]
 have k1:(![x.At].all on)=false:=k1
 refine sF ?_
 apply bY<;>intro k2
 ·have k2:decide (x.From<0)=true:=k2
  refine sT (sT (sT (sT (sT (sT (sT (sT (sT (sT (sT (sT ?_)))))))))))
  refine r1I rfl ?_
  unfold cirE;rw[kH (by simp only[k0,k1,k2,k9,qS])]
 have k2:decide (x.From<0)=false:=k2
 refine sF ?_
 apply bY<;>intro k3
 ·have k3:decide (x.To<x.From)=true:=k3
  refine sT (sT (sT (sT (sT (sT (sT (sT (sT (sT ?_)))))))))
  refine r1I rfl ?_
  unfold cirE;rw[kH (by simp only[k0,k1,k2,k3,k9,qS])]
 have k3:decide (x.To<x.From)=false:=k3
 refine sF ?_
 apply bY<;>intro k4
 ·have k4:decide (1048576<x.To)=true:=k4
  refine sT (sT (sT (sT (sT (sT (sT (sT ?_)))))))
  refine r1I rfl ?_
  unfold cirE;rw[kH (by simp only[k0,k1,k2,k3,k4,k9,qS])]
 have k4:decide (1048576<x.To)=false:=k4
 refine sF ?_
 apply bY<;>intro k5
 ·have k5:decide (x.Lo< -300)=true:=k5
  refine sT (sT (sT (sT (sT (sT ?_)))))
  refine r1I rfl ?_
  unfold cirE;rw[kH (by simp only[k0,k1,k2,k3,k4,k5,k9,qS])]
 have k5:decide (x.Lo< -300)=false:=k5
 refine sF ?_
 apply bY<;>intro k6
 ·have k6:decide (x.Hi<x.Lo)=true:=k6
  refine sT (sT (sT (sT ?_)))
  refine r1I rfl ?_
  unfold cirE;rw[kH (by simp only[k0,k1,k2,k3,k4,k5,k6,k9,qS])]
 have k6:decide (x.Hi<x.Lo)=false:=k6
 refine sF ?_
 apply bY<;>intro k7
 ·have k7:decide (300<x.Hi)=true:=k7
  refine sT (sT ?_)
  refine r1I rfl ?_
  unfold cirE;rw[kH (by simp only[k0,k1,k2,k3,k4,k5,k6,k7,k9,qS])]
 have k7:decide (300<x.Hi)=false:=k7
 refine cP (za2 x.Drift 0 60) rfl rfl ?_
 refine sF ?_
 apply bY<;>intro k8
 ·have k8:(!within x.Drift 0 60)=true:=k8
  refine r1I rfl ?_
  unfold cirE;rw[kH (by simp only[k0,k1,k2,k3,k4,k5,k6,k7,k8,k9,qS])]
 have k8:(!within x.Drift 0 60)=false:=k8
 refine r1I rfl ?_
 unfold cirE;rw[kG (by rw[k0,k1,k2,k3,k4,k5,k6,k7,k8];decide)]
theorem zih(x:Cir)(id:Int):Spec PP 227 [x.v,.d (capB [I id])] [B (x.ID==id)]:=by
 refine sA Tryz.func227 ?_
 exact r1B rfl rfl
theorem zkq(x:Chk)(id:Int):Spec PP 230 [x.v,.d (capB [I id])] [B (x.ID==id)]:=by
 refine sA Tryz.func230 ?_
 exact r1B rfl rfl
def cirI(c:Cirs)(id:Int):Int:=idxL (fun x:Cir=>x.ID==id) c.C
def chkI(c:Cirs)(id:Int):Int:=idxL (fun x:Chk=>x.ID==id) c.K
theorem zde(c:Cirs)(id:Int)(hn:c.C.length<=1000000):Spec PP 167 [c.v,N id] [N (cirI c id)]:=by
 refine sA Tryz.func167 ?_
 refine CallSt.fz [3] (zpN c.C 227 (capB [I id]) (fun t=>t.ID==id) hn (fun i hi=>zih _ id)) rfl rfl ?_
 exact r1I rfl rfl
theorem zm4(c:Cirs)(id:Int)(hn:c.K.length<=1000000):Spec PP 169 [c.v,N id] [N (chkI c id)]:=by
 refine sA Tryz.func169 ?_
 refine CallSt.fz [3] (ztg c.K 230 (capB [I id]) (fun t=>t.ID==id) hn (fun i hi=>zkq _ id)) rfl rfl ?_
 exact r1I rfl rfl
def chkB(k:Chk):Bool:=(!within k.ID 1 1099511627776)||(![k.Mark].all on)||(!within k.Shown 0 3599)||(!within k.Slack 1 100)
def chkO(c:Cirs)(k:Chk):Cir:=c.C.getD (cirI c k.C).toNat default
def chkE(c:Cirs)(k:Chk):Int:=
 if chkB k=true then 1 else if cirI c k.C<0 then 5
 else if(decide (k.Mark=(chkO c k).At)|| !within k.Tick (chkO c k).From (chkO c k).To)=true then 1 else 0
theorem zaS{c:Cirs}{id:Int}(h:¬cirI c id<0):(cirI c id).toNat<c.C.length/\cirI c id=((cirI c id).toNat:Int):=by
 rcases idxL_cases (fun t:Cir=>t.ID==id) c.C default with⟨h1,_⟩|⟨i,h1,h2,_⟩
 ·exact absurd (show cirI c id<0 by unfold cirI;rw[h1];decide) h
 unfold cirI;rw[h2];simp;exact h1
theorem zm3(c:Cirs)(k:Chk)(hn:c.C.length<=1000000):Spec PP 168 [c.v,k.v] [.d (.int .i64 (chkE c k))]:=by
 refine sA Tryz.func168 ?_
 refine cP (za2 k.ID 1 1099511627776) rfl rfl ?_
 apply bY<;>intro k0
 ·have k0:(!within k.ID 1 1099511627776)=true:=k0
  refine sT (sT (sT (sT (sT (sT ?_)))))
  refine r1I rfl ?_
  unfold chkE chkB;rw[kH (by simp only[k0,k9,qS])]
 have k0:(!within k.ID 1 1099511627776)=false:=k0
 refine pEq (c_on [k.Mark] (jD rfl)) rfl (zjC (at2 rfl rfl)) rfl ?_
 refine sF ?_
 apply bY<;>intro k1
 ·have k1:(![k.Mark].all on)=true:=k1
  refine sT (sT (sT (sT ?_)))
  refine r1I rfl ?_
  unfold chkE chkB;rw[kH (by simp only[k0,k1,k9,qS])]
 have k1:(![k.Mark].all on)=false:=k1
 refine cP (zci k.Shown) rfl rfl ?_
 refine sF ?_
 apply bY<;>intro k2
 ·have k2:(!within k.Shown 0 3599)=true:=k2
  refine sT (sT ?_)
  refine r1I rfl ?_
  unfold chkE chkB;rw[kH (by simp only[k0,k1,k2,k9,qS])]
 have k2:(!within k.Shown 0 3599)=false:=k2
 refine cP (za2 k.Slack 1 100) rfl rfl ?_
 refine sF ?_
 apply bY<;>intro k3
 ·have k3:(!within k.Slack 1 100)=true:=k3
  refine r1I rfl ?_
  unfold chkE chkB;rw[kH (by simp only[k0,k1,k2,k3,k9,qS])]
 have k3:(!within k.Slack 1 100)=false:=k3
 have e0:chkB k=false:=by unfold chkB;rw[k0,k1,k2,k3];rfl
 refine cP (zde c k.C hn) rfl rfl ?_
 apply bY<;>intro h1
 ·refine r1I rfl ?_
  unfold chkE;rw[kG (by rw[e0];decide),kH (dT h1)]
 have h1:¬cirI c k.C<0:=dF h1
 obtain⟨h2,h3⟩:=zaS h1
 refine⟨⟨rfl,by omega,by omega⟩,?_⟩
 apply bY<;>intro h4
 ·have h4:k.Mark=(chkO c k).At:=kU ((eqPW _ _).symm.trans h4)
  refine sT (sT ?_)
  refine r1I rfl ?_
  unfold chkE;rw[kG (by rw[e0];decide),kG h1,kH (by rw[jG h4];rfl)]
 have h4:k.Mark≠(chkO c k).At:=jab ((eqPW _ _).symm.trans h4)
 refine cP (za2 k.Tick (chkO c k).From (chkO c k).To) rfl rfl ?_
 refine sF ?_
 apply bY<;>intro h5
 ·refine r1I rfl ?_
  unfold chkE;rw[kG (by rw[e0];decide),kG h1,kH (by rw[h5,k9])]
 refine r1I rfl ?_
 unfold chkE;rw[kG (by rw[e0];decide),kG h1,kG (by rw[h5,jH h4];decide)]
def cir1E(c:Cirs)(i:Nat):Int:=if cirE (c.C.getD i default)≠0 then cirE (c.C.getD i default)else if cirI c (c.C.getD i default).ID<i then 6 else 0
def chk1E(c:Cirs)(i:Nat):Int:=if chkE c (c.K.getD i default)≠0 then chkE c (c.K.getD i default)else if chkI c (c.K.getD i default).ID<i then 6 else 0
def cirsE(c:Cirs):Int:=if 12<c.C.length\/60<c.K.length then 2
 else if err1 (cir1E c) c.C.length≠0 then err1 (cir1E c) c.C.length else err1 (chk1E c) c.K.length
abbrev bxCs(c:Cirs):Ob:=.box [.d (lC c.C),.d (lK c.K)]
theorem obCs{s:St}{ob:Nat->Option Ob}{c:Cirs}{o:Option Ob}(g:o=some (bxCs c)):Oble s ob o (bxCs c):=obD [lC c.C,lK c.K] g
theorem zii(c:Cirs):Spec PP 107 [c.v] [.d (.int .i64 (cirsE c))]:=by
 refine sA Tryz.func107 ?_
 apply bY<;>intro h1
 ·have h1:12<c.C.length:=by have:=dT h1;omega
  refine sT (sT ?_)
  refine r1I rfl ?_
  unfold cirsE;rw[kH (.inl h1)]
 have h1:¬12<c.C.length:=by have:=dF h1;omega
 refine sF ?_
 apply bY<;>intro h2
 ·have h2:60<c.K.length:=by have:=dT h2;omega
  refine r1I rfl ?_
  unfold cirsE;rw[kH (.inr h2)]
 have h2:¬60<c.K.length:=by have:=dF h2;omega
 have e0:cirsE c=if err1 (cir1E c) c.C.length≠0 then err1 (cir1E c) c.C.length else err1 (chk1E c) c.K.length:=by unfold cirsE;rw[kG (by omega)]
 refine lOf (σ:=Nat) (fun i=>([(1,.box 1 0),(20,.d (lC c.C)),(21,.d (I c.C.length)),(22,.d (I i))],[(1,bxCs c)])) (fun i=>i<=c.C.length/\∀j,j<i->cir1E c j=0) (fun i=>c.C.length-i) 0
  ⟨rfl,⟨obCs rfl,trivial⟩,wq rfl⟩ z0L fun i hi=>?_
 obtain⟨hi,ha⟩:=hi
 apply bY<;>intro h3
 ·have h3:i<c.C.length:=by have:=dT h3;omega
  have bad:cir1E c i≠0->cirsE c=cir1E c i:=fun h=>by
   have:=zan ha h h3
   rw[e0,kH (by rw[this];exact h),this]
  refine⟨⟨rfl,by omega,by omega⟩,?_⟩
  refine cP (zm2 (c.C.getD i default)) rfl rfl ?_
  apply bY<;>intro h4
  ·have h4:cirE (c.C.getD i default)≠0:=by simpa using h4
   refine r1I rfl ?_
   have e:cir1E c i=cirE (c.C.getD i default):=by unfold cir1E;rw[kH h4]
   rw[bad (by rw[e];exact h4),e]
  have h4:cirE (c.C.getD i default)=0:=by simpa using h4
  refine cP (zde c (c.C.getD i default).ID (by omega)) rfl rfl ?_
  apply bY<;>intro h5
  ·have h5:cirI c (c.C.getD i default).ID<i:=dT h5
   refine r1I rfl ?_
   have e:cir1E c i=6:=by unfold cir1E;rw[kG (fun hh=>hh h4),kH h5]
   rw[bad (by rw[e];decide),e]
  have h5:¬cirI c (c.C.getD i default).ID<i:=dF h5
  have e:cir1E c i=0:=by unfold cir1E;rw[kG (fun hh=>hh h4),kG h5]
  refine⟨i6,?_⟩
  refine⟨i+1,⟨rfl,⟨obCs rfl,trivial⟩,wq rfl⟩,⟨h3,fun j hj=>?_⟩,(msr (by omega))⟩
  by_cases q:j=i
  ·subst q;exact e
  exact ha j (by omega)
 have h3:i=c.C.length:=by have:=dF h3;omega
 subst h3
 have e1:cirsE c=err1 (chk1E c) c.K.length:=by rw[e0,zaJ ha];rfl
 clear ha
 refine lOf (σ:=Nat) (fun i=>([(1,.box 1 0),(40,.d (lK c.K)),(41,.d (I c.K.length)),(42,.d (I i))],[(1,bxCs c)])) (fun i=>i<=c.K.length/\∀j,j<i->chk1E c j=0) (fun i=>c.K.length-i) 0
  ⟨rfl,⟨obCs rfl,trivial⟩,wq rfl⟩ z0L fun i hi=>?_
 obtain⟨hi,ha⟩:=hi
 apply bY<;>intro h3
 ·have h3:i<c.K.length:=by have:=dT h3;omega
  have bad:chk1E c i≠0->cirsE c=chk1E c i:=fun h=>by rw[e1,zan ha h h3]
  refine⟨⟨rfl,by omega,by omega⟩,?_⟩
  refine cP (zm3 c (c.K.getD i default) (by omega)) rfl rfl ?_
  apply bY<;>intro h4
  ·have h4:chkE c (c.K.getD i default)≠0:=by simpa using h4
   refine r1I rfl ?_
   have e:chk1E c i=chkE c (c.K.getD i default):=by unfold chk1E;rw[kH h4]
   rw[bad (by rw[e];exact h4),e]
  have h4:chkE c (c.K.getD i default)=0:=by simpa using h4
  refine cP (zm4 c (c.K.getD i default).ID (by omega)) rfl rfl ?_
  apply bY<;>intro h5
  ·have h5:chkI c (c.K.getD i default).ID<i:=dT h5
   refine r1I rfl ?_
   have e:chk1E c i=6:=by unfold chk1E;rw[kG (fun hh=>hh h4),kH h5]
   rw[bad (by rw[e];decide),e]
  have h5:¬chkI c (c.K.getD i default).ID<i:=dF h5
  have e:chk1E c i=0:=by unfold chk1E;rw[kG (fun hh=>hh h4),kG h5]
  refine⟨i6,?_⟩
  refine⟨i+1,⟨rfl,⟨obCs rfl,trivial⟩,wq rfl⟩,⟨h3,fun j hj=>?_⟩,(msr (by omega))⟩
  by_cases q:j=i
  ·subst q;exact e
  exact ha j (by omega)
 have h3:i=c.K.length:=by have:=dF h3;omega
 subst h3
 refine r1I rfl ?_
 rw[e1,zaJ ha]
structure CirOk(x:Cir):Prop where
  id:1<=x.ID/\x.ID<=1099511627776
  on:on x.At=true
  t:0<=x.From/\x.From<=x.To/\x.To<=1048576
  z:-300<=x.Lo/\x.Lo<=x.Hi/\x.Hi<=300
  d:0<=x.Drift/\x.Drift<=60
structure ChkOk(c:Cirs)(k:Chk):Prop where
  id:1<=k.ID/\k.ID<=1099511627776
  on:on k.Mark=true
  s:0<=k.Shown/\k.Shown<=3599
  l:1<=k.Slack/\k.Slack<=100
  cc:0<=cirI c k.C
  ne:k.Mark≠(chkO c k).At
  t:(chkO c k).From<=k.Tick/\k.Tick<=(chkO c k).To
structure CirsOk(c:Cirs):Prop where
  n:c.C.length<=12
  m:c.K.length<=60
  cs:∀i,i<c.C.length->CirOk (c.C.getD i default)
  ci:∀i,i<c.C.length->(i:Int)<=cirI c (c.C.getD i default).ID
  ks:∀i,i<c.K.length->ChkOk c (c.K.getD i default)
  ki:∀i,i<c.K.length->(i:Int)<=chkI c (c.K.getD i default).ID
theorem zuH{x:Cir}(h:cirE x=0):CirOk x:=by
 unfold cirE at h
 split at h
 ·cases h
 rename_i h1
 simp only[jX,jY,not_or,jao,kA,jaA,jbk,jac]at h1
 obtain⟨⟨⟨⟨⟨⟨⟨⟨a,b⟩,c⟩,d⟩,e⟩,f⟩,g⟩,i⟩,j⟩:=h1
 exact⟨zab.1 a,b,by omega,by omega,zab.1 j⟩
theorem zuJ{c:Cirs}{k:Chk}(h:chkE c k=0):ChkOk c k:=by
 unfold chkE at h
 split at h
 ·cases h
 rename_i h1
 split at h
 ·cases h
 rename_i h2
 split at h
 ·cases h
 rename_i h3
 unfold chkB at h1
 simp only[jX,jY,not_or,jao,kA,jaA,jbk,jac]at h1 h3
 obtain⟨⟨⟨a,b⟩,c⟩,d⟩:=h1
 exact⟨zab.1 a,b,zab.1 c,zab.1 d,by omega,h3.1,zab.1 h3.2⟩
theorem zbP{c:Cirs}(h:cirsE c=0):CirsOk c:=by
 unfold cirsE at h
 split at h
 ·cases h
 rename_i h1
 split at h
 ·rename_i h2;exact absurd h h2
 rename_i h2
 have hT:err1 (cir1E c) c.C.length=0:=jL h2
 have a:=zbr hT
 have b:=zbr h
 have A:∀i,i<c.C.length->cirE (c.C.getD i default)=0/\(i:Int)<=cirI c (c.C.getD i default).ID:=fun i hi=>by
  have:=a i hi
  unfold cir1E at this
  split at this
  ·rename_i h4;exact absurd this h4
  rename_i h4
  split at this
  ·cases this
  exact⟨jL h4,by omega⟩
 have B:∀i,i<c.K.length->chkE c (c.K.getD i default)=0/\(i:Int)<=chkI c (c.K.getD i default).ID:=fun i hi=>by
  have:=b i hi
  unfold chk1E at this
  split at this
  ·rename_i h4;exact absurd this h4
  rename_i h4
  split at this
  ·cases this
  exact⟨jL h4,by omega⟩
 exact⟨by omega,by omega,fun i hi=>zuH (A i hi).1,fun i hi=>(A i hi).2,fun i hi=>zuJ (B i hi).1,fun i hi=>(B i hi).2⟩
abbrev Chk.ds(x:Chk):List D:=[I x.ID,I x.C,I x.Tick,I x.Mark.X,I x.Mark.Y,I x.Shown,I x.Slack]
abbrev Cir.ds(x:Cir):List D:=[I x.ID,I x.At.X,I x.At.Y,I x.From,I x.To,I x.Lo,I x.Hi,I x.Drift]
def aloT(b:Int×Int)(s l:Int):Spn:=⟨max (-300) (-(-((s-l)*b.2-b.1)/b.2)),-(max (-300) (-(((s+l)*b.2-b.1)/b.2)))⟩
def aloR(f:Nat->Spn):Nat->Nat->Spn
 | _,0=>⟨1,0⟩
 |i,n+1=>if(f i).Lo<=(f i).Hi then f i else aloR f (i+1) n
def aloF(x:Cir)(k:Chk)(i:Nat):Spn:=aloT (bear x.At k.Mark) (k.Shown+((i:Int)-1)*3600) k.Slack
def alo(x:Cir)(k:Chk):Spn:=aloR (aloF x k) 0 3
theorem zmR{n p b:Int}(hp:0<p)(hb:0<=b)(h:-b<=n/\n<=b):-b<=n/p/\n/p<=b:=by
 have h1:b*1<=b*p:=jaJ (by omega) hb
 have h2:-b*p= -(b*p):=jbG b p
 exact⟨(jaM hp).2 (by omega),jbl hp (by omega)⟩
theorem zsx(x:Cir)(k:Chk)(ha:on x.At=true)(hm:on k.Mark=true)(hne:x.At≠k.Mark)(hs:0<=k.Shown/\k.Shown<=3599)(hl:1<=k.Slack/\k.Slack<=100):Spec PP 280 [x.v,k.v] [(alo x k).v]:=by
 have hb:=zgl ha hm hne
 refine sA Tryz.func280 ?_
 refine cP (zhj x.At k.Mark ha hm hne) rfl rfl ?_
 refine lOf (σ:=Nat) (fun i=>([(3,.box 3 0),(4,.box 4 0),(5,.d (I (bear x.At k.Mark).1)),(6,.d (I (bear x.At k.Mark).2)),(7,.d (I ((i:Int)-1)))],[(3,.box (k.ds.map AV.d)),(4,.box [.d (I 0),.d (I 0)])])) (fun i=>i<=3/\aloR (aloF x k) i (3-i)=alo x k) (fun i=>3-i) 0
  ⟨rfl,⟨obD k.ds rfl,obD [I 0,I 0] rfl,trivial⟩,wq rfl⟩ ⟨jF _,rfl⟩ fun i hi=>?_
 obtain⟨hi,ha⟩:=hi
 apply bY<;>intro h1
 ·have h1:(i:Int)-1<=1:=dT h1
  refine⟨i6,⟨i6,?_⟩⟩
  obtain⟨S,hS⟩:∃S,S=k.Shown+((i:Int)-1)*3600:=⟨_,rfl⟩
  have sb:-3600<=S/\S<=7199:=by omega
  have m1:=mulB (a:=S-k.Slack) (b:=(bear x.At k.Mark).2) (x:=10000) (y:=48) (by omega) (by omega)
  have m2:=mulB (a:=S+k.Slack) (b:=(bear x.At k.Mark).2) (x:=10000) (y:=48) (by omega) (by omega)
  have q1:=zmR (n:=-((S-k.Slack)*(bear x.At k.Mark).2-(bear x.At k.Mark).1)) (b:=1000000) hb.1.1 (by omega) (by omega)
  have q2:=zmR (n:=(S+k.Slack)*(bear x.At k.Mark).2-(bear x.At k.Mark).1) (b:=1000000) hb.1.1 (by omega) (by omega)
  have hf:aloF x k i=aloT (bear x.At k.Mark) S k.Slack:=by rw[hS];rfl
  rw[<- hS]
  refine oN 29 ?_
  refine⟨i6,⟨i6,⟨i6,?_⟩⟩⟩
  refine oP (zqq ((S-k.Slack)*(bear x.At k.Mark).2-(bear x.At k.Mark).1) (bear x.At k.Mark).2 (by omega) (by omega)) rfl rfl ?_
  refine CallOb.pureE (zdd (-300) [_] (jD rfl)) rfl ⟨⟨rfl,rfl⟩,zgc rfl,trivial⟩ rfl ?_
  refine⟨i6,⟨i6,⟨i6,?_⟩⟩⟩
  refine oP (zmZ ((S+k.Slack)*(bear x.At k.Mark).2-(bear x.At k.Mark).1) (bear x.At k.Mark).2 (by omega) (by omega)) rfl rfl ?_
  refine⟨i6,?_⟩
  refine CallOb.pureE (zdd (-300) [_] (jD rfl)) rfl ⟨⟨rfl,rfl⟩,zgc rfl,trivial⟩ rfl ?_
  have g1:(aloT (bear x.At k.Mark) S k.Slack).Lo=max (-300) (-(-((S-k.Slack)*(bear x.At k.Mark).2-(bear x.At k.Mark).1)/(bear x.At k.Mark).2)):=rfl
  have g2:(aloT (bear x.At k.Mark) S k.Slack).Hi= -(max (-300) (-(((S+k.Slack)*(bear x.At k.Mark).2-(bear x.At k.Mark).1)/(bear x.At k.Mark).2))):=rfl
  have mI:inR .i64 (aloT (bear x.At k.Mark) S k.Slack).Hi:=zaZ (by rw[g2];omega) (by rw[g2];omega)
  refine⟨mI,?_⟩
  apply bY<;>intro h2
  ·have h2:(aloT (bear x.At k.Mark) S k.Slack).Lo<=(aloT (bear x.At k.Mark) S k.Slack).Hi:=dT h2
   have e:alo x k=aloT (bear x.At k.Mark) S k.Slack:=by
    rw[<- ha,show 3-i=(3-(i+1))+1 by omega,<- hf]
    unfold aloR
    rw[kH (by rw[hf];exact h2)]
   rw[e]
   exact r1C rfl rfl rfl rfl rfl rfl (zbR rfl rfl)
  have h2:¬(aloT (bear x.At k.Mark) S k.Slack).Lo<=(aloT (bear x.At k.Mark) S k.Slack).Hi:=dF h2
  have e:alo x k=aloR (aloF x k) (i+1) (3-(i+1)):=by
   rw[<- ha,show 3-i=(3-(i+1))+1 by omega]
   conv=>lhs;unfold aloR
   rw[kG (by rw[hf];exact h2)]
  refine⟨i6,?_⟩
  refine⟨i+1,⟨rfl,⟨obD k.ds rfl,obD [I 0,I 0] rfl,trivial⟩,avQ rfl,avQ rfl,avR _ rfl,avR _ rfl,avI rfl (by omega),trivial⟩,⟨by omega,e.symm⟩,(msr (by omega))⟩
 have h1:i=3:=by have:¬(i:Int)-1<=1:=dF h1;omega
 subst h1
 have e:alo x k=⟨1,0⟩:=ha.symm
 rw[e]
 exact r1C rfl rfl rfl rfl rfl rfl (zbR rfl rfl)
end Go.Pg
namespace Go.Proofs
open Go.Shelf Go.RowKit Go.Lib Go.Sort
def Tryz.sortT_ren:Go.Shelf.Ren:=⟨fun|6=>281|15=>103|14=>292|28=>151|29=>152|20=>299|21=>300|22=>301|23=>302|24=>303|25=>304|26=>305|27=>306|46=>312|47=>216|48=>217|49=>313|50=>314|57=>316|n=>n,fun|22=>301|24=>339|25=>358|3=>3|39=>182|0=>0|53=>226|55=>207|4=>4|46=>220|45=>219|50=>53|5=>5|9=>9|66=>290|70=>294|76=>332|77=>333|n=>n,fun|n=>n⟩
theorem Tryz.sortT:Go.Proofs.SlLaysF0.n6 Tryz.prog Tryz.sortT_ren:={
  mixed:=by kernel_rfl,
  f6:=⟨Tryz.f281.name,by decide,Tryz.func281.trans (jI some (by kernel_rfl))⟩,
  f14:=⟨Tryz.f292.name,by decide,Tryz.func292.trans (jI some (by kernel_rfl))⟩,
  f15:=Tryz.func103.trans (jI some (by kernel_rfl)),
  f20:=⟨Tryz.f299.name,by decide,Tryz.func299.trans (jI some (by kernel_rfl))⟩,
  f21:=⟨Tryz.f300.name,by decide,Tryz.func300.trans (jI some (by kernel_rfl))⟩,
  f22:=⟨Tryz.f301.name,by decide,Tryz.func301.trans (jI some (by kernel_rfl))⟩,
  f23:=⟨Tryz.f302.name,by decide,Tryz.func302.trans (jI some (by kernel_rfl))⟩,
  f24:=⟨Tryz.f303.name,by decide,Tryz.func303.trans (jI some (by kernel_rfl))⟩,
  f25:=⟨Tryz.f304.name,by decide,Tryz.func304.trans (jI some (by kernel_rfl))⟩,
  f26:=⟨Tryz.f305.name,by decide,Tryz.func305.trans (jI some (by kernel_rfl))⟩,
  f27:=⟨Tryz.f306.name,by decide,Tryz.func306.trans (jI some (by kernel_rfl))⟩,
  f28:=Tryz.func151.trans (jI some (by kernel_rfl)),
  f29:=Tryz.func152.trans (jI some (by kernel_rfl)),
  f46:=⟨Tryz.f312.name,by decide,Tryz.func312.trans (jI some (by kernel_rfl))⟩,
  f47:=Tryz.func216.trans (jI some (by kernel_rfl)),
  f48:=Tryz.func217.trans (jI some (by kernel_rfl)),
  f49:=⟨Tryz.f313.name,by decide,Tryz.func313.trans (jI some (by kernel_rfl))⟩,
  f50:=⟨Tryz.f314.name,by decide,Tryz.func314.trans (jI some (by kernel_rfl))⟩,
  f57:=⟨Tryz.f316.name,by decide,Tryz.func316.trans (jI some (by kernel_rfl))⟩,
  t0:=Tryz.underlying0,
  a0:=Tryz.isAgg0,
  z0:=Tryz.sizeOf0,
  v0:=Tryz.zeroValue0,
  t3:=Tryz.underlying3,
  a3:=Tryz.isAgg3,
  z3:=Tryz.sizeOf3,
  v3:=Tryz.zeroValue3,
  t4:=Tryz.underlying4,
  a4:=Tryz.isAgg4,
  z4:=Tryz.sizeOf4,
  v4:=Tryz.zeroValue4,
  t5:=Tryz.underlying5,
  a5:=Tryz.isAgg5,
  z5:=Tryz.sizeOf5,
  v5:=Tryz.zeroValue5,
  t9:=Tryz.underlying9,
  a9:=Tryz.isAgg9,
  z9:=Tryz.sizeOf9,
  v9:=Tryz.zeroValue9,
  t22:=Tryz.underlying301,
  a22:=Tryz.isAgg301,
  z22:=Tryz.sizeOf301,
  v22:=Tryz.zeroValue301,
  t25:=Tryz.underlying358,
  a25:=Tryz.isAgg358,
  z25:=Tryz.sizeOf358,
  v25:=Tryz.zeroValue358,
  t39:=Tryz.underlying182,
  a39:=Tryz.isAgg182,
  z39:=Tryz.sizeOf182,
  v39:=Tryz.zeroValue182,
  t45:=Tryz.underlying219,
  a45:=Tryz.isAgg219,
  z45:=Tryz.sizeOf219,
  v45:=Tryz.zeroValue219,
  t46:=Tryz.underlying220,
  a46:=Tryz.isAgg220,
  z46:=Tryz.sizeOf220,
  v46:=Tryz.zeroValue220,
  t50:=Tryz.underlying53,
  a50:=Tryz.isAgg53,
  z50:=Tryz.sizeOf53,
  v50:=Tryz.zeroValue53,
  t53:=Tryz.underlying226,
  a53:=Tryz.isAgg226,
  z53:=Tryz.sizeOf226,
  v53:=Tryz.zeroValue226,
  t55:=Tryz.underlying207,
  a55:=Tryz.isAgg207,
  z55:=Tryz.sizeOf207,
  v55:=Tryz.zeroValue207,
  t66:=Tryz.underlying290,
  a66:=Tryz.isAgg290,
  z66:=Tryz.sizeOf290,
  v66:=Tryz.zeroValue290,
  t70:=Tryz.underlying294,
  a70:=Tryz.isAgg294,
  z70:=Tryz.sizeOf294,
  v70:=Tryz.zeroValue294,
  t76:=Tryz.underlying332,
  a76:=Tryz.isAgg332,
  z76:=Tryz.sizeOf332,
  v76:=Tryz.zeroValue332,
  t77:=Tryz.underlying333,
  a77:=Tryz.isAgg333,
  z77:=Tryz.sizeOf333,
  v77:=Tryz.zeroValue333 }
end Go.Proofs
namespace Go.Pg
open Go.Proofs Go.RowKit Go.Sort Go.Shelf
theorem ord_cases(a b:Int):(ord a b= -1/\a<b)\/(ord a b=1/\b<a)\/(ord a b=0/\a=b):=by
 unfold ord
 by_cases h1:a<b
 ·exact .inl ⟨kH h1,h1⟩
 by_cases h2:b<a
 ·exact .inr (.inl ⟨by rw[kG h1,kH h2],h2⟩)
 exact .inr (.inr ⟨by rw[kG h1,kG h2],by omega⟩)
theorem ztP(a b:Int):decide (ord a b<0)=decide (a<b):=by
 apply qI.2
 rcases ord_cases a b with⟨e,h⟩|⟨e,h⟩|⟨e,h⟩<;>rw[e]<;>omega
theorem SpecR.congr{P:Program}{f:FuncId}{pre post res:List V1}{e k n:Nat}{g0 g g1 g':Nat->Nat->D}(h:SpecR P f pre post e k n g0 g1 res)(he:∀m,m<n->∀j,j<k->g m j=g0 m j)(he':∀m,m<n->∀j,j<k->g' m j=g1 m j):SpecR P f pre post e k n g g' res:=
 ⟨h.1,fun w ok vs us v xs h1 h2 h3 hr=>(h.2 w ok vs us v xs h1 h2 h3 ⟨hr.own,hr.one,fun m hm j hj=>by rw[<- he m hm j hj];exact hr.rep m hm j hj,hr.sep⟩).mono fun en w' ⟨r,e1,e2,e3,xs',e4,e5,e6⟩=>⟨r,e1,e2,e3,xs',e4,e5,fun m hm j hj=>by rw[he' m hm j hj];exact e6 m hm j hj⟩⟩
section
variable {α:Type}[Inhabited α]{k:Nat}(A:Ints α k)
def Ints.on(L:List α):Ints {x//x∈L} k where
  lst p:=A.lst p.1
  len p:=A.len p.1
  at_ p:=A.at_ p.1
  hat p j hj:=A.hat p.1 j hj
theorem zpP(L:List α)[Inhabited {x//x∈L}](l:List {x//x∈L}):∀m,m<l.length->∀j,j<k->A.row (l.map (·.1)) m j=(A.on L).row l m j:=fun m hm j _=>by
 show A.at_ ((l.map (·.1)).getD m default) j=A.at_ (l.getD m default).1 j
 rw[hZ,hZ,jU,kF hm]
 rfl
theorem zhx{P:Program}{ρ:Ren}(S:SlLaysF0.n6 P ρ)(hent:Ent P (ρ.f 6))(aE:∀w,(isAgg (ρ.t 24)).run P w= .ok true w)(zE:∀w,(Go.sizeOf (ρ.t 24)).run P w= .ok k w)
  (key:α->Int)(L:List α)(hL:L≠[])(hk:∀x∈L,∀y∈L,key x=key y->x=y)(g:FuncId)
  (hc:∀x∈L,∀y∈L,SpecD P g [.agg ((A.lst x).map (D.int .i64)),.agg ((A.lst y).map (D.int .i64))] [.d (.int .i64 (ord (key x) (key y)))])(e:TypeId)(hn:L.length<=1000000):
  SpecR P (ρ.f 6) [] [.d (.fn g)] e k L.length (A.row L) (A.row (L.mergeSort fun x y=>decide (key x<=key y))) []:=by
 haveI:Inhabited {x//x∈L}:=⟨⟨L.head hL,List.head_mem hL⟩⟩
 have hlt:∀x y:{x//x∈L},ltOf (fun x y:{x//x∈L}=>ord (key x.1) (key y.1)) x y=decide (key x.1<key y.1):=fun x y=>ztP _ _
 have hO:SWO (ltOf fun x y:{x//x∈L}=>ord (key x.1) (key y.1)):=⟨fun x=>by rw[hlt];simp,fun x y z h1 h2=>by rw[hlt]at*;simp only[kA]at*;omega,fun x y z h1 h2=>by rw[hlt]at*;simp only[jaW]at*;omega⟩
 have h:=zj1 (A.on L) S hent aE zE (fun x y=>ord (key x.1) (key y.1)) hO (fun x y h1 h2=>by
  rw[hlt]at h1 h2
  simp only[jaW]at h1 h2
  exact Subtype.ext (hk x.1 x.2 y.1 y.2 (by omega))) g (fun x y=>hc x.1 x.2 y.1 y.2) e L.attach (by rw[jbw];exact hn)
 rw[jbw]at h
 refine h.congr (fun m hm j hj=>?_) (fun m hm j hj=>?_)
 ·rw[<- zpP A L L.attach m (by rw[jbw];exact hm) j hj,List.attach_map_subtype_val]
 rw[<- zpP A L _ m (by rw[qX,jbw];exact hm) j hj,List.map_mergeSort (s:=fun x y=>decide (key x<=key y)) (fun a _ b _=>by rw[hlt,kQ];simp),List.attach_map_subtype_val]
end
def ThI:Ints Thg 9 where
  lst x:=[x.k.ID,x.k.C,x.k.Tick,x.k.Mark.X,x.k.Mark.Y,x.k.Shown,x.k.Slack,x.s.Lo,x.s.Hi]
  len _:=rfl
  at_ x:=x.at
  hat x j hj:=by
    match j,hj with
    |0,_=>rfl
    |1,_=>rfl
    |2,_=>rfl
    |3,_=>rfl
    |4,_=>rfl
    |5,_=>rfl
    |6,_=>rfl
    |7,_=>rfl
    |8,_=>rfl
theorem zmX(x y:Thg):SpecD PP 282 [x.v,y.v] [N (ord x.k.ID y.k.ID)]:=by
 refine zbG Tryz.func282 rfl (by kernel_rfl) rfl ?_
 refine cP (zuE x.k.ID y.k.ID) rfl rfl ?_
 exact r1I rfl rfl
theorem aggT:∀w,(isAgg (Tryz.sortT_ren.t 24)).run PP w= .ok true w:=fun _=>by kernel_rfl
theorem sizT:∀w,(Go.sizeOf (Tryz.sortT_ren.t 24)).run PP w= .ok 9 w:=fun _=>by kernel_rfl
theorem zq6(L:List Thg)(hL:L≠[])(hk:∀x∈L,∀y∈L,x.k.ID=y.k.ID->x=y)(hn:L.length<=1000000):SpecR PP 281 [] [.d (.fn 282)] 339 9 L.length (ThI.row L) (ThI.row (L.mergeSort fun x y=>decide (x.k.ID<=y.k.ID))) []:=
 zhx ThI Tryz.sortT ⟨_,Tryz.func281,by kernel_rfl,by kernel_rfl⟩ aggT sizT (fun x=>x.k.ID) L hL hk 282 (fun x _ y _=>zmX x y) 339 hn
def thg0(x:Cir):Thg:=⟨⟨0,x.ID,x.From,⟨0,0⟩,0,0⟩,⟨x.Lo,x.Hi⟩⟩
def thsK(c:Cirs)(x:Cir)(n:Nat):List Thg:=((c.K.take n).filter fun k=>k.C==x.ID).map fun k=>⟨k,alo x k⟩
def thsR(c:Cirs)(x:Cir)(n:Nat):List Thg:=thg0 x::thsK c x n
def thsL(c:Cirs)(x:Cir):List Thg:=(thsR c x c.K.length).mergeSort fun a b=>decide (a.k.ID<=b.k.ID)
theorem pushT{vs:List Thg}{p:Thg}{g:Nat->Nat->D}(hg:∀j,j<9->D.eqv (g 0 j) (p.at j)):D.eqv (.slc 9 (vs.length+1) (appRow vs.length (ThI.row vs) g)) (.slc 9 (vs++[p]).length (ThI.row (vs++[p]))):=by
 refine⟨by simp,.inr ⟨rfl,fun i hi j hj=>?_⟩⟩
 show D.eqv (appRow vs.length (ThI.row vs) g i j) (((vs++[p]).getD i default).at j)
 unfold appRow
 by_cases h:i<vs.length
 ·rw[kH h,hZ,jJ h,<- hZ]
  exact dE _
 have e:i=vs.length:=by omega
 subst e
 rw[kG h,kE,hZ,jK (jE _),kE]
 exact hg j hj
theorem eqv9{f:Nat->D}{p:Thg}(h0:f 0=I p.k.ID)(h1:f 1=I p.k.C)(h2:f 2=I p.k.Tick)(h3:f 3=I p.k.Mark.X)(h4:f 4=I p.k.Mark.Y)(h5:f 5=I p.k.Shown)(h6:f 6=I p.k.Slack)(h7:f 7=I p.s.Lo)(h8:f 8=I p.s.Hi):∀j,j<9->D.eqv (f j) (p.at j)
 |0,_=>by rw[h0];exact⟨rfl,rfl⟩
 |1,_=>by rw[h1];exact⟨rfl,rfl⟩
 |2,_=>by rw[h2];exact⟨rfl,rfl⟩
 |3,_=>by rw[h3];exact⟨rfl,rfl⟩
 |4,_=>by rw[h4];exact⟨rfl,rfl⟩
 |5,_=>by rw[h5];exact⟨rfl,rfl⟩
 |6,_=>by rw[h6];exact⟨rfl,rfl⟩
 |7,_=>by rw[h7];exact⟨rfl,rfl⟩
 |8,_=>by rw[h8];exact⟨rfl,rfl⟩
theorem zfp(c:Cirs)(x:Cir)(n:Nat):(thsR c x n).length<=n+1:=by
 unfold thsR thsK
 have:=qD (fun k:Chk=>k.C==x.ID) (c.K.take n)
 have:=List.length_take_le n c.K
 simp;omega
theorem znx{c:Cirs}{x:Cir}{i:Nat}(h:i<c.K.length)(hk:(c.K.getD i default).C=x.ID):thsR c x (i+1)=thsR c x i++[⟨c.K.getD i default,alo x (c.K.getD i default)⟩]:=by
 unfold thsR thsK
 have e:[c.K.getD i default].filter (fun k:Chk=>k.C==x.ID)=[c.K.getD i default]:=by rw[qA (by rw[hk];exact jaH _)];rfl
 rw[zav h default,kV,jT,e]
 rfl
theorem zqN{c:Cirs}{x:Cir}{i:Nat}(h:i<c.K.length)(hk:(c.K.getD i default).C≠x.ID):thsR c x (i+1)=thsR c x i:=by
 unfold thsR thsK
 have e:[c.K.getD i default].filter (fun k:Chk=>k.C==x.ID)=[]:=by rw[qF (by simpa using hk)];rfl
 rw[zav h default,kV,e,jat]
structure ThsOk(c:Cirs)(x:Cir):Prop where
  on:on x.At=true
  n:c.K.length<=60
  k:∀k∈c.K,k.C=x.ID->Go.Pg.on k.Mark=true/\x.At≠k.Mark/\(0<=k.Shown/\k.Shown<=3599)/\(1<=k.Slack/\k.Slack<=100)/\1<=k.ID
  d:∀a∈c.K,∀b∈c.K,a.ID=b.ID->a=b
theorem zqK{c:Cirs}{x:Cir}(h:ThsOk c x)(n:Nat):∀a∈thsR c x n,∀b∈thsR c x n,a.k.ID=b.k.ID->a=b:=by
 have mem:∀a∈thsR c x n,a=thg0 x\/∃k∈c.K,k.C=x.ID/\a=⟨k,alo x k⟩:=fun a ha=>by
  rcases qC.1 ha with rfl|ha
  ·exact .inl rfl
  obtain⟨k,hk,rfl⟩:=kJ.1 ha
  obtain⟨hk,he⟩:=kS.1 hk
  exact .inr ⟨k,qY hk,by simpa using he,rfl⟩
 intro a ha b hb e
 rcases mem a ha with rfl|⟨k,hk,hc,rfl⟩<;>rcases mem b hb with rfl|⟨k',hk',hc',rfl⟩
 ·rfl
 ·have:=(h.k k' hk' hc').2.2.2.2
  have:(0:Int)=k'.ID:=e
  omega
 ·have:=(h.k k hk hc).2.2.2.2
  have:k.ID=(0:Int):=e
  omega
 rw[h.d k hk k' hk' e]
theorem zpk(c:Cirs)(x:Cir)(hx:ThsOk c x):Spec PP 273 [c.v,x.v] [.d (lTh (thsL c x))]:=by
 have hn:=hx.n
 refine sA Tryz.func273 ?_
 refine lOf (σ:=Nat) (fun i=>([(2,.box 2 0),(3,.box 3 0),(5,.own 16),(18,.d (lK c.K)),(19,.d (I c.K.length)),(20,.d (I i))],[(2,bxCs c),(3,.box (x.ds.map AV.d)),(16,.row 339 9 (thsR c x i).length (ThI.row (thsR c x i)))])) (fun i=>i<=c.K.length) (fun i=>c.K.length-i) 0
  ⟨rfl,⟨obCs rfl,obD x.ds rfl,obR rfl ?_,trivial⟩,wq rfl⟩ (jF _) fun i hi=>?_
 ·refine⟨rfl,.inr ⟨rfl,fun i hi j hj=>?_⟩⟩
  obtain rfl:i=0:=by omega
  exact eqv9 (p:=thg0 x) rfl rfl rfl rfl rfl rfl rfl rfl rfl j hj
 apply bY<;>intro h1
 ·have h1:i<c.K.length:=by have:=dT h1;omega
  refine⟨⟨rfl,by omega,by omega⟩,?_⟩
  apply bY<;>intro h2
  ·have h2:(c.K.getD i default).C=x.ID:=by simpa using h2
   obtain⟨k1,k2,k3,k4,-⟩:=hx.k _ (gd1 h1 default) h2
   refine oN 9 ?_
   refine oP (zsx x (c.K.getD i default) hx.on k1 k2 k3 k4) rfl rfl ?_
   have hl:=zfp c x i
   refine⟨⟨.inr rfl,by simp only[maxLen];omega,by dsimp only;omega⟩,?_⟩
   refine⟨i6,?_⟩
   refine⟨i+1,⟨rfl,⟨obCs rfl,obD x.ds rfl,obR rfl ?_,trivial⟩,wq rfl⟩,h1,(msr (by omega))⟩
   rw[znx h1 h2]
   exact pushT (eqv9 (p:=⟨c.K.getD i default,alo x (c.K.getD i default)⟩) rfl rfl rfl rfl rfl rfl rfl rfl rfl)
  have h2:(c.K.getD i default).C≠x.ID:=by simpa using h2
  refine⟨i6,?_⟩
  refine⟨i+1,⟨rfl,⟨obCs rfl,obD x.ds rfl,obR rfl (by rw[zqN h1 h2];exact dE _),trivial⟩,wq rfl⟩,h1,(msr (by omega))⟩
 have h1:i=c.K.length:=by have:=dF h1;omega
 subst h1
 refine CallSt.rw' rfl (zq6 (thsR c x c.K.length) (by unfold thsR;simp) (zqK hx _) (by have:=zfp c x c.K.length;omega)) ⟨⟨[],.tmp 38,[.func 282],[],rfl,rfl,rfl,rfl,rfl,rfl,rfl⟩⟩ rfl ?_
 refine⟨⟨_,_,_,_,rfl,?_⟩,trivial⟩
 have e:(thsL c x).length=(thsR c x c.K.length).length:=qX _
 exact⟨e.symm,.inr ⟨rfl,fun i _ j _=>dE _⟩⟩
def noneB(t:Thg):Bool:=decide (t.s.Hi<t.s.Lo)
theorem zqp(t:Thg):Spec PP 284 [t.v] [B (noneB t)]:=by
 refine sA Tryz.func284 ?_
 exact r1B rfl rfl
def gap(a b:Thg):Int:=max (a.s.Lo-b.s.Hi) (b.s.Lo-a.s.Hi)
def clB(x:Cir)(a b:Thg):Bool:=!noneB b&&decide (drf x a.k.Tick b.k.Tick<gap a b)
def clsJ(x:Cir)(l:List Thg)(i j:Nat):List (Int×Int):=(((l.drop (i+1)).take j).filter (clB x (l.getD i default))).map fun b=>((l.getD i default).k.ID,b.k.ID)
def clsI(x:Cir)(l:List Thg)(i:Nat):List (Int×Int):=if noneB (l.getD i default)=true then [((l.getD i default).k.ID,(l.getD i default).k.ID)]else clsJ x l i (l.length-(i+1))
def clsU(x:Cir)(l:List Thg)(i:Nat):List (Int×Int):=(List.range i).flatMap (clsI x l)
def clsL(x:Cir)(l:List Thg):List (Int×Int):=clsU x l l.length
theorem zb2(x:Cir)(l:List Thg)(i:Nat):clsU x l (i+1)=clsU x l i++clsI x l i:=by unfold clsU;rw[qU,jba];simp
theorem zjG(x:Cir)(l:List Thg):∀{k m:Nat},k<=m->clsU x l k<+:clsU x l m:=fun {k m} h=>by
 obtain⟨d,rfl⟩:=Nat.exists_eq_add_of_le h
 induction d with
 |zero=>exact List.prefix_rfl
 |succ d ih=>exact(ih (by omega)).trans (by rw[<- jaz,zb2];exact List.prefix_append _ _)
theorem zo9{l:List Thg}{i j:Nat}(h:i+1+j<l.length):(l.drop (i+1)).getD j default=l.getD (i+1+j) default:=by
 rw[hZ,wC,<- hZ]
theorem zjH{x:Cir}{l:List Thg}{i j:Nat}(h:i+1+j<l.length)(hc:clB x (l.getD i default) (l.getD (i+1+j) default)=true):clsJ x l i (j+1)=clsJ x l i j++[((l.getD i default).k.ID,(l.getD (i+1+j) default).k.ID)]:=by
 have h2:j<(l.drop (i+1)).length:=by rw[jag];omega
 have e:[l.getD (i+1+j) default].filter (clB x (l.getD i default))=[l.getD (i+1+j) default]:=by rw[qA hc];rfl
 unfold clsJ
 rw[zav h2 default,zo9 h,kV,jT,e]
 rfl
theorem zso{x:Cir}{l:List Thg}{i j:Nat}(h:i+1+j<l.length)(hc:clB x (l.getD i default) (l.getD (i+1+j) default)=false):clsJ x l i (j+1)=clsJ x l i j:=by
 have h2:j<(l.drop (i+1)).length:=by rw[jag];omega
 have e:[l.getD (i+1+j) default].filter (clB x (l.getD i default))=[]:=by rw[qF (by rw[hc];decide)];rfl
 unfold clsJ
 rw[zav h2 default,zo9 h,kV,e,jat]
theorem zpe(x:Cir)(l:List Thg)(i:Nat){j m:Nat}(h:j<=m):clsJ x l i j<+:clsJ x l i m:=by
 unfold clsJ
 have h1:(l.drop (i+1)).take j<+:(l.drop (i+1)).take m:=List.take_prefix_take_left h
 exact(h1.filter _).map _
theorem zmD{α:Type}{xs u r:List α}{a:α}(h:u++(r++[a])<+:xs):xs[u.length+r.length]?=some a:=by
 obtain⟨t,rfl⟩:=h
 simp
theorem zpd{x:Cir}{l:List Thg}{i:Nat}(h:i<l.length)(hn:noneB (l.getD i default)=true):(clsL x l)[(clsU x l i).length]?=some ((l.getD i default).k.ID,(l.getD i default).k.ID):=by
 have h1:clsU x l (i+1)<+:clsL x l:=zjG x l h
 rw[zb2]at h1
 have e:clsI x l i=[]++[((l.getD i default).k.ID,(l.getD i default).k.ID)]:=by unfold clsI;rw[kH hn];rfl
 rw[e]at h1
 exact zmD h1
theorem zsn{x:Cir}{l:List Thg}{i j:Nat}(h:i+1+j<l.length)(hn:noneB (l.getD i default)=false)(hc:clB x (l.getD i default) (l.getD (i+1+j) default)=true):(clsL x l)[(clsU x l i).length+(clsJ x l i j).length]?=some ((l.getD i default).k.ID,(l.getD (i+1+j) default).k.ID):=by
 have h1:clsU x l (i+1)<+:clsL x l:=zjG x l (by omega)
 rw[zb2]at h1
 have e:clsI x l i=clsJ x l i (l.length-(i+1)):=by unfold clsI;rw[kG (by rw[hn];decide)]
 have h2:clsJ x l i (j+1)<+:clsI x l i:=by rw[e];exact zpe x l i (by omega)
 rw[zjH h hc]at h2
 refine zmD (List.IsPrefix.trans ?_ h1)
 exact(List.prefix_append_right_inj _).2 h2
structure ThgOk(t:Thg):Prop where
  lo:-300<=t.s.Lo/\t.s.Lo<=300
  hi:-300<=t.s.Hi/\t.s.Hi<=300
  t:0<=t.k.Tick/\t.k.Tick<=1048576
abbrev Thg.ds(x:Thg):List D:=[I x.k.ID,I x.k.C,I x.k.Tick,I x.k.Mark.X,I x.k.Mark.Y,I x.k.Shown,I x.k.Slack,I x.s.Lo,I x.s.Hi]
theorem avBxS{s:St}{ob:Nat->Option Ob}{v:AV}{i:Nat}{cs:List AV}(xs:List D)(e:v= .box i 0)(h1:s.ob i=some (.box cs))(h2:allD cs=some xs)(h3:ob i=none):AVle s ob v (.roe xs.length (getD' xs)):=by
 subst e
 exact⟨h3,cs,xs,h1,h2,rfl,fun j _=>by show D.eqv (getD' xs (0+j)) _;rw[qB];exact dE _⟩
def prEnc(x:Int×Int):List V1:=[.agg [I x.1,I x.2]]
def clsCap(x:Cir)(l:List Thg)(j:Nat):D:=getD' [capB [lTh l],capB x.ds] j
theorem zkp(x:Cir)(l:List Thg)(hx:0<=x.Drift/\x.Drift<=60)(hl:∀t∈l,ThgOk t)(hn:l.length<=100):SeqC PP 283 2 (clsCap x l) prEnc (clsL x l):=by
 refine zfA Tryz.func283 rfl (by kernel_rfl) rfl rfl prEnc _ fun y=>?_
 refine lOf (σ:=Nat) (fun i=>([(G,.gho (some (clsU x l i).length)),(0,.yl y),(1,avOf (.d (capB [lTh l]))),(2,avOf (.d (capB x.ds))),(9,.d (lTh l)),(10,.d (I l.length)),(11,.d (I i))],[])) (fun i=>i<=l.length) (fun i=>l.length-i) 0 ⟨rfl,trivial,wq rfl⟩ (jF _) fun i hi=>?_
 apply bY<;>intro h1
 ·have h1:i<l.length:=by have:=dT h1;omega
  have o1:=hl _ (gd1 h1 default)
  refine⟨⟨rfl,by omega,by omega⟩,?_⟩
  refine cP (zqp (l.getD i default)) rfl rfl ?_
  apply bY<;>intro h2
  ·have eU:clsU x l (i+1)=clsU x l i++[((l.getD i default).k.ID,(l.getD i default).k.ID)]:=by
    rw[zb2];unfold clsI;rw[kH h2]
   refine CallSt.yd (d:=26) [(0,.yl y),(1,avOf (.d (capB [lTh l]))),(2,avOf (.d (capB x.ds))),(9,.d (lTh l)),(10,.d (I l.length)),(11,.d (I i))] rfl rfl rfl rfl ⟨rfl,trivial,wq rfl⟩ (zpd h1 h2) rfl rfl ?_ ?_
   ·refine sF ?_
    refine⟨i6,?_⟩
    refine⟨i+1,⟨rfl,trivial,avG rfl ?_,wq rfl⟩,h1,(msr (by omega))⟩
    rw[eU];simp
   refine sT ?_
   exact .inr rfl
  have h2:noneB (l.getD i default)=false:=h2
  have eI:clsI x l i=clsJ x l i (l.length-(i+1)):=by unfold clsI;rw[kG (by rw[h2];decide)]
  refine⟨i6,?_⟩
  refine⟨⟨.inr rfl,by omega,by omega⟩,?_⟩
  refine lOf (σ:=Nat) (fun j=>([(G,.gho (some ((clsU x l i).length+(clsJ x l i j).length))),(0,.yl y),(1,avOf (.d (capB [lTh l]))),(2,avOf (.d (capB x.ds))),(5,.roe 9 (getD' (l.getD i default).ds)),(9,.d (lTh l)),(10,.d (I l.length)),(11,.d (I i)),(31,.d (.slc 9 (l.length-(i+1)) fun q=>(l.getD (i+1+q) default).at)),(32,.d (I (l.length-(i+1):Nat))),(33,.d (I j))],[])) (fun j=>j<=l.length-(i+1)) (fun j=>l.length-(i+1)-j) 0 ⟨rfl,trivial,avG rfl ?_,avQ rfl,avQ rfl,avQ rfl,avBxS (l.getD i default).ds rfl rfl rfl rfl,avR _ rfl,avR _ rfl,avR _ rfl,avE rfl ⟨by omega,.inr ⟨rfl,fun q hq j hj=>?_⟩⟩,avI rfl (by omega),avR _ rfl,trivial⟩ (jF _) fun j hj=>?_
  ·unfold clsJ;simp
  ·show D.eqv ((l.getD (((i:Int)+1).toNat+q) default).at j) ((l.getD (i+1+q) default).at j)
   rw[show((i:Int)+1).toNat=i+1 by omega]
   exact dE _
  apply bY<;>intro h3
  ·have h3:i+1+j<l.length:=by have:=dT h3;omega
   have o2:=hl _ (gd1 h3 default)
   refine⟨⟨rfl,by omega,by omega⟩,?_⟩
   have q1:=o1.lo
   have q2:=o1.hi
   have q3:=o2.lo
   have q4:=o2.hi
   have z1:inR .i64 ((l.getD i default).s.Lo-(l.getD (i+1+j) default).s.Hi):=i6
   have z2:inR .i64 ((l.getD (i+1+j) default).s.Lo-(l.getD i default).s.Hi):=i6
   refine⟨z1,⟨z2,?_⟩⟩
   refine pEq (zdd _ [_] (jD rfl)) rfl ⟨⟨rfl,rfl⟩,zgc rfl,trivial⟩ rfl ?_
   refine cP (zqp (l.getD (i+1+j) default)) rfl rfl ?_
   have stay:clB x (l.getD i default) (l.getD (i+1+j) default)=false->(clsU x l i).length+(clsJ x l i j).length=(clsU x l i).length+(clsJ x l i (j+1)).length:=fun h=>by rw[zso h3 h]
   apply bY<;>intro h4
   ·have h4:(!noneB (l.getD (i+1+j) default))=true:=h4
    refine cP (zm0 x (l.getD i default).k.Tick (l.getD (i+1+j) default).k.Tick hx o1.t o2.t) rfl rfl ?_
    refine sT ?_
    apply bY<;>intro h5
    ·have hc:clB x (l.getD i default) (l.getD (i+1+j) default)=true:=by unfold clB;rw[h4];exact h5
     refine CallSt.yd (d:=77) [(0,.yl y),(1,avOf (.d (capB [lTh l]))),(2,avOf (.d (capB x.ds))),(5,.roe 9 (getD' (l.getD i default).ds)),(9,.d (lTh l)),(10,.d (I l.length)),(11,.d (I i)),(31,.d (.slc 9 (l.length-(i+1)) fun q=>(l.getD (i+1+q) default).at)),(32,.d (I (l.length-(i+1):Nat))),(33,.d (I j)),(68,.d (.bool true))] rfl rfl rfl rfl ⟨rfl,trivial,wq rfl⟩ (zsn h3 h2 hc) rfl rfl ?_ ?_
     ·refine sT (sF ?_)
      refine⟨i6,?_⟩
      refine⟨j+1,⟨rfl,trivial,avG rfl ?_,wq rfl⟩,(show j+1<=l.length-(i+1)by omega),(show l.length-(i+1)-(j+1)<l.length-(i+1)-j by omega)⟩
      rw[zjH h3 hc];simp;omega
     refine sT (sT ?_)
     exact .inr rfl
    have hc:clB x (l.getD i default) (l.getD (i+1+j) default)=false:=by unfold clB;rw[h4];exact h5
    refine sF (sF ?_)
    refine⟨i6,?_⟩
    refine⟨j+1,⟨rfl,trivial,avG rfl ?_,wq rfl⟩,(show j+1<=l.length-(i+1)by omega),(show l.length-(i+1)-(j+1)<l.length-(i+1)-j by omega)⟩
    exact stay hc
   have h4:(!noneB (l.getD (i+1+j) default))=false:=h4
   have hc:clB x (l.getD i default) (l.getD (i+1+j) default)=false:=by unfold clB;rw[h4];rfl
   refine sF (sF (sF (sF ?_)))
   refine⟨i6,?_⟩
   refine⟨j+1,⟨rfl,trivial,avG rfl ?_,wq rfl⟩,(show j+1<=l.length-(i+1)by omega),(show l.length-(i+1)-(j+1)<l.length-(i+1)-j by omega)⟩
   exact stay hc
  have h3:j=l.length-(i+1):=by have:=dF h3;omega
  subst h3
  refine⟨i6,?_⟩
  refine⟨i+1,⟨rfl,trivial,avG rfl ?_,wq rfl⟩,h1,(msr (by omega))⟩
  rw[zb2,eI];simp
 have h1:i=l.length:=by have:=dF h1;omega
 subst h1
 exact .inl rfl
abbrev clsClo(x:Cir)(l:List Thg):D:=.clo 283 2 (clsCap x l)
theorem zm1(x:Cir)(l:List Thg):Spec PP 274 [x.v,.d (lTh l)] [.d (clsClo x l)]:=by
 refine sA Tryz.func274 ?_
 refine⟨⟨rfl,rfl,fun j hj=>?_⟩,trivial⟩
 match j,hj with
 |0,_=>exact⟨_,rfl,rfl,_,_,rfl,rfl,rfl,fun j hj=>dE _⟩
 |1,_=>exact⟨_,rfl,rfl,_,_,rfl,rfl,rfl,fun j hj=>dE _⟩
def agrE(x:Cir)(l:List Thg):Int:=if clsL x l=[]then 0 else 9
theorem zsy(x:Cir)(l:List Thg)(hx:0<=x.Drift/\x.Drift<=60)(hl:∀t∈l,ThgOk t)(hn:l.length<=100):Spec PP 260 [x.v,.d (lTh l)] [.d (.int .i64 (agrE x l))]:=by
 refine sA Tryz.func260 ?_
 refine cR (zm1 x l) rfl rfl ?_
 refine CodeOb.rangeAt (zkp x l hx hl hn) rfl (fun _=>rfl) (by decide) [(2,.box 2 0),(4,.box 4 0)] [] (fun _=>[(2,.box (x.ds.map AV.d)),(4,.box [.d (I 0)])]) rfl (fun _=>rfl) ?_
  (Iv:=fun pre=>pre=[]) rfl (fun v pre p hp hI=>?_) (fun hI=>?_)
 ·exact⟨rfl,⟨obD x.ds rfl,obD [I 0] rfl,trivial⟩,wq rfl⟩
 ·refine⟨[(2,.box (x.ds.map AV.d)),(4,.box [.d (I 9)])],rfl,⟨rfl,⟨obD x.ds rfl,obD [I 9] rfl,trivial⟩,wq rfl⟩,?_⟩
  refine r1CD rfl rfl rfl rfl rfl ?_
  have:clsL x l≠[]:=fun e=>by rw[e]at hp;exact absurd (List.prefix_nil.1 hp) (by simp)
  refine⟨rfl,?_⟩
  unfold agrE;rw[kG this]
 refine r1CD rfl rfl rfl rfl rfl ?_
 refine⟨rfl,?_⟩
 unfold agrE;rw[kH hI]
theorem zie{c:Cirs}{id:Int}(h:¬cirI c id<0):(c.C.getD (cirI c id).toNat default).ID=id:=by
 rcases idxL_cases (fun t:Cir=>t.ID==id) c.C default with⟨h1,_⟩|⟨i,h1,h2,h3,_⟩
 ·exact absurd (show cirI c id<0 by unfold cirI;rw[h1];decide) h
 unfold cirI;rw[h2]
 simpa using h3
theorem zge{c:Cirs}{i:Nat}(h:i<c.K.length):chkI c (c.K.getD i default).ID<=i:=by
 rcases idxL_cases (fun t:Chk=>t.ID==(c.K.getD i default).ID) c.K default with⟨h1,_⟩|⟨j,h1,h2,h3,h4⟩
 ·unfold chkI;rw[h1];omega
 unfold chkI;rw[h2]
 rcases jaD i j with h5|h5
 ·have:=h4 i h5;simp at this
 omega
theorem znn{f:Nat->Spn}(hf:∀i,-300<=(f i).Lo/\(f i).Hi<=300):∀(i n:Nat),(-300<=(aloR f i n).Lo/\(aloR f i n).Lo<=300)/\(-300<=(aloR f i n).Hi/\(aloR f i n).Hi<=300)
 | _,0=>by unfold aloR;dsimp only;omega
 |i,n+1=>by
  unfold aloR
  split
  ·have:=hf i;omega
  exact znn hf (i+1) n
theorem zuX(x:Cir)(k:Chk):(-300<=(alo x k).Lo/\(alo x k).Lo<=300)/\(-300<=(alo x k).Hi/\(alo x k).Hi<=300):=
 znn (fun i=>by unfold aloF aloT;dsimp only;omega) 0 3
section
variable {c:Cirs}(h:CirsOk c){id:Int}(hid:¬cirI c id<0)
include h hid
theorem zs0:ThsOk c (c.C.getD (cirI c id).toNat default):=by
 obtain⟨h1,h2⟩:=zaS hid
 have hx:=h.cs _ h1
 refine⟨hx.on,h.m,fun k hk hc=>?_,fun a ha b hb e=>?_⟩
 ·obtain⟨j,hj,rfl⟩:=za4 default hk
  have ok:=h.ks j hj
  have e:chkO c (c.K.getD j default)=c.C.getD (cirI c id).toNat default:=by unfold chkO;rw[hc,zie hid]
  have ne:=ok.ne
  rw[e]at ne
  exact⟨ok.on,fun hh=>ne hh.symm,ok.s,ok.l,ok.id.1⟩
 obtain⟨i,hi,rfl⟩:=za4 default ha
 obtain⟨j,hj,rfl⟩:=za4 default hb
 have a1:=h.ki i hi
 have a2:=zge hi
 have b1:=h.ki j hj
 have b2:=zge hj
 rw[e]at a1 a2
 have:i=j:=by omega
 rw[this]
theorem ziC:∀t∈thsL c (c.C.getD (cirI c id).toNat default),ThgOk t:=by
 obtain⟨h1,h2⟩:=zaS hid
 have hx:=h.cs _ h1
 intro t ht
 have ht:t∈thsR c (c.C.getD (cirI c id).toNat default) c.K.length:=by unfold thsL at ht;exact List.mem_mergeSort.1 ht
 rcases qC.1 ht with rfl|ht
 ·have:=hx.z;have:=hx.t
  exact⟨by unfold thg0;dsimp only;omega,by unfold thg0;dsimp only;omega,by unfold thg0;dsimp only;omega⟩
 obtain⟨k,hk,rfl⟩:=kJ.1 ht
 obtain⟨hk,he⟩:=kS.1 hk
 obtain⟨j,hj,rfl⟩:=za4 default (qY hk)
 have ok:=h.ks j hj
 have e:chkO c (c.K.getD j default)=c.C.getD (cirI c id).toNat default:=by
  have he:(c.K.getD j default).C=(c.C.getD (cirI c id).toNat default).ID:=by simpa using he
  unfold chkO;rw[he,zie hid]
 have t1:=ok.t
 rw[e]at t1
 have:=hx.t
 have b:=zuX (c.C.getD (cirI c id).toNat default) (c.K.getD j default)
 exact⟨b.1,b.2,by dsimp only;omega⟩
end
theorem ziB(c:Cirs)(x:Cir):(thsL c x).length<=c.K.length+1:=by
 unfold thsL;rw[qX];exact zfp c x _
def knw(c:Cirs)(id:Int)(l:List Int):Cir×List Thg×Int:=
 if cirsE c≠0 then(default,[],cirsE c)else if cirI c id<0 then(default,[],5)
 else if(l.all fun t=>within t (c.C.getD (cirI c id).toNat default).From (c.C.getD (cirI c id).toNat default).To)=true then(c.C.getD (cirI c id).toNat default,thsL c (c.C.getD (cirI c id).toNat default),0)
 else(c.C.getD (cirI c id).toNat default,[],1)
theorem zsw(c:Cirs)(id:Int)(l:List Int)(hn:l.length<=1000000):Spec PP 259 [c.v,N id,.d (lI l)] [(knw c id l).1.v,.d (lTh (knw c id l).2.1),.d (.int .i64 (knw c id l).2.2)]:=by
 refine sA Tryz.func259 ?_
 refine cP (zii c) rfl rfl ?_
 apply bY<;>intro h0
 ·have h0:cirsE c≠0:=by simpa using h0
  have e:knw c id l=(default,[],cirsE c):=by unfold knw;rw[kH h0]
  rw[e]
  exact⟨rtC (a:=6) rfl rfl rfl rfl rfl rfl (zaa _),⟨_,_,_,_,rfl,rfl,.inl rfl⟩,rtI rfl rfl,trivial⟩
 have h0:cirsE c=0:=by simpa using h0
 have ok:=zbP h0
 refine cP (zde c id (by have:=ok.n;omega)) rfl rfl ?_
 apply bY<;>intro h1
 ·have h1:cirI c id<0:=dT h1
  have e:knw c id l=(default,[],5):=by unfold knw;rw[kG (fun hh=>hh h0),kH h1]
  rw[e]
  exact⟨rtC (a:=6) rfl rfl rfl rfl rfl rfl (zaa _),⟨_,_,_,_,rfl,rfl,.inl rfl⟩,rtI rfl rfl,trivial⟩
 have h1:¬cirI c id<0:=dF h1
 obtain⟨h2,h3⟩:=zaS h1
 obtain⟨x,hx⟩:∃x,x=c.C.getD (cirI c id).toNat default:=⟨_,rfl⟩
 have e0:knw c id l=if(l.all fun t=>within t x.From x.To)=true then(x,thsL c x,0)else(x,[],1):=by
  unfold knw;rw[kG (fun hh=>hh h0),kG h1,hx]
 refine⟨⟨rfl,by omega,by omega⟩,?_⟩
 refine lOf (σ:=Nat) (fun i=>([(3,.box 3 0),(6,.box 6 0),(11,.box 11 0),(31,.d (lI l)),(32,.d (I l.length)),(33,.d (I i))],[(3,bxCs c),(6,.box ((default:Cir).ds.map AV.d)),(11,.box (x.ds.map AV.d))])) (fun i=>i<=l.length/\∀j,j<i->within (l.getD j 0) x.From x.To=true) (fun i=>l.length-i) 0
  ⟨rfl,⟨obCs rfl,obD (default:Cir).ds rfl,obD x.ds (by rw[hx];rfl),trivial⟩,wq rfl⟩ z0L fun i hi=>?_
 obtain⟨hi,ha⟩:=hi
 apply bY<;>intro h4
 ·have h4:i<l.length:=by have:=dT h4;omega
  refine⟨⟨rfl,by omega,by omega⟩,?_⟩
  refine cP (za2 (l.getD i 0) x.From x.To) rfl rfl ?_
  apply bY<;>intro h5
  ·have h5:within (l.getD i 0) x.From x.To=false:=by simpa using h5
   have e:knw c id l=(x,[],1):=by
    rw[e0,kG fun hh=>?_]
    have:=jC.1 hh _ (gd1 h4 0)
    rw[h5]at this;cases this
   rw[e]
   exact⟨rtC (a:=6) rfl rfl rfl rfl rfl rfl (zaa _),⟨_,_,_,_,rfl,rfl,.inl rfl⟩,rtI rfl rfl,trivial⟩
  have h5:within (l.getD i 0) x.From x.To=true:=by simpa using h5
  refine⟨i6,?_⟩
  refine⟨i+1,⟨rfl,⟨obCs rfl,obD (default:Cir).ds rfl,obD x.ds rfl,trivial⟩,wq rfl⟩,⟨h4,fun j hj=>?_⟩,(msr (by omega))⟩
  by_cases q:j=i
  ·subst q;exact h5
  exact ha j (by omega)
 have h4:i=l.length:=by have:=dF h4;omega
 subst h4
 have e:knw c id l=(x,thsL c x,0):=by
  rw[e0,kH ?_]
  refine jC.2 fun t ht=>?_
  obtain⟨j,hj,rfl⟩:=za4 0 ht
  exact ha j hj
 rw[e]
 refine oN 7 ?_
 refine oRo (zpk c x (by rw[hx];exact zs0 ok h1)) rfl rfl ?_
 exact⟨rtC (a:=6) rfl rfl rfl rfl rfl rfl (zaa _),dE _,rtI rfl rfl,trivial⟩
def atR(c:Cirs)(id t:Int):Cir×List Thg×Int:=
 ((knw c id [t]).1,(knw c id [t]).2.1,if(knw c id [t]).2.2=0 then agrE (knw c id [t]).1 (knw c id [t]).2.1 else(knw c id [t]).2.2)
theorem zrV{c:Cirs}{id t:Int}(h:(knw c id [t]).2.2=0):cirsE c=0/\¬cirI c id<0/\within t (c.C.getD (cirI c id).toNat default).From (c.C.getD (cirI c id).toNat default).To=true/\(knw c id [t]).1=c.C.getD (cirI c id).toNat default/\(knw c id [t]).2.1=thsL c (c.C.getD (cirI c id).toNat default):=by
 unfold knw at h⊢
 split at h
 ·rename_i h1;exact absurd h h1
 rename_i h1
 split at h
 ·cases h
 rename_i h2
 split at h
 ·rename_i h3
  rw[kG h1,kG h2,kH h3]
  exact⟨jL h1,h2,by simpa using h3,rfl,rfl⟩
 cases h
theorem c_at(c:Cirs)(id t:Int):Spec PP 234 [c.v,N id,N t] [(atR c id t).1.v,.d (lTh (atR c id t).2.1),.d (.int .i64 (atR c id t).2.2)]:=by
 refine sA Tryz.func234 ?_
 refine fEq [16] (zsw c id [t] (jD rfl)) rfl ⟨zaa _,⟨rfl,rfl⟩,zgc rfl,trivial⟩ rfl ?_
 apply bY<;>intro h1
 ·have h1:(knw c id [t]).2.2=0:=by simpa using h1
  obtain⟨k1,k2,k3,k4,k5⟩:=zrV h1
  have ok:=zbP k1
  have hx:=ok.cs _ (zaS k2).1
  refine cP (zsy (knw c id [t]).1 (knw c id [t]).2.1 (by rw[k4];exact hx.d) (by rw[k4,k5]at*;exact ziC ok k2) (by rw[k5];have:=ziB c (c.C.getD (cirI c id).toNat default);have:=ok.m;omega)) rfl rfl ?_
  exact⟨rtC (a:=6) rfl rfl rfl rfl rfl rfl (zaa _),dE _,rtI rfl (by show _=if _ then _ else _;rw[kH h1]),trivial⟩
 have h1:(knw c id [t]).2.2≠0:=by simpa using h1
 exact⟨rtC (a:=6) rfl rfl rfl rfl rfl rfl (zaa _),dE _,rtI rfl (by show _=if _ then _ else _;rw[kG h1]),trivial⟩
structure ZS where
  lo:Int
  hi:Int
  a:Int
  b:Int
  deriving Inhabited
def zStep(x:Cir)(t:Int)(z:ZS)(g:Thg):ZS:=
 let d:=drf x g.k.Tick t
 ⟨if z.lo<g.s.Lo-d then g.s.Lo-d else z.lo,if g.s.Hi+d<z.hi then g.s.Hi+d else z.hi,if z.lo<g.s.Lo-d then g.k.ID else z.a,if g.s.Hi+d<z.hi then g.k.ID else z.b⟩
def zer(x:Cir)(l:List Thg)(t:Int):ZS:=l.foldl (zStep x t) ⟨-300,300,0,0⟩
theorem zjE{x:Cir}{a b:Int}(hx:0<=x.Drift/\x.Drift<=60)(ha:0<=a/\a<=1048576)(hb:0<=b/\b<=1048576):-100000000<=drf x a b/\drf x a b<=100000000:=by
 have m1:=mulB (a:=x.Drift) (b:=max (a-b) (b-a)) (x:=60) (y:=1048576) (by omega) (by omega)
 have:=zmR (n:=-(x.Drift*max (a-b) (b-a))) (p:=60) (b:=100000000) (by decide) (by decide) (by omega)
 unfold drf;omega
theorem zuL(x:Cir)(l:List Thg)(t:Int)(hx:0<=x.Drift/\x.Drift<=60)(hl:∀t∈l,ThgOk t)(hn:l.length<=100)(ht:0<=t/\t<=1048576):Spec PP 235 [x.v,.d (lTh l),N t] [.agg [I (zer x l t).lo,I (zer x l t).hi],N (zer x l t).a,N (zer x l t).b]:=by
 refine sA Tryz.func235 ?_
 refine lOf (σ:=Nat×ZS) (fun p=>([(2,.d (I t)),(3,.box 3 0),(6,.box 6 0),(7,.d (I p.2.a)),(8,.d (I p.2.b)),(15,.d (lTh l)),(16,.d (I l.length)),(17,.d (I p.1))],[(3,.box (x.ds.map AV.d)),(6,.box [.d (I p.2.lo),.d (I p.2.hi)])])) (fun p=>p.1<=l.length/\p.2=(l.take p.1).foldl (zStep x t) ⟨-300,300,0,0⟩) (fun p=>l.length-p.1) (0,⟨-300,300,0,0⟩)
  ⟨rfl,⟨obD x.ds rfl,obD [I (-300),I 300] rfl,trivial⟩,wq rfl⟩ ⟨jF _,rfl⟩ fun⟨i,z⟩ ⟨hi,hz⟩=>?_
 dsimp only at hi hz⊢
 apply bY<;>intro h1
 ·have h1:i<l.length:=by have:=dT h1;omega
  have o1:=hl _ (gd1 h1 default)
  have q1:=o1.lo
  have q2:=o1.hi
  have db:=zjE hx o1.t ht
  have hz':(l.take (i+1)).foldl (zStep x t) ⟨-300,300,0,0⟩=zStep x t z (l.getD i default):=by rw[zav h1 default,wJ,<- hz];rfl
  refine⟨⟨rfl,by omega,by omega⟩,?_⟩
  refine cP (zm0 x (l.getD i default).k.Tick t hx o1.t ht) rfl rfl ?_
  have z1:inR .i64 ((l.getD i default).s.Lo-drf x (l.getD i default).k.Tick t):=i6
  have z2:inR .i64 ((l.getD i default).s.Hi+drf x (l.getD i default).k.Tick t):=i6
  refine⟨z1,?_⟩
  apply bY<;>intro h2
  ·have h2:z.lo<(l.getD i default).s.Lo-drf x (l.getD i default).k.Tick t:=dT h2
   refine Exists.intro [0,1,2,4,4003,5,6] (And.intro (by kernel_rfl) (FzOb.fz [10] ⟨rfl,?_⟩))
   refine⟨z2,?_⟩
   apply bY<;>intro h3
   ·have h3:(l.getD i default).s.Hi+drf x (l.getD i default).k.Tick t<z.hi:=dT h3
    refine Exists.intro [0,1,2,4,4003,5,6] (And.intro (by kernel_rfl) (FzOb.fz [10] ⟨rfl,?_⟩))
    have eS:zStep x t z (l.getD i default)=⟨(l.getD i default).s.Lo-drf x (l.getD i default).k.Tick t,(l.getD i default).s.Hi+drf x (l.getD i default).k.Tick t,(l.getD i default).k.ID,(l.getD i default).k.ID⟩:=by unfold zStep;simp only[kH h2,kH h3]
    refine⟨i6,?_⟩
    refine⟨(i+1,⟨(l.getD i default).s.Lo-drf x (l.getD i default).k.Tick t,(l.getD i default).s.Hi+drf x (l.getD i default).k.Tick t,(l.getD i default).k.ID,(l.getD i default).k.ID⟩),⟨rfl,⟨obD x.ds rfl,obD [I ((l.getD i default).s.Lo-drf x (l.getD i default).k.Tick t),I ((l.getD i default).s.Hi+drf x (l.getD i default).k.Tick t)] rfl,trivial⟩,wq rfl⟩,⟨h1,by dsimp only;rw[hz',eS]⟩,(msr (by omega))⟩
   have h3:¬(l.getD i default).s.Hi+drf x (l.getD i default).k.Tick t<z.hi:=dF h3
   have eS:zStep x t z (l.getD i default)=⟨(l.getD i default).s.Lo-drf x (l.getD i default).k.Tick t,z.hi,(l.getD i default).k.ID,z.b⟩:=by unfold zStep;simp only[kH h2,kG h3]
   refine⟨i6,?_⟩
   refine⟨(i+1,⟨(l.getD i default).s.Lo-drf x (l.getD i default).k.Tick t,z.hi,(l.getD i default).k.ID,z.b⟩),⟨rfl,⟨obD x.ds rfl,obD [I ((l.getD i default).s.Lo-drf x (l.getD i default).k.Tick t),I (z.hi)] rfl,trivial⟩,wq rfl⟩,⟨h1,by dsimp only;rw[hz',eS]⟩,(msr (by omega))⟩
  have h2:¬z.lo<(l.getD i default).s.Lo-drf x (l.getD i default).k.Tick t:=dF h2
  refine⟨z2,?_⟩
  apply bY<;>intro h3
  ·have h3:(l.getD i default).s.Hi+drf x (l.getD i default).k.Tick t<z.hi:=dT h3
   refine Exists.intro [0,1,2,4,4003,5,6] (And.intro (by kernel_rfl) (FzOb.fz [10] ⟨rfl,?_⟩))
   have eS:zStep x t z (l.getD i default)=⟨z.lo,(l.getD i default).s.Hi+drf x (l.getD i default).k.Tick t,z.a,(l.getD i default).k.ID⟩:=by unfold zStep;simp only[kG h2,kH h3]
   refine⟨i6,?_⟩
   refine⟨(i+1,⟨z.lo,(l.getD i default).s.Hi+drf x (l.getD i default).k.Tick t,z.a,(l.getD i default).k.ID⟩),⟨rfl,⟨obD x.ds rfl,obD [I (z.lo),I ((l.getD i default).s.Hi+drf x (l.getD i default).k.Tick t)] rfl,trivial⟩,wq rfl⟩,⟨h1,by dsimp only;rw[hz',eS]⟩,(msr (by omega))⟩
  have h3:¬(l.getD i default).s.Hi+drf x (l.getD i default).k.Tick t<z.hi:=dF h3
  have eS:zStep x t z (l.getD i default)=⟨z.lo,z.hi,z.a,z.b⟩:=by unfold zStep;simp only[kG h2,kG h3]
  refine⟨i6,?_⟩
  refine⟨(i+1,⟨z.lo,z.hi,z.a,z.b⟩),⟨rfl,⟨obD x.ds rfl,obD [I (z.lo),I (z.hi)] rfl,trivial⟩,wq rfl⟩,⟨h1,by dsimp only;rw[hz',eS]⟩,(msr (by omega))⟩
 have h1:i=l.length:=by have:=dF h1;omega
 subst h1
 rw[jZ]at hz
 have e:zer x l t=z:=hz.symm
 rw[e]
 exact⟨rtC (a:=6) rfl rfl rfl rfl rfl rfl (zaa _),rtI rfl rfl,rtI rfl rfl,trivial⟩
def zerR(c:Cirs)(id t:Int):Spn×Int:=if(atR c id t).2.2≠0 then(⟨0,0⟩,(atR c id t).2.2)else(⟨(zer (atR c id t).1 (atR c id t).2.1 t).lo,(zer (atR c id t).1 (atR c id t).2.1 t).hi⟩,0)
theorem zuQ{c:Cirs}{id t:Int}(h:(atR c id t).2.2=0):(knw c id [t]).2.2=0:=by
 have h:(if(knw c id [t]).2.2=0 then agrE (knw c id [t]).1 (knw c id [t]).2.1 else(knw c id [t]).2.2)=0:=h
 split at h
 ·assumption
 exact h
theorem zm5(c:Cirs)(id t:Int):Spec PP 175 [c.v,N id,N t] [(zerR c id t).1.v,.d (.int .i64 (zerR c id t).2)]:=by
 refine sA Tryz.func175 ?_
 refine cR (c_at c id t) rfl rfl ?_
 apply bY<;>intro h1
 ·have h1:(atR c id t).2.2≠0:=by simpa using h1
  have e:zerR c id t=(⟨0,0⟩,(atR c id t).2.2):=by unfold zerR;rw[kH h1]
  rw[e]
  exact r2CI rfl rfl rfl rfl rfl rfl rfl (zaa _) rfl
 have h1:(atR c id t).2.2=0:=by simpa using h1
 have h0:(knw c id [t]).2.2=0:=zuQ h1
 obtain⟨k1,k2,k3,k4,k5⟩:=zrV h0
 have ok:=zbP k1
 have hx:=ok.cs _ (zaS k2).1
 have ht:=zab.1 k3
 have htt:=hx.t
 have e1:(atR c id t).1=c.C.getD (cirI c id).toNat default:=k4
 have e2:(atR c id t).2.1=thsL c (c.C.getD (cirI c id).toNat default):=k5
 refine cP (zuL (atR c id t).1 (atR c id t).2.1 t (by rw[e1];exact hx.d) (by rw[e2];exact ziC ok k2) (by rw[e2];have:=ziB c (c.C.getD (cirI c id).toNat default);have:=ok.m;omega) (by omega)) rfl rfl ?_
 have e:zerR c id t=(⟨(zer (atR c id t).1 (atR c id t).2.1 t).lo,(zer (atR c id t).1 (atR c id t).2.1 t).hi⟩,0):=by unfold zerR;rw[kG (fun hh=>hh h1)]
 rw[e]
 exact r2CI rfl rfl rfl rfl rfl rfl rfl (zaa _) rfl
def rdgE(c:Cirs)(r:Rdg):Int:=if cirsE c≠0 then cirsE c else if(!within r.Shown 0 3599|| !within r.Slack 1 100)=true then 1 else 0
theorem zmY(c:Cirs)(r:Rdg):Spec PP 236 [c.v,r.v] [.d (.int .i64 (rdgE c r))]:=by
 refine sA Tryz.func236 ?_
 refine cP (zii c) rfl rfl ?_
 apply bY<;>intro h0
 ·have h0:cirsE c≠0:=by simpa using h0
  refine r1I rfl ?_
  unfold rdgE;rw[kH h0]
 have h0:cirsE c=0:=by simpa using h0
 have e0:rdgE c r=if(!within r.Shown 0 3599|| !within r.Slack 1 100)=true then 1 else 0:=by unfold rdgE;rw[kG (fun hh=>hh h0)]
 refine cP (zci r.Shown) rfl rfl ?_
 apply bY<;>intro h1
 ·refine sT (sT ?_)
  refine r1I rfl ?_
  rw[e0,kH (by rw[h1];rfl)]
 refine cP (za2 r.Slack 1 100) rfl rfl ?_
 refine sF ?_
 apply bY<;>intro h2
 ·refine r1I rfl ?_
  rw[e0,kH (by rw[h1,h2];rfl)]
 refine r1I rfl ?_
 rw[e0,kG (by rw[h1,h2];decide)]
def wdg(n m:Int):Wdg:=⟨n%3600,(n+m)%3600⟩
theorem zsu(n m:Int)(hn:-1000000000<=n/\n<=1000000000)(hm:-1000000000<=m/\m<=1000000000):Spec PP 237 [N n,N m] [(wdg n m).v]:=by
 refine sA Tryz.func237 ?_
 refine cP (zcR n 1 (by decide) (by omega)) rfl rfl ?_
 refine⟨i6,?_⟩
 refine cP (zcR (n+m) 1 (by decide) (by omega)) rfl rfl ?_
 exact r1C rfl rfl rfl rfl rfl rfl (zbR (show n%(3600*1)=n%3600 by omega) (show(n+m)%(3600*1)=(n+m)%3600 by omega))
theorem zsP{x:Cir}{l:List Thg}{t:Int}(hx:0<=x.Drift/\x.Drift<=60)(hl:∀g∈l,ThgOk g)(ht:0<=t/\t<=1048576):∀(z:ZS),(-300<=z.lo/\z.lo<=100000300)->(-100000300<=z.hi/\z.hi<=300)->(-300<=(l.foldl (zStep x t) z).lo/\(l.foldl (zStep x t) z).lo<=100000300)/\(-100000300<=(l.foldl (zStep x t) z).hi/\(l.foldl (zStep x t) z).hi<=300):=by
 induction l with
 |nil=>exact fun z h1 h2=>⟨h1,h2⟩
 |cons g r ih=>
 intro z h1 h2
 have o:=hl g (by simp)
 have q1:=o.lo
 have q2:=o.hi
 have db:=zjE hx o.t ht
 refine ih (fun g hg=>hl g (by simp[hg])) (zStep x t z g) ?_ ?_
 ·unfold zStep;dsimp only;split<;>omega
 unfold zStep;dsimp only;split<;>omega
def wdgR(c:Cirs)(r:Rdg):Wdg×Int:=
 if rdgE c r≠0 then(⟨0,0⟩,rdgE c r)else if(zerR c r.C r.Tick).2≠0 then(⟨0,0⟩,(zerR c r.C r.Tick).2)
 else if 900<2*r.Slack+(zerR c r.C r.Tick).1.Hi-(zerR c r.C r.Tick).1.Lo then(⟨0,0⟩,50)
 else(wdg (r.Shown-r.Slack-(zerR c r.C r.Tick).1.Hi) (2*r.Slack+(zerR c r.C r.Tick).1.Hi-(zerR c r.C r.Tick).1.Lo),0)
theorem zhs{c:Cirs}{id t:Int}(h:(zerR c id t).2=0):(-300<=(zerR c id t).1.Lo/\(zerR c id t).1.Lo<=100000300)/\(-100000300<=(zerR c id t).1.Hi/\(zerR c id t).1.Hi<=300):=by
 unfold zerR at h⊢
 split at h
 ·rename_i h1;exact absurd h h1
 rename_i h1
 have h1:(atR c id t).2.2=0:=jL h1
 obtain⟨k1,k2,k3,k4,k5⟩:=zrV (zuQ h1)
 have ok:=zbP k1
 have hx:=ok.cs _ (zaS k2).1
 have ht:=zab.1 k3
 have htt:=hx.t
 have e1:(atR c id t).1=c.C.getD (cirI c id).toNat default:=k4
 have e2:(atR c id t).2.1=thsL c (c.C.getD (cirI c id).toNat default):=k5
 rw[kG (fun hh=>hh h1)]
 exact zsP (by rw[e1];exact hx.d) (by rw[e2];exact ziC ok k2) (by omega) _ (by decide) (by decide)
theorem zm6(c:Cirs)(r:Rdg):Spec PP 176 [c.v,r.v] [(wdgR c r).1.v,.d (.int .i64 (wdgR c r).2)]:=by
 refine sA Tryz.func176 ?_
 refine cP (zmY c r) rfl rfl ?_
 apply bY<;>intro h0
 ·have h0:rdgE c r≠0:=by simpa using h0
  have e:wdgR c r=(⟨0,0⟩,rdgE c r):=by unfold wdgR;rw[kH h0]
  rw[e]
  exact r2CI rfl rfl rfl rfl rfl rfl rfl (zaa _) rfl
 have h0:rdgE c r=0:=by simpa using h0
 have hs:(0<=r.Shown/\r.Shown<=3599)/\(1<=r.Slack/\r.Slack<=100):=by
  unfold rdgE at h0
  split at h0
  ·rename_i h;exact absurd h0 h
  split at h0
  ·cases h0
  rename_i h
  simp only[jX,jY,not_or,jao]at h
  exact⟨zab.1 h.1,zab.1 h.2⟩
 refine cP (zm5 c r.C r.Tick) rfl rfl ?_
 apply bY<;>intro h1
 ·have h1:(zerR c r.C r.Tick).2≠0:=by simpa using h1
  have e:wdgR c r=(⟨0,0⟩,(zerR c r.C r.Tick).2):=by unfold wdgR;rw[kG (fun hh=>hh h0),kH h1]
  rw[e]
  exact r2CI rfl rfl rfl rfl rfl rfl rfl (zaa _) rfl
 have h1:(zerR c r.C r.Tick).2=0:=by simpa using h1
 have zb:=zhs h1
 refine⟨i6,⟨i6,⟨i6,?_⟩⟩⟩
 apply bY<;>intro h2
 ·have h2:900<2*r.Slack+(zerR c r.C r.Tick).1.Hi-(zerR c r.C r.Tick).1.Lo:=dT h2
  have e:wdgR c r=(⟨0,0⟩,50):=by unfold wdgR;rw[kG (fun hh=>hh h0),kG (fun hh=>hh h1),kH h2]
  rw[e]
  exact r2CI rfl rfl rfl rfl rfl rfl rfl (zaa _) rfl
 have h2:¬900<2*r.Slack+(zerR c r.C r.Tick).1.Hi-(zerR c r.C r.Tick).1.Lo:=dF h2
 refine⟨i6,⟨i6,?_⟩⟩
 refine cP (zsu (r.Shown-r.Slack-(zerR c r.C r.Tick).1.Hi) (2*r.Slack+(zerR c r.C r.Tick).1.Hi-(zerR c r.C r.Tick).1.Lo) (by omega) (by omega)) rfl rfl ?_
 have e:wdgR c r=(wdg (r.Shown-r.Slack-(zerR c r.C r.Tick).1.Hi) (2*r.Slack+(zerR c r.C r.Tick).1.Hi-(zerR c r.C r.Tick).1.Lo),0):=by unfold wdgR;rw[kG (fun hh=>hh h0),kG (fun hh=>hh h1),kG h2]
 rw[e]
 exact r2CI rfl rfl rfl rfl rfl rfl rfl (zaa _) rfl
theorem zbK(n lo hi:Int):Spec PP 231 [N n,N lo,N hi] [B (within n lo hi)]:=by
 refine sA Tryz.func231 ?_
 repeat' first
  |refine sT ?_
  |refine sF ?_
  |refine bY (fun _=>?_) (fun _=>?_)
  |refine r1B rfl ?_
 all_goals (unfold within;simp_all<;>omega)
theorem zdI(n:Int)(hn:-1000000000000<=n/\n<=1000000000000):Spec PP 232 [N n] [N (n%3600)]:=by
 have h1:=wD n (show(0:Int)<3600 by decide)
 have h2:=wD (-n) (show(0:Int)<3600 by decide)
 rw[jbx]at h2
 refine sA Tryz.func232 ?_
 refine⟨by omega,⟨i6,⟨by omega,?_⟩⟩⟩
 refine r1I rfl ?_
 rw[wE (by omega),jbA]
 rw[Int.tmod_def,jbv]
theorem zoA(t:Twr)(id:Int):Spec PP 233 [t.v,.d (capB [I id])] [B (t.ID==id)]:=by
 refine sA Tryz.func233 ?_
 exact r1B rfl rfl
theorem zhX(s:Svc)(id:Int)(hn:s.c.T.length<=1000000):Spec PP 172 [s.v,N id] [(towG s.c.T id).1.v,B (towG s.c.T id).2]:=by
 refine sA Tryz.func172 ?_
 refine CallSt.fz [3] (zk3 s.c.T 233 (capB [I id]) (fun t=>t.ID==id) hn (fun i hi=>zoA _ id)) rfl rfl ?_
 apply bY<;>intro h1
 ·have h1:towI s.c.T id<0:=dT h1
  have e:towG s.c.T id=(default,false):=by unfold towG;rw[kH h1]
  rw[e]
  exact⟨rtC (a:=4) rfl rfl rfl rfl rfl rfl (zaa _),rtB rfl rfl,trivial⟩
 have h1:¬towI s.c.T id<0:=dF h1
 obtain⟨h2,h3⟩:=zdQ h1
 have e:towG s.c.T id=(s.c.T.getD (towI s.c.T id).toNat default,true):=by unfold towG;rw[kG h1]
 rw[e]
 refine⟨⟨rfl,by show 0<=towI s.c.T id;omega,by show towI s.c.T id<s.c.T.length;omega⟩,?_⟩
 exact⟨rtC (a:=4) rfl rfl rfl rfl rfl rfl (zaa _),rtB rfl rfl,trivial⟩
theorem zoG(w:Twr)(x:Cir):Spec PP 109 [w.v,.d (capB x.ds)] [B (decide (w.At=x.At))]:=by
 refine sA Tryz.func109 ?_
 exact r1B rfl (eqPW _ _)
abbrev Svc.ds(s:Svc):List D:=[I s.c.M.W,I s.c.M.H,lI s.c.M.G,lT s.c.T,lZ s.c.Z,lC s.k.C,lK s.k.K]
def svc1E(s:Svc)(i:Nat):Int:=if(s.c.T.any fun w=>decide (w.At=(s.k.C.getD i default).At))=true then 0 else 5
def svcE(s:Svc):Int:=if ctryE s.c≠0 then ctryE s.c else if cirsE s.k≠0 then cirsE s.k else err1 (svc1E s) s.k.C.length
theorem zhY(s:Svc):Spec PP 68 [s.v] [.d (.int .i64 (svcE s))]:=by
 refine sA Tryz.func68 ?_
 refine cP (zmG s.c) rfl rfl ?_
 apply bY<;>intro h0
 ·have h0:ctryE s.c≠0:=by simpa using h0
  refine r1I rfl ?_
  unfold svcE;rw[kH h0]
 have h0:ctryE s.c=0:=by simpa using h0
 have ok0:=zes h0
 refine cP (zii s.k) rfl rfl ?_
 apply bY<;>intro h1
 ·have h1:cirsE s.k≠0:=by simpa using h1
  refine r1I rfl ?_
  unfold svcE;rw[kG (fun hh=>hh h0),kH h1]
 have h1:cirsE s.k=0:=by simpa using h1
 have ok1:=zbP h1
 have e0:svcE s=err1 (svc1E s) s.k.C.length:=by unfold svcE;rw[kG (fun hh=>hh h0),kG (fun hh=>hh h1)]
 have hn:=ok1.n
 have ht:=ok0.t
 refine lOf (σ:=Nat) (fun i=>([(1,.box 1 0),(21,.d (lC s.k.C)),(22,.d (I s.k.C.length)),(23,.d (I i))],[(1,.box (s.ds.map AV.d))])) (fun i=>i<=s.k.C.length/\∀j,j<i->svc1E s j=0) (fun i=>s.k.C.length-i) 0
  ⟨rfl,⟨obD s.ds rfl,trivial⟩,wq rfl⟩ z0L fun i hi=>?_
 obtain⟨hi,ha⟩:=hi
 apply bY<;>intro h3
 ·have h3:i<s.k.C.length:=by have:=dT h3;omega
  refine⟨⟨rfl,by omega,by omega⟩,?_⟩
  refine CallSt.fzP [6] (zpO s.c.T 109 (capB (s.k.C.getD i default).ds) (fun w=>decide (w.At=(s.k.C.getD i default).At)) (by omega) (fun k hk=>zoG _ _)) rfl ⟨dE _,⟨rfl,rfl,fun j hj=>?_⟩,trivial⟩ rfl ?_
  ·obtain rfl:j=0:=by
    have:j<1:=hj
    omega
   exact dE _
  apply bY<;>intro h4
  ·have h4:(s.c.T.any fun w=>decide (w.At=(s.k.C.getD i default).At))=false:=by simpa using h4
   have e:svc1E s i=5:=by unfold svc1E;rw[kG (by rw[h4];decide)]
   refine r1I rfl ?_
   rw[e0,zan ha (by rw[e];decide) h3,e]
  have h4:(s.c.T.any fun w=>decide (w.At=(s.k.C.getD i default).At))=true:=by simpa using h4
  have e:svc1E s i=0:=by unfold svc1E;rw[kH h4]
  refine⟨i6,?_⟩
  refine⟨i+1,⟨rfl,⟨obD s.ds rfl,trivial⟩,wq rfl⟩,⟨h3,fun j hj=>?_⟩,(msr (by omega))⟩
  by_cases q:j=i
  ·subst q;exact e
  exact ha j (by omega)
 have h3:i=s.k.C.length:=by have:=dF h3;omega
 subst h3
 refine r1I rfl ?_
 rw[e0,zaJ ha]
def frmC(r:Rpt):Bool:=(!within r.ID 1 1099511627776)||(!within r.Tick 0 1048576)||(!within r.From 0 3599)||(!within r.Slack 1 100)
def frmB(r:Rpt):Bool:=!frmC r&&(if r.Kind=1 then decide (r.To=0)else if r.Kind=2 then within r.To 0 3599&&decide ((r.To-r.From)%3600<=900)else false)
theorem zoC(r:Rpt):Spec PP 171 [r.v] [B (frmB r)]:=by
 refine sA Tryz.func171 ?_
 refine cP (zbK r.ID 1 1099511627776) rfl rfl ?_
 apply bY<;>intro k0
 ·have k0:(!within r.ID 1 1099511627776)=true:=k0
  refine sT (sT (sT (sT (sT (sT ?_)))))
  refine r1B rfl ?_
  unfold frmB frmC;simp only[k0,k9,qS,jaB,qK]
 have k0:(!within r.ID 1 1099511627776)=false:=k0
 refine cP (zbK r.Tick 0 1048576) rfl rfl ?_
 refine sF ?_
 apply bY<;>intro k1
 ·have k1:(!within r.Tick 0 1048576)=true:=k1
  refine sT (sT (sT (sT ?_)))
  refine r1B rfl ?_
  unfold frmB frmC;simp only[k0,k1,k9,qS,jaB,qK]
 have k1:(!within r.Tick 0 1048576)=false:=k1
 refine cP (zbK r.From 0 3599) rfl rfl ?_
 refine sF ?_
 apply bY<;>intro k2
 ·have k2:(!within r.From 0 3599)=true:=k2
  refine sT (sT ?_)
  refine r1B rfl ?_
  unfold frmB frmC;simp only[k0,k1,k2,k9,qS,jaB,qK]
 have k2:(!within r.From 0 3599)=false:=k2
 refine cP (zbK r.Slack 1 100) rfl rfl ?_
 refine sF ?_
 apply bY<;>intro k3
 ·have k3:(!within r.Slack 1 100)=true:=k3
  refine r1B rfl ?_
  unfold frmB frmC;simp only[k0,k1,k2,k3,k9,qS,jaB,qK]
 have k3:(!within r.Slack 1 100)=false:=k3
 have e0:frmB r=if r.Kind=1 then decide (r.To=0)else if r.Kind=2 then within r.To 0 3599&&decide ((r.To-r.From)%3600<=900)else false:=by
  unfold frmB frmC;rw[k0,k1,k2,k3];rfl
 have hf:0<=r.From/\r.From<=3599:=zab.1 (by simpa using k2)
 apply bY<;>intro h1
 ·have h1:r.Kind=1:=by simpa using h1
  refine r1B rfl ?_
  rw[e0,kH h1,kQ];simp
 have h1:r.Kind≠1:=by simpa using h1
 apply bY<;>intro h2
 ·have h2:r.Kind=2:=by simpa using h2
  refine cP (zbK r.To 0 3599) rfl rfl ?_
  apply bY<;>intro h3
  ·have h4:=zab.1 h3
   refine⟨i6,?_⟩
   refine cP (zdI (r.To-r.From) (by omega)) rfl rfl ?_
   refine sT ?_
   refine r1B rfl ?_
   rw[e0,kG h1,kH h2,h3];rfl
  refine sF ?_
  refine r1B rfl ?_
  rw[e0,kG h1,kH h2,h3];rfl
 have h2:r.Kind≠2:=by simpa using h2
 refine r1B rfl ?_
 rw[e0,kG h1,kG h2]
def rdgO(r:Rpt):Rdg:=⟨r.C,r.Tick,r.From,r.Slack⟩
theorem zgT(r:Rpt):Spec PP 177 [r.v] [(rdgO r).v]:=by
 refine sA Tryz.func177 ?_
 exact r1C rfl rfl rfl rfl rfl rfl (zaa _)
def brnB(b:Brn):Bool:=decide (0<=b.From)&&decide (b.From<=b.To)&&decide (b.To<=1048576)&&within b.Rise 0 200
theorem zrR(b:Brn):Spec PP 211 [b.v] [B (brnB b)]:=by
 refine sA Tryz.func211 ?_
 apply bY<;>intro h1
 ·have h1:decide (0<=b.From)=true:=h1
  refine sT ?_
  apply bY<;>intro h2
  ·have h2:decide (b.From<=b.To)=true:=h2
   refine sT ?_
   apply bY<;>intro h3
   ·have h3:decide (b.To<=1048576)=true:=h3
    refine cP (zbK b.Rise 0 200) rfl rfl ?_
    refine sT ?_
    refine r1B rfl ?_
    unfold brnB;rw[h1,h2,h3];rfl
   have h3:decide (b.To<=1048576)=false:=h3
   refine sF ?_
   refine r1B rfl ?_
   unfold brnB;rw[h1,h2,h3];rfl
  have h2:decide (b.From<=b.To)=false:=h2
  refine sF (sF (sF ?_))
  refine r1B rfl ?_
  unfold brnB;rw[h1,h2];rfl
 have h1:decide (0<=b.From)=false:=h1
 refine sF (sF (sF (sF (sF ?_))))
 refine r1B rfl ?_
 unfold brnB;rw[h1];rfl
abbrev Rpt.ds(x:Rpt):List D:=[I x.ID,I x.Kind,I x.Tower,I x.C,I x.Tick,I x.From,I x.To,I x.Slack]
abbrev tldD(r:Rpt):D:=.ifc (if r.Kind=1 then 327 else 328) 8 (getD' r.ds)
theorem zua(r:Rpt):Spec PP 212 [r.v] [.d (tldD r)]:=by
 refine sA Tryz.func212 ?_
 apply bY<;>intro h1
 ·have h1:r.Kind=1:=by simpa using h1
  unfold tldD;rw[kH h1]
  exact⟨dE _,trivial⟩
 have h1:r.Kind≠1:=by simpa using h1
 unfold tldD;rw[kG h1]
 exact⟨dE _,trivial⟩
theorem zme(r:Rpt):Spec PP 332 [r.v] [r.v]:=by
 refine sA Tryz.func332 ?_
 exact r1C rfl rfl rfl rfl rfl rfl (zaa _)
theorem zmf(r:Rpt):Spec PP 334 [r.v] [r.v]:=by
 refine sA Tryz.func334 ?_
 exact r1C rfl rfl rfl rfl rfl rfl (zaa _)
theorem zf0(r:Rpt)(s:Svc):Spec PP 333 [r.v,s.v] [(wdgR s.k (rdgO r)).1.v,B (decide ((wdgR s.k (rdgO r)).2=0))]:=by
 refine sA Tryz.func333 ?_
 refine oN 12 ?_
 refine oP (zgT r) rfl rfl ?_
 refine oP (zm6 s.k (rdgO r)) rfl rfl ?_
 exact⟨rtC (a:=4) rfl rfl rfl rfl rfl rfl (zaa _),rtB rfl (by rw[kQ];simp),trivial⟩
theorem zix(c:Cirs)(id t:Int):(-300<=(zerR c id t).1.Lo/\(zerR c id t).1.Lo<=100000300)/\(-100000300<=(zerR c id t).1.Hi/\(zerR c id t).1.Hi<=300):=by
 by_cases h:(zerR c id t).2=0
 ·exact zhs h
 have e:(zerR c id t).1=⟨0,0⟩:=by
  unfold zerR at h⊢
  split
  ·rfl
  rename_i h1;rw[kG h1]at h;exact absurd rfl h
 rw[e];decide
structure RptB(r:Rpt):Prop where
  f:0<=r.From/\r.From<=3599
  t:0<=r.To/\r.To<=3599
  s:1<=r.Slack/\r.Slack<=100
def blkR(s:Svc)(r:Rpt):Wdg×Bool:=
 if(r.To-r.From)%3600<2*r.Slack+(zerR s.k r.C r.Tick).1.Hi-(zerR s.k r.C r.Tick).1.Lo then(⟨0,0⟩,false)
 else(⟨(r.From+r.Slack-(zerR s.k r.C r.Tick).1.Lo)%3600,(r.To-r.Slack-(zerR s.k r.C r.Tick).1.Hi)%3600⟩,true)
theorem zf1(r:Rpt)(s:Svc)(hr:RptB r):Spec PP 335 [r.v,s.v] [(blkR s r).1.v,B (blkR s r).2]:=by
 obtain⟨b1,b2,b3⟩:=hr
 have zb:=zix s.k r.C r.Tick
 refine sA Tryz.func335 ?_
 refine cP (zm5 s.k r.C r.Tick) rfl rfl ?_
 refine oN 19 ?_
 refine⟨i6,?_⟩
 refine oP (zdI (r.To-r.From) (by omega)) rfl rfl ?_
 refine⟨i6,⟨i6,⟨i6,?_⟩⟩⟩
 apply bY<;>intro h1
 ·have e:blkR s r=(⟨0,0⟩,false):=by unfold blkR;rw[kH (dT h1)]
  rw[e]
  exact⟨rtC (a:=4) rfl rfl rfl rfl rfl rfl (zaa _),rtB rfl rfl,trivial⟩
 have e:blkR s r=(⟨(r.From+r.Slack-(zerR s.k r.C r.Tick).1.Lo)%3600,(r.To-r.Slack-(zerR s.k r.C r.Tick).1.Hi)%3600⟩,true):=by unfold blkR;rw[kG (dF h1)]
 rw[e]
 refine oN 25 ?_
 refine⟨i6,⟨i6,?_⟩⟩
 refine oP (zdI (r.From+r.Slack-(zerR s.k r.C r.Tick).1.Lo) (by omega)) rfl rfl ?_
 refine⟨i6,⟨i6,?_⟩⟩
 refine oP (zdI (r.To-r.Slack-(zerR s.k r.C r.Tick).1.Hi) (by omega)) rfl rfl ?_
 exact⟨rtC (a:=4) rfl rfl rfl rfl rfl rfl (zaa _),rtB rfl rfl,trivial⟩
theorem zeG(x:Cir)(r:Rpt):Spec PP 174 [x.v,.d (capB r.ds)] [B (x.ID==r.C)]:=by
 refine sA Tryz.func174 ?_
 exact r1B rfl rfl
def rptE(s:Svc)(r:Rpt):Int:=
 if frmB r=false then 1 else if(towG s.c.T r.Tower).2=false\/cirI s.k r.C<0 then 5
 else if(s.k.C.getD (cirI s.k r.C).toNat default).At≠(towG s.c.T r.Tower).1.At then 1
 else if(zerR s.k r.C r.Tick).2≠0 then(zerR s.k r.C r.Tick).2 else if r.Kind=1 then(wdgR s.k (rdgO r)).2 else 0
theorem zcM(s:Svc)(r:Rpt)(hT:s.c.T.length<=1000000)(hC:s.k.C.length<=1000000):Spec PP 110 [s.v,r.v] [.d (.int .i64 (rptE s r))]:=by
 refine sA Tryz.func110 ?_
 refine cP (zoC r) rfl rfl ?_
 apply bY<;>intro h1
 ·refine r1I rfl ?_
  unfold rptE;rw[kH (by simpa using h1)]
 have h1:frmB r=true:=by simpa using h1
 refine cP (zhX s r.Tower hT) rfl rfl ?_
 refine CallSt.fzP [3] (zpN s.k.C 174 (capB r.ds) (fun x=>x.ID==r.C) hC (fun i hi=>zeG _ r)) rfl ⟨dE _,⟨rfl,rfl,fun j hj=>?_⟩,trivial⟩ rfl ?_
 ·obtain rfl:j=0:=by
   have:j<1:=hj
   omega
  exact dE _
 apply bY<;>intro h2
 ·have h2:(towG s.c.T r.Tower).2=false:=by simpa using h2
  refine sT (sT ?_)
  refine r1I rfl ?_
  unfold rptE;rw[kG (by rw[h1];decide),kH (.inl h2)]
 have h2:(towG s.c.T r.Tower).2=true:=by simpa using h2
 refine sF ?_
 apply bY<;>intro h3
 ·have h3:cirI s.k r.C<0:=dT h3
  refine r1I rfl ?_
  unfold rptE;rw[kG (by rw[h1];decide),kH (.inr h3)]
 have h3:¬cirI s.k r.C<0:=dF h3
 obtain⟨h4,h5⟩:=zaS h3
 have e0:rptE s r=if(s.k.C.getD (cirI s.k r.C).toNat default).At≠(towG s.c.T r.Tower).1.At then 1 else if(zerR s.k r.C r.Tick).2≠0 then(zerR s.k r.C r.Tick).2 else if r.Kind=1 then(wdgR s.k (rdgO r)).2 else 0:=by
  unfold rptE;rw[kG (by rw[h1];decide),kG (by rw[h2];simp;omega)]
 refine oN 11 ?_
 refine⟨⟨rfl,by show 0<=cirI s.k r.C;omega,by show cirI s.k r.C<s.k.C.length;omega⟩,?_⟩
 apply bY<;>intro h6
 ·have h6:(s.k.C.getD (cirI s.k r.C).toNat default).At≠(towG s.c.T r.Tower).1.At:=by
   have:=(jI (!·) (eqPW (s.k.C.getD (cirI s.k r.C).toNat default).At (towG s.c.T r.Tower).1.At)).symm.trans h6
   simpa using this
  refine r1I rfl ?_
  rw[e0,kH h6]
 have h6:(s.k.C.getD (cirI s.k r.C).toNat default).At=(towG s.c.T r.Tower).1.At:=by
  have:=(jI (!·) (eqPW (s.k.C.getD (cirI s.k r.C).toNat default).At (towG s.c.T r.Tower).1.At)).symm.trans h6
  simpa using this
 refine cP (zm5 s.k r.C r.Tick) rfl rfl ?_
 apply bY<;>intro h7
 ·have h7:(zerR s.k r.C r.Tick).2≠0:=by simpa using h7
  refine r1I rfl ?_
  rw[e0,kG (fun hh=>hh h6),kH h7]
 have h7:(zerR s.k r.C r.Tick).2=0:=by simpa using h7
 apply bY<;>intro h8
 ·have h8:r.Kind=1:=by simpa using h8
  refine oN 11 ?_
  refine oP (zgT r) rfl rfl ?_
  refine oP (zm6 s.k (rdgO r)) rfl rfl ?_
  refine r1I rfl ?_
  rw[e0,kG (fun hh=>hh h6),kG (fun hh=>hh h7),kH h8]
 have h8:r.Kind≠1:=by simpa using h8
 refine r1I rfl ?_
 rw[e0,kG (fun hh=>hh h6),kG (fun hh=>hh h7),kG h8]
abbrev Brn.ds(b:Brn):List D:=[I b.From,I b.To,I b.Rise]
def lookB(s:Svc)(b:Brn)(r:Rpt)(p:Place):Bool:=decide ((seesE s.c r.Tower p b.Rise r.Tick).2=0)&&(seesE s.c r.Tower p b.Rise r.Tick).1&&within r.Tick b.From b.To
theorem zgU(s:Svc)(b:Brn)(r:Rpt)(p:Place):Spec PP 254 [.d (capB s.ds),.d (capB r.ds),.d (capP p),.d (capB b.ds)] [B (lookB s b r p)]:=by
 refine sA Tryz.func254 ?_
 refine cP (zus s.c r.Tower p b.Rise r.Tick) rfl rfl ?_
 apply bY<;>intro h1
 ·have h1:decide ((seesE s.c r.Tower p b.Rise r.Tick).2=0)=true:=by simpa using h1
  refine sT ?_
  apply bY<;>intro h2
  ·refine cP (zbK r.Tick b.From b.To) rfl rfl ?_
   refine sT ?_
   refine r1B rfl ?_
   unfold lookB;rw[h1,h2];rfl
  refine sF ?_
  refine r1B rfl ?_
  unfold lookB;rw[h1,h2];rfl
 have h1:decide ((seesE s.c r.Tower p b.Rise r.Tick).2=0)=false:=by simpa using h1
 refine sF (sF (sF ?_))
 refine r1B rfl ?_
 unfold lookB;rw[h1];rfl
def secR(s:Svc)(r:Rpt):Wdg×Bool:=if r.Kind=1 then((wdgR s.k (rdgO r)).1,decide ((wdgR s.k (rdgO r)).2=0))else blkR s r
def seenB(s:Svc)(b:Brn)(r:Rpt)(p:Place):Bool:=(secR s r).2&&liesW (secR s r).1 (towG s.c.T r.Tower).1.At p&&lookB s b r p
def allB(s:Svc)(b:Brn)(r:Rpt)(p:Place):Bool:=if r.Kind=1 then seenB s b r p else !seenB s b r p
theorem zux{r:Rpt}(h:frmB r=true)(hk:r.Kind≠1):RptB r:=by
 unfold frmB at h
 rw[kG hk]at h
 simp only[jP,jY]at h
 obtain⟨h1,h2⟩:=h
 split at h2
 ·unfold frmC at h1
  simp only[qN,qQ]at h1
  simp only[jP]at h2
  exact⟨zab.1 h1.1.2,zab.1 h2.1,zab.1 h1.2⟩
 cases h2
theorem zoE(s:Svc)(b:Brn)(r:Rpt)(p:Place)(hr:frmB r=true)(hT:s.c.T.length<=1000000):Spec PP 213 [s.v,b.v,.d (tldD r),p.v] [B (allB s b r p)]:=by
 by_cases hk:r.Kind=1
 ·have e1:tldD r= .ifc 327 8 (getD' r.ds):=by unfold tldD;rw[kH hk]
  have e2:secR s r=((wdgR s.k (rdgO r)).1,decide ((wdgR s.k (rdgO r)).2=0)):=by unfold secR;rw[kH hk]
  have e3:allB s b r p=seenB s b r p:=by unfold allB;rw[kH hk]
  rw[e1,e3]
  have e4:seenB s b r p=(decide ((wdgR s.k (rdgO r)).2=0)&&liesW (wdgR s.k (rdgO r)).1 (towG s.c.T r.Tower).1.At p&&lookB s b r p):=by unfold seenB;rw[e2]
  refine sA Tryz.func213 ?_
  refine⟨⟨_,_,_,_,rfl,by kernel_rfl,oP (zme r) rfl rfl ?_⟩⟩
  refine cP (zhX s r.Tower hT) rfl rfl ?_
  refine⟨⟨_,_,_,_,rfl,by kernel_rfl,oP (zf0 r s) rfl rfl ?_⟩⟩
  apply bY<;>intro h1
  ·have h1:decide ((wdgR s.k (rdgO r)).2=0)=true:=h1
   refine cP (zqr (wdgR s.k (rdgO r)).1 (towG s.c.T r.Tower).1.At p) rfl rfl ?_
   refine sT ?_
   apply bY<;>intro h2
   ·refine CallSt.fzP [4,9,7,5] (zgU s b r p) rfl ⟨dE _,dE _,dE _,dE _,trivial⟩ rfl ?_
    refine sT ?_
    refine sT ?_
    refine r1B rfl ?_
    rw[e4,h1,h2];rfl
   refine sF ?_
   refine sT ?_
   refine r1B rfl ?_
   rw[e4,h1,h2];rfl
  have h1:decide ((wdgR s.k (rdgO r)).2=0)=false:=h1
  refine sF (sF (sF ?_))
  refine sT ?_
  refine r1B rfl ?_
  rw[e4,h1];rfl
 have e1:tldD r= .ifc 328 8 (getD' r.ds):=by unfold tldD;rw[kG hk]
 have e2:secR s r=blkR s r:=by unfold secR;rw[kG hk]
 have e3:allB s b r p= !seenB s b r p:=by unfold allB;rw[kG hk]
 rw[e1,e3]
 have e4:seenB s b r p=((blkR s r).2&&liesW (blkR s r).1 (towG s.c.T r.Tower).1.At p&&lookB s b r p):=by unfold seenB;rw[e2]
 refine sA Tryz.func213 ?_
 refine⟨⟨_,_,_,_,rfl,by kernel_rfl,oP (zmf r) rfl rfl ?_⟩⟩
 refine cP (zhX s r.Tower hT) rfl rfl ?_
 refine⟨⟨_,_,_,_,rfl,by kernel_rfl,oP (zf1 r s (zux hr hk)) rfl rfl ?_⟩⟩
 apply bY<;>intro h1
 ·have h1:(blkR s r).2=true:=h1
  refine cP (zqr (blkR s r).1 (towG s.c.T r.Tower).1.At p) rfl rfl ?_
  refine sT ?_
  apply bY<;>intro h2
  ·refine CallSt.fzP [4,9,7,5] (zgU s b r p) rfl ⟨dE _,dE _,dE _,dE _,trivial⟩ rfl ?_
   refine sT ?_
   refine sF ?_
   refine r1B rfl ?_
   rw[e4,h1,h2];rfl
  refine sF ?_
  refine sF ?_
  refine r1B rfl ?_
  rw[e4,h1,h2];rfl
 have h1:(blkR s r).2=false:=h1
 refine sF (sF (sF ?_))
 refine sF ?_
 refine r1B rfl ?_
 rw[e4,h1];rfl
structure SvcOk(s:Svc):Prop where
  c:CtryOk s.c
  k:CirsOk s.k
theorem zcl{s:Svc}(h:svcE s=0):SvcOk s:=by
 unfold svcE at h
 split at h
 ·rename_i h1;exact absurd h h1
 rename_i h1
 split at h
 ·rename_i h2;exact absurd h h2
 rename_i h2
 exact⟨zes (jL h1),zbP (jL h2)⟩
def crpE(s:Svc)(r:Rpt):Int:=if svcE s≠0 then svcE s else rptE s r
theorem zuF{s:Svc}{r:Rpt}(h:crpE s r=0):svcE s=0/\rptE s r=0/\frmB r=true:=by
 unfold crpE at h
 split at h
 ·rename_i h1;exact absurd h h1
 rename_i h1
 refine⟨jL h1,h,?_⟩
 unfold rptE at h
 split at h
 ·cases h
 rename_i h2;simpa using h2
theorem zf2(s:Svc)(r:Rpt):Spec PP 70 [s.v,r.v] [.d (.int .i64 (crpE s r))]:=by
 refine sA Tryz.func70 ?_
 refine cP (zhY s) rfl rfl ?_
 apply bY<;>intro h0
 ·refine r1I rfl ?_
  unfold crpE;rw[kH (by simpa using h0)]
 have h0:svcE s=0:=by simpa using h0
 have ok:=zcl h0
 refine cP (zcM s r (by have:=ok.c.t;omega) (by have:=ok.k.n;omega)) rfl rfl ?_
 refine r1I rfl ?_
 unfold crpE;rw[kG (fun hh=>hh h0)]
theorem obN{s:St}{ob:Nat->Option Ob}{j e k:Nat}{f:Nat->Nat->D}{o:Option Ob}(h:o=some (.box [.nilsl]))(h1:s.ob j=none)(h2:ob j=some (.row e k 0 f)):Oble s ob o (.box [.own j]):=by
 subst h;exact⟨⟨h1,e,k,f,h2⟩,trivial⟩
theorem obO{s:St}{ob:Nat->Option Ob}{j:Nat}{o:Option Ob}(h:o=some (.box [.own j])):Oble s ob o (.box [.own j]):=by
 subst h;exact⟨rfl,trivial⟩
theorem obZ{s:St}{ob:Nat->Option Ob}{e k n:Nat}{f:Nat->Nat->D}{o:Option Ob}(h:o=none)(h1:n=0):Oble s ob o (.row e k n f):=by
 subst h;exact h1
abbrev lP(l:List Place):D:=.slc 2 l.length fun i=>(l.getD i default).at
abbrev rowP(l:List Place):Nat->Nat->D:=fun i=>(l.getD i default).at
theorem zkb{vs:List Place}{p:Place}{g:Nat->Nat->D}(hg:∀j,j<2->D.eqv (g 0 j) (p.at j)):D.eqv (.slc 2 (vs.length+1) (appRow vs.length (rowP vs) g)) (.slc 2 (vs++[p]).length (rowP (vs++[p]))):=by
 refine⟨by simp,.inr ⟨rfl,fun i hi j hj=>?_⟩⟩
 show D.eqv (appRow vs.length (rowP vs) g i j) (((vs++[p]).getD i default).at j)
 unfold appRow
 by_cases h:i<vs.length
 ·rw[kH h,hZ,jJ h,<- hZ]
  exact dE _
 have e:i=vs.length:=by omega
 subst e
 rw[kG h,kE,hZ,jK (jE _),kE]
 exact hg j hj
abbrev Svc.n(s:Svc):Nat:=s.c.M.w*s.c.M.h
def alwK(s:Svc)(b:Brn)(r:Rpt)(k:Nat)(n:Nat):Bool:=decide (n<k)&&allB s b r (plc s.c.M n)
def alwP(s:Svc)(b:Brn)(r:Rpt):Nat->Bool:=alwK s b r s.n
theorem zpx{s:Svc}{b:Brn}{r:Rpt}{k:Nat}(h:allB s b r (plc s.c.M k)=true):alwK s b r (k+1)=addP (alwK s b r k) k:=by
 funext n
 unfold alwK addP
 by_cases e:n=k
 ·subst e;rw[h];simp
 have e1:decide (n<k+1)=decide (n<k):=by apply qI.2;omega
 rw[e1,jax.2 e,qZ]
theorem zsM{s:Svc}{b:Brn}{r:Rpt}{k:Nat}(h:allB s b r (plc s.c.M k)=false):alwK s b r (k+1)=alwK s b r k:=by
 funext n
 unfold alwK
 by_cases e:n=k
 ·subst e;rw[h];simp
 have e1:decide (n<k+1)=decide (n<k):=by apply qI.2;omega
 rw[e1]
theorem zuU(s:Svc)(b:Brn)(r:Rpt):alwK s b r 0=fun _=>false:=by funext n;unfold alwK;simp
theorem bD_0:(bD fun _=>false)=List.replicate 38 (D.int .u64 0):=by
 unfold bD
 simp only[zqB]
 rfl
abbrev bx8(x:D):Ob:=.box [.d x]
def obAlw(s:Svc)(b:Brn)(r:Rpt)(k:Nat):List (Nat×Ob):=[(3,.box (s.ds.map AV.d)),(4,.box (b.ds.map AV.d)),(6,.box ((List.replicate 38 (D.int .u64 0)).map AV.d)),(7,.box ((bD (alwK s b r k)).map AV.d)),(8,bx8 (tldD r))]
theorem zcB{m:Mp}(hv:validM m=true){k:Nat}:((k/m.w:Nat):Int)*m.W+((k%m.w:Nat):Int)=(k:Int):=by
 obtain⟨bw,bh,-,-⟩:=zaf hv
 have e1:((m.w:Nat):Int)=m.W:=by show((m.W.toNat:Nat):Int)=m.W;omega
 rw[<- e1]
 have:=ja0 k m.w
 rw[qM]at this
 exact_mod_cast this
theorem zbF{m:Mp}(hv:validM m=true):m.w*m.h<=2401:=by
 obtain⟨bw,bh,-,-⟩:=zaf hv
 have:m.w*m.h<=49*49:=jbj (by show m.W.toNat<=49;omega) (by show m.H.toNat<=49;omega)
 omega
theorem zmg(s:Svc)(b:Brn)(r:Rpt)(hv:validM s.c.M=true)(hr:frmB r=true)(hT:s.c.T.length<=1000000):Spec PP 138 [s.v,b.v,r.v] [.agg (bD (alwP s b r))]:=by
 have hl:=zbF hv
 refine sA Tryz.func138 ?_
 refine cR (zua r) rfl rfl ?_
 refine cR (zfZ s.c.M) rfl rfl ?_
 refine CodeOb.rangeAt (zdJ s.c.M hv) rfl (fun _=>rfl) (by decide) [(3,.box 3 0),(4,.box 4 0),(6,.box 6 0),(7,.box 7 0),(8,.box 8 0)] [] (fun pre=>obAlw s b r pre.length) rfl (fun _=>rfl) ?_ (Iv:=fun _=>True) trivial (fun v pre x hx _=>?_) (fun _=>?_)
 ·refine⟨rfl,⟨obX rfl,obX rfl,obX rfl,obX ?_,obX rfl,trivial⟩,wq rfl⟩
  show _=some (Ob.box ((bD (alwK s b r 0)).map AV.d))
  rw[zuU,bD_0];rfl
 ·obtain⟨rfl,hk⟩:=ziH hx
  have hn:=zcB hv (k:=pre.length)
  refine cP (zoE s b r (plc s.c.M pre.length) hr hT) rfl rfl ?_
  apply bY<;>intro h1
  ·have hp:=l_put (alwK s b r pre.length) pre.length (by omega)
   rw[<- hn]at hp
   refine CallSt.bxP rfl rfl hp ⟨⟨_,_,_,rfl,rfl,rfl,rfl,rfl⟩⟩ rfl ?_
   refine⟨trivial,rfl,⟨obX rfl,obX rfl,obX rfl,obX ?_,obX rfl,trivial⟩,wq rfl⟩
   rw[jR]
   show _=some (Ob.box ((bD (alwK s b r (pre.length+1))).map AV.d))
   rw[zpx h1,hn];rfl
  refine⟨trivial,rfl,⟨obX rfl,obX rfl,obX rfl,obX ?_,obX rfl,trivial⟩,wq rfl⟩
  rw[jR]
  show _=some (Ob.box ((bD (alwK s b r (pre.length+1))).map AV.d))
  rw[zsM h1];rfl
 rw[zcZ]
 exact r1C rfl rfl rfl rfl rfl rfl (zaa _)
def plsK(m:Mp)(P:Nat->Bool)(k:Nat):List Place:=((List.range k).filter P).map (plc m)
def plsL(m:Mp)(P:Nat->Bool):List Place:=plsK m P (m.w*m.h)
theorem zcH{m:Mp}{P:Nat->Bool}{k:Nat}(h:P k=true):plsK m P (k+1)=plsK m P k++[plc m k]:=by
 unfold plsK
 rw[qU,kV,jT,qA h];rfl
theorem zd2{m:Mp}{P:Nat->Bool}{k:Nat}(h:P k=false):plsK m P (k+1)=plsK m P k:=by
 unfold plsK
 rw[qU,kV,jT,qF (by rw[h];decide)];simp
theorem zbH(m:Mp)(P:Nat->Bool)(k:Nat):(plsK m P k).length<=k:=by
 unfold plsK
 have:=qD P (List.range k)
 simpa using this
def obPls(s:Svc)(P:Nat->Bool)(k:Nat):List (Nat×Ob):=[(2,.box (s.ds.map AV.d)),(3,.box ((bD P).map AV.d)),(5,.box [.own 20]),(20,.row 60 2 (plsK s.c.M P k).length (rowP (plsK s.c.M P k)))]
theorem zoB(s:Svc)(P:Nat->Bool)(hv:validM s.c.M=true):Spec PP 130 [s.v,.agg (bD P)] [.d (lP (plsL s.c.M P))]:=by
 have hl:=zbF hv
 refine sA Tryz.func130 ?_
 refine cR (zfZ s.c.M) rfl rfl ?_
 refine CodeOb.rangeAt (zdJ s.c.M hv) rfl (fun _=>rfl) (by decide) [(2,.box 2 0),(3,.box 3 0),(5,.box 5 0)] [(5,0)] (fun pre=>obPls s P pre.length) rfl (fun _=>rfl) ?_ (Iv:=fun _=>True) trivial (fun v pre x hx _=>?_) (fun _=>?_)
 ·exact⟨rfl,⟨obX rfl,obX rfl,obN rfl rfl rfl,obZ rfl rfl,trivial⟩,wq rfl⟩
 ·obtain⟨rfl,hk⟩:=ziH hx
  have hn:=zcB hv (k:=pre.length)
  have hp:=zrO P pre.length (by omega)
  rw[<- hn]at hp
  have hlen:=zbH s.c.M P pre.length
  refine cP hp rfl rfl ?_
  apply bY<;>intro h1
  ·refine⟨⟨.inr rfl,by unfold maxLen;omega,by show((plsK s.c.M P pre.length).length+1)*16<=140737488355328;omega⟩,?_⟩
   refine⟨trivial,rfl,⟨obX rfl,obX rfl,obO rfl,obR rfl ?_,trivial⟩,wq rfl⟩
   rw[jR]
   show D.eqv _ (.slc 2 (plsK s.c.M P (pre.length+1)).length (rowP (plsK s.c.M P (pre.length+1))))
   rw[zcH h1]
   exact zkb (at2 rfl rfl)
  refine⟨trivial,rfl,⟨obX rfl,obX rfl,obO rfl,obR rfl ?_,trivial⟩,wq rfl⟩
  rw[jR]
  show D.eqv _ (.slc 2 (plsK s.c.M P (pre.length+1)).length (rowP (plsK s.c.M P (pre.length+1))))
  rw[zd2 h1];exact dE _
 rw[zcZ]
 refine⟨⟨_,_,_,_,rfl,?_⟩,trivial⟩
 exact dE _
abbrev bAt(P:Nat->Bool)(j:Nat):D:=U (wd P j)
abbrev lB(L:List (Nat->Bool)):D:=.slc 38 L.length fun m=>bAt (L.getD m default)
def metP(L:List (Nat->Bool))(n:Nat):Bool:=L.all fun P=>P n
abbrev litN{n:Nat}(_:n<38):Nat:=n
theorem zlW{L:List (Nat->Bool)}{k:Nat}(h:k<L.length):metP (L.take (k+1))=fun n=>metP (L.take k) n&&L.getD k default n:=by
 funext n
 unfold metP
 rw[zav h default,List.all_append];simp
abbrev mF(L:List (Nat->Bool))(i j:Nat):Nat:=if j<i then wd (metP L) j else 0
abbrev mK(L:List (Nat->Bool))(i k j:Nat):Nat:=if j=i then wd (metP (L.take k)) i else mF L i j
abbrev mV(f:Nat->Nat):List AV:=((List.range 38).map fun j=>U (f j)).map AV.d
theorem zt5(L:List (Nat->Bool)):((List.range 38).map fun j=>U (mF L 38 j))=bD (metP L):=by
 refine qH fun j hj=>?_
 have hj:=kK.1 hj
 show U (if j<38 then _ else _)=_
 rw[kH hj]
theorem zt4(L:List (Nat->Bool))(i:Nat):mV (mK L i L.length)=mV (mF L (i+1)):=by
 refine jI (List.map AV.d) (qH fun j hj=>?_)
 show U (if j=i then _ else if j<i then _ else _)=U (if j<i+1 then _ else _)
 rw[jZ]
 by_cases e:j=i
 ·subst e;rw[kH rfl,kH (by omega)]
 rw[kG e]
 by_cases e2:j<i
 ·rw[kH e2,kH (by omega)]
 rw[kG e2,kG (by omega)]
theorem mK_0(L:List (Nat->Bool))(i:Nat):mV (mK L i 0)=bV (mF L i) i 18446744073709551615:=by
 refine zuN ?_ fun j _ hj=>kG hj
 show(((if i=i then wd (metP (L.take 0)) i else _:Nat)):Int)=_
 rw[kH rfl]
 have:metP (L.take 0)=fun _=>true:=by funext n;rfl
 rw[this,zsR];rfl
theorem mK_s{L:List (Nat->Bool)}{k:Nat}(i:Nat)(h:k<L.length):mV (mK L i (k+1))=bV (mF L i) i (IntKind.wrap .u64 ((BitVec.ofInt 64 ((mK L i k i:Nat):Int)&&&BitVec.ofInt 64 ((wd (L.getD k default) i:Nat):Int)).toNat:Int)):=by
 refine zuN ?_ fun j _ hj=>kG hj
 show(((if i=i then wd (metP (L.take (k+1))) i else _:Nat)):Int)=IntKind.wrap .u64 ((BitVec.ofInt 64 (((if i=i then wd (metP (L.take k)) i else _:Nat)):Int)&&&_).toNat:Int)
 rw[kH rfl,kH rfl,zsL,zlW h]
theorem zqa(L:List (Nat->Bool))(hn:L.length<=1000000):Spec PP 131 [.d (lB L)] [.agg (bD (metP L))]:=by
 refine sA Tryz.func131 ?_
 refine lOf (σ:=Nat) (fun i=>([(0,.d (lB L)),(2,.box 2 0),(3,.box 3 0),(7,.d (I i))],[(2,.box ((List.replicate 38 (D.int .u64 0)).map AV.d)),(3,.box (mV (mF L i)))])) (fun i=>i<=38) (fun i=>38-i) 0
  ⟨rfl,⟨obX rfl,obX rfl,trivial⟩,wq rfl⟩ (jF _) fun i hi=>?_
 apply bY<;>intro h1
 ·have h1:i<38:=by have:(i:Int)<38:=dT h1;omega
  have e0:=mK_0 L i
  have e1:=fun k h=>mK_s (L:=L) (k:=k) i h
  have e2:=zt4 L i
  rcases i38 h1 with rfl|rfl|rfl|rfl|rfl|rfl|rfl|rfl|rfl|rfl|rfl|rfl|rfl|rfl|rfl|rfl|rfl|rfl|rfl|rfl|rfl|rfl|rfl|rfl|rfl|rfl|rfl|rfl|rfl|rfl|rfl|rfl|rfl|rfl|rfl|rfl|rfl|rfl<;>
  (
   refine⟨⟨by decide,by decide⟩,?_⟩
   refine lOf (σ:=Nat) (fun k=>([(0,.d (lB L)),(2,.box 2 0),(3,.box 3 0),(4,.d (I (litN h1))),(7,.d (I (litN h1))),(12,.d (lB L)),(13,.d (I L.length)),(14,.d (I k))],[(2,.box ((List.replicate 38 (D.int .u64 0)).map AV.d)),(3,.box (mV (mK L (litN h1) k)))])) (fun k=>k<=L.length) (fun k=>L.length-k) 0
    ⟨rfl,⟨obX rfl,obX (by rw[e0];rfl),trivial⟩,wq rfl⟩ (jF _) fun k hk=>?_
   apply bY<;>intro h2
   ·have h2:k<L.length:=by have:=dT h2;omega
    refine⟨⟨rfl,by omega,by omega⟩,?_⟩
    refine oN 9 ?_
    refine⟨⟨by unfold litN;omega,by unfold litN;omega⟩,⟨⟨by unfold litN;omega,by unfold litN;omega⟩,⟨⟨by unfold litN;omega,by unfold litN;omega⟩,?_⟩⟩⟩
    refine⟨i6,?_⟩
    refine⟨k+1,⟨rfl,⟨obX rfl,obX (by rw[e1 k h2];rfl),trivial⟩,wq rfl⟩,h2,(msr (by omega))⟩
   have h2:k=L.length:=by have:=dF h2;omega
   subst h2
   refine⟨zaZ (by unfold litN;omega) (by unfold litN;omega),?_⟩
   exact⟨litN h1+1,⟨rfl,⟨obX rfl,obX (by rw[<- e2];rfl),trivial⟩,wq rfl⟩,(by unfold litN;omega),(by unfold litN;omega)⟩)
 have h1:i=38:=by have:¬(i:Int)<38:=dF h1;omega
 subst h1
 rw[<- zt5]
 exact r1C rfl rfl rfl rfl rfl rfl (zaa _)
section
variable {s:St}{ob:Nat->Option Ob}{v:AV}
theorem avNl{j e k:Nat}{f:Nat->Nat->D}(h:v= .nilsl)(h1:s.ob j=none)(h2:ob j=some (.row e k 0 f)):AVle s ob v (.own j):=by subst h;exact⟨h1,e,k,f,h2⟩
end
def rp1E(s:Svc)(l:List Rpt)(i:Nat):Int:=if rptE s (l.getD i default)≠0 then rptE s (l.getD i default)else if((l.take i).map Rpt.ID).contains (l.getD i default).ID=true then 6 else 0
def givE(s:Svc)(b:Brn)(l:List Rpt):Int:=if svcE s≠0 then svcE s else if brnB b=false then 1 else if 24<l.length then 2 else err1 (rp1E s l) l.length
structure GivOk(S:Svc)(b:Brn)(l:List Rpt):Prop where
  s:SvcOk S
  n:l.length<=24
  r:∀i,i<l.length->frmB (l.getD i default)=true/\rptE S (l.getD i default)=0
  d:∀i,i<l.length->((l.take i).map Rpt.ID).contains (l.getD i default).ID=false
  b:brnB b=true
theorem zq4{s:Svc}{r:Rpt}(h:rptE s r=0):frmB r=true:=by
 unfold rptE at h
 split at h
 ·cases h
 rename_i h2;simpa using h2
theorem zfa{s:Svc}{b:Brn}{l:List Rpt}(h:givE s b l=0):GivOk s b l:=by
 unfold givE at h
 split at h
 ·rename_i h1;exact absurd h h1
 rename_i h1
 split at h
 ·cases h
 rename_i h2
 split at h
 ·cases h
 rename_i h3
 have a:=zbr h
 have A:∀i,i<l.length->rptE s (l.getD i default)=0/\((l.take i).map Rpt.ID).contains (l.getD i default).ID=false:=fun i hi=>by
  have:=a i hi
  unfold rp1E at this
  split at this
  ·rename_i h4;exact absurd this h4
  rename_i h4
  split at this
  ·cases this
  rename_i h5
  exact⟨jL h4,by simpa using h5⟩
 exact⟨zcl (jL h1),by omega,fun i hi=>⟨zq4 (A i hi).1,(A i hi).1⟩,fun i hi=>(A i hi).2,by simpa using h2⟩
theorem zrP(s:Svc)(b:Brn)(l:List Rpt):Spec PP 137 [s.v,b.v,.d (lR l)] [.d (.int .i64 (givE s b l))]:=by
 refine sA Tryz.func137 ?_
 refine cP (zhY s) rfl rfl ?_
 apply bY<;>intro h0
 ·refine r1I rfl ?_
  unfold givE;rw[kH (by simpa using h0)]
 have h0:svcE s=0:=by simpa using h0
 have ok:=zcl h0
 refine cP (zrR b) rfl rfl ?_
 apply bY<;>intro h1
 ·refine r1I rfl ?_
  unfold givE;rw[kG (fun hh=>hh h0),kH (by simpa using h1)]
 have h1:brnB b=true:=by simpa using h1
 apply bY<;>intro h2
 ·have h2:24<l.length:=by have:(24:Int)<l.length:=dT h2;omega
  refine r1I rfl ?_
  unfold givE;rw[kG (fun hh=>hh h0),kG (by rw[h1];decide),kH h2]
 have h2:¬24<l.length:=by have:¬(24:Int)<l.length:=dF h2;omega
 have e0:givE s b l=err1 (rp1E s l) l.length:=by unfold givE;rw[kG (fun hh=>hh h0),kG (by rw[h1];decide),kG h2]
 rw[e0]
 refine lOf (σ:=Nat) (fun i=>([(2,.d (lR l)),(3,.box 3 0),(8,.own 25),(26,.d (lR l)),(27,.d (I l.length)),(28,.d (I i))],[(3,.box (s.ds.map AV.d)),(25,.mp 1 (((l.take i).map Rpt.ID).map fun x=>[x]) fun _=>.bool true)])) (fun i=>i<=l.length/\∀j,j<i->rp1E s l j=0) (fun i=>l.length-i) 0
  ⟨rfl,⟨obX rfl,obMp rfl ⟨rfl,rfl,fun j hj=>absurd hj (qJ _)⟩,trivial⟩,wq rfl⟩ z0L fun i hi=>?_
 obtain⟨hi,ha⟩:=hi
 apply bY<;>intro h3
 ·have h3:i<l.length:=by have:=dT h3;omega
  refine⟨⟨rfl,by omega,by omega⟩,?_⟩
  refine cP (zcM s (l.getD i default) (by have:=ok.c.t;omega) (by have:=ok.k.n;omega)) rfl rfl ?_
  apply bY<;>intro h4
  ·have h4:rptE s (l.getD i default)≠0:=by simpa using h4
   have e1:rp1E s l i=rptE s (l.getD i default):=by unfold rp1E;rw[kH h4]
   refine r1I rfl ?_
   rw[zan ha (by rw[e1];exact h4) h3,e1]
  have h4:rptE s (l.getD i default)=0:=by simpa using h4
  refine⟨⟨kInt,rfl⟩,.bool (((l.take i).map Rpt.ID).contains (l.getD i default).ID),D.eqv_of_eq (zt6 _ _),?_⟩
  apply bY<;>intro h5
  ·have h5:((l.take i).map Rpt.ID).contains (l.getD i default).ID=true:=h5
   have e1:rp1E s l i=6:=by unfold rp1E;rw[kG (fun hh=>hh h4),kH h5]
   refine r1I rfl ?_
   rw[zan ha (by rw[e1];decide) h3,e1]
  have h5:((l.take i).map Rpt.ID).contains (l.getD i default).ID=false:=h5
  have e1:rp1E s l i=0:=by unfold rp1E;rw[kG (fun hh=>hh h4),kG (by rw[h5];decide)]
  refine⟨⟨kInt,rfl⟩,?_⟩
  refine⟨i6,?_⟩
  refine⟨i+1,⟨rfl,⟨obX rfl,obMp rfl ?_,trivial⟩,wq rfl⟩,⟨h3,fun j hj=>?_⟩,(msr (by omega))⟩
  ·rw[zav h3 default,jT];exact zro h5
  by_cases e:j=i
  ·subst e;exact e1
  exact ha j (by omega)
 have h3:i=l.length:=by have:=dF h3;omega
 subst h3
 refine r1I rfl ?_
 rw[zaJ ha]
abbrev rowB(L:List (Nat->Bool)):Nat->Nat->D:=fun i=>bAt (L.getD i default)
theorem pushB{vs:List (Nat->Bool)}{P:Nat->Bool}{g:Nat->Nat->D}(hg:∀j,j<38->g 0 j=bAt P j):D.eqv (.slc 38 (vs.length+1) (appRow vs.length (rowB vs) g)) (.slc 38 (vs++[P]).length (rowB (vs++[P]))):=by
 refine⟨by simp,.inr ⟨rfl,fun i hi j hj=>?_⟩⟩
 show D.eqv (appRow vs.length (rowB vs) g i j) (bAt ((vs++[P]).getD i default) j)
 unfold appRow
 by_cases h:i<vs.length
 ·rw[kH h,hZ,jJ h,<- hZ]
  exact dE _
 have e:i=vs.length:=by omega
 subst e
 rw[kG h,kE,hZ,jK (jE _),kE]
 rw[hg j hj]
 exact dE _
theorem zuP(P:Nat->Bool):∀j,j<38->getD' (bD P) j=bAt P j:=fun j hj=>by
 rcases i38 hj with rfl|rfl|rfl|rfl|rfl|rfl|rfl|rfl|rfl|rfl|rfl|rfl|rfl|rfl|rfl|rfl|rfl|rfl|rfl|rfl|rfl|rfl|rfl|rfl|rfl|rfl|rfl|rfl|rfl|rfl|rfl|rfl|rfl|rfl|rfl|rfl|rfl|rfl<;>rfl
theorem bD_0j(P:Nat->Bool){j:Nat}(hj:j<38):getD' (bD P) (0*38+j)=bAt P j:=by
 rw[show 0*38+j=j by omega];exact zuP P j hj
def allR(s:Svc)(b:Brn)(l:List Rpt):List (Nat->Bool)×Int:=if givE s b l≠0 then([],givE s b l)else(l.map (alwP s b),0)
theorem znD{α β:Type}(f:α->β)(l:List α){i:Nat}(h:i<l.length)(d:α):(l.take (i+1)).map f=(l.take i).map f++[f (l.getD i d)]:=by
 rw[zav h d,jT];rfl
theorem zrS(s:Svc)(b:Brn)(l:List Rpt):Spec PP 96 [s.v,b.v,.d (lR l)] [.d (lB (allR s b l).1),.d (.int .i64 (allR s b l).2)]:=by
 refine sA Tryz.func96 ?_
 refine cP (zrP s b l) rfl rfl ?_
 apply bY<;>intro h0
 ·have h0:givE s b l≠0:=by simpa using h0
  have e:allR s b l=([],givE s b l):=by unfold allR;rw[kH h0]
  rw[e]
  exact⟨⟨_,_,_,_,rfl,rfl,.inl rfl⟩,rtI rfl rfl,trivial⟩
 have h0:givE s b l=0:=by simpa using h0
 have e:allR s b l=(l.map (alwP s b),0):=by unfold allR;rw[kG (fun hh=>hh h0)]
 have ok:=zfa h0
 rw[e]
 refine lOf (σ:=Nat) (fun i=>([(3,.box 3 0),(4,.box 4 0),(9,.own 9),(19,.d (lR l)),(20,.d (I l.length)),(21,.d (I i))],[(3,.box (s.ds.map AV.d)),(4,.box (b.ds.map AV.d)),(9,.row 209 38 ((l.take i).map (alwP s b)).length (rowB ((l.take i).map (alwP s b))))])) (fun i=>i<=l.length) (fun i=>l.length-i) 0
  ⟨rfl,⟨obX rfl,obX rfl,obR rfl ⟨rfl,.inl rfl⟩,trivial⟩,wq rfl⟩ (jF _) fun i hi=>?_
 apply bY<;>intro h3
 ·have h3:i<l.length:=by have:=dT h3;omega
  have hlen:((l.take i).map (alwP s b)).length=i:=by rw[kO,jQ];omega
  have hn:=ok.n
  refine⟨⟨rfl,by omega,by omega⟩,?_⟩
  refine cP (zmg s b (l.getD i default) ok.s.c.m (ok.r i h3).1 (by have:=ok.s.c.t;omega)) rfl rfl ?_
  refine⟨⟨.inr rfl,by unfold maxLen;omega,by show(((l.take i).map (alwP s b)).length+1)*304<=140737488355328;omega⟩,?_⟩
  refine⟨i6,?_⟩
  refine⟨i+1,⟨rfl,⟨obX rfl,obX rfl,obR rfl ?_,trivial⟩,wq rfl⟩,h3,(msr (by omega))⟩
  rw[znD (alwP s b) l h3 default]
  exact pushB fun j hj=>bD_0j (alwP s b (l.getD i default)) hj
 have h3:i=l.length:=by have:=dF h3;omega
 subst h3
 refine⟨⟨_,_,_,_,rfl,?_⟩,rtI rfl rfl,trivial⟩
 rw[jZ]
 exact dE _
def plcR(s:Svc)(b:Brn)(l:List Rpt):List Place×Int:=if givE s b l≠0 then([],givE s b l)else(plsL s.c.M (metP (l.map (alwP s b))),0)
theorem zoF(s:Svc)(b:Brn)(l:List Rpt):Spec PP 87 [s.v,b.v,.d (lR l)] [.d (lP (plcR s b l).1),.d (.int .i64 (plcR s b l).2)]:=by
 refine sA Tryz.func87 ?_
 refine cR (zrS s b l) rfl rfl ?_
 by_cases h0:givE s b l=0
 ·have e:allR s b l=(l.map (alwP s b),0):=by unfold allR;rw[kG (fun hh=>hh h0)]
  have e1:plcR s b l=(plsL s.c.M (metP (l.map (alwP s b))),0):=by unfold plcR;rw[kG (fun hh=>hh h0)]
  have ok:=zfa h0
  have hn:=ok.n
  rw[e,e1]
  refine sF ?_
  refine oN 6 ?_
  refine oP (zqa (l.map (alwP s b)) (by rw[kO];omega)) rfl rfl ?_
  refine oRo (zoB s (metP (l.map (alwP s b))) ok.s.c.m) rfl rfl ?_
  exact⟨dE _,rtI rfl rfl,trivial⟩
 have e:allR s b l=([],givE s b l):=by unfold allR;rw[kH h0]
 have e1:plcR s b l=([],givE s b l):=by unfold plcR;rw[kH h0]
 rw[e,e1]
 refine sYe (by simpa using h0) ?_
 exact⟨⟨_,_,_,_,rfl,rfl,.inl rfl⟩,rtI rfl rfl,trivial⟩
theorem zoD(P:Nat->Bool)(n:Nat)(a:Int)(ha:a=n)(hn:n<2432):Spec PP 141 [.agg (bD P),.d (capB [I a])] [B (!P n)]:=by
 subst ha
 refine sA Tryz.func141 ?_
 refine cP (zrO P n hn) rfl rfl ?_
 exact r1B rfl rfl
theorem zti(l:List (Nat->Bool))(g:FuncId)(c0:D)(p:(Nat->Bool)->Bool)(hn:l.length<=1000000)(hp:∀i,i<l.length->Spec PP g [.agg (bD (l.getD i default)),.d c0] [B (p (l.getD i default))]):Spec PP 140 [.d (lB l),.d (cloB g [c0])] [N (idxL p l)]:=by
 refine sA Tryz.func140 ?_
 refine lOf (σ:=Nat) (fun i=>([(0,.d (lB l)),(1,.d (cloB g [c0])),(6,.d (lB l)),(7,.d (I l.length)),(8,.d (I i))],[])) (fun i=>i<=l.length/\∀j,j<i->p (l.getD j default)=false) (fun i=>l.length-i) 0
  ⟨rfl,trivial,wq rfl⟩ z0L fun i hi=>?_
 obtain⟨hi,ha⟩:=hi
 apply bY<;>intro h1
 ·have h1:i<l.length:=by have:=dT h1;omega
  refine⟨⟨rfl,by omega,by omega⟩,?_⟩
  refine cP (hp i h1) rfl rfl ?_
  apply bY<;>intro h2
  ·refine r1I rfl ?_
   exact(zaj default h1 h2 ha).symm
  refine⟨i6,?_⟩
  refine⟨i+1,⟨rfl,trivial,wq rfl⟩,⟨h1,fun j hj=>?_⟩,(msr (by omega))⟩
  by_cases e:j=i
  ·subst e;exact h2
  exact ha j (by omega)
 have h1:i=l.length:=by have:=dF h1;omega
 subst h1
 refine r1I rfl ?_
 exact(zam default ha).symm
def fstI(L:List (Nat->Bool))(n:Nat):Int:=idxL (fun P:Nat->Bool=>!P n) L
theorem zrQ(L:List (Nat->Bool))(n:Nat)(a:Int)(ha:a=n)(hn:n<2432)(hL:L.length<=1000000):Spec PP 98 [.d (lB L),N a] [N (fstI L n)]:=by
 refine sA Tryz.func98 ?_
 refine CallSt.fz [3] (zti L 141 (capB [I a]) (fun P=>!P n) hL (fun i hi=>zoD _ n a ha hn)) rfl rfl ?_
 exact r1I rfl rfl
abbrev rowS(l:List Rsn):Nat->Nat->D:=fun i=>(l.getD i default).at
theorem ztw{vs:List Rsn}{p:Rsn}{g:Nat->Nat->D}(hg:∀j,j<3->D.eqv (g 0 j) (p.at j)):D.eqv (.slc 3 (vs.length+1) (appRow vs.length (rowS vs) g)) (.slc 3 (vs++[p]).length (rowS (vs++[p]))):=by
 refine⟨by simp,.inr ⟨rfl,fun i hi j hj=>?_⟩⟩
 show D.eqv (appRow vs.length (rowS vs) g i j) (((vs++[p]).getD i default).at j)
 unfold appRow
 by_cases h:i<vs.length
 ·rw[kH h,hZ,jJ h,<- hZ]
  exact dE _
 have e:i=vs.length:=by omega
 subst e
 rw[kG h,kE,hZ,jK (jE _),kE]
 exact hg j hj
theorem at3{f:Nat->D}{p:Rsn}(h0:f 0=I p.At.X)(h1:f 1=I p.At.Y)(h2:f 2=I p.R):∀j,j<3->D.eqv (f j) (p.at j)
 |0,_=>by rw[h0];exact⟨rfl,rfl⟩
 |1,_=>by rw[h1];exact⟨rfl,rfl⟩
 |2,_=>by rw[h2];exact⟨rfl,rfl⟩
def rsnA(s:Svc)(l:List Rpt)(L:List (Nat->Bool))(n:Nat):Rsn:=⟨plc s.c.M n,(l.getD (fstI L n).toNat default).ID⟩
def rsnK(s:Svc)(l:List Rpt)(L:List (Nat->Bool))(k:Nat):List Rsn:=((List.range k).filter fun n=>decide (0<=fstI L n)).map (rsnA s l L)
theorem znT{s:Svc}{l:List Rpt}{L:List (Nat->Bool)}{k:Nat}(h:0<=fstI L k):rsnK s l L (k+1)=rsnK s l L k++[rsnA s l L k]:=by
 unfold rsnK
 rw[qU,kV,jT,qA (p:=fun n=>decide (0<=fstI L n)) (jG h)];rfl
theorem zq3{s:Svc}{l:List Rpt}{L:List (Nat->Bool)}{k:Nat}(h:¬0<=fstI L k):rsnK s l L (k+1)=rsnK s l L k:=by
 unfold rsnK
 rw[qU,kV,jT,qF (p:=fun n=>decide (0<=fstI L n)) (by rw[jH h];decide)];simp
theorem znU(s:Svc)(l:List Rpt)(L:List (Nat->Bool))(k:Nat):(rsnK s l L k).length<=k:=by
 unfold rsnK
 have:=qD (fun n=>decide (0<=fstI L n)) (List.range k)
 simpa using this
theorem zse{L:List (Nat->Bool)}{n:Nat}(h:0<=fstI L n):(fstI L n).toNat<L.length:=by
 rcases idxL_cases (fun P:Nat->Bool=>!P n) L default with⟨h1,_⟩|⟨i,h1,h2,_⟩
 ·exact absurd h (by unfold fstI;rw[h1];decide)
 unfold fstI;rw[h2];exact h1
def rsnR(s:Svc)(b:Brn)(l:List Rpt):List Rsn×Int:=if givE s b l≠0 then([],givE s b l)else(rsnK s l (l.map (alwP s b)) s.n,0)
def obRsn(s:Svc)(l:List Rpt)(L:List (Nat->Bool))(k:Nat):List (Nat×Ob):=[(3,.box (s.ds.map AV.d)),(5,.box [.d (lR l)]),(8,.box [.d (lB L)]),(10,.box [.own 44]),(44,.row 177 3 (rsnK s l L k).length (rowS (rsnK s l L k)))]
theorem zmh(s:Svc)(b:Brn)(l:List Rpt):Spec PP 61 [s.v,b.v,.d (lR l)] [.d (lRs (rsnR s b l).1),.d (.int .i64 (rsnR s b l).2)]:=by
 refine sA Tryz.func61 ?_
 refine cR (zrS s b l) rfl rfl ?_
 by_cases h0:givE s b l=0
 ·have e:allR s b l=(l.map (alwP s b),0):=by unfold allR;rw[kG (fun hh=>hh h0)]
  have e1:rsnR s b l=(rsnK s l (l.map (alwP s b)) s.n,0):=by unfold rsnR;rw[kG (fun hh=>hh h0)]
  have ok:=zfa h0
  have hn:=ok.n
  have hL:(l.map (alwP s b)).length=l.length:=kO _
  have hl:=zbF ok.s.c.m
  rw[e,e1]
  generalize l.map (alwP s b)=L at hL
  refine sF ?_
  refine cR (zfZ s.c.M) rfl rfl ?_
  refine CodeOb.rangeAt (zdJ s.c.M ok.s.c.m) rfl (fun _=>rfl) (by decide) [(3,.box 3 0),(5,.box 5 0),(8,.box 8 0),(10,.box 10 0)] [(10,0)] (fun pre=>obRsn s l L pre.length) rfl (fun _=>rfl) ?_ (Iv:=fun _=>True) trivial (fun v pre x hx _=>?_) (fun _=>?_)
  ·exact⟨rfl,⟨obX rfl,obX rfl,obX rfl,obN rfl rfl rfl,obZ rfl rfl,trivial⟩,wq rfl⟩
  ·obtain⟨rfl,hk⟩:=ziH hx
   have hnn:=zcB ok.s.c.m (k:=pre.length)
   have hlen:=znU s l L pre.length
   refine cP (zrQ L pre.length _ hnn (by omega) (by omega)) rfl rfl ?_
   apply bY<;>intro h1
   ·have h1:0<=fstI L pre.length:=dT h1
    have h2:=zse h1
    refine oN 11 ?_
    refine⟨⟨rfl,h1,by omega⟩,?_⟩
    refine⟨⟨.inr rfl,by unfold maxLen;omega,by show((rsnK s l L pre.length).length+1)*24<=140737488355328;omega⟩,?_⟩
    refine⟨trivial,rfl,⟨obX rfl,obX rfl,obX rfl,obO rfl,obR rfl ?_,trivial⟩,wq rfl⟩
    rw[jR]
    show D.eqv _ (.slc 3 (rsnK s l L (pre.length+1)).length (rowS (rsnK s l L (pre.length+1))))
    rw[znT h1]
    exact ztw (at3 rfl rfl rfl)
   have h1:¬0<=fstI L pre.length:=dF h1
   refine⟨trivial,rfl,⟨obX rfl,obX rfl,obX rfl,obO rfl,obR rfl ?_,trivial⟩,wq rfl⟩
   rw[jR]
   show D.eqv _ (.slc 3 (rsnK s l L (pre.length+1)).length (rowS (rsnK s l L (pre.length+1))))
   rw[zq3 h1];exact dE _
  rw[zcZ]
  exact⟨⟨_,_,_,_,rfl,dE _⟩,rtI rfl rfl,trivial⟩
 have e:allR s b l=([],givE s b l):=by unfold allR;rw[kH h0]
 have e1:rsnR s b l=([],givE s b l):=by unfold rsnR;rw[kH h0]
 rw[e,e1]
 refine sYe (by simpa using h0) ?_
 exact⟨⟨_,_,_,_,rfl,rfl,.inl rfl⟩,rtI rfl rfl,trivial⟩
theorem zlu{vs:List Int}{a:Int}{g:Nat->Nat->D}(hg:g 0 0=I a):D.eqv (.slc 1 (vs.length+1) (appRow vs.length (fun i _=>I (vs.getD i 0)) g)) (.slc 1 (vs++[a]).length fun i _=>I ((vs++[a]).getD i 0)):=by
 refine⟨by simp,.inr ⟨rfl,fun i hi j hj=>?_⟩⟩
 obtain rfl:j=0:=by omega
 show D.eqv (appRow vs.length (fun i _=>I (vs.getD i 0)) g i 0) (I ((vs++[a]).getD i 0))
 unfold appRow
 by_cases h:i<vs.length
 ·rw[kH h,hZ,jJ h,<- hZ]
  exact dE _
 have e:i=vs.length:=by omega
 subst e
 rw[kG h,kE,hg,hZ,jK (jE _),kE]
 exact⟨rfl,rfl⟩
end Go.Pg
namespace Go.Pg
open Go.Proofs Go.RowKit Go.Sort Go.Shelf Go.Lib
section
variable {α:Type}[Inhabited α](f:α->Int)
def oneI:Ints α 1 where
  lst x:=[f x]
  len _:=rfl
  at_ x:=fun _=>I (f x)
  hat x j hj:=by
    obtain rfl:j=0:=by omega
    rfl
def vI(x:α):Value:=.int .i64 (f x)
theorem zuz(l:Array α):flatK (oneI f).enc 1 l=l.map (vI f):=by
 apply Array.ext_getElem?
 intro i
 have hs:=(oneI f).flat_size l
 by_cases hi:i<l.size
 ·have h1:=(oneI f).flat_get l (t:=i) (by omega)
  have h2:i<(flatK (oneI f).enc 1 l).size:=by omega
  rw[jaV _ i h2]at h1
  rw[wL h2,h1]
  have e1:i/1=i:=Nat.div_one i
  have e2:i%1=0:=Nat.mod_one i
  rw[e1,e2,Array.getElem?_map,wL hi,jaV l i hi]
  rfl
 rw[jaj (by omega),jaj (by rw[Array.size_map];omega)]
theorem zrq(w:World)(b:Nat)(l:Array α):putRow (vI f) w b 0 l=putRowK (oneI f).enc 1 w b 0 l:=by
 unfold putRowK
 rw[zuz]
 unfold putRow
 congr 1
 funext c
 unfold putCells
 congr 1
 funext k x
 rw[Array.size_map]
 by_cases h:0<=k/\k<0+l.size
 ·have hk:k-0<l.size:=by omega
  rw[kH h,kH h,jaV _ (k-0) hk,jaV (l.map (vI f)) (k-0) (by rw[Array.size_map];exact hk),Array.getElem_map];rfl
 rw[kG h,kG h]
theorem zs9(w:World)(b m:Nat)(l:Array α)(os:Array Obj):sortWorld (vI f) w b 0 m l os=sortWorldK (oneI f).enc 1 w b 0 m l os:=by
 unfold sortWorld sortWorldK;rw[zrq]
theorem zuk{w:World}{b:Nat}{l:Array α}(h:HoldsK (oneI f).enc 1 w b 0 l):Go.Sort.Holds (vI f) w b 0 l:=fun j hj=>by
 have h':Go.Sort.Holds id w b 0 (flatK (oneI f).enc 1 l):=h
 rw[zuz]at h'
 have:=h' j (by simpa using hj)
 have e:(l.map (vI f))[j]! =vI f l[j]!:=by
  rw[jaV _ j (by simpa using hj),jaV l j hj,Array.getElem_map]
 rw[e]at this
 exact this
end
theorem zhy{P:Program}{ρ:Ren}(S:Lays.n189 P ρ)(hent:Ent P (ρ.f 189))(e:TypeId)(l:List Int)(hn:l.length<=1000000):
  SpecR P (ρ.f 189) [] [] e 1 l.length ((oneI id).row l) ((oneI id).row (l.mergeSort fun x y=>decide (x<=y))) []:=by
 refine⟨hent,fun w ok vs us v xs hok h1 h2 hr=>?_⟩
 cases h1
 cases h2
 have hlen:(l.mergeSort fun x y=>decide (x<=y)).length=l.length:=qX l
 by_cases h0:l=[]
 ·subst h0
  obtain⟨p,c,rfl⟩:∃p c,v= .slice p 0 c:=by
   rcases hr.own.2 with⟨h3,_⟩|⟨q,c,cur,h3,_⟩
   ·exact⟨_,_,h3⟩
   exact⟨_,_,h3⟩
  refine(Any.slices_Sort_int_none S p c w).mono ?_
  rintro en w' ⟨rfl,rfl⟩
  exact⟨_,rfl,⟨rfl,rfl,rfl,jE _,fun _ _ _=>rfl⟩,⟨[],rfl,.nil⟩,xs,hr.own,hr.one,fun m hm=>absurd hm (qJ _)⟩
 rcases hr.own.2 with⟨_,h4⟩|⟨q,c,cur,rfl,_,hh,hnc,hcap,hcs,htk⟩
 ·exact absurd (jbF.1 h4) h0
 have hH:=(oneI (id:Int->Int)).holds (cap:=c) hh htk hr.rep
 have hq:q<w.heap.size:=(jB.1 hh).1
 have hrun:=Any.slices_Sort_int S q 0 c l w (zuk id hH) hq (by omega)
 refine hrun.mono ?_
 rintro en w' ⟨rfl,n,os,rfl⟩
 have e1:=zs9 (id:Int->Int) w q n (l.mergeSort fun x y=>decide (x<=y)).toArray os
 have e2:grow (putRow (Value.int .i64) (Sort.ahead w n) q 0 (l.mergeSort fun x y=>decide (x<=y)).toArray) os=sortWorldK (oneI (id:Int->Int)).enc 1 w q 0 n (l.mergeSort fun x y=>decide (x<=y)).toArray os:=e1
 rw[e2]
 obtain⟨p1,xs',p2,p3,p4⟩:=(oneI (id:Int->Int)).put n (l.mergeSort fun x y=>decide (x<=y)) os hh (by rw[hlen];exact hnc) hcap hcs
 rw[hlen]at p2 p4
 exact⟨_,rfl,p1,⟨[],rfl,.nil⟩,xs',p2,p3,p4⟩
end Go.Pg
