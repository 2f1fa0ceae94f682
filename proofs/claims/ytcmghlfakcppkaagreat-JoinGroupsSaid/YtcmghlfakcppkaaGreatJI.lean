/- Lemmas, joined by program. -/
import Derived.Test.YtcmghlfakcppkaaGreatJH
import Derived.Shelf.SlLaysE0
import Derived.Shelf.RegionOpenPlain
import Derived.WalkKit
import Derived.Deep.LoopGhost
import Derived.Deep.RegionLaw
import Derived.Lib.Walk
import Derived.Sort.WalkB12
import Derived.Lib.SliceRun
import Derived.Lib.SlicesDelete
set_option maxHeartbeats 4000000
set_option linter.all false
set_option maxRecDepth 100000
namespace Go.Pg
open Go.Proofs Go.RowKit
end Go.Pg
namespace Go.Pg
open Go.Proofs Go.Shelf Go.RowKit Go.Lib Go.Sort
variable {P:Program}{ρ:Ren}
theorem SpecT.congr{P:Program}{f:FuncId}{pre post:List V1}{e k n n' n2:Nat}{g g' g2:Nat->Nat->D}(h:SpecT P f pre post e k n g n' g')(hn:n'=n2)(hg:∀m,m<n2->∀j,j<k->g' m j=g2 m j):SpecT P f pre post e k n g n2 g2:=by
 subst hn
 refine⟨h.1,fun w ok vs us v xs h1 h2 h3 h4=>(h.2 w ok vs us v xs h1 h2 h3 h4).mono ?_⟩
 rintro en w' ⟨v',e1,e2,e3,xs',e4,e5,e6⟩
 exact⟨v',e1,e2,e3,xs',e4,e5,fun m hm j hj=>by rw[<- hg m hm j hj];exact e6 m hm j hj⟩
structure Zs where
  C:Int
  T:Int
  Z:List Int
  deriving Inhabited
abbrev Zs.ds(z:Zs):List D:=[I z.C,I z.T,lI z.Z]
abbrev Zs.v(z:Zs):V1:=.agg z.ds
def Zs.at(z:Zs):Nat->D
 |0=>I z.C
 |1=>I z.T
 | _=>lI z.Z
structure Fir where
  At:Place
  From:Int
  To:Int
  deriving Inhabited
def Fir.at(x:Fir):Nat->D
 |0=>I x.At.X
 |1=>I x.At.Y
 |2=>I x.From
 | _=>I x.To
abbrev Fir.ds(x:Fir):List D:=[I x.At.X,I x.At.Y,I x.From,I x.To]
def stnB(d:Day)(id:Int)(q:Place)(p:List (List Int)):Bool:=p.any fun s=>s.contains id&&(plsD d s).contains q
def staB(d:Day)(id:Int)(n:Nat):Bool:=(bsts d).any (stnB d id (plc d.s.c.M n))
def staR(d:Day)(id:Int):List Place×Int:=
 if dayE d≠0 then([],dayE d)else if(sigL d.R).contains id=false then([],5)else if(bsts d).length=0 then([],9)else(plsL d.s.c.M (staB d id),0)
theorem zqT{d:Day}{id:Int}{q:Place}{p:List (List Int)}:stnB d id q p=true↔∃s∈p,s.contains id=true/\q∈plsD d s:=by
 unfold stnB
 rw[kM]
 refine exists_congr fun s=>and_congr_right fun _=>?_
 rw[jP,kD (a:=q)]
theorem zi4(d:Day)(s:List Int):(plsD d s).length<=2401:=by
 unfold plsD
 split
 ·exact zoi _ _ _
 simp
theorem zgI{L:List Place}{p q:Place}:q∈putPl L p↔q∈L\/q=p:=by
 unfold putPl
 split
 ·rename_i h
  exact⟨.inl,fun g=>g.elim id fun e=>e▸h⟩
 rw[kL,kI]
abbrev bxDy(d:Day):Ob:=.box (d.ds.map AV.d)
abbrev mpPl(L:List Place):Ob:=.mp 2 (L.map plK) fun _=>.bool true
theorem zoM(d:Day)(id:Int)(hn:d.R.length<=1000000):Spec PP 17 [d.v,N id] [.d (lP (staR d id).1),.d (.int .i64 (staR d id).2)]:=by
 refine sA Tryz.func17 ?_
 refine cP (zcu d hn) rfl rfl ?_
 unfold staR
 apply bY<;>intro h0
 ·rw[kH (by simpa using h0)]
  exact⟨⟨_,_,_,_,rfl,rfl,.inl rfl⟩,rtI rfl rfl,trivial⟩
 have h0:dayE d=0:=by simpa using h0
 have h:=zaN h0
 rw[kG (fun hh=>hh h0)]
 refine cR (za7 d hn) rfl rfl ?_
 refine cP (zdj (sigL d.R) id (by have:=sig7 h;omega)) rfl rfl ?_
 apply bY<;>intro h1
 ·rw[kH (by simpa using h1)]
  exact⟨⟨_,_,_,_,rfl,rfl,.inl rfl⟩,rtI rfl rfl,trivial⟩
 have h1:(sigL d.R).contains id=true:=by simpa using h1
 rw[kG (by rw[h1];decide)]
 refine cR (zeb h) rfl rfl ?_
 by_cases h2:(bsts d).length=0
 ·have e:bsR d=([],9):=by unfold bsR;rw[kH h2]
  rw[e,kH h2]
  refine sT ?_
  exact⟨⟨_,_,_,_,rfl,rfl,.inl rfl⟩,rtI rfl rfl,trivial⟩
 have e:bsR d=(bsts d,0):=by unfold bsR;rw[kG h2]
 rw[e,kG h2]
 refine sF ?_
 have hl:(bsts d).length<=1000000:=by have:(bsts d).length<=(parts d).length:=zcS (parts d);have:=zbU h;omega
 have hp:∀p∈bsts d,p.length<=1000000/\∀s∈p,s.length<=1000000:=fun p hp=>by
  have:=zbT h (zcj hp)
  exact⟨by omega,fun s hs=>by have:=this.2 s hs;omega⟩
 generalize hB:bsts d=l at*
 refine lOf (σ:=Nat×List Place) (fun x=>([(1,.d (I id)),(2,.box 2 0),(9,.own 38),(39,.d (lPP l)),(40,.d (I l.length)),(41,.d (I x.1))],[(2,bxDy d),(38,mpPl x.2)])) (fun x=>x.1<=l.length/\∀q,q∈x.2↔∃p∈l.take x.1,stnB d id q p=true) (fun x=>l.length-x.1) (0,[])
  ⟨rfl,⟨obD d.ds rfl,obMp rfl ⟨rfl,rfl,fun j hj=>absurd hj (qJ _)⟩,trivial⟩,wq rfl⟩ ⟨jF _,by simp⟩ fun x hx=>?_
 obtain⟨i,L⟩:=x
 obtain⟨hi,hL⟩:=hx
 have hi:i<=l.length:=hi
 have hL:∀q,q∈L↔∃p∈l.take i,stnB d id q p=true:=hL
 apply bY<;>intro k1
 ·have k1:i<l.length:=by have:=dT k1;omega
  have hpi:=hp _ (gd1 k1 [])
  refine⟨⟨rfl,by omega,by omega⟩,?_⟩
  refine lOf (σ:=Nat×List Place) (fun x=>([(1,.d (I id)),(2,.box 2 0),(9,.own 38),(39,.d (lPP l)),(40,.d (I l.length)),(41,.d (I i)),(45,.d (lII (l.getD i []))),(46,.d (I (l.getD i []).length)),(47,.d (I x.1))],[(2,bxDy d),(38,mpPl x.2)])) (fun x=>x.1<=(l.getD i []).length/\∀q,q∈x.2↔q∈L\/stnB d id q ((l.getD i []).take x.1)=true) (fun x=>(l.getD i []).length-x.1) (0,L)
   ⟨rfl,⟨obD d.ds rfl,obMp rfl (dE _),trivial⟩,wq rfl⟩ ⟨jF _,fun q=>by simp[stnB]⟩ fun x hx=>?_
  obtain⟨k,M⟩:=x
  obtain⟨hk,hM⟩:=hx
  have hk:k<=(l.getD i []).length:=hk
  have hM:∀q,q∈M↔q∈L\/stnB d id q ((l.getD i []).take k)=true:=hM
  apply bY<;>intro k2
  ·have k2:k<(l.getD i []).length:=by have:=dT k2;omega
   have hs:=hpi.2 _ (gd1 k2 [])
   have step:∀q,stnB d id q ((l.getD i []).take (k+1))=(stnB d id q ((l.getD i []).take k)||(((l.getD i []).getD k []).contains id&&(plsD d ((l.getD i []).getD k [])).contains q)):=fun q=>by
    unfold stnB
    rw[zav k2 [],List.any_append];simp
   refine⟨⟨rfl,by omega,by omega⟩,?_⟩
   refine cP (zdj ((l.getD i []).getD k []) id hs) rfl rfl ?_
   apply bY<;>intro k3
   ·have k3:((l.getD i []).getD k []).contains id=false:=by simpa using k3
    refine⟨i6,?_⟩
    refine⟨(k+1,M),⟨rfl,⟨obD d.ds rfl,obMp rfl (dE _),trivial⟩,wq rfl⟩,⟨k2,fun q=>?_⟩,msr k2⟩
    rw[step,k3,qK,qZ];exact hM q
   have k3:((l.getD i []).getD k []).contains id=true:=by simpa using k3
   have hpl:=zi4 d ((l.getD i []).getD k [])
   refine cR (zf3 h ((l.getD i []).getD k []) hs) rfl rfl ?_
   generalize hQ:plsD d ((l.getD i []).getD k [])=Q at*
   refine lOf (σ:=Nat×List Place) (fun x=>([(1,.d (I id)),(2,.box 2 0),(9,.own 38),(39,.d (lPP l)),(40,.d (I l.length)),(41,.d (I i)),(45,.d (lII (l.getD i []))),(46,.d (I (l.getD i []).length)),(47,.d (I k)),(57,.d (lP Q)),(58,.d (I Q.length)),(59,.d (I x.1))],[(2,bxDy d),(38,mpPl x.2)])) (fun x=>x.1<=Q.length/\∀q,q∈x.2↔q∈M\/q∈Q.take x.1) (fun x=>Q.length-x.1) (0,M)
    ⟨rfl,⟨obD d.ds rfl,obMp rfl (dE _),trivial⟩,wq rfl⟩ ⟨jF _,fun q=>by simp⟩ fun x hx=>?_
   obtain⟨m,W⟩:=x
   obtain⟨hm,hW⟩:=hx
   have hm:m<=Q.length:=hm
   have hW:∀q,q∈W↔q∈M\/q∈Q.take m:=hW
   apply bY<;>intro k4
   ·have k4:m<Q.length:=by have:=dT k4;omega
    refine⟨⟨rfl,by omega,by omega⟩,?_⟩
    refine⟨⟨kPl,rfl⟩,?_⟩
    refine⟨i6,?_⟩
    refine⟨(m+1,putPl W (Q.getD m default)),⟨rfl,⟨obD d.ds rfl,obMp rfl (zpU W (Q.getD m default)),trivial⟩,wq rfl⟩,⟨k4,fun q=>?_⟩,msr k4⟩
    show q∈putPl W (Q.getD m default)↔q∈M\/q∈Q.take (m+1)
    rw[zgI,hW,zav k4 default,kL,kI,or_assoc]
   have k4:m=Q.length:=by have:=dF k4;omega
   subst k4
   refine⟨i6,?_⟩
   refine⟨(k+1,W),⟨rfl,⟨obD d.ds rfl,obMp rfl (dE _),trivial⟩,wq rfl⟩,⟨k2,fun q=>?_⟩,msr k2⟩
   show q∈W↔q∈L\/stnB d id q ((l.getD i []).take (k+1))=true
   rw[hW,hM,step,k3,qE,jX,jZ,kD,or_assoc]
  have k2:k=(l.getD i []).length:=by have:=dF k2;omega
  subst k2
  refine⟨i6,?_⟩
  refine⟨(i+1,M),⟨rfl,⟨obD d.ds rfl,obMp rfl (dE _),trivial⟩,wq rfl⟩,⟨k1,fun q=>?_⟩,msr k1⟩
  show q∈M↔∃p∈l.take (i+1),stnB d id q p=true
  rw[hM,jZ,hL,zav k1 []]
  constructor
  ·rintro(⟨r,hr,g⟩|g)
   ·exact⟨r,kL.2 (.inl hr),g⟩
   exact⟨_,kL.2 (.inr (kI.2 rfl)),g⟩
  rintro⟨r,hr,g⟩
  rcases kL.1 hr with hr|hr
  ·exact .inl ⟨r,hr,g⟩
  rw[kI.1 hr]at g;exact .inr g
 have k1:i=l.length:=by have:=dF k1;omega
 subst k1
 rw[jZ]at hL
 have eB:∀n,staB d id n=decide (plc d.s.c.M n∈L):=fun n=>by
  unfold staB
  rw[hB,kQ,kX,hL,kM]
 obtain⟨wW,wH,-,-⟩:=zaf (zcl h.s).c.m
 have ew:(d.s.c.M.w:Int)=d.s.c.M.W:=by show((d.s.c.M.W.toNat:Nat):Int)=d.s.c.M.W;omega
 have eh:(d.s.c.M.h:Int)=d.s.c.M.H:=by show((d.s.c.M.H.toNat:Nat):Int)=d.s.c.M.H;omega
 have hwh:=zbF (zcl h.s).c.m
 have bd:∀y x:Nat,y<d.s.c.M.h->x<d.s.c.M.w->y*d.s.c.M.w+x<2401:=fun y x hy hx=>by
  have:=jW d.s.c.M.w (show y+1<=d.s.c.M.h from hy)
  rw[Nat.succ_mul,qM d.s.c.M.h]at this
  omega
 generalize hS:staB d id=S at*
 generalize hMw:d.s.c.M.w=w at*
 generalize hMh:d.s.c.M.h=hh at*
 refine lOf (σ:=Nat) (fun y=>([(2,.box 2 0),(9,.own 38),(16,.own 16),(72,.d (I d.s.c.M.H)),(73,.d (I y))],[(2,bxDy d),(38,mpPl L),(16,.row 60 2 (plsK d.s.c.M S (y*w)).length (rowP (plsK d.s.c.M S (y*w))))])) (fun y=>y<=hh) (fun y=>hh-y) 0
  ⟨rfl,⟨obD d.ds rfl,obMp rfl (dE _),obR rfl ⟨by rw[Nat.zero_mul];rfl,.inl rfl⟩,trivial⟩,wq rfl⟩ (jF _) fun y hy=>?_
 have hy:y<=hh:=hy
 apply bY<;>intro m1
 ·have m1:y<hh:=by have:=dT m1;omega
  refine lOf (σ:=Nat) (fun x=>([(2,.box 2 0),(9,.own 38),(16,.own 16),(17,.d (I y)),(72,.d (I d.s.c.M.H)),(73,.d (I y)),(80,.d (I d.s.c.M.W)),(81,.d (I x))],[(2,bxDy d),(38,mpPl L),(16,.row 60 2 (plsK d.s.c.M S (y*w+x)).length (rowP (plsK d.s.c.M S (y*w+x))))])) (fun x=>x<=w) (fun x=>w-x) 0
   ⟨rfl,⟨obD d.ds rfl,obMp rfl (dE _),obR rfl (dE _),trivial⟩,wq rfl⟩ (jF _) fun x hx=>?_
  have hx:x<=w:=hx
  apply bY<;>intro m2
  ·have m2:x<w:=by have:=dT m2;omega
   have ep:plc d.s.c.M (y*w+x)=⟨(x:Int),(y:Int)⟩:=by rw[<- hMw];exact zi5 (by rw[hMw];exact m2)
   have eb:=eB (y*w+x)
   rw[ep]at eb
   have hlen:=zbH d.s.c.M S (y*w+x)
   have hb:=bd y x m1 m2
   refine⟨⟨kPl,rfl⟩,.bool (decide ((⟨(x:Int),(y:Int)⟩:Place)∈L)),D.eqv_of_eq (zt7 L ⟨(x:Int),(y:Int)⟩),?_⟩
   rw[<- eb]
   apply bY<;>intro m3
   ·refine⟨⟨.inr rfl,by unfold maxLen;omega,by show((plsK d.s.c.M S (y*w+x)).length+1)*16<=140737488355328;omega⟩,?_⟩
    refine⟨i6,?_⟩
    refine⟨x+1,⟨rfl,⟨obD d.ds rfl,obMp rfl (dE _),obR rfl ?_,trivial⟩,wq rfl⟩,m2,msr m2⟩
    rw[<- jaz,zcH m3,ep]
    exact zkb (at2 rfl rfl)
   refine⟨i6,?_⟩
   refine⟨x+1,⟨rfl,⟨obD d.ds rfl,obMp rfl (dE _),obR rfl ?_,trivial⟩,wq rfl⟩,m2,msr m2⟩
   rw[<- jaz,zd2 m3];exact dE _
  have m2:x=w:=by have:=dF m2;omega
  subst m2
  refine⟨i6,?_⟩
  refine⟨y+1,⟨rfl,⟨obD d.ds rfl,obMp rfl (dE _),obR rfl ?_,trivial⟩,wq rfl⟩,m1,msr m1⟩
  rw[Nat.succ_mul];exact dE _
 have m1:y=hh:=by have:=dF m1;omega
 subst m1
 refine⟨⟨_,_,_,_,rfl,?_⟩,rtI rfl rfl,trivial⟩
 show D.eqv _ (lP (plsK d.s.c.M S (d.s.c.M.w*d.s.c.M.h)))
 rw[hMw,hMh,qM]
 exact dE _
abbrev Fst(p:List (List Int)):Prop:=p.Pairwise fun a b=>a.getD 0 0<b.getD 0 0
structure Eqv(Y:Int->Int->Bool)(ids:List Int):Prop where
  rf:∀x∈ids,Y x x=true
  sy:∀x y,Y x y=true->Y y x=true
  tr:∀x y z,Y x y=true->Y y z=true->Y x z=true
structure Grp(Y:Int->Int->Bool)(ids:List Int)(o:List (List Int)):Prop where
  pos:∀g∈o,0<g.length
  inc:∀g∈o,g.Pairwise (· < ·)
  cls:∀g∈o,∀x∈g,∀y,y∈g↔y∈ids/\Y x y=true
  mem:∀x∈ids,x∈o.flatten
  hd:Fst o
theorem zjp{g:List Int}(h:0<g.length):g.getD 0 0∈g:=gd1 h 0
theorem Grp.same{Y:Int->Int->Bool}{ids:List Int}{o o':List (List Int)}(h:Grp Y ids o)(h':Grp Y ids o'){g g':List Int}(hg:g∈o)(hg':g'∈o'){x:Int}(hx:x∈g)(hx':x∈g'):g=g':=
 zl4 (h.inc g hg) (h'.inc g' hg') fun y=>(h.cls g hg x hx y).trans (h'.cls g' hg' x hx' y).symm
theorem Grp.sub{Y:Int->Int->Bool}{ids:List Int}{o o':List (List Int)}(h:Grp Y ids o)(h':Grp Y ids o'){g:List Int}(hg:g∈o):g∈o':=by
 have h1:=zjp (h.pos g hg)
 have h2:=((h.cls g hg _ h1 _).1 h1).1
 obtain⟨g',hg',hx'⟩:=List.mem_flatten.1 (h'.mem _ h2)
 rw[h.same h' hg hg' h1 hx'];exact hg'
theorem zo3{o o':List (List Int)}(h:Fst o)(h':Fst o')(hm:∀g,g∈o↔g∈o'):o=o':=by
 have nd:∀{p:List (List Int)},Fst p->p.Nodup:=fun {p} hp=>hp.imp fun {a b} hab e=>by subst e;omega
 have hp:o.Perm o':=by
  rw[List.perm_iff_count]
  intro x
  rw[List.Nodup.count (nd h),List.Nodup.count (nd h')]
  by_cases e:x∈o
  ·rw[kH e,kH ((hm x).1 e)]
  rw[kG e,kG fun hh=>e ((hm x).2 hh)]
 exact List.Perm.eq_of_pairwise (le:=fun a b:List Int=>a=b\/a.getD 0 0<b.getD 0 0) (fun a b _ _ h3 h4=>by
  rcases h3 with h3|h3
  ·exact h3
  rcases h4 with h4|h4
  ·exact h4.symm
  omega) (h.imp fun hab=>.inr hab) (h'.imp fun hab=>.inr hab) hp
theorem Grp.uniq{Y:Int->Int->Bool}{ids:List Int}{o o':List (List Int)}(h:Grp Y ids o)(h':Grp Y ids o'):o=o':=zo3 h.hd h'.hd fun g=>⟨fun hg=>h.sub h' hg,fun hg=>h'.sub h hg⟩
theorem Grp.nod{Y:Int->Int->Bool}{ids:List Int}{o:List (List Int)}(h:Grp Y ids o):o.flatten.Nodup:=by
 refine List.pairwise_flatten.2 ⟨fun g hg=>zbd (h.inc g hg),kN.2 fun i j hi hj hij x hx y hy e=>?_⟩
 subst e
 have:=h.same h (kR hi) (kR hj) hx hy
 have hh:=kN.1 h.hd i j hi hj hij
 rw[this]at hh;omega
theorem Grp.iff{Y:Int->Int->Bool}{ids:List Int}{o:List (List Int)}(h:Grp Y ids o)(x:Int):x∈o.flatten↔x∈ids:=⟨fun hx=>by
 obtain⟨g,hg,hx⟩:=List.mem_flatten.1 hx
 exact((h.cls g hg x hx x).1 hx).1,h.mem x⟩
theorem Grp.len{Y:Int->Int->Bool}{ids:List Int}{o:List (List Int)}(h:Grp Y ids o)(hn:ids.Nodup):o.flatten.length=ids.length:=(zfS h.nod hn h.iff).length_eq
theorem zoU{l:List (List (List Int))}{ids:List Int}(he:Eqv (yesB l) ids)(hl:ids.Pairwise (· < ·)){i:Nat}(hi:i<ids.length){o:List (List Int)}(h:Grp (yesB l) (ids.take i) o):Grp (yesB l) (ids.take (i+1)) (grp1 l o (ids.getD i 0)):=by
 have hz:ids.getD i 0∈ids:=gd1 hi 0
 have zt:∀x∈ids.take i,x<ids.getD i 0:=fun x hx=>by
  obtain⟨j,hj,rfl⟩:=kP hx
  rw[jQ]at hj
  rw[ja3,hZ,kF hi]
  exact kN.1 hl j i (by omega) hi (by omega)
 have sub:∀x∈ids.take i,x∈ids:=fun x hx=>qY hx
 rw[zav hi 0]
 generalize ids.getD i 0=z at*
 have lt:∀g∈o,∀x∈g,x<z:=fun g hg x hx=>zt x ((h.cls g hg x hx x).1 hx).1
 have nz:∀g∈o,z∉g:=fun g hg hh=>by have:=lt g hg z hh;omega
 have rf:=he.rf z hz
 unfold grp1
 rcases idxL_cases (fun g:List Int=>yesB l (g.getD 0 0) z) o []with⟨e,hno⟩|⟨j,hj,e,e1,-⟩
 ·rw[kH (by rw[e];decide)]
  have none:∀g∈o,∀x∈g,yesB l x z=false:=fun g hg x hx=>by
   obtain⟨q,hq,rfl⟩:=za4 ([]:List Int) hg
   have h1:=hno q hq
   have h2:=zjp (h.pos _ hg)
   have h3:=((h.cls _ hg _ h2 x).1 hx).2
   rw[qW]
   intro hh
   have h1:yesB l ((o.getD q []).getD 0 0) z=false:=h1
   rw[he.tr _ _ _ h3 hh]at h1;cases h1
  refine⟨fun g hg=>?_,fun g hg=>?_,fun g hg x hx y=>?_,fun x hx=>?_,?_⟩
  ·rcases kL.1 hg with hg|hg
   ·exact h.pos g hg
   rw[kI.1 hg];exact Nat.lt_succ_self 0
  ·rcases kL.1 hg with hg|hg
   ·exact h.inc g hg
   rw[kI.1 hg];simp
  ·rw[kL,kI]
   rcases kL.1 hg with hg|hg
   ·rw[h.cls g hg x hx y]
    constructor
    ·exact fun⟨a,b⟩=>⟨.inl a,b⟩
    rintro⟨a|a,b⟩
    ·exact⟨a,b⟩
    rw[a,none g hg x hx]at b;cases b
   rw[kI]at hg
   subst hg
   rw[kI]at hx⊢
   subst hx
   constructor
   ·rintro rfl;exact⟨.inr rfl,rf⟩
   rintro⟨a|a,b⟩
   ·exfalso
    obtain⟨g,hg,hy⟩:=List.mem_flatten.1 (h.mem y a)
    have:=none g hg y hy
    rw[he.sy _ _ b]at this;cases this
   exact a
  ·rw[List.flatten_append,kL]
   rcases kL.1 hx with hx|hx
   ·exact .inl (h.mem x hx)
   exact .inr (by simpa using hx)
  refine List.pairwise_append.2 ⟨h.hd,by simp,fun a ha b hb=>?_⟩
  rw[kI.1 hb]
  exact lt a ha _ (zjp (h.pos a ha))
 rw[e,kG (by omega),wB]
 have e1:yesB l ((o.getD j []).getD 0 0) z=true:=e1
 have hgj:=gd1 hj ([]:List Int)
 have hh:=zjp (h.pos _ hgj)
 generalize hG:o.getD j []=G at*
 have yz:∀x∈G,yesB l x z=true:=fun x hx=>he.tr _ _ _ (he.sy _ _ ((h.cls G hgj _ hh x).1 hx).2) e1
 have oth:∀q,q<o.length->q≠j->∀x∈o.getD q [],yesB l x z=false:=fun q hq hne x hx=>by
  rw[qW]
  intro hb
  have hgq:=gd1 hq ([]:List Int)
  have hx2:x∈G:=(h.cls G hgj _ hh x).2 ⟨((h.cls _ hgq x hx x).1 hx).1,he.tr _ _ _ e1 (he.sy _ _ hb)⟩
  have e3:=h.same h hgq hgj hx hx2
  have g:∀q,(hq:q<o.length)->o.getD q []=o[q]:=fun q hq=>by rw[hZ,kF hq];rfl
  rw[<- hG,g q hq,g j hj]at e3
  rcases Nat.lt_or_gt_of_ne hne with hlt|hlt
  ·have:=kN.1 h.hd q j hq hj hlt
   rw[e3]at this;omega
  have:=kN.1 h.hd j q hj hq hlt
  rw[e3]at this;omega
 have memS:∀g∈o.set j (G++[z]),(g=G++[z])\/∃q,q<o.length/\q≠j/\g=o.getD q []:=fun g hg=>by
  obtain⟨q,hq,rfl⟩:=kP hg
  rw[jal]at hq
  rw[List.getElem_set]
  split
  ·exact .inl rfl
  rename_i hne
  exact .inr ⟨q,hq,fun e=>hne e.symm,by rw[hZ,kF hq];rfl⟩
 refine⟨fun g hg=>?_,fun g hg=>?_,fun g hg x hx y=>?_,fun x hx=>?_,?_⟩
 ·rcases memS g hg with rfl|⟨q,hq,hne,rfl⟩
  ·simp
  exact h.pos _ (gd1 hq [])
 ·rcases memS g hg with rfl|⟨q,hq,hne,rfl⟩
  ·exact List.pairwise_append.2 ⟨h.inc G hgj,by simp,fun a ha b hb=>by rw[kI.1 hb];exact lt G hgj a ha⟩
  exact h.inc _ (gd1 hq [])
 ·rw[kL (s:=ids.take i),kI]
  rcases memS g hg with rfl|⟨q,hq,hne,rfl⟩
  ·rw[kL,kI]
   rcases kL.1 hx with hx|hx
   ·rw[h.cls G hgj x hx y]
    constructor
    ·rintro(⟨a,b⟩|e5)
     ·exact⟨.inl a,b⟩
     exact⟨.inr e5,by rw[e5];exact yz x hx⟩
    rintro⟨a|a,b⟩
    ·exact .inl ⟨a,b⟩
    exact .inr a
   rw[kI]at hx
   subst hx
   constructor
   ·rintro(a|e5)
    ·exact⟨.inl ((h.cls G hgj y a y).1 a).1,he.sy _ _ (yz y a)⟩
    exact⟨.inr e5,by rw[e5];exact rf⟩
   rintro⟨a|a,b⟩
   ·exact .inl ((h.cls G hgj _ hh y).2 ⟨a,he.tr _ _ _ e1 b⟩)
   exact .inr a
  have hgq:=gd1 hq ([]:List Int)
  rw[h.cls _ hgq x hx y]
  constructor
  ·exact fun⟨a,b⟩=>⟨.inl a,b⟩
  rintro⟨a|a,b⟩
  ·exact⟨a,b⟩
  rw[a,oth q hq hne x hx]at b;cases b
 ·have inS:∀q,q<o.length->∀x∈o.getD q [],x∈(o.set j (G++[z])).flatten:=fun q hq x hx=>by
   refine zcc.2 ⟨q,by rw[jal];exact hq,?_⟩
   rw[zbn _ _ _ _ _ hj]
   split
   ·rename_i e;subst e;rw[hG]at hx;exact qV _ hx
   exact hx
  rcases kL.1 hx with hx|hx
  ·obtain⟨q,hq,hx⟩:=zcc.1 (h.mem x hx)
   exact inS q hq x hx
  rw[kI.1 hx]
  refine zcc.2 ⟨j,by rw[jal];exact hj,?_⟩
  rw[zbn _ _ _ _ _ hj,kH rfl];simp
 have hd2:(G++[z]).getD 0 0=G.getD 0 0:=by
  have:=h.pos G hgj
  rw[hZ,jJ this,<- hZ]
 refine kN.2 fun a b ha hb hab=>?_
 rw[jal]at ha hb
 have hh:=kN.1 h.hd a b ha hb hab
 have gj:o[j].getD 0 0=G.getD 0 0:=by
  have:o[j]=G:=by rw[<- hG,hZ,kF hj];rfl
  exact jI (fun s:List Int=>s.getD 0 0) this
 rw[List.getElem_set,List.getElem_set]
 split
 ·rename_i e2
  subst e2
  rw[kG (by omega),hd2];omega
 split
 ·rename_i e2
  subst e2
  rw[hd2];omega
 exact hh
theorem zmB{l:List (List (List Int))}{ids:List Int}(he:Eqv (yesB l) ids)(hl:ids.Pairwise (· < ·)):∀i,i<=ids.length->Grp (yesB l) (ids.take i) (grpK l ids i)
 |0,_=>⟨fun g hg=>(by cases hg),fun g hg=>(by cases hg),fun g hg=>(by cases hg),fun x hx=>by simp at hx,.nil⟩
 |i+1,hi=>by
  rw[zg1 l (by omega)]
  exact zoU he hl (by omega) (zmB he hl i (by omega))
theorem zcn{l:List (List (List Int))}(h0:l≠[])(x y:Int):yesB l x y=true↔∀p∈l,togB x y p=true:=by
 have e:(vdtR l x y).Ans=(if l.any (togB x y)=true then(if(l.any fun p=>!togB x y p)=true then 3 else 2)else 1):=rfl
 unfold yesB
 rw[e,jai]
 constructor
 ·intro h p hp
  split at h
  ·split at h
   ·cases h
   rename_i g
   cases ht:togB x y p with
   |true=>rfl
   |false=>exact absurd (kM.2 ⟨p,hp,by rw[ht];rfl⟩) g
  cases h
 intro h
 obtain⟨p,hp⟩:=List.exists_mem_of_ne_nil l h0
 rw[kH (kM.2 ⟨p,hp,h p hp⟩),kG]
 intro hh
 obtain⟨q,hq,e⟩:=kM.1 hh
 rw[h q hq]at e;cases e
theorem zcW{x y:Int}{p:List (List Int)}:togB x y p=true↔∃s∈p,x∈s/\y∈s:=by
 unfold togB
 rw[kM]
 refine exists_congr fun s=>and_congr_right fun _=>?_
 unfold bthB
 rw[jP,kD,kD]
theorem div_one{ids:List Int}{p:List (List Int)}(hr:ids.Pairwise (· < ·))(hd:divB ids p=true):p.flatten.Nodup/\(∀x,x∈p.flatten↔x∈ids)/\(∀s∈p,setB s=true)/\∀s∈p,∀t∈p,∀x,x∈s->x∈t->s=t:=by
 unfold divB at hd
 rw[jP,kX,jC]at hd
 have hp:p.flatten.Perm ids:=by rw[<- hd.2];exact(jaL _ _).symm
 have hn:=hp.nodup_iff.2 (zbd hr)
 refine⟨hn,fun x=>hp.mem_iff,fun s hs=>?_,fun s hs t ht x h1 h2=>?_⟩
 ·obtain⟨q,hq,rfl⟩:=za4 ([]:List Int) hs
  have:=hd.1 q (kK.2 hq)
  rw[jP]at this
  exact this.1
 obtain⟨i,hi,rfl⟩:=kP hs
 obtain⟨j,hj,rfl⟩:=kP ht
 have hp:=(List.pairwise_flatten.1 hn).2
 rcases jbf i j with h|h|h
 ·exact absurd rfl (kN.1 hp i j hi hj h x h1 x h2)
 ·subst h;rfl
 exact absurd rfl (kN.1 hp j i hj hi h x h2 x h1)
theorem zqy{l:List (List (List Int))}{ids:List Int}(h0:l≠[])(hr:ids.Pairwise (· < ·))(hd:∀p∈l,divB ids p=true):Eqv (yesB l) ids:=by
 refine⟨fun x hx=>(zcn h0 x x).2 fun p hp=>?_,fun x y h=>(zcn h0 y x).2 fun p hp=>?_,fun x y z h1 h2=>(zcn h0 x z).2 fun p hp=>?_⟩
 ·obtain⟨_,m,_,_⟩:=div_one hr (hd p hp)
  obtain⟨s,hs,hx⟩:=List.mem_flatten.1 ((m x).2 hx)
  exact zcW.2 ⟨s,hs,hx,hx⟩
 ·obtain⟨s,hs,a,b⟩:=zcW.1 ((zcn h0 x y).1 h p hp)
  exact zcW.2 ⟨s,hs,b,a⟩
 obtain⟨_,_,_,u⟩:=div_one hr (hd p hp)
 obtain⟨s,hs,a,b⟩:=zcW.1 ((zcn h0 x y).1 h1 p hp)
 obtain⟨t,ht,c,e⟩:=zcW.1 ((zcn h0 y z).1 h2 p hp)
 have:=u s hs t ht y b c
 subst this
 exact zcW.2 ⟨s,hs,a,e⟩
def aQ(L:List (List Nat))(i k:Nat):Bool:=L.all (samI i k)
def aQK(L:List (List Nat))(n i k:Nat):Bool:=(L.take n).all (samI i k)
theorem zcm{L:List (List Nat)}{i k:Nat}:aQ L i k=true↔∀ix∈L,ix.getD i 0=ix.getD k 0:=by
 unfold aQ samI
 rw[jC]
 exact forall_congr' fun ix=>forall_congr' fun _=>jai
def dnS(L:List (List Nat)):Nat->Nat->Bool
 |0,_=>false
 |i+1,j=>if dnS L i i=true then dnS L i j else(dnS L i j||(decide (i<=j)&&aQ L i j))
def flS(L:List (List Nat))(i k j:Nat):Bool:=dnS L i j||(decide (i<=j)&&(decide (j<k)&&aQ L i j))
def grQ(ids:List Int)(L:List (List Nat))(i k:Nat):List Int:=((List.range' i (k-i)).filter (aQ L i)).map fun j=>ids.getD j 0
def oQ(ids:List Int)(L:List (List Nat)):Nat->List (List Int)
 |0=>[]
 |i+1=>if dnS L i i=true then oQ ids L i else oQ ids L i++[grQ ids L i ids.length]
theorem zlS(ids:List Int)(L:List (List Nat)):∀i,(oQ ids L i).length<=i
 |0=>jE _
 |i+1=>by
  have:=zlS ids L i
  unfold oQ
  split
  ·omega
  rw[jR,qR];omega
theorem zoV{ids:List Int}{L:List (List Nat)}{i k:Nat}(h:i<=k):grQ ids L i (k+1)=if aQ L i k=true then grQ ids L i k++[ids.getD k 0]else grQ ids L i k:=by
 unfold grQ
 have e:k+1-i=(k-i)+1:=by omega
 have e2:List.range' i ((k-i)+1)=List.range' i (k-i)++[k]:=by
  rw[List.range'_concat,Nat.one_mul,show i+(k-i)=k by omega]
 rw[e,e2,kV]
 split
 ·rename_i g
  rw[qA g,jT];rfl
 rename_i g
 rw[qF g];simp
theorem zoW(ids:List Int)(L:List (List Nat))(i:Nat):grQ ids L i i=[]:=by
 unfold grQ
 rw[kE];rfl
theorem zmC(ids:List Int)(L:List (List Nat))(i k:Nat):(grQ ids L i k).length<=k:=by
 unfold grQ
 rw[kO]
 have:=qD (aQ L i) (List.range' i (k-i))
 rw[List.length_range']at this;omega
theorem zmQ{L:List (List Nat)}:∀{i j:Nat},dnS L i j=true↔∃q,q<i/\q<=j/\aQ L q j=true
 |0,j=>⟨fun h=>(by cases h),fun⟨q,h,_⟩=>by omega⟩
 |i+1,j=>by
  have ih:=fun j=>zmQ (L:=L) (i:=i) (j:=j)
  unfold dnS
  by_cases h:dnS L i i=true
  ·rw[kH h,ih j]
   refine⟨fun⟨q,a,b,c⟩=>⟨q,by omega,b,c⟩,fun⟨q,a,b,c⟩=>?_⟩
   by_cases e:q=i
   ·subst e
    obtain⟨p,p1,p2,p3⟩:=(ih q).1 h
    exact⟨p,p1,by omega,zcm.2 fun ix hx=>(zcm.1 p3 ix hx).trans (zcm.1 c ix hx)⟩
   exact⟨q,by omega,b,c⟩
  rw[kG h,jX,ih j,jP,kX]
  constructor
  ·rintro(⟨q,a,b,c⟩|⟨a,b⟩)
   ·exact⟨q,by omega,b,c⟩
   exact⟨i,by omega,a,b⟩
  rintro⟨q,a,b,c⟩
  by_cases e:q=i
  ·subst e;exact .inr ⟨b,c⟩
  exact .inl ⟨q,by omega,b,c⟩
theorem zd4{ids:List Int}{L:List (List Nat)}{g:List Int}:∀{i:Nat},g∈oQ ids L i↔∃q,q<i/\dnS L q q=false/\g=grQ ids L q ids.length
 |0=>⟨fun h=>(by cases h),fun⟨q,h,_⟩=>by omega⟩
 |i+1=>by
  have ih:=zd4 (ids:=ids) (L:=L) (g:=g) (i:=i)
  unfold oQ
  split
  ·rename_i h
   rw[ih]
   refine⟨fun⟨q,a,b,c⟩=>⟨q,by omega,b,c⟩,fun⟨q,a,b,c⟩=>?_⟩
   by_cases e:q=i
   ·subst e;rw[h]at b;cases b
   exact⟨q,by omega,b,c⟩
  rename_i h
  rw[kL,kI,ih]
  constructor
  ·rintro(⟨q,a,b,c⟩|rfl)
   ·exact⟨q,by omega,b,c⟩
   exact⟨i,by omega,by simpa using h,rfl⟩
  rintro⟨q,a,b,c⟩
  by_cases e:q=i
  ·subst e;exact .inr c
  exact .inl ⟨q,by omega,b,c⟩
theorem zeh{ids:List Int}{L:List (List Nat)}{q:Nat}{x:Int}:x∈grQ ids L q ids.length↔∃j,q<=j/\j<ids.length/\aQ L q j=true/\x=ids.getD j 0:=by
 unfold grQ
 rw[kJ]
 constructor
 ·rintro⟨j,hj,rfl⟩
  obtain⟨h1,h2⟩:=kS.1 hj
  rw[List.mem_range'_1]at h1
  exact⟨j,h1.1,by omega,h2,rfl⟩
 rintro⟨j,a,b,c,rfl⟩
 exact⟨j,kS.2 ⟨List.mem_range'_1.2 ⟨a,by omega⟩,c⟩,rfl⟩
theorem zqi{ids:List Int}{L:List (List Nat)}{q:Nat}(hq:q<ids.length):(grQ ids L q ids.length).getD 0 0=ids.getD q 0:=by
 unfold grQ
 obtain⟨m,hm⟩:∃m,ids.length-q=m+1:=⟨ids.length-q-1,by omega⟩
 rw[hm,List.range'_succ,qA (zcm.2 fun _ _=>rfl)];rfl
theorem zuo{ids:List Int}(hl:ids.Pairwise (· < ·)){i j:Nat}(hij:i<j)(hj:j<ids.length):ids.getD i 0<ids.getD j 0:=by
 rw[hZ,hZ,kF (show i<ids.length by omega),kF hj]
 exact kN.1 hl i j _ hj hij
theorem ztY{ids:List Int}(hl:ids.Pairwise (· < ·)){L:List (List Nat)}{l:List (List (List Int))}(hY:∀i,i<ids.length->∀k,k<ids.length->yesB l (ids.getD i 0) (ids.getD k 0)=aQ L i k):Grp (yesB l) ids (oQ ids L ids.length):=by
 have sy:∀{i k:Nat},aQ L i k=true->aQ L k i=true:=fun h=>zcm.2 fun ix hx=>(zcm.1 h ix hx).symm
 have tr:∀{i j k:Nat},aQ L i j=true->aQ L j k=true->aQ L i k=true:=fun h1 h2=>zcm.2 fun ix hx=>(zcm.1 h1 ix hx).trans (zcm.1 h2 ix hx)
 have rf:∀i,aQ L i i=true:=fun i=>zcm.2 fun _ _=>rfl
 have ix:∀{x:Int},x∈ids->∃j,j<ids.length/\x=ids.getD j 0:=fun hx=>by
  obtain⟨j,hj,e⟩:=za4 (0:Int) hx
  exact⟨j,hj,e⟩
 have ld:∀{q k:Nat},dnS L q q=false->k<q->aQ L k q=true->False:=fun {q k} h hk ha=>by
  rw[zmQ.2 ⟨k,hk,by omega,ha⟩]at h;cases h
 refine⟨fun g hg=>?_,fun g hg=>?_,fun g hg x hx y=>?_,fun x hx=>?_,?_⟩
 ·obtain⟨q,hq,_,rfl⟩:=zd4.1 hg
  exact List.length_pos_of_mem (zeh.2 ⟨q,jE _,hq,rf q,rfl⟩)
 ·obtain⟨q,hq,_,rfl⟩:=zd4.1 hg
  unfold grQ
  have hp:((List.range' q (ids.length-q)).filter (aQ L q)).Pairwise (· < ·):=List.Pairwise.filter _ (List.pairwise_lt_range' (s:=q) (n:=ids.length-q))
  refine List.pairwise_map.2 (List.Pairwise.imp_of_mem (fun {a b} ha hb hab=>?_) hp)
  have hb:=List.mem_range'_1.1 (kS.1 hb).1
  exact zuo hl hab (by omega)
 ·obtain⟨q,hq,hd,rfl⟩:=zd4.1 hg
  obtain⟨j,j1,j2,j3,rfl⟩:=zeh.1 hx
  constructor
  ·intro hy
   obtain⟨k,k1,k2,k3,rfl⟩:=zeh.1 hy
   exact⟨gd1 k2 0,by rw[hY j j2 k k2];exact tr (sy j3) k3⟩
  rintro⟨hy,hyy⟩
  obtain⟨k,k2,rfl⟩:=ix hy
  rw[hY j j2 k k2]at hyy
  have ha:=tr j3 hyy
  refine zeh.2 ⟨k,?_,k2,ha,rfl⟩
  exact jL fun hh=>ld hd (by omega) (sy ha)
 ·obtain⟨j,hj,rfl⟩:=ix hx
  have key:∀m,∀q,q<m->aQ L q j=true->q<=j->∃p,p<=j/\aQ L p j=true/\dnS L p p=false:=by
   intro m
   induction m with
   |zero=>intro q hq;omega
   |succ m ih=>
   intro q hq ha hqj
   cases hd:dnS L q q with
   |false=>exact⟨q,hqj,ha,hd⟩
   |true=>
   obtain⟨p,p1,p2,p3⟩:=zmQ.1 hd
   exact ih p (by omega) (tr p3 ha) (by omega)
  obtain⟨p,p1,p2,p3⟩:=key (j+1) j (by omega) (rf j) (jE _)
  exact List.mem_flatten.2 ⟨_,zd4.2 ⟨p,by omega,p3,rfl⟩,zeh.2 ⟨j,p1,hj,p2,rfl⟩⟩
 have hd:∀i,i<=ids.length->Fst (oQ ids L i):=by
  intro i
  induction i with
  |zero=>intro _;exact .nil
  |succ i ih=>
  intro hi
  unfold oQ
  split
  ·exact ih (by omega)
  refine List.pairwise_append.2 ⟨ih (by omega),by simp,fun a ha b hb=>?_⟩
  rw[kI.1 hb,zqi (by omega)]
  obtain⟨q,hq,_,rfl⟩:=zd4.1 ha
  rw[zqi (by omega)]
  exact zuo hl hq (by omega)
 exact hd ids.length (jE _)
theorem zsQ{ids:List Int}(hn:ids.Nodup){L:List (List Nat)}(h0:0<L.length)(hL:∀ix∈L,Rg ix/\ix.length=ids.length){i k:Nat}(hi:i<ids.length)(hk:k<ids.length):yesB (L.map (setX ids)) (ids.getD i 0) (ids.getD k 0)=aQ L i k:=by
 have hne:L.map (setX ids)≠[]:=fun e=>by
  have:=jI List.length e
  rw[kO]at this
  have:L.length=0:=this
  omega
 rw[kQ,zcn hne]
 unfold aQ
 rw[jC]
 constructor
 ·intro h ix hx
  rw[<- zpI hn (hL ix hx).1 (hL ix hx).2 hi hk]
  exact h _ (kJ.2 ⟨ix,hx,rfl⟩)
 intro h p hp
 obtain⟨ix,hx,rfl⟩:=kJ.1 hp
 rw[zpI hn (hL ix hx).1 (hL ix hx).2 hi hk]
 exact h ix hx
theorem setBo{N k:Nat}{F G:Nat->Bool}(h:∀m,m<N->G m=if m=k then true else F m):D.eqv (.slc 1 N (storeRow (fun m _=>.bool (F m)) k 0 [.bool true])) (.slc 1 N fun m _=>.bool (G m)):=⟨rfl,.inr ⟨rfl,fun m hm j hj=>by
 obtain rfl:j=0:=by omega
 show D.eqv (if m=k/\0<=0/\0<0+1 then getD' [.bool true] 0 else .bool (F m)) (.bool (G m))
 rw[h m hm]
 by_cases e:m=k
 ·rw[kH ⟨e,jE _,by omega⟩,kH e];exact dE _
 rw[kG (fun hh=>e hh.1),kG e];exact dE _⟩⟩
abbrev rwB(n:Nat)(F:Nat->Bool):Ob:=.row 4 1 n fun m _=>.bool (F m)
theorem zqh{d:Day}(hd:dayE d=0)(h0:¬(btL d).length=0):grpR d=(oQ (sigL d.R) (btL d) (sigL d.R).length,0):=by
 have ok:=zaN hd
 have h7:=sig7 ok
 have eb:=zdf hd
 have el:(bsts d).length=(btL d).length:=by rw[eb,kO]
 have hL:∀ix∈btL d,Rg ix/\ix.length=(sigL d.R).length:=fun x hx=>zcN (kS.1 hx).1
 unfold grpR
 rw[kG (fun hh=>hh hd),kG (by rw[el];exact h0)]
 have l0:bsts d≠[]:=fun e=>h0 (by rw[<- el,e];rfl)
 have ld:∀p∈bsts d,divB (sigL d.R) p=true:=fun p hp=>((zru ok.lt _ p).1 (zcj hp)).1
 have hg:=zmB (zqy l0 ok.lt ld) ok.lt (sigL d.R).length (jE _)
 rw[jZ]at hg
 have ho:=ztY (l:=bsts d) ok.lt (L:=btL d) fun i hi k hk=>by
  rw[eb];exact zsQ ok.nod (by omega) hL hi hk
 rw[hg.uniq ho]
theorem zli(d:Day)(hn:d.R.length<=1000000):Spec PP 20 [d.v] [stR (grpR d).1 (grpR d).2]:=by
 have hB:=zfD d hn
 unfold btX at hB
 refine zb9 [23] Tryz.func20 rfl (by kernel_rfl) rfl ?_
 by_cases hd:dayE d=0
 case neg=>
  have e:grpR d=([],dayE d):=by unfold grpR;rw[kH hd]
  rw[kH hd]at hB
  rw[e]
  refine cR hB rfl rfl ?_
  refine sYe (by simpa using hd) ?_
  exact⟨rtC (a:=2) rfl rfl rfl rfl rfl rfl ⟨rfl,⟨rfl,rfl⟩,trivial⟩,trivial⟩
 rw[kG (fun hh=>hh hd)]at hB
 have ok:=zaN hd
 have h7:=sig7 ok
 have eb:=zdf hd
 have el:(bsts d).length=(btL d).length:=by rw[eb,kO]
 by_cases h0:(btL d).length=0
 ·have e:grpR d=([],9):=by unfold grpR;rw[kG (fun hh=>hh hd),kH (by rw[el];exact h0)]
  rw[kH h0]at hB
  rw[e]
  refine cR hB rfl rfl ?_
  refine sT ?_
  exact⟨rtC (a:=2) rfl rfl rfl rfl rfl rfl ⟨rfl,⟨rfl,rfl⟩,trivial⟩,trivial⟩
 rw[zqh hd h0]
 rw[kG h0]at hB
 have hL:∀ix∈btL d,ix.length=(sigL d.R).length:=fun x hx=>(zcN (kS.1 hx).1).2
 have hbl:(btL d).length<=1000000:=jM (zht _ _) (zg0 h7)
 have hID:=zdY d hn
 generalize btL d=L at*
 generalize sigL d.R=ids at*
 refine cR hB rfl rfl ?_
 refine sF ?_
 refine cR hID rfl rfl ?_
 refine⟨⟨by omega,rfl,by show ids.length*1<=16777216;omega,by show ids.length*1<=140737488355328;omega⟩,?_⟩
 refine lOf (σ:=Nat) (fun i=>([(2,.box 2 0),(3,.d (lNN L)),(5,.d (lI ids)),(6,.own 6),(7,.own 26),(8,.d (I i))],[(2,.box (List.replicate 2 .any)),(6,.row 22 1 (oQ ids L i).length (rowII (oQ ids L i))),(26,rwB ids.length (dnS L i))])) (fun i=>i<=ids.length) (fun i=>ids.length-i) 0
  ⟨rfl,⟨zaz rfl rfl,obR rfl ⟨rfl,.inl rfl⟩,obR rfl ⟨rfl,.inr ⟨rfl,fun m hm j hj=>?_⟩⟩,trivial⟩,wq rfl⟩ (jF _) fun i hi=>?_
 ·obtain rfl:j=0:=by omega
  exact dE _
 have hi:i<=ids.length:=hi
 have ol:=zlS ids L i
 apply bY<;>intro g0
 ·have gi:i<ids.length:=by have:((i:Nat):Int)<((ids.length:Nat):Int):=dT g0;omega
  refine⟨⟨by omega,(show((i:Nat):Int)<((ids.length:Nat):Int)by omega)⟩,?_⟩
  refine⟨(show i<ids.length from gi),?_⟩
  apply bY<;>intro g1
  ·have g1:dnS L i i=true:=g1
   refine⟨i6,?_⟩
   refine⟨i+1,⟨rfl,⟨zaz rfl rfl,obR rfl ?_,obR rfl ⟨rfl,.inr ⟨rfl,fun m hm j hj=>?_⟩⟩,trivial⟩,wq rfl⟩,gi,msr gi⟩
   ·rw[show oQ ids L (i+1)=oQ ids L i from kH g1];exact dE _
   obtain rfl:j=0:=by omega
   show D.eqv (.bool (dnS L i m)) (.bool (dnS L (i+1) m))
   rw[show dnS L (i+1) m=dnS L i m from kH g1];exact dE _
  have g1:dnS L i i=false:=g1
  refine lOf (σ:=Nat) (fun k=>([(2,.box 2 0),(3,.d (lNN L)),(5,.d (lI ids)),(6,.own 6),(7,.own 26),(8,.d (I i)),(9,.own 9),(10,.d (I k))],[(2,.box (List.replicate 2 .any)),(6,.row 22 1 (oQ ids L i).length (rowII (oQ ids L i))),(26,rwB ids.length (flS L i k)),(9,.row 3 1 (grQ ids L i k).length (rowI (grQ ids L i k)))])) (fun k=>i<=k/\k<=ids.length) (fun k=>ids.length-k) i
   ⟨rfl,⟨zaz rfl rfl,obR rfl (dE _),obR rfl ⟨rfl,.inr ⟨rfl,fun m hm j hj=>?_⟩⟩,obR rfl (by rw[zoW];exact⟨rfl,.inl rfl⟩),trivial⟩,wq rfl⟩ ⟨jE _,hi⟩ fun k hk=>?_
  ·obtain rfl:j=0:=by omega
   show D.eqv (.bool (dnS L i m)) (.bool (flS L i i m))
   have:flS L i i m=dnS L i m:=by
    unfold flS
    by_cases e:i<=m
    ·rw[jH (show ¬m<i by omega),qK,kW,qZ]
    rw[jH e,qK,qZ]
   rw[this];exact dE _
  obtain⟨k1,k2⟩:=hk
  have gl:=zmC ids L i k
  apply bY<;>intro h3
  ·have h3:k<ids.length:=by have:((k:Nat):Int)<((ids.length:Nat):Int):=dT h3;omega
   have gs:=zoV (ids:=ids) (L:=L) k1
   have fs:∀m,m<ids.length->flS L i (k+1) m=if m=k then(flS L i k m||aQ L i k)else flS L i k m:=fun m hm=>by
    unfold flS
    by_cases e:m=k
    ·subst e
     rw[kH rfl,jG k1,jG (show m<m+1 by omega),jH (Nat.lt_irrefl m)]
     simp
    rw[kG e,show decide (m<k+1)=decide (m<k)from qI.2 (by omega)]
   refine lOf (σ:=Nat) (fun n=>([(2,.box 2 0),(3,.d (lNN L)),(5,.d (lI ids)),(6,.own 6),(7,.own 26),(8,.d (I i)),(9,.own 9),(10,.d (I k)),(11,.d (.bool (aQK L n i k))),(12,.d (I n))],[(2,.box (List.replicate 2 .any)),(6,.row 22 1 (oQ ids L i).length (rowII (oQ ids L i))),(26,rwB ids.length (flS L i k)),(9,.row 3 1 (grQ ids L i k).length (rowI (grQ ids L i k)))])) (fun n=>n<=L.length) (fun n=>L.length-n) 0
    ⟨rfl,⟨zaz rfl rfl,obR rfl (dE _),obR rfl (dE _),obR rfl (dE _),trivial⟩,wq rfl⟩ (jF _) fun n hn'=>?_
   have hn':n<=L.length:=hn'
   apply bY<;>intro h4
   ·have h4:n<L.length:=by have:((n:Nat):Int)<((L.length:Nat):Int):=dT h4;omega
    have hx:=hL _ (gd1 h4 [])
    have es:aQK L (n+1) i k=(aQK L n i k&&samI i k (L.getD n [])):=by
     unfold aQK
     rw[zav h4 [],List.all_append];simp
    refine oN 19 ?_
    cases h5:aQK L n i k with
    |false=>
     repeat first|apply sT|apply sF
     refine⟨i6,?_⟩
     refine⟨n+1,⟨rfl,⟨zaz rfl rfl,obR rfl (dE _),obR rfl (dE _),obR rfl (dE _),trivial⟩,avQ rfl,avQ rfl,avQ rfl,avQ rfl,avQ rfl,avQ rfl,avQ rfl,avQ rfl,avBl rfl (by rw[es,h5];rfl),avQ rfl,trivial⟩,h4,msr h4⟩
    |true=>
    repeat first|apply sT|apply sF
    refine⟨⟨rfl,by omega,(show((n:Nat):Int)<((L.length:Nat):Int)by omega)⟩,?_⟩
    refine⟨⟨rfl,by omega,(show((i:Nat):Int)<(((L.getD n []).length:Nat):Int)by omega)⟩,?_⟩
    refine⟨⟨rfl,by omega,(show((n:Nat):Int)<((L.length:Nat):Int)by omega)⟩,?_⟩
    refine⟨⟨rfl,by omega,(show((k:Nat):Int)<(((L.getD n []).length:Nat):Int)by omega)⟩,?_⟩
    repeat first|apply sT|apply sF
    refine⟨i6,?_⟩
    refine⟨n+1,⟨rfl,⟨zaz rfl rfl,obR rfl (dE _),obR rfl (dE _),obR rfl (dE _),trivial⟩,avQ rfl,avQ rfl,avQ rfl,avQ rfl,avQ rfl,avQ rfl,avQ rfl,avQ rfl,avBl rfl ?_,avQ rfl,trivial⟩,h4,msr h4⟩
    rw[es,h5,qE]
    unfold samI
    show(((((L.getD n []).getD i 0:Nat):Int))==((((L.getD n []).getD k 0:Nat):Int)))=((L.getD n []).getD i 0==(L.getD n []).getD k 0)
    rw[kQ,jai,jai]
    omega
   have h4:n=L.length:=by have:¬((n:Nat):Int)<((L.length:Nat):Int):=dF h4;omega
   subst h4
   have ea:aQK L L.length i k=aQ L i k:=by unfold aQK aQ;rw[jZ]
   rw[ea]
   apply bY<;>intro h5
   ·have h5:aQ L i k=true:=h5
    refine⟨⟨by omega,(show((k:Nat):Int)<((ids.length:Nat):Int)by omega)⟩,?_⟩
    refine⟨(show k<ids.length from h3),?_⟩
    refine⟨⟨rfl,by omega,(show((k:Nat):Int)<((ids.length:Nat):Int)by omega)⟩,?_⟩
    refine⟨⟨.inr rfl,(show(grQ ids L i k).length+1<=maxLen by unfold maxLen;omega),(show((grQ ids L i k).length+1)*8<=140737488355328 by omega)⟩,?_⟩
    refine⟨i6,?_⟩
    refine⟨k+1,⟨rfl,⟨zaz rfl rfl,obR rfl (dE _),obR rfl (setBo fun m hm=>?_),obR rfl ?_,trivial⟩,wq rfl⟩,⟨by omega,h3⟩,msr h3⟩
    ·show flS L i (k+1) m=if m=k then true else flS L i k m
     rw[fs m hm,h5,k9]
    rw[gs,kH h5]
    exact zlu rfl
   have h5:aQ L i k=false:=h5
   refine⟨i6,?_⟩
   refine⟨k+1,⟨rfl,⟨zaz rfl rfl,obR rfl (dE _),obR rfl ⟨rfl,.inr ⟨rfl,fun m hm j hj=>?_⟩⟩,obR rfl ?_,trivial⟩,wq rfl⟩,⟨by omega,h3⟩,msr h3⟩
   ·obtain rfl:j=0:=by omega
    show D.eqv (.bool (flS L i k m)) (.bool (flS L i (k+1) m))
    have:flS L i (k+1) m=flS L i k m:=by
     rw[fs m hm,h5,qZ];split<;>rfl
    rw[this];exact dE _
   rw[gs,kG (by rw[h5];decide)];exact dE _
  have h3:k=ids.length:=by have:¬((k:Nat):Int)<((ids.length:Nat):Int):=dF h3;omega
  subst h3
  refine kAt [(2,.box 2 0),(3,.d (lNN L)),(5,.d (lI ids)),(6,.own 6),(7,.own 26),(8,.d (I i)),(9,.d (lI (grQ ids L i ids.length)))] [(2,.box (List.replicate 2 .any)),(6,.row 22 1 (oQ ids L i).length (rowII (oQ ids L i))),(26,rwB ids.length (flS L i ids.length))]
   ⟨rfl,⟨zaz rfl rfl,obR rfl (dE _),obR rfl (dE _),trivial⟩,avQ rfl,avQ rfl,avQ rfl,avQ rfl,avQ rfl,avQ rfl,avOw rfl rfl rfl (dE _),trivial⟩ ?_
  refine⟨⟨.inr rfl,(show(oQ ids L i).length+1<=maxLen by unfold maxLen;omega),(show((oQ ids L i).length+1)*24<=140737488355328 by omega)⟩,?_⟩
  refine⟨i6,?_⟩
  refine⟨i+1,⟨rfl,⟨zaz rfl rfl,obR rfl ?_,obR rfl ⟨rfl,.inr ⟨rfl,fun m hm j hj=>?_⟩⟩,trivial⟩,wq rfl⟩,gi,msr gi⟩
  ·rw[show oQ ids L (i+1)=oQ ids L i++[grQ ids L i ids.length]from kG (by rw[g1];decide)]
   exact zgJ rfl (dE _)
  obtain rfl:j=0:=by omega
  have hm:m<ids.length:=hm
  show D.eqv (.bool (flS L i ids.length m)) (.bool (dnS L (i+1) m))
  have e2:dnS L (i+1) m=(dnS L i m||(decide (i<=m)&&aQ L i m)):=kG (by rw[g1];decide)
  have:flS L i ids.length m=dnS L (i+1) m:=by
   rw[e2]
   unfold flS
   rw[jG hm,qE]
  rw[this];exact dE _
 have gi:i=ids.length:=by have:¬((i:Nat):Int)<((ids.length:Nat):Int):=dF g0;omega
 subst gi
 exact⟨rtC (a:=2) rfl rfl rfl rfl rfl rfl ⟨dE _,⟨rfl,rfl⟩,trivial⟩,trivial⟩
theorem zoH{f:Place->Int}{a b:List Place}(ha:a.Pairwise fun p q=>f p<f q)(hb:b.Pairwise fun p q=>f p<f q)(hm:∀p,p∈a↔p∈b):a=b:=by
 have nd:∀{l:List Place},(l.Pairwise fun p q=>f p<f q)->l.Nodup:=fun {l} hl=>hl.imp fun {p q} hab e=>by subst e;omega
 have hp:a.Perm b:=by
  rw[List.perm_iff_count]
  intro x
  rw[List.Nodup.count (nd ha),List.Nodup.count (nd hb)]
  by_cases e:x∈a
  ·rw[kH e,kH ((hm x).1 e)]
  rw[kG e,kG fun hh=>e ((hm x).2 hh)]
 exact List.Perm.eq_of_pairwise (le:=fun p q:Place=>p=q\/f p<f q) (fun p q _ _ h3 h4=>by
  rcases h3 with h3|h3
  ·exact h3
  rcases h4 with h4|h4
  ·exact h4.symm
  omega) (ha.imp fun hab=>.inr hab) (hb.imp fun hab=>.inr hab) hp
def keyP(p:Place):Int:=p.Y*49+p.X
def m49:Mp:=⟨49,49,[]⟩
theorem zrB{m:Mp}(hw:m.w<=49){i j:Nat}(h:i<j)(hj:j<m.w*m.h):keyP (plc m i)<keyP (plc m j):=by
 have h0:0<m.w:=Nat.pos_of_ne_zero fun e=>by rw[e,Nat.zero_mul]at hj;omega
 have h1:=jau i h0
 have h2:=jau j h0
 have h3:i/m.w<=j/m.w:=Nat.div_le_div_right (Nat.le_of_lt h)
 have h4:=ja0 i m.w
 have h5:=ja0 j m.w
 unfold keyP plc
 show(((i/m.w:Nat):Int))*49+((i%m.w:Nat):Int)<(((j/m.w:Nat):Int))*49+((j%m.w:Nat):Int)
 generalize hq:i/m.w=q at*
 generalize hr:i%m.w=r at*
 generalize hq2:j/m.w=q2 at*
 generalize hr2:j%m.w=r2 at*
 rcases Nat.lt_or_eq_of_le h3 with g|g
 ·omega
 rw[g]at h4;omega
theorem zlx{m:Mp}(hw:m.w<=49)(P:Nat->Bool):(plsL m P).Pairwise fun p q=>keyP p<keyP q:=by
 unfold plsL plsK
 have hp:((List.range (m.w*m.h)).filter P).Pairwise (· < ·):=List.Pairwise.filter _ List.pairwise_lt_range
 refine List.pairwise_map.2 (List.Pairwise.imp_of_mem (fun {a b} ha hb hab=>?_) hp)
 exact zrB hw hab (kK.1 (kS.1 hb).1)
theorem zp0{m:Mp}{S:List Place}{p:Place}(hS:∀q∈S,onM m q=true):p∈plsL m (fun n=>decide (plc m n∈S))↔p∈S:=by
 unfold plsL plsK
 rw[kJ]
 constructor
 ·rintro⟨n,hn,rfl⟩
  exact kU (kS.1 hn).2
 intro hp
 obtain⟨n,hn,e⟩:=ztT (hS p hp)
 exact⟨n,kS.2 ⟨kK.2 hn,jG (by rw[e];exact hp)⟩,e⟩
theorem ztI{m:Mp}(hv:validM m=true){S:List Place}(hS:∀q∈S,onM m q=true):plsL m49 (fun n=>decide (plc m49 n∈S))=plsL m (fun n=>decide (plc m n∈S)):=by
 obtain⟨bw,bh,-,-⟩:=zaf hv
 have hS2:∀q∈S,onM m49 q=true:=fun q hq=>by
  obtain⟨⟨h1,h2⟩,h3,h4⟩:=zad.1 (hS q hq)
  exact zad.2 ⟨⟨h1,by show q.X<49;omega⟩,h3,by show q.Y<49;omega⟩
 refine zoH (f:=keyP) (zlx (by decide) _) (zlx (by show m.W.toNat<=49;omega) _) fun p=>?_
 rw[zp0 hS2,zp0 hS]
theorem zrz{d:Day}{s:List Int}(h:DayOk d):∀q∈plsD d s,onM d.s.c.M q=true:=fun q hq=>by
 unfold plsD at hq
 split at hq
 ·unfold plcR at hq
  split at hq
  ·cases hq
  exact ztG (zcl h.s).c.m q hq
 cases hq
def mAt(k:Nat)(ix:List Nat):Nat:=(bitX ix).getD (ix.getD k 0) 0
theorem zl0{ix:List Nat}(hr:Rg ix){k:Nat}(hk:k<ix.length):ix.getD k 0<(bitX ix).length:=by
 have h1:=zbI (i:=k) hk (jE _)
 rwa [<- zba hr _ (jE _)]at h1
theorem zl1{ix:List Nat}(hr:Rg ix){k:Nat}(hk:k<ix.length){q:Nat}(hq:q<(bitX ix).length):((bitX ix).getD q 0).testBit k=(ix.getD k 0==q):=by
 have:=zhm hr ix.length (jE _) q hq k
 rw[jG hk,qE]at this
 exact this
theorem zlZ{ids:List Int}(hn:ids.Nodup){ix:List Nat}(hr:Rg ix)(hl:ix.length=ids.length){k:Nat}(hk:k<ids.length):ids.getD k 0∈memb ids (mAt k ix):=by
 rw[zbu hn hk]
 unfold mAt
 rw[zl1 hr (by omega) (zl0 hr (by omega)),jaH]
theorem zs5{d:Day}{ids:List Int}(hn:ids.Nodup){ix:List Nat}(hr:Rg ix)(hl:ix.length=ids.length){k:Nat}(hk:k<ids.length){q:Place}:stnB d (ids.getD k 0) q (setX ids ix)=true↔q∈plsD d (memb ids (mAt k ix)):=by
 rw[zqT]
 unfold setX
 constructor
 ·rintro⟨s,hs,h1,h2⟩
  obtain⟨m,hm,rfl⟩:=kJ.1 hs
  obtain⟨j,hj,rfl⟩:=za4 (0:Nat) hm
  have h1:=(zbu hn hk).1 (kD.1 h1)
  rw[zl1 hr (by omega) hj]at h1
  have h1:ix.getD k 0=j:=by simpa using h1
  unfold mAt
  rw[h1];exact h2
 intro h
 exact⟨_,kJ.2 ⟨_,gd1 (zl0 hr (by omega)) 0,rfl⟩,kD.2 (zlZ hn hr hl hk),h⟩
def tlK(d:Day)(ids:List Int)(k:Nat)(ix:List Nat):List Place:=tldL d (memb ids (mAt k ix))
theorem zkS{d:Day}(h:DayOk d){ix:List Nat}(hr:Rg ix)(hl:ix.length=(sigL d.R).length){k:Nat}(hk:k<(sigL d.R).length):tlK d (sigL d.R) k ix=plsD d (memb (sigL d.R) (mAt k ix)):=by
 refine zkR h ?_
 obtain⟨r,hr2,e⟩:=ziK (ziJ.1 (gd1 hk (0:Int)))
 refine kM.2 ⟨r,hr2,kD.2 ?_⟩
 rw[e]
 exact zlZ h.nod hr hl hk
theorem zs6{d:Day}(hd:dayE d=0){k:Nat}(hk:k<(sigL d.R).length){S:List Place}(hS:∀q,q∈S↔∃ix∈bstX (fitX d) (sigL d.R).length,q∈tlK d (sigL d.R) k ix):
  plsL d.s.c.M (staB d ((sigL d.R).getD k 0))=plsL m49 (fun n=>decide (plc m49 n∈S)):=by
 have h:=zaN hd
 have hL:∀ix∈bstX (fitX d) (sigL d.R).length,Rg ix/\ix.length=(sigL d.R).length:=fun x hx=>zcN (kS.1 hx).1
 have hon:∀q∈S,onM d.s.c.M q=true:=fun q hq=>by
  obtain⟨ix,hx,hq⟩:=(hS q).1 hq
  rw[zkS h (hL ix hx).1 (hL ix hx).2 hk]at hq
  exact zrz h q hq
 rw[ztI (zcl h.s).c.m hon]
 congr 1
 funext n
 unfold staB
 rw[zdf hd,kQ,kX,hS,List.any_map,kM]
 refine exists_congr fun ix=>and_congr_right fun hx=>?_
 rw[Function.comp_apply,zs5 h.nod (hL ix hx).1 (hL ix hx).2 hk,zkS h (hL ix hx).1 (hL ix hx).2 hk]
abbrev plR(l:List Place)(e:Int):V1:=.agg [lP l,I e]
abbrev gK(S:List Place)(k:Nat):List Place:=plsK m49 (fun n=>decide (plc m49 n∈S)) k
theorem zlg(d:Day)(id:Int)(hn:d.R.length<=1000000):Spec PP 21 [d.v,N id] [plR (staR d id).1 (staR d id).2]:=by
 have hB:=zfD d hn
 unfold btX at hB
 refine sA Tryz.func21 ?_
 refine cP (ziS d hn) rfl rfl ?_
 apply bY<;>intro h0
 ·have e:staR d id=([],dayE d):=by unfold staR;rw[kH (by simpa using h0)]
  rw[e]
  exact⟨rtC (a:=4) rfl rfl rfl rfl rfl rfl ⟨rfl,⟨rfl,rfl⟩,trivial⟩,trivial⟩
 have hd:dayE d=0:=by simpa using h0
 rw[kG (fun hh=>hh hd)]at hB
 have ok:=zaN hd
 have h7:=sig7 ok
 have hI:=zn6 (sigL d.R) id (by omega)
 refine cR (zdY d hn) rfl rfl ?_
 by_cases hc:(sigL d.R).contains id=true
 case neg=>
  have hc:(sigL d.R).contains id=false:=by simpa using hc
  have e:staR d id=([],5):=by unfold staR;rw[kG (fun hh=>hh hd),kH hc]
  rcases idxL_cases (· ==id) (sigL d.R) 0 with⟨e1,-⟩|⟨i,hi,e1,e2,-⟩
  ·rw[e1]at hI
   rw[e]
   refine cP hI rfl rfl ?_
   refine sT ?_
   exact⟨rtC (a:=4) rfl rfl rfl rfl rfl rfl ⟨rfl,⟨rfl,rfl⟩,trivial⟩,trivial⟩
  have:=gd1 hi (0:Int)
  rw[eq_of_beq e2,<- kD,hc]at this
  cases this
 obtain⟨at',hat,e1,rfl⟩:=zuh hc
 rw[e1]at hI
 refine cP hI rfl rfl ?_
 refine sNo (jH (by omega)) ?_
 have eb:=zdf hd
 have el:(bsts d).length=(btL d).length:=by rw[eb,kO]
 by_cases g0:(btL d).length=0
 ·have e:staR d ((sigL d.R).getD at' 0)=([],9):=by unfold staR;rw[kG (fun hh=>hh hd),kG (by rw[hc];decide),kH (by rw[el];exact g0)]
  rw[kH g0]at hB
  rw[e]
  refine cR hB rfl rfl ?_
  refine sT ?_
  exact⟨rtC (a:=4) rfl rfl rfl rfl rfl rfl ⟨rfl,⟨rfl,rfl⟩,trivial⟩,trivial⟩
 have e:staR d ((sigL d.R).getD at' 0)=(plsL d.s.c.M (staB d ((sigL d.R).getD at' 0)),0):=by unfold staR;rw[kG (fun hh=>hh hd),kG (by rw[hc];decide),kG (by rw[el];exact g0)]
 rw[kG g0]at hB
 rw[e]
 have hbR:Rgs (btL d):=fun x hx=>zjq h7 x (kS.1 hx).1
 have hL:∀ix∈btL d,Rg ix/\ix.length=(sigL d.R).length:=fun x hx=>zcN (kS.1 hx).1
 have hbl:(btL d).length<=1000000:=jM (zht _ _) (zg0 h7)
 have hpl:∀ix∈btL d,(tlK d (sigL d.R) at' ix).length<=2401:=fun ix hx=>by
  rw[zkS ok (hL ix hx).1 (hL ix hx).2 hat];exact zi4 d _
 refine cR hB rfl rfl ?_
 refine sF ?_
 refine lOf (σ:=Nat×List Place) (fun x=>([(2,.box 2 0),(4,.box 4 0),(6,.d (lI (sigL d.R))),(7,.d (I at')),(8,.d (lNN (btL d))),(9,.own 40),(10,.d (I x.1))],[(2,bxDy d),(4,.box (List.replicate 2 .any)),(40,mpPl x.2)])) (fun x=>x.1<=(btL d).length/\∀q,q∈x.2↔∃ix∈(btL d).take x.1,q∈tlK d (sigL d.R) at' ix) (fun x=>(btL d).length-x.1) (0,[])
  ⟨rfl,⟨obD d.ds rfl,zaz rfl rfl,obMp rfl ⟨rfl,rfl,fun j hj=>absurd hj (qJ _)⟩,trivial⟩,wq rfl⟩ ⟨jF _,by simp⟩ fun x hx=>?_
 obtain⟨i,S⟩:=x
 obtain⟨hi,hS⟩:=hx
 have hi:i<=(btL d).length:=hi
 have hS:∀q,q∈S↔∃ix∈(btL d).take i,q∈tlK d (sigL d.R) at' ix:=hS
 apply bY<;>intro k1
 ·have k1:i<(btL d).length:=by have:((i:Nat):Int)<(((btL d).length:Nat):Int):=dT k1;omega
  have hx:=gd1 k1 ([]:List Nat)
  obtain⟨hrg,hln⟩:=hL _ hx
  have hm:=zl0 hrg (k:=at') (by omega)
  have hq:=hpl _ hx
  have hm2:mAt at' ((btL d).getD i [])<128:=by
   have:mAt at' ((btL d).getD i [])<2^((btL d).getD i []).length:=(zaT _ _ _ (gd1 hm 0)).2
   have h2:2^((btL d).getD i []).length<=128:=jM (jah (j:=7) (by decide) (by omega)) (by decide)
   omega
  refine oN 20 ?_
  refine⟨⟨rfl,by omega,(show((i:Nat):Int)<(((btL d).length:Nat):Int)by omega)⟩,?_⟩
  refine oRo (zby ((btL d).getD i []) hrg (by omega)) rfl rfl ?_
  refine⟨⟨rfl,by omega,(show((i:Nat):Int)<(((btL d).length:Nat):Int)by omega)⟩,?_⟩
  refine⟨⟨rfl,by omega,(show((at':Nat):Int)<((((btL d).getD i []).length:Nat):Int)by omega)⟩,?_⟩
  refine⟨⟨rfl,(show(0:Int)<=((((btL d).getD i []).getD at' 0:Nat):Int)by omega),(show((((btL d).getD i []).getD at' 0:Nat):Int)<(((bitX ((btL d).getD i [])).length:Nat):Int)by omega)⟩,?_⟩
  refine oRo (zdX (sigL d.R) (mAt at' ((btL d).getD i [])) h7 hm2) rfl rfl ?_
  refine oRo (zld ok (memb (sigL d.R) (mAt at' ((btL d).getD i []))) (jM (zbl _ _ _) (by omega))) rfl rfl ?_
  generalize hQ:tlK d (sigL d.R) at' ((btL d).getD i [])=Q at*
  have hQ2:tldL d (memb (sigL d.R) (mAt at' ((btL d).getD i [])))=Q:=hQ
  refine lOf (σ:=Nat×List Place) (fun x=>([(2,.box 2 0),(4,.box 4 0),(6,.d (lI (sigL d.R))),(7,.d (I at')),(8,.d (lNN (btL d))),(9,.own 40),(10,.d (I i)),(11,.d (lP Q)),(12,.d (I x.1))],[(2,bxDy d),(4,.box (List.replicate 2 .any)),(40,mpPl x.2)])) (fun x=>x.1<=Q.length/\∀q,q∈x.2↔q∈S\/q∈Q.take x.1) (fun x=>Q.length-x.1) (0,S)
   ⟨rfl,⟨obD d.ds rfl,zaz rfl rfl,obMp rfl (dE _),trivial⟩,avQ rfl,avQ rfl,avQ rfl,avQ rfl,avQ rfl,avQ rfl,avQ rfl,avE rfl (by rw[hQ2];exact dE _),avQ rfl,trivial⟩ ⟨jF _,fun q=>by simp⟩ fun x hx=>?_
  obtain⟨m,W⟩:=x
  obtain⟨hm,hW⟩:=hx
  have hm:m<=Q.length:=hm
  have hW:∀q,q∈W↔q∈S\/q∈Q.take m:=hW
  apply bY<;>intro k4
  ·have k4:m<Q.length:=by have:((m:Nat):Int)<((Q.length:Nat):Int):=dT k4;omega
   refine⟨⟨rfl,by omega,by omega⟩,?_⟩
   refine⟨⟨kPl,rfl⟩,?_⟩
   refine⟨i6,?_⟩
   refine⟨(m+1,putPl W (Q.getD m default)),⟨rfl,⟨obD d.ds rfl,zaz rfl rfl,obMp rfl (zpU W (Q.getD m default)),trivial⟩,wq rfl⟩,⟨k4,fun q=>?_⟩,msr k4⟩
   show q∈putPl W (Q.getD m default)↔q∈S\/q∈Q.take (m+1)
   rw[zgI,hW,zav k4 default,kL,kI,or_assoc]
  have k4:m=Q.length:=by have:¬((m:Nat):Int)<((Q.length:Nat):Int):=dF k4;omega
  subst k4
  refine⟨i6,?_⟩
  refine⟨(i+1,W),⟨rfl,⟨obD d.ds rfl,zaz rfl rfl,obMp rfl (dE _),trivial⟩,wq rfl⟩,⟨k1,fun q=>?_⟩,msr k1⟩
  show q∈W↔∃ix∈(btL d).take (i+1),q∈tlK d (sigL d.R) at' ix
  rw[hW,jZ,hS,zav k1 []]
  constructor
  ·rintro(⟨r,hr,g⟩|g)
   ·exact⟨r,kL.2 (.inl hr),g⟩
   exact⟨_,kL.2 (.inr (kI.2 rfl)),by rw[hQ];exact g⟩
  rintro⟨r,hr,g⟩
  rcases kL.1 hr with hr|hr
  ·exact .inl ⟨r,hr,g⟩
  rw[kI.1 hr,hQ]at g;exact .inr g
 have k1:i=(btL d).length:=by have:¬((i:Nat):Int)<(((btL d).length:Nat):Int):=dF k1;omega
 subst k1
 rw[jZ]at hS
 rw[zs6 hd hat hS]
 refine lOf (σ:=Nat) (fun y=>([(2,.box 2 0),(4,.box 4 0),(9,.own 40),(13,.own 13),(14,.d (I y))],[(2,bxDy d),(4,.box (List.replicate 2 .any)),(40,mpPl S),(13,.row 60 2 (gK S (y*49)).length (rowP (gK S (y*49))))])) (fun y=>y<=49) (fun y=>49-y) 0
  ⟨rfl,⟨obD d.ds rfl,zaz rfl rfl,obMp rfl (dE _),obR rfl ⟨rfl,.inl rfl⟩,trivial⟩,wq rfl⟩ (jF _) fun y hy=>?_
 have hy:y<=49:=hy
 apply bY<;>intro m1
 ·have m1:y<49:=by have:((y:Nat):Int)<=48:=dT m1;omega
  refine lOf (σ:=Nat) (fun x=>([(2,.box 2 0),(4,.box 4 0),(9,.own 40),(13,.own 13),(14,.d (I y)),(15,.d (I x))],[(2,bxDy d),(4,.box (List.replicate 2 .any)),(40,mpPl S),(13,.row 60 2 (gK S (y*49+x)).length (rowP (gK S (y*49+x))))])) (fun x=>x<=49) (fun x=>49-x) 0
   ⟨rfl,⟨obD d.ds rfl,zaz rfl rfl,obMp rfl (dE _),obR rfl (dE _),trivial⟩,wq rfl⟩ (jF _) fun x hx=>?_
  have hx:x<=49:=hx
  apply bY<;>intro m2
  ·have m2:x<49:=by have:((x:Nat):Int)<=48:=dT m2;omega
   have ep:plc m49 (y*49+x)=⟨(x:Int),(y:Int)⟩:=zi5 (m:=m49) m2
   have yes:=zcH (m:=m49) (P:=fun n=>decide (plc m49 n∈S)) (k:=y*49+x)
   have no:=zd2 (m:=m49) (P:=fun n=>decide (plc m49 n∈S)) (k:=y*49+x)
   have hlen:(gK S (y*49+x)).length<=y*49+x:=zbH m49 _ _
   rw[ep]at yes no
   refine⟨⟨kPl,rfl⟩,.bool (decide ((⟨(x:Int),(y:Int)⟩:Place)∈S)),D.eqv_of_eq (zt7 S ⟨(x:Int),(y:Int)⟩),?_⟩
   apply bY<;>intro m3
   ·refine⟨⟨.inr rfl,by unfold maxLen;omega,by show((gK S (y*49+x)).length+1)*16<=140737488355328;omega⟩,?_⟩
    refine⟨i6,?_⟩
    refine⟨x+1,⟨rfl,⟨obD d.ds rfl,zaz rfl rfl,obMp rfl (dE _),obR rfl ?_,trivial⟩,wq rfl⟩,m2,msr m2⟩
    rw[<- jaz,show gK S (y*49+x+1)=_ from yes m3]
    exact zkb (at2 rfl rfl)
   refine⟨i6,?_⟩
   refine⟨x+1,⟨rfl,⟨obD d.ds rfl,zaz rfl rfl,obMp rfl (dE _),obR rfl ?_,trivial⟩,wq rfl⟩,m2,msr m2⟩
   rw[<- jaz,show gK S (y*49+x+1)=_ from no m3];exact dE _
  have m2:x=49:=by have:¬((x:Nat):Int)<=48:=dF m2;omega
  subst m2
  refine⟨i6,?_⟩
  refine⟨y+1,⟨rfl,⟨obD d.ds rfl,zaz rfl rfl,obMp rfl (dE _),obR rfl ?_,trivial⟩,wq rfl⟩,m1,msr m1⟩
  rw[Nat.succ_mul];exact dE _
 have m1:y=49:=by have:¬((y:Nat):Int)<=48:=dF m1;omega
 subst m1
 exact⟨rtC (a:=4) rfl rfl rfl rfl rfl rfl ⟨dE _,⟨rfl,rfl⟩,trivial⟩,trivial⟩
end Go.Pg
