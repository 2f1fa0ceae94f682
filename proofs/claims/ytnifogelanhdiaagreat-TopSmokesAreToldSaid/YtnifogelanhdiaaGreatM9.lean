/- Lemmas, joined by program. -/
import Derived.Test.YtnifogelanhdiaaGreatM8
import Derived.MapFrom
import Derived.Shelf.Sort.Plain
import Derived.Shelf.Slices.In.SortNone
import Derived.Shelf.Bits.Mul64
import Derived.Shelf.SlicesG.Delete
import Derived.Shelf.SlicesQ.Reverse
set_option maxHeartbeats 4000000
set_option linter.all false
set_option maxRecDepth 100000
namespace Go.Pg
open Go.Proofs Go.RowKit Go.Sort Go.Shelf
theorem ord_cases (a b:Int):(ord a b = -1/\a<b) \/ (ord a b=1/\b<a) \/ (ord a b=0/\a=b):=by
 unfold ord
 by_cases h1:a<b
 ·exact .inl ⟨kH h1,h1⟩
 by_cases h2:b<a
 ·exact .inr (.inl ⟨by rw[kG h1,kH h2],h2⟩)
 exact .inr (.inr ⟨by rw[kG h1,kG h2],by omega⟩)
theorem zrk (a b:Int):decide (ord a b<0)=decide (a<b):=by
 apply wF.2
 rcases ord_cases a b with⟨e,h⟩ | ⟨e,h⟩ | ⟨e,h⟩ <;> rw[e] <;> omega
theorem SpecR.congr {P:Program} {f:FuncId} {pre post res:List V1} {e k n:Nat} {g0 g g1 g':Nat->Nat->D} (h:SpecR P f pre post e k n g0 g1 res) (he:∀ m,m<n -> ∀ j,j<k->g m j=g0 m j) (he':∀ m,m<n -> ∀ j,j<k->g' m j=g1 m j):SpecR P f pre post e k n g g' res:=
 ⟨h.1,fun w ok vs us v xs h1 h2 h3 hr=>(h.2 w ok vs us v xs h1 h2 h3 ⟨hr.own,hr.one,fun m hm j hj=>by rw[<- he m hm j hj]; exact hr.rep m hm j hj,hr.sep⟩).mono fun en w' ⟨r,e1,e2,e3,xs',e4,e5,e6⟩=>⟨r,e1,e2,e3,xs',e4,e5,fun m hm j hj=>by rw[he' m hm j hj]; exact e6 m hm j hj⟩⟩
section
variable {α:Type} [Inhabited α] {k:Nat} (A:Ints α k)
def Ints.on (L:List α):Ints {x // x∈L} k where
  lst p:=A.lst p.1
  len p:=A.len p.1
  at_ p:=A.at_ p.1
  hat p j hj:=A.hat p.1 j hj
theorem zon (L:List α) [Inhabited {x // x∈L}] (l:List {x // x∈L}):∀ m,m<l.length -> ∀ j,j<k->A.row (l.map (·.1)) m j=(A.on L).row l m j:=fun m hm j _=>by
 show A.at_ ((l.map (·.1)).getD m default) j=A.at_ (l.getD m default).1 j
 rw[hU,hU,jU,kF hm]
 rfl
theorem zg4 {P:Program} {ρ:Ren} (S:SlLaysF0.n6 P ρ) (hent:Ent P (ρ.f 6)) (aE:∀ w,(isAgg (ρ.t 24)).run P w = .ok true w) (zE:∀ w,(Go.sizeOf (ρ.t 24)).run P w = .ok k w)
  (key:α->Int) (L:List α) (hL:L ≠ []) (hk:∀ x∈L,∀ y∈L,key x=key y->x=y) (g:FuncId)
  (hc:∀ x∈L,∀ y∈L,SpecD P g [.agg ((A.lst x).map (D.int .i64)),.agg ((A.lst y).map (D.int .i64))] [.d (.int .i64 (ord (key x) (key y)))]) (e:TypeId) (hn:L.length<=1000000) :
  SpecR P (ρ.f 6) [] [.d (.fn g)] e k L.length (A.row L) (A.row (L.mergeSort fun x y=>decide (key x<=key y))) []:=by
 haveI:Inhabited {x // x∈L}:=⟨⟨L.head hL,List.head_mem hL⟩⟩
 have hlt:∀ x y:{x // x∈L},ltOf (fun x y:{x // x∈L}=>ord (key x.1) (key y.1)) x y=decide (key x.1<key y.1):=fun x y=>zrk _ _
 have hO:SWO (ltOf fun x y:{x // x∈L}=>ord (key x.1) (key y.1)):=⟨fun x=>by rw[hlt]; simp,fun x y z h1 h2=>by rw[hlt] at *; simp only[kA] at *; omega,fun x y z h1 h2=>by rw[hlt] at *; simp only[jae] at *; omega⟩
 have h:=zje (A.on L) S hent aE zE (fun x y=>ord (key x.1) (key y.1)) hO (fun x y h1 h2=>by
  rw[hlt] at h1 h2
  simp only[jae] at h1 h2
  exact Subtype.ext (hk x.1 x.2 y.1 y.2 (by omega))) g (fun x y=>hc x.1 x.2 y.1 y.2) e L.attach (by rw[jbn]; exact hn)
 rw[jbn] at h
 refine h.congr (fun m hm j hj=>?_) (fun m hm j hj=>?_)
 ·rw[<- zon A L L.attach m (by rw[jbn]; exact hm) j hj,List.attach_map_subtype_val]
 rw[<- zon A L _ m (by rw[kY,jbn]; exact hm) j hj,List.map_mergeSort (s:=fun x y=>decide (key x<=key y)) (fun a _ b _=>by rw[hlt,kO]; simp),List.attach_map_subtype_val]
end
def ThI:Ints Thg 9 where
  lst x:=[x.k.ID,x.k.C,x.k.Tick,x.k.Mark.X,x.k.Mark.Y,x.k.Shown,x.k.Slack,x.s.Lo,x.s.Hi]
  len _:=rfl
  at_ x:=x.at
  hat x j hj:=by
    match j,hj with
    | 0,_=>rfl
    | 1,_=>rfl
    | 2,_=>rfl
    | 3,_=>rfl
    | 4,_=>rfl
    | 5,_=>rfl
    | 6,_=>rfl
    | 7,_=>rfl
    | 8,_=>rfl
theorem zlM (x y:Thg):SpecD PP 183 [x.v,y.v] [N (ord x.k.ID y.k.ID)]:=by
 refine zbw Tryz.func183 rfl (by kernel_rfl) rfl ?_
 refine cP (zrZ x.k.ID y.k.ID) rfl rfl ?_
 exact r1I rfl rfl
theorem aggT:∀ w,(isAgg (Tryz.sortT_ren.t 24)).run PP w = .ok true w:=fun _=>by kernel_rfl
theorem sizT:∀ w,(Go.sizeOf (Tryz.sortT_ren.t 24)).run PP w = .ok 9 w:=fun _=>by kernel_rfl
theorem zpv (L:List Thg) (hL:L ≠ []) (hk:∀ x∈L,∀ y∈L,x.k.ID=y.k.ID->x=y) (hn:L.length<=1000000):SpecR PP 182 [] [.d (.fn 183)] 218 9 L.length (ThI.row L) (ThI.row (L.mergeSort fun x y=>decide (x.k.ID<=y.k.ID))) []:=
 zg4 ThI Tryz.sortT ⟨_,Tryz.func182,by kernel_rfl,by kernel_rfl⟩ aggT sizT (fun x=>x.k.ID) L hL hk 183 (fun x _ y _=>zlM x y) 218 hn
def thg0 (x:Cir):Thg:=⟨⟨0,x.ID,x.From,⟨0,0⟩,0,0⟩,⟨x.Lo,x.Hi⟩⟩
def thsK (c:Cirs) (x:Cir) (n:Nat):List Thg:=((c.K.take n).filter fun k=>k.C==x.ID).map fun k=>⟨k,alo x k⟩
def thsR (c:Cirs) (x:Cir) (n:Nat):List Thg:=thg0 x :: thsK c x n
def thsL (c:Cirs) (x:Cir):List Thg:=(thsR c x c.K.length).mergeSort fun a b=>decide (a.k.ID<=b.k.ID)
theorem pushT {vs:List Thg} {p:Thg} {g:Nat->Nat->D} (hg:∀ j,j<9->D.eqv (g 0 j) (p.at j)):D.eqv (.slc 9 (vs.length+1) (appRow vs.length (ThI.row vs) g)) (.slc 9 (vs ++ [p]).length (ThI.row (vs ++ [p]))):=by
 refine⟨by simp,.inr ⟨rfl,fun i hi j hj=>?_⟩⟩
 show D.eqv (appRow vs.length (ThI.row vs) g i j) (((vs ++ [p]).getD i default).at j)
 unfold appRow
 by_cases h:i<vs.length
 ·rw[kH h,hU,jJ h,<- hU]
  exact dE _
 have e:i=vs.length:=by omega
 subst e
 rw[kG h,kE,hU,jK (jE _),kE]
 exact hg j hj
theorem eqv9 {f:Nat->D} {p:Thg} (h0:f 0=I p.k.ID) (h1:f 1=I p.k.C) (h2:f 2=I p.k.Tick) (h3:f 3=I p.k.Mark.X) (h4:f 4=I p.k.Mark.Y) (h5:f 5=I p.k.Shown) (h6:f 6=I p.k.Slack) (h7:f 7=I p.s.Lo) (h8:f 8=I p.s.Hi):∀ j,j<9->D.eqv (f j) (p.at j)
 | 0,_=>by rw[h0]; exact⟨rfl,rfl⟩
 | 1,_=>by rw[h1]; exact⟨rfl,rfl⟩
 | 2,_=>by rw[h2]; exact⟨rfl,rfl⟩
 | 3,_=>by rw[h3]; exact⟨rfl,rfl⟩
 | 4,_=>by rw[h4]; exact⟨rfl,rfl⟩
 | 5,_=>by rw[h5]; exact⟨rfl,rfl⟩
 | 6,_=>by rw[h6]; exact⟨rfl,rfl⟩
 | 7,_=>by rw[h7]; exact⟨rfl,rfl⟩
 | 8,_=>by rw[h8]; exact⟨rfl,rfl⟩
theorem zff (c:Cirs) (x:Cir) (n:Nat):(thsR c x n).length<=n+1:=by
 unfold thsR thsK
 have:=jaq (fun k:Chk=>k.C==x.ID) (c.K.take n)
 have:=List.length_take_le n c.K
 simp; omega
theorem zmv {c:Cirs} {x:Cir} {i:Nat} (h:i<c.K.length) (hk:(c.K.getD i default).C=x.ID):thsR c x (i+1)=thsR c x i ++ [⟨c.K.getD i default,alo x (c.K.getD i default)⟩]:=by
 unfold thsR thsK
 have e:[c.K.getD i default].filter (fun k:Chk=>k.C==x.ID)=[c.K.getD i default]:=by rw[qN (by rw[hk]; exact jbe _)]; rfl
 rw[zay h default,qA,jT,e]
 rfl
theorem zpa {c:Cirs} {x:Cir} {i:Nat} (h:i<c.K.length) (hk:(c.K.getD i default).C≠x.ID):thsR c x (i+1)=thsR c x i:=by
 unfold thsR thsK
 have e:[c.K.getD i default].filter (fun k:Chk=>k.C==x.ID)=[]:=by rw[qO (by simpa using hk)]; rfl
 rw[zay h default,qA,e,jaT]
structure ThsOk (c:Cirs) (x:Cir):Prop where
  on:on x.At=true
  n:c.K.length<=60
  k:∀ k∈c.K,k.C=x.ID->Go.Pg.on k.Mark=true/\x.At≠k.Mark/\(0<=k.Shown/\k.Shown<=3599)/\(1<=k.Slack/\k.Slack<=100)/\1<=k.ID
  d:∀ a∈c.K,∀ b∈c.K,a.ID=b.ID->a=b
theorem zo9 {c:Cirs} {x:Cir} (h:ThsOk c x) (n:Nat):∀ a∈thsR c x n,∀ b∈thsR c x n,a.k.ID=b.k.ID->a=b:=by
 have mem:∀ a∈thsR c x n,a=thg0 x \/ ∃ k∈c.K,k.C=x.ID/\a=⟨k,alo x k⟩:=fun a ha=>by
  rcases k9.1 ha with rfl | ha
  ·exact .inl rfl
  obtain⟨k,hk,rfl⟩:=kK.1 ha
  obtain⟨hk,he⟩:=kW.1 hk
  exact .inr ⟨k,jav hk,by simpa using he,rfl⟩
 intro a ha b hb e
 rcases mem a ha with rfl | ⟨k,hk,hc,rfl⟩ <;> rcases mem b hb with rfl | ⟨k',hk',hc',rfl⟩
 ·rfl
 ·have:=(h.k k' hk' hc').2.2.2.2
  have:(0:Int)=k'.ID:=e
  omega
 ·have:=(h.k k hk hc).2.2.2.2
  have:k.ID=(0:Int):=e
  omega
 rw[h.d k hk k' hk' e]
theorem znX (c:Cirs) (x:Cir) (hx:ThsOk c x):Spec PP 131 [c.v,x.v] [.d (lTh (thsL c x))]:=by
 have hn:=hx.n
 refine sA Tryz.func131 ?_
 refine lOf (σ:=Nat) (fun i=>([(2,.box 2 0),(3,.box 3 0),(5,.own 16),(18,.d (lK c.K)),(19,.d (I c.K.length)),(20,.d (I i))],[(2,bxCs c),(3,.box (x.ds.map AV.d)),(16,.row 218 9 (thsR c x i).length (ThI.row (thsR c x i)))])) (fun i=>i<=c.K.length) (fun i=>c.K.length - i) 0
  ⟨rfl,⟨obCs rfl,obD x.ds rfl,obR rfl ?_,trivial⟩,wq rfl⟩ (jF _) fun i hi=>?_
 ·refine⟨rfl,.inr ⟨rfl,fun i hi j hj=>?_⟩⟩
  obtain rfl:i=0:=by omega
  exact eqv9 (p:=thg0 x) rfl rfl rfl rfl rfl rfl rfl rfl rfl j hj
 apply bY <;> intro h1
 ·have h1:i<c.K.length:=by have:=dT h1; omega
  refine⟨⟨rfl,by omega,by omega⟩,?_⟩
  apply bY <;> intro h2
  ·have h2:(c.K.getD i default).C=x.ID:=by simpa using h2
   obtain⟨k1,k2,k3,k4,-⟩:=hx.k _ (gd1 h1 default) h2
   refine oN 9 ?_
   refine oP (zqt x (c.K.getD i default) hx.on k1 k2 k3 k4) rfl rfl ?_
   have hl:=zff c x i
   refine⟨⟨.inr rfl,by simp only[maxLen]; omega,by dsimp only; omega⟩,?_⟩
   refine⟨i6,?_⟩
   refine⟨i+1,⟨rfl,⟨obCs rfl,obD x.ds rfl,obR rfl ?_,trivial⟩,wq rfl⟩,h1,(msr (by omega))⟩
   rw[zmv h1 h2]
   exact pushT (eqv9 (p:=⟨c.K.getD i default,alo x (c.K.getD i default)⟩) rfl rfl rfl rfl rfl rfl rfl rfl rfl)
  have h2:(c.K.getD i default).C≠x.ID:=by simpa using h2
  refine⟨i6,?_⟩
  refine⟨i+1,⟨rfl,⟨obCs rfl,obD x.ds rfl,obR rfl (by rw[zpa h1 h2]; exact dE _),trivial⟩,wq rfl⟩,h1,(msr (by omega))⟩
 have h1:i=c.K.length:=by have:=dF h1; omega
 subst h1
 refine CallSt.rw' rfl (zpv (thsR c x c.K.length) (by unfold thsR; simp) (zo9 hx _) (by have:=zff c x c.K.length; omega)) ⟨⟨[],.tmp 38,[.func 183],[],rfl,rfl,rfl,rfl,rfl,rfl,rfl⟩⟩ rfl ?_
 refine⟨⟨_,_,_,_,rfl,?_⟩,trivial⟩
 have e:(thsL c x).length=(thsR c x c.K.length).length:=kY _
 exact⟨e.symm,.inr ⟨rfl,fun i _ j _=>dE _⟩⟩
def noneB (t:Thg):Bool:=decide (t.s.Hi<t.s.Lo)
theorem zoT (t:Thg):Spec PP 185 [t.v] [B (noneB t)]:=by
 refine sA Tryz.func185 ?_
 exact r1B rfl rfl
def gap (a b:Thg):Int:=max (a.s.Lo - b.s.Hi) (b.s.Lo - a.s.Hi)
def clB (x:Cir) (a b:Thg):Bool:=!noneB b && decide (drf x a.k.Tick b.k.Tick<gap a b)
def clsJ (x:Cir) (l:List Thg) (i j:Nat):List (Int × Int):=(((l.drop (i+1)).take j).filter (clB x (l.getD i default))).map fun b=>((l.getD i default).k.ID,b.k.ID)
def clsI (x:Cir) (l:List Thg) (i:Nat):List (Int × Int):=if noneB (l.getD i default)=true then [((l.getD i default).k.ID,(l.getD i default).k.ID)] else clsJ x l i (l.length - (i+1))
def clsU (x:Cir) (l:List Thg) (i:Nat):List (Int × Int):=(List.range i).flatMap (clsI x l)
def clsL (x:Cir) (l:List Thg):List (Int × Int):=clsU x l l.length
theorem zbR (x:Cir) (l:List Thg) (i:Nat):clsU x l (i+1)=clsU x l i++clsI x l i:=by unfold clsU; rw[wG,List.flatMap_append]; simp
theorem ziT (x:Cir) (l:List Thg):∀ {k m:Nat},k<=m->clsU x l k <+: clsU x l m:=fun {k m} h=>by
 obtain⟨d,rfl⟩:=Nat.exists_eq_add_of_le h
 induction d with
 | zero=>exact List.prefix_rfl
 | succ d ih=>exact (ih (by omega)).trans (by rw[<- jaI,zbR]; exact List.prefix_append _ _)
theorem zrX {l:List Thg} {i j:Nat} (h:i+1+j<l.length):(l.drop (i+1)).getD j default=l.getD (i+1+j) default:=by
 rw[hU,wK,<- hU]
theorem ziU {x:Cir} {l:List Thg} {i j:Nat} (h:i+1+j<l.length) (hc:clB x (l.getD i default) (l.getD (i+1+j) default)=true):clsJ x l i (j+1)=clsJ x l i j ++ [((l.getD i default).k.ID,(l.getD (i+1+j) default).k.ID)]:=by
 have h2:j<(l.drop (i+1)).length:=by rw[ja5]; omega
 have e:[l.getD (i+1+j) default].filter (clB x (l.getD i default))=[l.getD (i+1+j) default]:=by rw[qN hc]; rfl
 unfold clsJ
 rw[zay h2 default,zrX h,qA,jT,e]
 rfl
theorem zql {x:Cir} {l:List Thg} {i j:Nat} (h:i+1+j<l.length) (hc:clB x (l.getD i default) (l.getD (i+1+j) default)=false):clsJ x l i (j+1)=clsJ x l i j:=by
 have h2:j<(l.drop (i+1)).length:=by rw[ja5]; omega
 have e:[l.getD (i+1+j) default].filter (clB x (l.getD i default))=[]:=by rw[qO (by rw[hc]; decide)]; rfl
 unfold clsJ
 rw[zay h2 default,zrX h,qA,e,jaT]
theorem znO (x:Cir) (l:List Thg) (i:Nat) {j m:Nat} (h:j<=m):clsJ x l i j <+: clsJ x l i m:=by
 unfold clsJ
 have h1:(l.drop (i+1)).take j <+: (l.drop (i+1)).take m:=List.take_prefix_take_left h
 exact (h1.filter _).map _
theorem zlk {α:Type} {xs u r:List α} {a:α} (h:u++(r ++ [a]) <+: xs):xs[u.length+r.length]?=some a:=by
 obtain⟨t,rfl⟩:=h
 simp
theorem znN {x:Cir} {l:List Thg} {i:Nat} (h:i<l.length) (hn:noneB (l.getD i default)=true):(clsL x l)[(clsU x l i).length]?=some ((l.getD i default).k.ID,(l.getD i default).k.ID):=by
 have h1:clsU x l (i+1) <+: clsL x l:=ziT x l h
 rw[zbR] at h1
 have e:clsI x l i=[] ++ [((l.getD i default).k.ID,(l.getD i default).k.ID)]:=by unfold clsI; rw[kH hn]; rfl
 rw[e] at h1
 exact zlk h1
theorem zqk {x:Cir} {l:List Thg} {i j:Nat} (h:i+1+j<l.length) (hn:noneB (l.getD i default)=false) (hc:clB x (l.getD i default) (l.getD (i+1+j) default)=true):(clsL x l)[(clsU x l i).length+(clsJ x l i j).length]?=some ((l.getD i default).k.ID,(l.getD (i+1+j) default).k.ID):=by
 have h1:clsU x l (i+1) <+: clsL x l:=ziT x l (by omega)
 rw[zbR] at h1
 have e:clsI x l i=clsJ x l i (l.length - (i+1)):=by unfold clsI; rw[kG (by rw[hn]; decide)]
 have h2:clsJ x l i (j+1) <+: clsI x l i:=by rw[e]; exact znO x l i (by omega)
 rw[ziU h hc] at h2
 refine zlk (List.IsPrefix.trans ?_ h1)
 exact (List.prefix_append_right_inj _).2 h2
structure ThgOk (t:Thg):Prop where
  lo:-300<=t.s.Lo/\t.s.Lo<=300
  hi:-300<=t.s.Hi/\t.s.Hi<=300
  t:0<=t.k.Tick/\t.k.Tick<=1048576
abbrev Thg.ds (x:Thg):List D:=[I x.k.ID,I x.k.C,I x.k.Tick,I x.k.Mark.X,I x.k.Mark.Y,I x.k.Shown,I x.k.Slack,I x.s.Lo,I x.s.Hi]
theorem zn6 {s:St} {ob:Nat->Option Ob} {v:AV} {i:Nat} {cs:List AV} (xs:List D) (e:v = .box i 0) (h1:s.ob i=some (.box cs)) (h2:allD cs=some xs) (h3:ob i=none):AVle s ob v (.roe xs.length (getD' xs)):=by
 subst e
 exact⟨h3,cs,xs,h1,h2,rfl,fun j _=>by show D.eqv (getD' xs (0+j)) _; rw[qH]; exact dE _⟩
def prEnc (x:Int × Int):List V1:=[.agg [I x.1,I x.2]]
def clsCap (x:Cir) (l:List Thg) (j:Nat):D:=getD' [capB [lTh l],capB x.ds] j
theorem zjx (x:Cir) (l:List Thg) (hx:0<=x.Drift/\x.Drift<=60) (hl:∀ t∈l,ThgOk t) (hn:l.length<=100):SeqC PP 184 2 (clsCap x l) prEnc (clsL x l):=by
 refine zfo Tryz.func184 rfl (by kernel_rfl) rfl rfl prEnc _ fun y=>?_
 refine lOf (σ:=Nat) (fun i=>([(G,.gho (some (clsU x l i).length)),(0,.yl y),(1,avOf (.d (capB [lTh l]))),(2,avOf (.d (capB x.ds))),(9,.d (lTh l)),(10,.d (I l.length)),(11,.d (I i))],[])) (fun i=>i<=l.length) (fun i=>l.length - i) 0 ⟨rfl,trivial,wq rfl⟩ (jF _) fun i hi=>?_
 apply bY <;> intro h1
 ·have h1:i<l.length:=by have:=dT h1; omega
  have o1:=hl _ (gd1 h1 default)
  refine⟨⟨rfl,by omega,by omega⟩,?_⟩
  refine cP (zoT (l.getD i default)) rfl rfl ?_
  apply bY <;> intro h2
  ·have eU:clsU x l (i+1)=clsU x l i ++ [((l.getD i default).k.ID,(l.getD i default).k.ID)]:=by
    rw[zbR]; unfold clsI; rw[kH h2]
   refine CallSt.yd (d:=26) [(0,.yl y),(1,avOf (.d (capB [lTh l]))),(2,avOf (.d (capB x.ds))),(9,.d (lTh l)),(10,.d (I l.length)),(11,.d (I i))] rfl rfl rfl rfl ⟨rfl,trivial,wq rfl⟩ (znN h1 h2) rfl rfl ?_ ?_
   ·refine sF ?_
    refine⟨i6,?_⟩
    refine⟨i+1,⟨rfl,trivial,avG rfl ?_,wq rfl⟩,h1,(msr (by omega))⟩
    rw[eU]; simp
   refine sT ?_
   exact .inr rfl
  have h2:noneB (l.getD i default)=false:=h2
  have eI:clsI x l i=clsJ x l i (l.length - (i+1)):=by unfold clsI; rw[kG (by rw[h2]; decide)]
  refine⟨i6,?_⟩
  refine⟨⟨.inr rfl,by omega,by omega⟩,?_⟩
  refine lOf (σ:=Nat) (fun j=>([(G,.gho (some ((clsU x l i).length+(clsJ x l i j).length))),(0,.yl y),(1,avOf (.d (capB [lTh l]))),(2,avOf (.d (capB x.ds))),(5,.roe 9 (getD' (l.getD i default).ds)),(9,.d (lTh l)),(10,.d (I l.length)),(11,.d (I i)),(31,.d (.slc 9 (l.length - (i+1)) fun q=>(l.getD (i+1+q) default).at)),(32,.d (I (l.length - (i+1):Nat))),(33,.d (I j))],[])) (fun j=>j<=l.length - (i+1)) (fun j=>l.length - (i+1) - j) 0 ⟨rfl,trivial,avG rfl ?_,avQ rfl,avQ rfl,avQ rfl,zn6 (l.getD i default).ds rfl rfl rfl rfl,avR _ rfl,avR _ rfl,avR _ rfl,avE rfl ⟨by omega,.inr ⟨rfl,fun q hq j hj=>?_⟩⟩,avI rfl (by omega),avR _ rfl,trivial⟩ (jF _) fun j hj=>?_
  ·unfold clsJ; simp
  ·show D.eqv ((l.getD (((i:Int)+1).toNat+q) default).at j) ((l.getD (i+1+q) default).at j)
   rw[show ((i:Int)+1).toNat=i+1 by omega]
   exact dE _
  apply bY <;> intro h3
  ·have h3:i+1+j<l.length:=by have:=dT h3; omega
   have o2:=hl _ (gd1 h3 default)
   refine⟨⟨rfl,by omega,by omega⟩,?_⟩
   have q1:=o1.lo
   have q2:=o1.hi
   have q3:=o2.lo
   have q4:=o2.hi
   have z1:inR .i64 ((l.getD i default).s.Lo - (l.getD (i+1+j) default).s.Hi):=i6
   have z2:inR .i64 ((l.getD (i+1+j) default).s.Lo - (l.getD i default).s.Hi):=i6
   refine⟨z1,⟨z2,?_⟩⟩
   refine pEq (zc0 _ [_] (jD rfl)) rfl ⟨⟨rfl,rfl⟩,zek rfl,trivial⟩ rfl ?_
   refine cP (zoT (l.getD (i+1+j) default)) rfl rfl ?_
   have stay:clB x (l.getD i default) (l.getD (i+1+j) default)=false->(clsU x l i).length+(clsJ x l i j).length=(clsU x l i).length+(clsJ x l i (j+1)).length:=fun h=>by rw[zql h3 h]
   apply bY <;> intro h4
   ·have h4:(!noneB (l.getD (i+1+j) default))=true:=h4
    refine cP (zhH x (l.getD i default).k.Tick (l.getD (i+1+j) default).k.Tick hx o1.t o2.t) rfl rfl ?_
    refine sT ?_
    apply bY <;> intro h5
    ·have hc:clB x (l.getD i default) (l.getD (i+1+j) default)=true:=by unfold clB; rw[h4]; exact h5
     refine CallSt.yd (d:=77) [(0,.yl y),(1,avOf (.d (capB [lTh l]))),(2,avOf (.d (capB x.ds))),(5,.roe 9 (getD' (l.getD i default).ds)),(9,.d (lTh l)),(10,.d (I l.length)),(11,.d (I i)),(31,.d (.slc 9 (l.length - (i+1)) fun q=>(l.getD (i+1+q) default).at)),(32,.d (I (l.length - (i+1):Nat))),(33,.d (I j)),(68,.d (.bool true))] rfl rfl rfl rfl ⟨rfl,trivial,wq rfl⟩ (zqk h3 h2 hc) rfl rfl ?_ ?_
     ·refine sT (sF ?_)
      refine⟨i6,?_⟩
      refine⟨j+1,⟨rfl,trivial,avG rfl ?_,wq rfl⟩,(show j+1<=l.length - (i+1) by omega),(show l.length - (i+1) - (j+1)<l.length - (i+1) - j by omega)⟩
      rw[ziU h3 hc]; simp; omega
     refine sT (sT ?_)
     exact .inr rfl
    have hc:clB x (l.getD i default) (l.getD (i+1+j) default)=false:=by unfold clB; rw[h4]; exact h5
    refine sF (sF ?_)
    refine⟨i6,?_⟩
    refine⟨j+1,⟨rfl,trivial,avG rfl ?_,wq rfl⟩,(show j+1<=l.length - (i+1) by omega),(show l.length - (i+1) - (j+1)<l.length - (i+1) - j by omega)⟩
    exact stay hc
   have h4:(!noneB (l.getD (i+1+j) default))=false:=h4
   have hc:clB x (l.getD i default) (l.getD (i+1+j) default)=false:=by unfold clB; rw[h4]; rfl
   refine sF (sF (sF (sF ?_)))
   refine⟨i6,?_⟩
   refine⟨j+1,⟨rfl,trivial,avG rfl ?_,wq rfl⟩,(show j+1<=l.length - (i+1) by omega),(show l.length - (i+1) - (j+1)<l.length - (i+1) - j by omega)⟩
   exact stay hc
  have h3:j=l.length - (i+1):=by have:=dF h3; omega
  subst h3
  refine⟨i6,?_⟩
  refine⟨i+1,⟨rfl,trivial,avG rfl ?_,wq rfl⟩,h1,(msr (by omega))⟩
  rw[zbR,eI]; simp
 have h1:i=l.length:=by have:=dF h1; omega
 subst h1
 exact .inl rfl
abbrev clsClo (x:Cir) (l:List Thg):D:=.clo 184 2 (clsCap x l)
theorem zlP (x:Cir) (l:List Thg):Spec PP 132 [x.v,.d (lTh l)] [.d (clsClo x l)]:=by
 refine sA Tryz.func132 ?_
 refine⟨⟨rfl,rfl,fun j hj=>?_⟩,trivial⟩
 match j,hj with
 | 0,_=>exact⟨_,rfl,rfl,_,_,rfl,rfl,rfl,fun j hj=>dE _⟩
 | 1,_=>exact⟨_,rfl,rfl,_,_,rfl,rfl,rfl,fun j hj=>dE _⟩
def agrE (x:Cir) (l:List Thg):Int:=if clsL x l=[] then 0 else 9
theorem zlU (x:Cir) (l:List Thg) (hx:0<=x.Drift/\x.Drift<=60) (hl:∀ t∈l,ThgOk t) (hn:l.length<=100):Spec PP 80 [x.v,.d (lTh l)] [.d (.int .i64 (agrE x l))]:=by
 refine sA Tryz.func80 ?_
 refine cR (zlP x l) rfl rfl ?_
 refine CodeOb.rangeAt (zjx x l hx hl hn) rfl (fun _=>rfl) (by decide) [(2,.box 2 0),(4,.box 4 0)] [] (fun _=>[(2,.box (x.ds.map AV.d)),(4,.box [.d (I 0)])]) rfl (fun _=>rfl) ?_
  (Iv:=fun pre=>pre=[]) rfl (fun v pre p hp hI=>?_) (fun hI=>?_)
 ·exact⟨rfl,⟨obD x.ds rfl,obD [I 0] rfl,trivial⟩,wq rfl⟩
 ·refine⟨[(2,.box (x.ds.map AV.d)),(4,.box [.d (I 9)])],rfl,⟨rfl,⟨obD x.ds rfl,obD [I 9] rfl,trivial⟩,wq rfl⟩,?_⟩
  refine r1CD rfl rfl rfl rfl rfl ?_
  have:clsL x l ≠ []:=fun e=>by rw[e] at hp; exact absurd (List.prefix_nil.1 hp) (by simp)
  refine⟨rfl,?_⟩
  unfold agrE; rw[kG this]
 refine r1CD rfl rfl rfl rfl rfl ?_
 refine⟨rfl,?_⟩
 unfold agrE; rw[kH hI]
theorem zlF {c:Cirs} {id:Int} (h:¬ cirI c id<0):(c.C.getD (cirI c id).toNat default).ID=id:=by
 rcases idxL_cases (fun t:Cir=>t.ID==id) c.C default with⟨h1,_⟩ | ⟨i,h1,h2,h3,_⟩
 ·exact absurd (show cirI c id<0 by unfold cirI; rw[h1]; decide) h
 unfold cirI; rw[h2]
 simpa using h3
theorem zlG {c:Cirs} {i:Nat} (h:i<c.K.length):chkI c (c.K.getD i default).ID<=i:=by
 rcases idxL_cases (fun t:Chk=>t.ID==(c.K.getD i default).ID) c.K default with⟨h1,_⟩ | ⟨j,h1,h2,h3,h4⟩
 ·unfold chkI; rw[h1]; omega
 unfold chkI; rw[h2]
 rcases jaA i j with h5 | h5
 ·have:=h4 i h5; simp at this
 omega
theorem zmd {f:Nat->Spn} (hf:∀ i,-300<=(f i).Lo/\(f i).Hi<=300):∀ (i n:Nat),(-300<=(aloR f i n).Lo/\(aloR f i n).Lo<=300)/\(-300<=(aloR f i n).Hi/\(aloR f i n).Hi<=300)
 | _,0=>by unfold aloR; dsimp only; omega
 | i,n+1=>by
  unfold aloR
  split
  ·have:=hf i; omega
  exact zmd hf (i+1) n
theorem zsh (x:Cir) (k:Chk):(-300<=(alo x k).Lo/\(alo x k).Lo<=300)/\(-300<=(alo x k).Hi/\(alo x k).Hi<=300):=
 zmd (fun i=>by unfold aloF aloT; dsimp only; omega) 0 3
section
variable {c:Cirs} (h:CirsOk c) {id:Int} (hid:¬ cirI c id<0)
include h hid
theorem zqR:ThsOk c (c.C.getD (cirI c id).toNat default):=by
 obtain⟨h1,h2⟩:=zbk hid
 have hx:=h.cs _ h1
 refine⟨hx.on,h.m,fun k hk hc=>?_,fun a ha b hb e=>?_⟩
 ·obtain⟨j,hj,rfl⟩:=zbL default hk
  have ok:=h.ks j hj
  have e:chkO c (c.K.getD j default)=c.C.getD (cirI c id).toNat default:=by unfold chkO; rw[hc,zlF hid]
  have ne:=ok.ne
  rw[e] at ne
  exact⟨ok.on,fun hh=>ne hh.symm,ok.s,ok.l,ok.id.1⟩
 obtain⟨i,hi,rfl⟩:=zbL default ha
 obtain⟨j,hj,rfl⟩:=zbL default hb
 have a1:=h.ki i hi
 have a2:=zlG hi
 have b1:=h.ki j hj
 have b2:=zlG hj
 rw[e] at a1 a2
 have:i=j:=by omega
 rw[this]
theorem zhW:∀ t∈thsL c (c.C.getD (cirI c id).toNat default),ThgOk t:=by
 obtain⟨h1,h2⟩:=zbk hid
 have hx:=h.cs _ h1
 intro t ht
 have ht:t∈thsR c (c.C.getD (cirI c id).toNat default) c.K.length:=by unfold thsL at ht; exact List.mem_mergeSort.1 ht
 rcases k9.1 ht with rfl | ht
 ·have:=hx.z; have:=hx.t
  exact⟨by unfold thg0; dsimp only; omega,by unfold thg0; dsimp only; omega,by unfold thg0; dsimp only; omega⟩
 obtain⟨k,hk,rfl⟩:=kK.1 ht
 obtain⟨hk,he⟩:=kW.1 hk
 obtain⟨j,hj,rfl⟩:=zbL default (jav hk)
 have ok:=h.ks j hj
 have e:chkO c (c.K.getD j default)=c.C.getD (cirI c id).toNat default:=by
  have he:(c.K.getD j default).C=(c.C.getD (cirI c id).toNat default).ID:=by simpa using he
  unfold chkO; rw[he,zlF hid]
 have t1:=ok.t
 rw[e] at t1
 have:=hx.t
 have b:=zsh (c.C.getD (cirI c id).toNat default) (c.K.getD j default)
 exact⟨b.1,b.2,by dsimp only; omega⟩
end
theorem zfg (c:Cirs) (x:Cir):(thsL c x).length<=c.K.length+1:=by
 unfold thsL; rw[kY]; exact zff c x _
def knw (c:Cirs) (id:Int) (l:List Int):Cir × List Thg × Int:=
 if cirsE c≠0 then (default,[],cirsE c) else if cirI c id<0 then (default,[],5)
 else if (l.all fun t=>within t (c.C.getD (cirI c id).toNat default).From (c.C.getD (cirI c id).toNat default).To)=true then (c.C.getD (cirI c id).toNat default,thsL c (c.C.getD (cirI c id).toNat default),0)
 else (c.C.getD (cirI c id).toNat default,[],1)
theorem zlO (c:Cirs) (id:Int) (l:List Int) (hn:l.length<=1000000):Spec PP 78 [c.v,N id,.d (lI l)] [(knw c id l).1.v,.d (lTh (knw c id l).2.1),.d (.int .i64 (knw c id l).2.2)]:=by
 refine sA Tryz.func78 ?_
 refine cP (zhJ c) rfl rfl ?_
 apply bY <;> intro h0
 ·have h0:cirsE c≠0:=by simpa using h0
  have e:knw c id l=(default,[],cirsE c):=by unfold knw; rw[kH h0]
  rw[e]
  exact⟨rtC (a:=6) rfl rfl rfl rfl rfl rfl (zab _),⟨_,_,_,_,rfl,rfl,.inl rfl⟩,rtI rfl rfl,trivial⟩
 have h0:cirsE c=0:=by simpa using h0
 have ok:=zbS h0
 refine cP (zc1 c id (by have:=ok.n; omega)) rfl rfl ?_
 apply bY <;> intro h1
 ·have h1:cirI c id<0:=dT h1
  have e:knw c id l=(default,[],5):=by unfold knw; rw[kG (fun hh=>hh h0),kH h1]
  rw[e]
  exact⟨rtC (a:=6) rfl rfl rfl rfl rfl rfl (zab _),⟨_,_,_,_,rfl,rfl,.inl rfl⟩,rtI rfl rfl,trivial⟩
 have h1:¬ cirI c id<0:=dF h1
 obtain⟨h2,h3⟩:=zbk h1
 obtain⟨x,hx⟩:∃ x,x=c.C.getD (cirI c id).toNat default:=⟨_,rfl⟩
 have e0:knw c id l=if (l.all fun t=>within t x.From x.To)=true then (x,thsL c x,0) else (x,[],1):=by
  unfold knw; rw[kG (fun hh=>hh h0),kG h1,hx]
 refine⟨⟨rfl,by omega,by omega⟩,?_⟩
 refine lOf (σ:=Nat) (fun i=>([(3,.box 3 0),(6,.box 6 0),(11,.box 11 0),(31,.d (lI l)),(32,.d (I l.length)),(33,.d (I i))],[(3,bxCs c),(6,.box ((default:Cir).ds.map AV.d)),(11,.box (x.ds.map AV.d))])) (fun i=>i<=l.length /\ ∀ j,j<i->within (l.getD j 0) x.From x.To=true) (fun i=>l.length - i) 0
  ⟨rfl,⟨obCs rfl,obD (default:Cir).ds rfl,obD x.ds (by rw[hx]; rfl),trivial⟩,wq rfl⟩ z0L fun i hi=>?_
 obtain⟨hi,ha⟩:=hi
 apply bY <;> intro h4
 ·have h4:i<l.length:=by have:=dT h4; omega
  refine⟨⟨rfl,by omega,by omega⟩,?_⟩
  refine cP (zaB (l.getD i 0) x.From x.To) rfl rfl ?_
  apply bY <;> intro h5
  ·have h5:within (l.getD i 0) x.From x.To=false:=by simpa using h5
   have e:knw c id l=(x,[],1):=by
    rw[e0,kG fun hh=>?_]
    have:=jC.1 hh _ (gd1 h4 0)
    rw[h5] at this; cases this
   rw[e]
   exact⟨rtC (a:=6) rfl rfl rfl rfl rfl rfl (zab _),⟨_,_,_,_,rfl,rfl,.inl rfl⟩,rtI rfl rfl,trivial⟩
  have h5:within (l.getD i 0) x.From x.To=true:=by simpa using h5
  refine⟨i6,?_⟩
  refine⟨i+1,⟨rfl,⟨obCs rfl,obD (default:Cir).ds rfl,obD x.ds rfl,trivial⟩,wq rfl⟩,⟨h4,fun j hj=>?_⟩,(msr (by omega))⟩
  by_cases q:j=i
  ·subst q; exact h5
  exact ha j (by omega)
 have h4:i=l.length:=by have:=dF h4; omega
 subst h4
 have e:knw c id l=(x,thsL c x,0):=by
  rw[e0,kH ?_]
  refine jC.2 fun t ht=>?_
  obtain⟨j,hj,rfl⟩:=zbL 0 ht
  exact ha j hj
 rw[e]
 refine oN 7 ?_
 refine oRo (znX c x (by rw[hx]; exact zqR ok h1)) rfl rfl ?_
 exact⟨rtC (a:=6) rfl rfl rfl rfl rfl rfl (zab _),dE _,rtI rfl rfl,trivial⟩
def atR (c:Cirs) (id t:Int):Cir × List Thg × Int:=
 ((knw c id [t]).1,(knw c id [t]).2.1,if (knw c id [t]).2.2=0 then agrE (knw c id [t]).1 (knw c id [t]).2.1 else (knw c id [t]).2.2)
theorem zho {c:Cirs} {id t:Int} (h:(knw c id [t]).2.2=0):cirsE c=0 /\ ¬ cirI c id<0/\within t (c.C.getD (cirI c id).toNat default).From (c.C.getD (cirI c id).toNat default).To=true/\(knw c id [t]).1=c.C.getD (cirI c id).toNat default/\(knw c id [t]).2.1=thsL c (c.C.getD (cirI c id).toNat default):=by
 unfold knw at h ⊢
 split at h
 ·rename_i h1; exact absurd h h1
 rename_i h1
 split at h
 ·cases h
 rename_i h2
 split at h
 ·rename_i h3
  rw[kG h1,kG h2,kH h3]
  exact⟨jL h1,h2,by simpa using h3,rfl,rfl⟩
 cases h
theorem c_at (c:Cirs) (id t:Int):Spec PP 190 [c.v,N id,N t] [(atR c id t).1.v,.d (lTh (atR c id t).2.1),.d (.int .i64 (atR c id t).2.2)]:=by
 refine sA Tryz.func190 ?_
 refine fEq [16] (zlO c id [t] (jD rfl)) rfl ⟨zab _,⟨rfl,rfl⟩,zek rfl,trivial⟩ rfl ?_
 apply bY <;> intro h1
 ·have h1:(knw c id [t]).2.2=0:=by simpa using h1
  obtain⟨k1,k2,k3,k4,k5⟩:=zho h1
  have ok:=zbS k1
  have hx:=ok.cs _ (zbk k2).1
  refine cP (zlU (knw c id [t]).1 (knw c id [t]).2.1 (by rw[k4]; exact hx.d) (by rw[k4,k5] at *; exact zhW ok k2) (by rw[k5]; have:=zfg c (c.C.getD (cirI c id).toNat default); have:=ok.m; omega)) rfl rfl ?_
  exact⟨rtC (a:=6) rfl rfl rfl rfl rfl rfl (zab _),dE _,rtI rfl (by show _=if _ then _ else _; rw[kH h1]),trivial⟩
 have h1:(knw c id [t]).2.2≠0:=by simpa using h1
 exact⟨rtC (a:=6) rfl rfl rfl rfl rfl rfl (zab _),dE _,rtI rfl (by show _=if _ then _ else _; rw[kG h1]),trivial⟩
structure ZS where
  lo:Int
  hi:Int
  a:Int
  b:Int
  deriving Inhabited
def zStep (x:Cir) (t:Int) (z:ZS) (g:Thg):ZS:=
 let d:=drf x g.k.Tick t
 ⟨if z.lo<g.s.Lo - d then g.s.Lo - d else z.lo,if g.s.Hi+d<z.hi then g.s.Hi+d else z.hi,if z.lo<g.s.Lo - d then g.k.ID else z.a,if g.s.Hi+d<z.hi then g.k.ID else z.b⟩
def zer (x:Cir) (l:List Thg) (t:Int):ZS:=l.foldl (zStep x t) ⟨-300,300,0,0⟩
theorem zoO {x:Cir} {a b:Int} (hx:0<=x.Drift/\x.Drift<=60) (ha:0<=a/\a<=1048576) (hb:0<=b/\b<=1048576):-100000000<=drf x a b/\drf x a b<=100000000:=by
 have m1:=mulB (a:=x.Drift) (b:=max (a - b) (b - a)) (x:=60) (y:=1048576) (by omega) (by omega)
 have:=zlA (n:=-(x.Drift * max (a - b) (b - a))) (p:=60) (b:=100000000) (by decide) (by decide) (by omega)
 unfold drf; omega
theorem zoS (x:Cir) (l:List Thg) (t:Int) (hx:0<=x.Drift/\x.Drift<=60) (hl:∀ t∈l,ThgOk t) (hn:l.length<=100) (ht:0<=t/\t<=1048576):Spec PP 81 [x.v,.d (lTh l),N t] [.agg [I (zer x l t).lo,I (zer x l t).hi],N (zer x l t).a,N (zer x l t).b]:=by
 refine sA Tryz.func81 ?_
 refine lOf (σ:=Nat × ZS) (fun p=>([(2,.d (I t)),(3,.box 3 0),(6,.box 6 0),(7,.d (I p.2.a)),(8,.d (I p.2.b)),(15,.d (lTh l)),(16,.d (I l.length)),(17,.d (I p.1))],[(3,.box (x.ds.map AV.d)),(6,.box [.d (I p.2.lo),.d (I p.2.hi)])])) (fun p=>p.1<=l.length/\p.2=(l.take p.1).foldl (zStep x t) ⟨-300,300,0,0⟩) (fun p=>l.length - p.1) (0,⟨-300,300,0,0⟩)
  ⟨rfl,⟨obD x.ds rfl,obD [I (-300),I 300] rfl,trivial⟩,wq rfl⟩ ⟨jF _,rfl⟩ fun⟨i,z⟩ ⟨hi,hz⟩=>?_
 dsimp only at hi hz ⊢
 apply bY <;> intro h1
 ·have h1:i<l.length:=by have:=dT h1; omega
  have o1:=hl _ (gd1 h1 default)
  have q1:=o1.lo
  have q2:=o1.hi
  have db:=zoO hx o1.t ht
  have hz':(l.take (i+1)).foldl (zStep x t) ⟨-300,300,0,0⟩=zStep x t z (l.getD i default):=by rw[zay h1 default,jai,<- hz]; rfl
  refine⟨⟨rfl,by omega,by omega⟩,?_⟩
  refine cP (zhH x (l.getD i default).k.Tick t hx o1.t ht) rfl rfl ?_
  have z1:inR .i64 ((l.getD i default).s.Lo - drf x (l.getD i default).k.Tick t):=i6
  have z2:inR .i64 ((l.getD i default).s.Hi+drf x (l.getD i default).k.Tick t):=i6
  refine⟨z1,?_⟩
  apply bY <;> intro h2
  ·have h2:z.lo<(l.getD i default).s.Lo - drf x (l.getD i default).k.Tick t:=dT h2
   refine Exists.intro [0,1,2,4,4003,5,6] (And.intro (by kernel_rfl) (FzOb.fz [10] ⟨rfl,?_⟩))
   refine⟨z2,?_⟩
   apply bY <;> intro h3
   ·have h3:(l.getD i default).s.Hi+drf x (l.getD i default).k.Tick t<z.hi:=dT h3
    refine Exists.intro [0,1,2,4,4003,5,6] (And.intro (by kernel_rfl) (FzOb.fz [10] ⟨rfl,?_⟩))
    have eS:zStep x t z (l.getD i default)=⟨(l.getD i default).s.Lo - drf x (l.getD i default).k.Tick t,(l.getD i default).s.Hi+drf x (l.getD i default).k.Tick t,(l.getD i default).k.ID,(l.getD i default).k.ID⟩:=by unfold zStep; simp only[kH h2,kH h3]
    refine⟨i6,?_⟩
    refine⟨(i+1,⟨(l.getD i default).s.Lo - drf x (l.getD i default).k.Tick t,(l.getD i default).s.Hi+drf x (l.getD i default).k.Tick t,(l.getD i default).k.ID,(l.getD i default).k.ID⟩),⟨rfl,⟨obD x.ds rfl,obD [I ((l.getD i default).s.Lo - drf x (l.getD i default).k.Tick t),I ((l.getD i default).s.Hi+drf x (l.getD i default).k.Tick t)] rfl,trivial⟩,wq rfl⟩,⟨h1,by dsimp only; rw[hz',eS]⟩,(msr (by omega))⟩
   have h3:¬ (l.getD i default).s.Hi+drf x (l.getD i default).k.Tick t<z.hi:=dF h3
   have eS:zStep x t z (l.getD i default)=⟨(l.getD i default).s.Lo - drf x (l.getD i default).k.Tick t,z.hi,(l.getD i default).k.ID,z.b⟩:=by unfold zStep; simp only[kH h2,kG h3]
   refine⟨i6,?_⟩
   refine⟨(i+1,⟨(l.getD i default).s.Lo - drf x (l.getD i default).k.Tick t,z.hi,(l.getD i default).k.ID,z.b⟩),⟨rfl,⟨obD x.ds rfl,obD [I ((l.getD i default).s.Lo - drf x (l.getD i default).k.Tick t),I (z.hi)] rfl,trivial⟩,wq rfl⟩,⟨h1,by dsimp only; rw[hz',eS]⟩,(msr (by omega))⟩
  have h2:¬ z.lo<(l.getD i default).s.Lo - drf x (l.getD i default).k.Tick t:=dF h2
  refine⟨z2,?_⟩
  apply bY <;> intro h3
  ·have h3:(l.getD i default).s.Hi+drf x (l.getD i default).k.Tick t<z.hi:=dT h3
   refine Exists.intro [0,1,2,4,4003,5,6] (And.intro (by kernel_rfl) (FzOb.fz [10] ⟨rfl,?_⟩))
   have eS:zStep x t z (l.getD i default)=⟨z.lo,(l.getD i default).s.Hi+drf x (l.getD i default).k.Tick t,z.a,(l.getD i default).k.ID⟩:=by unfold zStep; simp only[kG h2,kH h3]
   refine⟨i6,?_⟩
   refine⟨(i+1,⟨z.lo,(l.getD i default).s.Hi+drf x (l.getD i default).k.Tick t,z.a,(l.getD i default).k.ID⟩),⟨rfl,⟨obD x.ds rfl,obD [I (z.lo),I ((l.getD i default).s.Hi+drf x (l.getD i default).k.Tick t)] rfl,trivial⟩,wq rfl⟩,⟨h1,by dsimp only; rw[hz',eS]⟩,(msr (by omega))⟩
  have h3:¬ (l.getD i default).s.Hi+drf x (l.getD i default).k.Tick t<z.hi:=dF h3
  have eS:zStep x t z (l.getD i default)=⟨z.lo,z.hi,z.a,z.b⟩:=by unfold zStep; simp only[kG h2,kG h3]
  refine⟨i6,?_⟩
  refine⟨(i+1,⟨z.lo,z.hi,z.a,z.b⟩),⟨rfl,⟨obD x.ds rfl,obD [I (z.lo),I (z.hi)] rfl,trivial⟩,wq rfl⟩,⟨h1,by dsimp only; rw[hz',eS]⟩,(msr (by omega))⟩
 have h1:i=l.length:=by have:=dF h1; omega
 subst h1
 rw[jZ] at hz
 have e:zer x l t=z:=hz.symm
 rw[e]
 exact⟨rtC (a:=6) rfl rfl rfl rfl rfl rfl (zab _),rtI rfl rfl,rtI rfl rfl,trivial⟩
def zerR (c:Cirs) (id t:Int):Spn × Int:=if (atR c id t).2.2≠0 then (⟨0,0⟩,(atR c id t).2.2) else (⟨(zer (atR c id t).1 (atR c id t).2.1 t).lo,(zer (atR c id t).1 (atR c id t).2.1 t).hi⟩,0)
theorem zn7 {c:Cirs} {id t:Int} (h:(atR c id t).2.2=0):(knw c id [t]).2.2=0:=by
 have h:(if (knw c id [t]).2.2=0 then agrE (knw c id [t]).1 (knw c id [t]).2.1 else (knw c id [t]).2.2)=0:=h
 split at h
 ·assumption
 exact h
theorem zlV (c:Cirs) (id t:Int):Spec PP 138 [c.v,N id,N t] [(zerR c id t).1.v,.d (.int .i64 (zerR c id t).2)]:=by
 refine sA Tryz.func138 ?_
 refine cR (c_at c id t) rfl rfl ?_
 apply bY <;> intro h1
 ·have h1:(atR c id t).2.2≠0:=by simpa using h1
  have e:zerR c id t=(⟨0,0⟩,(atR c id t).2.2):=by unfold zerR; rw[kH h1]
  rw[e]
  exact r2CI rfl rfl rfl rfl rfl rfl rfl (zab _) rfl
 have h1:(atR c id t).2.2=0:=by simpa using h1
 have h0:(knw c id [t]).2.2=0:=zn7 h1
 obtain⟨k1,k2,k3,k4,k5⟩:=zho h0
 have ok:=zbS k1
 have hx:=ok.cs _ (zbk k2).1
 have ht:=zaa.1 k3
 have htt:=hx.t
 have e1:(atR c id t).1=c.C.getD (cirI c id).toNat default:=k4
 have e2:(atR c id t).2.1=thsL c (c.C.getD (cirI c id).toNat default):=k5
 refine cP (zoS (atR c id t).1 (atR c id t).2.1 t (by rw[e1]; exact hx.d) (by rw[e2]; exact zhW ok k2) (by rw[e2]; have:=zfg c (c.C.getD (cirI c id).toNat default); have:=ok.m; omega) (by omega)) rfl rfl ?_
 have e:zerR c id t=(⟨(zer (atR c id t).1 (atR c id t).2.1 t).lo,(zer (atR c id t).1 (atR c id t).2.1 t).hi⟩,0):=by unfold zerR; rw[kG (fun hh=>hh h1)]
 rw[e]
 exact r2CI rfl rfl rfl rfl rfl rfl rfl (zab _) rfl
def rdgE (c:Cirs) (r:Rdg):Int:=if cirsE c≠0 then cirsE c else if (!within r.Shown 0 3599 || !within r.Slack 1 100)=true then 1 else 0
theorem zlN (c:Cirs) (r:Rdg):Spec PP 191 [c.v,r.v] [.d (.int .i64 (rdgE c r))]:=by
 refine sA Tryz.func191 ?_
 refine cP (zhJ c) rfl rfl ?_
 apply bY <;> intro h0
 ·have h0:cirsE c≠0:=by simpa using h0
  refine r1I rfl ?_
  unfold rdgE; rw[kH h0]
 have h0:cirsE c=0:=by simpa using h0
 have e0:rdgE c r=if (!within r.Shown 0 3599 || !within r.Slack 1 100)=true then 1 else 0:=by unfold rdgE; rw[kG (fun hh=>hh h0)]
 refine cP (zb9 r.Shown) rfl rfl ?_
 apply bY <;> intro h1
 ·refine sT (sT ?_)
  refine r1I rfl ?_
  rw[e0,kH (by rw[h1]; rfl)]
 refine cP (zaB r.Slack 1 100) rfl rfl ?_
 refine sF ?_
 apply bY <;> intro h2
 ·refine r1I rfl ?_
  rw[e0,kH (by rw[h1,h2]; rfl)]
 refine r1I rfl ?_
 rw[e0,kG (by rw[h1,h2]; decide)]
def wdg (n m:Int):Wdg:=⟨n % 3600,(n+m) % 3600⟩
theorem zqr (n m:Int) (hn:-1000000000<=n/\n<=1000000000) (hm:-1000000000<=m/\m<=1000000000):Spec PP 192 [N n,N m] [(wdg n m).v]:=by
 refine sA Tryz.func192 ?_
 refine cP (zcI n 1 (by decide) (by omega)) rfl rfl ?_
 refine⟨i6,?_⟩
 refine cP (zcI (n+m) 1 (by decide) (by omega)) rfl rfl ?_
 exact r1C rfl rfl rfl rfl rfl rfl (zlv (show n % (3600 * 1)=n % 3600 by omega) (show (n+m) % (3600 * 1)=(n+m) % 3600 by omega))
theorem zjH {x:Cir} {l:List Thg} {t:Int} (hx:0<=x.Drift/\x.Drift<=60) (hl:∀ g∈l,ThgOk g) (ht:0<=t/\t<=1048576):∀ (z:ZS),(-300<=z.lo/\z.lo<=100000300)->(-100000300<=z.hi/\z.hi<=300)->(-300<=(l.foldl (zStep x t) z).lo/\(l.foldl (zStep x t) z).lo<=100000300)/\(-100000300<=(l.foldl (zStep x t) z).hi/\(l.foldl (zStep x t) z).hi<=300):=by
 induction l with
 | nil=>exact fun z h1 h2=>⟨h1,h2⟩
 | cons g r ih=>
 intro z h1 h2
 have o:=hl g (by simp)
 have q1:=o.lo
 have q2:=o.hi
 have db:=zoO hx o.t ht
 refine ih (fun g hg=>hl g (by simp[hg])) (zStep x t z g) ?_ ?_
 ·unfold zStep; dsimp only; split <;> omega
 unfold zStep; dsimp only; split <;> omega
def wdgR (c:Cirs) (r:Rdg):Wdg × Int:=
 if rdgE c r≠0 then (⟨0,0⟩,rdgE c r) else if (zerR c r.C r.Tick).2≠0 then (⟨0,0⟩,(zerR c r.C r.Tick).2)
 else if 900<2 * r.Slack+(zerR c r.C r.Tick).1.Hi - (zerR c r.C r.Tick).1.Lo then (⟨0,0⟩,50)
 else (wdg (r.Shown - r.Slack - (zerR c r.C r.Tick).1.Hi) (2 * r.Slack+(zerR c r.C r.Tick).1.Hi - (zerR c r.C r.Tick).1.Lo),0)
theorem zgW {c:Cirs} {id t:Int} (h:(zerR c id t).2=0):(-300<=(zerR c id t).1.Lo/\(zerR c id t).1.Lo<=100000300)/\(-100000300<=(zerR c id t).1.Hi/\(zerR c id t).1.Hi<=300):=by
 unfold zerR at h ⊢
 split at h
 ·rename_i h1; exact absurd h h1
 rename_i h1
 have h1:(atR c id t).2.2=0:=jL h1
 obtain⟨k1,k2,k3,k4,k5⟩:=zho (zn7 h1)
 have ok:=zbS k1
 have hx:=ok.cs _ (zbk k2).1
 have ht:=zaa.1 k3
 have htt:=hx.t
 have e1:(atR c id t).1=c.C.getD (cirI c id).toNat default:=k4
 have e2:(atR c id t).2.1=thsL c (c.C.getD (cirI c id).toNat default):=k5
 rw[kG (fun hh=>hh h1)]
 exact zjH (by rw[e1]; exact hx.d) (by rw[e2]; exact zhW ok k2) (by omega) _ (by decide) (by decide)
theorem zlW (c:Cirs) (r:Rdg):Spec PP 139 [c.v,r.v] [(wdgR c r).1.v,.d (.int .i64 (wdgR c r).2)]:=by
 refine sA Tryz.func139 ?_
 refine cP (zlN c r) rfl rfl ?_
 apply bY <;> intro h0
 ·have h0:rdgE c r≠0:=by simpa using h0
  have e:wdgR c r=(⟨0,0⟩,rdgE c r):=by unfold wdgR; rw[kH h0]
  rw[e]
  exact r2CI rfl rfl rfl rfl rfl rfl rfl (zab _) rfl
 have h0:rdgE c r=0:=by simpa using h0
 have hs:(0<=r.Shown/\r.Shown<=3599)/\(1<=r.Slack/\r.Slack<=100):=by
  unfold rdgE at h0
  split at h0
  ·rename_i h; exact absurd h0 h
  split at h0
  ·cases h0
  rename_i h
  simp only[jX,jY,not_or,wA] at h
  exact⟨zaa.1 h.1,zaa.1 h.2⟩
 refine cP (zlV c r.C r.Tick) rfl rfl ?_
 apply bY <;> intro h1
 ·have h1:(zerR c r.C r.Tick).2≠0:=by simpa using h1
  have e:wdgR c r=(⟨0,0⟩,(zerR c r.C r.Tick).2):=by unfold wdgR; rw[kG (fun hh=>hh h0),kH h1]
  rw[e]
  exact r2CI rfl rfl rfl rfl rfl rfl rfl (zab _) rfl
 have h1:(zerR c r.C r.Tick).2=0:=by simpa using h1
 have zb:=zgW h1
 refine⟨i6,⟨i6,⟨i6,?_⟩⟩⟩
 apply bY <;> intro h2
 ·have h2:900<2 * r.Slack+(zerR c r.C r.Tick).1.Hi - (zerR c r.C r.Tick).1.Lo:=dT h2
  have e:wdgR c r=(⟨0,0⟩,50):=by unfold wdgR; rw[kG (fun hh=>hh h0),kG (fun hh=>hh h1),kH h2]
  rw[e]
  exact r2CI rfl rfl rfl rfl rfl rfl rfl (zab _) rfl
 have h2:¬ 900<2 * r.Slack+(zerR c r.C r.Tick).1.Hi - (zerR c r.C r.Tick).1.Lo:=dF h2
 refine⟨i6,⟨i6,?_⟩⟩
 refine cP (zqr (r.Shown - r.Slack - (zerR c r.C r.Tick).1.Hi) (2 * r.Slack+(zerR c r.C r.Tick).1.Hi - (zerR c r.C r.Tick).1.Lo) (by omega) (by omega)) rfl rfl ?_
 have e:wdgR c r=(wdg (r.Shown - r.Slack - (zerR c r.C r.Tick).1.Hi) (2 * r.Slack+(zerR c r.C r.Tick).1.Hi - (zerR c r.C r.Tick).1.Lo),0):=by unfold wdgR; rw[kG (fun hh=>hh h0),kG (fun hh=>hh h1),kG h2]
 rw[e]
 exact r2CI rfl rfl rfl rfl rfl rfl rfl (zab _) rfl
def SpecSx (P:Program) (f:FuncId) (post:List V1) (cs cs':List D) (res:List V1):Prop:=
 Ent P f /\ ∀ (w:World) (ok:Nat->Prop) (us:List Value) (b:Nat) (vs:List Value) (T:TypeId),(∀ b,ok b->b<w.heap.size)->All2 (Rep1 w ok) post us->w.heap[b]?=some (.cells vs.toArray T (0,0))->All2 (Rep w ok) cs vs -> ¬ ok b ->
  Calls P f (Value.pointer (some ⟨b,0,none⟩) :: us).toArray w fun en w'=>∃ r,en = .returned r/\w.grownBy w' (some b)/\ResRep w' (fun _=>False) res r /\
   ∃ (vs':List Value) (T':TypeId),w'.heap[b]?=some (.cells vs'.toArray T' (0,0))/\All2 (Rep w' (fun _=>False)) cs' vs'
def boxSlots (post:List V1) (b:Nat):List (Nat × AV):=(0,.pbox 0 (.pointer (some ⟨b,0,none⟩))) :: argSlots 1 post
theorem zhS {w:World} {ok ok':Nat->Prop} {γ:Nat->Value} (hk:∀ b,ok b->ok' b):∀ {cs:List D} {vs:List Value},All2 (Rep w ok) cs vs->All2 (fun c v=>M w ok' γ c v/\v.oneCell'=true) (cs.map AV.d) vs
 | [],[],.nil=>.nil
 | _ :: _,_ :: _,.cons h1 h2=>.cons ⟨Rep.keep0 (fun b hb=>⟨hk b hb,⟨fun _ _ _ h=>h,fun _ _ h=>h⟩⟩) h1,Rep.one h1⟩ (zhS hk h2)
theorem zmR {post : List V1} {us : List Value} {w : World} {ok : Nat -> Prop} {N b : Nat} {cs : List D} {vs : List Value} {T : TypeId} (hok : ∀ b, ok b -> b < w.heap.size) (h2 : All2 (Rep1 w ok) post us) (hb : w.heap[b]? = some (.cells vs.toArray T (0, 0)))
    (hr : All2 (Rep w ok) cs vs) (hsep : ¬ ok b) (hsz : 1 + post.length <= N) (hng : N <= G) :
    R (cxR w ok N (.pointer (some ⟨b, 0, none⟩))) (St.of (boxSlots post b) [(0, .box (cs.map AV.d))]) { tmps := (Value.pointer (some ⟨b, 0, none⟩) :: us).toArray ++ Array.replicate (N - (Value.pointer (some ⟨b, 0, none⟩) :: us).toArray.size) undef, defers := [] } w := by
  have l2 := h2.length
  have hlt : b < w.heap.size := (jB.1 hb).1
  have slot : ∀ t x, look (boxSlots post b) t = some x -> M w ok (fun _ => Value.pointer (some ⟨b, 0, none⟩)) x ((((Value.pointer (some ⟨b, 0, none⟩) :: us).toArray ++ Array.replicate (N - (Value.pointer (some ⟨b, 0, none⟩) :: us).toArray.size) undef)).getD t undef) /\ (x.refs = [] \/ x.refs = [0]) := fun t x hx => by
    unfold boxSlots at hx
    simp only [look] at hx
    cases ht : Nat.beq t 0 with
    | true =>
      rw [ht] at hx; cases hx
      have := jA ht
      subst this
      rw [zbf (u := .pointer (some ⟨b, 0, none⟩)) (by simp)]
      exact ⟨⟨⟨b, rfl, rfl⟩, rfl⟩, .inr rfl⟩
    | false =>
      rw [ht] at hx
      obtain ⟨j, u, z, g1, g2, g3, g4⟩ := zaL post us 1 t h2 x hx
      rw [zbf (u := u) (by
        rw [show t = j + 1 by omega, jah]; exact g2), g3]
      exact ⟨zdZ.2 g4, .inl (zbq z)⟩
  refine ⟨fun _ => .pointer (some ⟨b, 0, none⟩), ?_⟩
  have hob : ∀ i o, look [(0, Ob.box (cs.map AV.d))] i = some o -> i = 0 /\ o = .box (cs.map AV.d) := fun i o ho => by
    simp only [look] at ho
    cases hb : Nat.beq i 0 with
    | true => rw [hb] at ho; cases ho; exact ⟨jA hb, rfl⟩
    | false => rw [hb] at ho; cases ho
  exact { defers := ⟨fun _ => rfl, [], rfl, jac, fun D hD => by cases hD⟩
          size := by simp [cxR]; omega
          okA := fun c hc => ⟨hok c hc, fun e => by simp only [cxR, blk, jO] at e; subst e; exact hsep hc⟩
          lent := fun c hc => by simp only [cxR, blk, jO] at hc; subst hc; exact hlt
          below := ⟨rfl, rfl, rfl, fun _ => jE _, jE _, fun _ _ _ => rfl⟩
          hold := fun k o hk => hk.elim
          least := jF _
          objs := fun i o hi => by
            obtain ⟨rfl, rfl⟩ := hob i o hi
            exact ⟨b, vs, T, rfl, .inr rfl, hb, zhS (fun b hb => .inl hb) hr⟩
          refs := fun i cs' hi c hc j hj => by
            obtain ⟨_, h3⟩ := hob i _ hi; cases h3
            obtain ⟨x, _, rfl⟩ := kK.1 hc
            cases hj
          sep := fun i j o o' hi hj hne => absurd ((hob i o hi).1.trans (hob j o' hj).1.symm) hne
          slots := fun t => by
            show M w _ _ ((look (boxSlots post b) t).getD .any) _
            cases hx : look (boxSlots post b) t with
            | none => exact trivial
            | some x => exact (slot t x hx).1.keep (fun b hb => ⟨.inl hb, rfl⟩) fun _ _ => rfl
          ng := hng
          gho := fun m hm => by
            have hm' : (look (boxSlots post b) G).getD .any = .gho m := hm
            cases hx : look (boxSlots post b) G with
            | none => rw [hx] at hm'; cases hm'
            | some x =>
              rw [hx] at hm'
              have hno : ∀ y : V1, avOf y ≠ .gho m := fun y => by
                cases y with
                | d z => cases z <;> simp [avOf]
                | agg z => simp [avOf]
              unfold boxSlots at hx
              simp only [look] at hx
              have hx' : look (argSlots 1 post) G = some x := hx
              obtain ⟨j, u, z, g1, g2, g3, g4⟩ := zaL post us 1 G h2 x hx'
              exact absurd (g3.symm.trans hm') (hno z)
          srefs := fun t j hj => by
            have hj' : j ∈ ((look (boxSlots post b) t).getD .any).refs := hj
            cases hx : look (boxSlots post b) t with
            | none => rw [hx] at hj'; cases hj'
            | some x =>
              rw [hx] at hj'
              rcases (slot t x hx).2 with h3 | h3
              · rw [show (Option.some x).getD .any = x from rfl, h3] at hj'; cases hj'
              rw [show (Option.some x).getD .any = x from rfl, h3] at hj'
              simp only [kM] at hj'
              subst hj'
              rfl }
def retX (T:TT) (rs:List ResultVar) (b:Nat) (cs':List D) (res:List V1):KK:=fun x s=>
 let fin:Prop:=RetAll T s rs res/\s.sl 0 = .pbox 0 (.pointer (some ⟨b,0,none⟩)) /\ ∃ cz:List AV,s.ob 0=some (.box cz) /\ ∃ xs,allD cz=some xs/\eqvs xs cs'
 match x with
 | .normal=>fin
 | .ret=>fin
 | _=>False
theorem zeu {w:World} {ok:Nat->Prop} {γ:Nat->Value}:∀ {cz:List AV} {xs:List D} {vs:List Value},allD cz=some xs->All2 (fun c v=>M w ok γ c v/\v.oneCell'=true) cz vs->All2 (Rep w ok) xs vs
 | [],xs,[],h,.nil=>by simp only[allD,jO] at h; subst h; exact .nil
 | c :: r,xs,v :: vs,h,.cons h1 h2=>by
  simp only[allD] at h
  cases hc:avD c with
  | none=>simp[hc] at h
  | some x=>
  cases hr:allD r with
  | none=>simp[hc,hr] at h
  | some ys=>
  simp only[hc,hr,jO] at h; subst h
  exact .cons (zck hc h1.1).1 (zeu hr h2)
theorem zmz {P : Program} {T : TT} {E : Env} (hT : ∀ t i, T t = some i -> TI.of P t = some i) (hE : ∀ t, E.eq t = true -> EqFact P t) (hm : P.follows .mixedOrders = true)
  {f : FuncId} {fn : Func} {c : Code} (hf : P.funcs[f]? = some fn) (hb : fn.body = some c) (hn : (fn.name == "runtime.NumGoroutine") = false) (hN : codeN fn.ntmps c = true)
  {post res : List V1} {cs cs' : List D} (hfl : cs'.all D.flat = true) (hrf : res.all V1.flat = true) (hsz : 1 + post.length <= fn.ntmps) (hng : fn.ntmps <= G)
  (h : ∀ b, awp P T E c (St.of (boxSlots post b) [(0, .box (cs.map AV.d))]) (retX T fn.results.toList b cs' res)) : SpecSx P f post cs cs' res :=
 ⟨⟨fn, hf, hn, by rw [hb]; rfl⟩, fun w ok us b vs T' hok h2 hcell hr hsep => znF hT hE hm hf hb hN (cx := cxR w ok fn.ntmps (.pointer (some ⟨b, 0, none⟩))) (fun e => by cases e) rfl rfl rfl (fun _ _ => id) (zmR hok h2 hcell hr hsep hsz hng) (h b)
  (fun x h1 h2 s h => by cases x <;> first | exact h1 rfl | exact h2 rfl | exact h) fun x s a w' hx hk hR _ => by
  have hk' : RetAll T s fn.results.toList res /\ s.sl 0 = .pbox 0 (.pointer (some ⟨b, 0, none⟩)) /\ ∃ cz : List AV, s.ob 0 = some (.box cz) /\ ∃ xs, allD cz = some xs /\ eqvs xs cs' := by rcases hx with rfl | rfl <;> exact hk
  obtain ⟨k1, k2, cz, k3, xs, k4, k5⟩ := hk'
  obtain ⟨r, r1, r2⟩ := zeN (P := P) hT (fn := fn) hR k1
  obtain ⟨γ, hg⟩ := hR
  obtain ⟨b', vs', T2, o1, o0, o2, o3⟩ := hg.objs _ _ k3
  have hsl := hg.slots 0
  rw [k2] at hsl
  obtain ⟨⟨b2, e1, e2⟩, e3⟩ := hsl
  rw [e1] at o1
  obtain rfl : b2 = b' := by simpa using o1
  rw [e2] at e3
  obtain rfl : b2 = b := by simpa using e3
  refine ⟨r, r1, r, rfl, zdd hg.below, zdO hrf r2, vs', T2, o2, ?_⟩
  have q := zbQ k5 (zeu k4 o3)
  have hall := jC.1 hfl
  exact q.imp fun x u hx hr => Rep.flat (hall x hx) hr⟩
theorem zmA {f : FuncId} {fn : Func} {c : Code} (hf : PP.funcs[f]? = some fn) (hb : fn.body = some c) (hq : ((fn.name == "runtime.NumGoroutine") || !(codeN fn.ntmps c && Nat.ble fn.ntmps 4294967296)) = false)
  {post res : List V1} {cs cs' : List D} (hfl : cs'.all D.flat = true) (hrf : res.all V1.flat = true) (hsz : Nat.ble (1 + post.length) fn.ntmps = true) (h : ∀ b, awp PP TTab EN c (St.of (boxSlots post b) [(0, .box (cs.map AV.d))]) (retX TTab fn.results.toList b cs' res)) : SpecSx PP f post cs cs' res := by
 simp only [qT, qV, jP] at hq
 exact zmz (E := EN) hT hE hM hf hb hq.1 hq.2.1 hfl hrf (jD hsz) (jD hq.2.2) h
end Go.Pg
namespace Go.Pg
open Go
def ofB (f:Nat->Bool):Nat->Nat
 | 0=>0
 | n+1=>2 ^ n * (if f n=true then 1 else 0)+ofB f n
theorem zkN (f:Nat->Bool):∀ n:Nat,ofB f n<2 ^ n
 | 0=>by simp[ofB]
 | n+1=>by
  have:=zkN f n
  rw[Nat.pow_succ]
  unfold ofB
  split <;> omega
theorem zkO (f:Nat->Bool):∀ (n j:Nat),(ofB f n).testBit j=(decide (j<n) && f j)
 | 0,j=>by simp[ofB]
 | n+1,j=>by
  have hl:=zkN f n
  unfold ofB
  rw[Nat.testBit_two_pow_mul_add _ hl,zkO f n j]
  by_cases h:j<n
  ·rw[kH h,jG h,jG (show j<n+1 by omega)]
  rw[kG h]
  by_cases e:j=n
  ·subst e
   rw[kE,jG (show j<j+1 by omega)]
   cases hf:f j <;> simp
  rw[jH (show ¬ j<n+1 by omega)]
  have:∀ b:Bool,((if b=true then 1 else 0:Nat)).testBit (j - n)=false:=fun b=>by
   obtain⟨d,hd⟩:∃ d,j - n=d+1:=⟨j - n - 1,by omega⟩
   rw[hd,Nat.testBit_succ]
   cases b <;> simp
  rw[this]; rfl
def wd (P:Nat->Bool) (i:Nat):Nat:=ofB (fun j=>P (64 * i+j)) 64
theorem zgX (P:Nat->Bool) (i:Nat):wd P i<18446744073709551616:=zkN _ 64
theorem zeF (P:Nat->Bool) (i j:Nat) (hj:j<64):(wd P i).testBit j=P (64 * i+j):=by
 unfold wd; rw[zkO]; simp[hj]
theorem zf2 {n:Nat} {P:Nat->Bool} {i:Nat} (hn:n<18446744073709551616) (h:∀ j,j<64->n.testBit j=P (64 * i+j)):n=wd P i:=by
 refine jaM fun j=>?_
 by_cases hj:j<64
 ·rw[h j hj,zeF P i j hj]
 have hp:(18446744073709551616:Nat)<=2 ^ j:=by
  have:2 ^ 64<=2 ^ j:=jau (by omega) (by omega)
  omega
 rw[jaW (by omega),jaW (by have:=zgX P i; omega)]
theorem zmj {P Q:Nat->Bool} {i:Nat} (h:∀ j,j<64->P (64 * i+j)=Q (64 * i+j)):wd P i=wd Q i:=
 zf2 (zgX P i) fun j hj=>by rw[zeF P i j hj]; exact h j hj
theorem zm5 (x:Nat) (hx:x<18446744073709551616):(BitVec.ofInt 64 (x:Int)).toNat=x:=by
 rw[BitVec.ofInt_natCast,BitVec.toNat_ofNat]; exact jaC hx
theorem zoW (x:Nat) (hx:x<18446744073709551616):IntKind.wrap .u64 (x:Int)=(x:Int):=by
 unfold IntKind.wrap
 show (if (false && _)=true then _ else (x:Int) % (2 ^ 64:Int))=_
 rw[kG (by simp)]
 exact Int.emod_eq_of_lt (by omega) (by omega)
theorem andU (x y:Nat) (hx:x<18446744073709551616) (hy:y<18446744073709551616):IntKind.wrap .u64 ((BitVec.ofInt 64 (x:Int) &&& BitVec.ofInt 64 (y:Int)).toNat:Int)=((x &&& y:Nat):Int):=by
 rw[BitVec.toNat_and,zm5 x hx,zm5 y hy,zoW _ (Nat.lt_of_le_of_lt Nat.and_le_left hx)]
theorem orU (x y:Nat) (hx:x<18446744073709551616) (hy:y<18446744073709551616):IntKind.wrap .u64 ((BitVec.ofInt 64 (x:Int) ||| BitVec.ofInt 64 (y:Int)).toNat:Int)=((x ||| y:Nat):Int):=by
 rw[BitVec.toNat_or,zm5 x hx,zm5 y hy,zoW _ (Nat.or_lt_two_pow (n:=64) hx hy)]
theorem divN (n:Nat):(n:Int).tdiv 64=((n / 64:Nat):Int):=by
 rw[Int.tdiv_eq_ediv_of_nonneg (by omega)]; rfl
theorem modN (n:Nat):(n:Int).tmod 64=((n % 64:Nat):Int):=by
 rw[jal (by omega)]; rfl
theorem shrU (x j:Nat) (hj:j<64):(x:Int).fdiv (2 ^ (min (j:Int).toNat 64))=((x / 2 ^ j:Nat):Int):=by
 have e:min (j:Int).toNat 64=j:=by omega
 rw[e,Int.fdiv_eq_ediv_of_nonneg _ (by exact wE (Int.pow_pos (by omega)))]
 have:(2 ^ j:Int)=((2 ^ j:Nat):Int):=by simp
 rw[this]; rfl
theorem shlU (j:Nat) (hj:j<64):IntKind.wrap .u64 (1 * 2 ^ (min (j:Int).toNat 64))=((2 ^ j:Nat):Int):=by
 have e:min (j:Int).toNat 64=j:=by omega
 have h:(2 ^ j:Nat)<18446744073709551616:=Nat.pow_lt_pow_right (a:=2) (n:=64) (by omega) hj
 have:(1 * 2 ^ j:Int)=((2 ^ j:Nat):Int):=by simp
 rw[e,this,zoW _ h]
attribute [irreducible] wd
theorem zp4 (P:Nat->Bool) (n:Nat):((IntKind.wrap .u64 ((BitVec.ofInt 64 (((wd P (n / 64):Nat):Int).fdiv (2 ^ (min ((n:Int).tmod 64).toNat 64))) &&& BitVec.ofInt 64 1).toNat:Int))==1)=P n:=by
 have hj:n % 64<64:=jay _ (by omega)
 have hw:=zgX P (n / 64)
 rw[modN,shrU _ _ hj]
 have h1:wd P (n / 64) / 2 ^ (n % 64)<18446744073709551616:=Nat.lt_of_le_of_lt (Nat.div_le_self _ _) hw
 have:=andU (wd P (n / 64) / 2 ^ (n % 64)) 1 h1 (by omega)
 rw[show ((1:Nat):Int)=1 from rfl] at this
 rw[this,Nat.and_one_is_mod]
 have hb:=zeF P (n / 64) (n % 64) hj
 rw[jaY,Nat.testBit_eq_decide_div_mod_eq] at hb
 rw[<- hb,kO]
 simp only[jaf,kA]
 omega
def addP (P:Nat->Bool) (n:Nat):Nat->Bool:=fun k=>P k || k==n
theorem or_lt {x y:Nat} (hx:x<18446744073709551616) (hy:y<18446744073709551616):x ||| y<18446744073709551616:=Nat.or_lt_two_pow (n:=64) hx hy
theorem zpw (P:Nat->Bool) (n:Nat):IntKind.wrap .u64 ((BitVec.ofInt 64 ((wd P (n / 64):Nat):Int) ||| BitVec.ofInt 64 (IntKind.wrap .u64 (1 * 2 ^ (min ((n:Int).tmod 64).toNat 64)))).toNat:Int)=((wd (addP P n) (n / 64):Nat):Int):=by
 have hj:n % 64<64:=jay _ (by omega)
 have hw:=zgX P (n / 64)
 have h:2 ^ (n % 64)<18446744073709551616:=Nat.pow_lt_pow_right (a:=2) (n:=64) (by omega) hj
 rw[modN,shlU _ hj,orU _ _ hw h]
 refine jI (fun m:Nat=>(m:Int)) (zf2 (or_lt hw h) fun j hj'=>?_)
 rw[Nat.testBit_or,zeF P _ _ hj',Nat.testBit_two_pow]
 unfold addP
 refine jI (P _ || ·) ?_
 rw[kO]
 simp only[jaf,kA]
 omega
theorem zki (P:Nat->Bool) (n i:Nat) (h:i≠n / 64):wd (addP P n) i=wd P i:=zmj fun j hj=>by
 unfold addP
 have:(64 * i+j==n)=false:=by
  rw[jax]; omega
 rw[this,jaj]
theorem zqE (P Q:Nat->Bool) (i:Nat):IntKind.wrap .u64 ((BitVec.ofInt 64 ((wd P i:Nat):Int) &&& BitVec.ofInt 64 ((wd Q i:Nat):Int)).toNat:Int)=((wd (fun k=>P k && Q k) i:Nat):Int):=by
 rw[andU _ _ (zgX P i) (zgX Q i)]
 refine jI (fun m:Nat=>(m:Int)) (zf2 (Nat.lt_of_le_of_lt Nat.and_le_left (zgX P i)) fun j hj=>?_)
 rw[jbl,zeF P _ _ hj,zeF Q _ _ hj]
theorem zqI (i:Nat):wd (fun _=>true) i=18446744073709551615:=by
 refine (zf2 (by omega) fun j hj=>?_).symm
 have:=Nat.testBit_two_pow_sub_one 64 j
 rw[show (2 ^ 64 - 1:Nat)=18446744073709551615 from rfl] at this
 rw[this]; exact jG hj
theorem zoY (i:Nat):wd (fun _=>false) i=0:=by
 refine (zf2 (by omega) fun j hj=>?_).symm
 exact Nat.zero_testBit j
end Go.Pg
namespace Go.Pg
open Go.Proofs Go.RowKit
theorem zgU {s:St} {ob:Nat->Option Ob}:∀ cs:List AV,avles s ob cs cs
 | []=>trivial
 | c :: cs=>⟨zaW s ob c,zgU cs⟩
theorem obX {s:St} {ob:Nat->Option Ob} {cs:List AV} {o:Option Ob} (h:o=some (.box cs)):Oble s ob o (.box cs):=by subst h; exact zgU cs
abbrev U (n:Nat):D:=.int .u64 n
abbrev bD (P:Nat->Bool):List D:=(List.range 38).map fun j=>U (wd P j)
theorem i38 {i:Nat} (h:i<38):i=0 \/ i=1 \/ i=2 \/ i=3 \/ i=4 \/ i=5 \/ i=6 \/ i=7 \/ i=8 \/ i=9 \/ i=10 \/ i=11 \/ i=12 \/ i=13 \/ i=14 \/ i=15 \/ i=16 \/ i=17 \/ i=18 \/ i=19 \/ i=20 \/ i=21 \/ i=22 \/ i=23 \/ i=24 \/ i=25 \/ i=26 \/ i=27 \/ i=28 \/ i=29 \/ i=30 \/ i=31 \/ i=32 \/ i=33 \/ i=34 \/ i=35 \/ i=36 \/ i=37:=by omega
abbrev bV (f:Nat->Nat) (i:Nat) (v:Int):List AV:=(List.range 38).map fun j=>AV.d (.int .u64 (if j=i then v else f j))
theorem zr9 {f g:Nat->Nat} {i:Nat} {v:Int} (h1:((g i:Nat):Int)=v) (h2:∀ j,j<38->j≠i->g j=f j):((List.range 38).map fun j=>U (g j)).map AV.d=bV f i v:=by
 rw[List.map_map]
 refine qL fun j hj=>?_
 have hj:=kI.1 hj
 show AV.d (U (g j))=_
 by_cases e:j=i
 ·subst e; rw[kH rfl,<- h1]
 rw[kG e,h2 j hj e]
theorem zpQ (P:Nat->Bool) (n:Nat) (hn:n<2432):Spec PP 156 [.agg (bD P),N n] [B (P n)]:=by
 have hq:=divN n
 have hv:=zp4 P n
 have hm:=modN n
 obtain⟨i,hi⟩:∃ i,n / 64=i:=⟨_,rfl⟩
 rw[hi] at hq hv
 have hi2:i<38:=by omega
 refine sA Tryz.func156 ?_
 refine⟨⟨by decide,zaZ (by rw[hq]; omega) (by rw[hq]; omega)⟩,?_⟩
 rw[hq]
 refine⟨⟨by omega,by omega⟩,?_⟩
 rcases i38 hi2 with rfl | rfl | rfl | rfl | rfl | rfl | rfl | rfl | rfl | rfl | rfl | rfl | rfl | rfl | rfl | rfl | rfl | rfl | rfl | rfl | rfl | rfl | rfl | rfl | rfl | rfl | rfl | rfl | rfl | rfl | rfl | rfl | rfl | rfl | rfl | rfl | rfl | rfl <;>
 ·refine⟨by decide,⟨by rw[hm]; omega,?_⟩⟩
  exact r1B rfl hv
section
variable {s:St} {o:Oper} {fo:Operand} {f:FuncId} {K:St->Prop} {E:Env}
structure BoxArgsP (s:St) (fo:Operand) (args:List Operand) (f:FuncId) (i:Nat) (post:List V1):Prop where
  out:∃ a0 a2 ex,args=a0 :: a2/\callee (ev s fo)=some (f,ex)/\(ev s a0).asPtr = .box i 0/\toV1s s (a2.map (ev s)++ex)=some post/\(a2.map (ev s)++ex).all (fun v=>!v.isOwn)=true
theorem CallSt.bxP (hdr:E.dr=false) {args:Array Operand} {at':Array TypeId} (hop:o.op = .call { callee:=.value fo,args,argTypes:=at' }) {post res:List V1} {i:Nat} {cs cs':List D} (h:SpecSx PP f post cs cs' res)
  (ha:BoxArgsP s fo args.toList f i post) (hi:s.ob i=some (.box (cs.map AV.d))) (hk:K ((s.setOb i (some (.box (cs'.map AV.d)))).putO o.dst (resAV res))):CallSt E PP s o fo args.toList K:=by
 rw[zaf]
 refine .inr (.inr (.inl ⟨_,⟨fun cx a w hD hd hR=>?_⟩,hk⟩))
 obtain⟨γ,hg⟩:=hR
 obtain⟨a0,a2,ex,h1,h2,h3,h4,h6⟩:=ha.out
 obtain⟨caps,hf,hc⟩:=za5 h2 (ev_m hg fo).1
 have h0:=zfY (ev_m hg a0).1
 rw[h3] at h0
 obtain⟨b,e1,e2⟩:=h0
 have m2:=(zbt hg h4 ((zbH hg a2).append hc)).2 h6
 obtain⟨b',vs,T,o1,o0,o2,o3⟩:=hg.objs i _ hi
 rw[e1] at o1
 obtain rfl:b=b':=by simpa using o1
 have hrep:All2 (Rep w (okOf cx s γ w)) cs vs:=by
  have:allD (cs.map AV.d)=some cs:=by
   have:∀ cs:List D,allD (cs.map AV.d)=some cs:=fun cs=>by
    induction cs with
    | nil=>rfl
    | cons x r ih=>simp only[kX,allD,avD,ih]
   exact this cs
  exact zeu this o3
 refine .enter (zaF hop hf h.1) ?_
 rw[h1]
 simp only[kX,List.cons_append,e2]
 refine (h.2 w _ _ b vs T (fun b hb=>zal hg hb) m2 o2 hrep (fun hb=>zcc hg hb hi (by rw[e1]; rfl))).mono fun en w' ⟨r,he,hgr,hres,ys,T2,y1,y2⟩=>⟨r,he,γ,?_⟩
 refine (hg.change (i:=i) (o':=.box (cs'.map AV.d)) hi (by rw[e1]; exact hgr) (fun e=>by have:=hD e; rw[hdr] at this; cases this) (fun ok hok=>⟨b,ys,T2,e1,o0,y1,zhS (fun b hb=>hb.elim) y2⟩) (fun cs2 e c hc j hj=>?_)).putO hd (zaS (.inl fun b hb=>hb.elim) hres) (fun j hj=>by rw[zav] at hj; cases hj)
 cases e
 obtain⟨x,_,rfl⟩:=kK.1 hc
 cases hj
end
theorem bX_eq {f g:Nat->Nat} {i:Nat} {v:Int} (h1:((g i:Nat):Int)=v) (h2:∀ j,j<38->j≠i->g j=f j):((List.range 38).map fun j=>U (g j))=(List.range 38).map fun j=>D.int .u64 (if j=i then v else f j):=by
 refine qL fun j hj=>?_
 have hj:=kI.1 hj
 by_cases e:j=i
 ·subst e; rw[kH rfl,<- h1]
 rw[kG e,h2 j hj e]
theorem zqz (P:Nat->Bool):(bD P).all D.flat=true:=by
 rw[jC]
 intro x hx
 obtain⟨j,_,rfl⟩:=kK.1 hx
 rfl
theorem l_put (P:Nat->Bool) (n:Nat) (hn:n<2432):SpecSx PP 206 [N n] (bD P) (bD (addP P n)) []:=by
 have hq:=divN n
 have hv:=zpw P n
 have ho:=zki P n
 have hm:=modN n
 obtain⟨i,hi⟩:∃ i,n / 64=i:=⟨_,rfl⟩
 rw[hi] at hq hv ho
 have hi2:i<38:=by omega
 have fl:=zqz (addP P n)
 have e:bD (addP P n)=(List.range 38).map fun j=>D.int .u64 (if j=i then _ else wd P j):=bX_eq (f:=wd P) (g:=wd (addP P n)) (i:=i) hv.symm fun j _ hj=>ho j hj
 rw[e] at fl ⊢
 refine zmA Tryz.func206 rfl (by kernel_rfl) fl rfl rfl fun b=>?_
 refine oN 13 ?_
 refine⟨⟨by decide,zaZ (by rw[hq]; omega) (by rw[hq]; omega)⟩,?_⟩
 rw[hq]
 refine⟨⟨by omega,by omega⟩,?_⟩
 rcases i38 hi2 with rfl | rfl | rfl | rfl | rfl | rfl | rfl | rfl | rfl | rfl | rfl | rfl | rfl | rfl | rfl | rfl | rfl | rfl | rfl | rfl | rfl | rfl | rfl | rfl | rfl | rfl | rfl | rfl | rfl | rfl | rfl | rfl | rfl | rfl | rfl | rfl | rfl | rfl <;>
 ·refine⟨by decide,⟨by rw[hm]; omega,⟨⟨by decide,by decide⟩,?_⟩⟩⟩
  exact⟨trivial,rfl,_,rfl,_,rfl,zab _⟩
def shwB (a p:Place) (z sl:Int):Bool:=(on a && on p) && !decide (a=p) && within z (-300) 300 && within sl 1 100
def shwS (a p:Place) (z sl:Int):Spn:=if shwB a p z sl=true then ⟨-(-((bear a p).1+(z - sl) * (bear a p).2) / (bear a p).2),((bear a p).1+(z+sl) * (bear a p).2) / (bear a p).2⟩ else ⟨0,0⟩
theorem zqu (a p:Place) (z sl:Int):Spec PP 92 [a.v,p.v,N z,N sl] [(shwS a p z sl).v,B (shwB a p z sl)]:=by
 refine sA Tryz.func92 ?_
 have no:shwB a p z sl=false->shwS a p z sl=⟨0,0⟩:=fun h=>by unfold shwS; rw[h]; rfl
 refine pEq (c_on [a,p] (jD rfl)) rfl (ziP (at2 rfl rfl) (at2 rfl rfl)) rfl ?_
 apply bY <;> intro h2
 ·have h2:(on a && on p)=false:=by simp only[ja8,List.all_nil,jak,jY] at h2; exact h2
  have e:shwB a p z sl=false:=by unfold shwB; rw[h2]; rfl
  repeat first | apply sT | apply sF
  rw[no e,e]
  exact⟨rtC (a:=8) rfl rfl rfl rfl rfl rfl (zab _),rtB rfl rfl,trivial⟩
 have h2:on a=true/\on p=true:=by simpa using h2
 repeat first | apply sT | apply sF
 apply bY <;> intro h3
 ·have h3:a=p:=kQ ((eqPW a p).symm.trans h3)
  have e:shwB a p z sl=false:=by unfold shwB; rw[jG h3]; simp
  repeat first | apply sT | apply sF
  rw[no e,e]
  exact⟨rtC (a:=8) rfl rfl rfl rfl rfl rfl (zab _),rtB rfl rfl,trivial⟩
 have h3:a≠p:=jaX ((eqPW a p).symm.trans h3)
 refine cP (zaB z (-300) 300) rfl rfl ?_
 repeat first | apply sT | apply sF
 apply bY <;> intro h4
 ·have h4:within z (-300) 300=false:=by simpa using h4
  have e:shwB a p z sl=false:=by unfold shwB; rw[h4]; simp
  repeat first | apply sT | apply sF
  rw[no e,e]
  exact⟨rtC (a:=8) rfl rfl rfl rfl rfl rfl (zab _),rtB rfl rfl,trivial⟩
 have h4:within z (-300) 300=true:=by simpa using h4
 refine cP (zaB sl 1 100) rfl rfl ?_
 repeat first | apply sT | apply sF
 apply bY <;> intro h5
 ·have h5:within sl 1 100=false:=by simpa using h5
  have e:shwB a p z sl=false:=by unfold shwB; rw[h5]; simp
  repeat first | apply sT | apply sF
  rw[no e,e]
  exact⟨rtC (a:=8) rfl rfl rfl rfl rfl rfl (zab _),rtB rfl rfl,trivial⟩
 have h5:within sl 1 100=true:=by simpa using h5
 have e:shwB a p z sl=true:=by unfold shwB; rw[h2.1,h2.2,jH h3,h4,h5]; rfl
 have e2:shwS a p z sl=⟨-(-((bear a p).1+(z - sl) * (bear a p).2) / (bear a p).2),((bear a p).1+(z+sl) * (bear a p).2) / (bear a p).2⟩:=by unfold shwS; rw[kH e]
 have b4:=zaa.1 h4
 have b5:=zaa.1 h5
 have hb:=zbX h2.1 h2.2 h3
 have m1:=mulB (a:=z - sl) (b:=(bear a p).2) (x:=400) (y:=48) (by omega) (by omega)
 have m2:=mulB (a:=z+sl) (b:=(bear a p).2) (x:=400) (y:=48) (by omega) (by omega)
 rw[e,e2]
 refine cP (zel a p h2.1 h2.2 h3) rfl rfl ?_
 refine⟨i6,⟨i6,⟨i6,?_⟩⟩⟩
 refine cP (zlT ((bear a p).1+(z - sl) * (bear a p).2) (bear a p).2 (by omega) (by omega)) rfl rfl ?_
 refine⟨i6,⟨i6,⟨i6,?_⟩⟩⟩
 refine cP (zhG ((bear a p).1+(z+sl) * (bear a p).2) (bear a p).2 (by omega) (by omega)) rfl rfl ?_
 exact⟨rtC (a:=8) rfl rfl rfl rfl rfl rfl (zab _),rtB rfl rfl,trivial⟩
structure Rl where
  At:Place
  Z:List Int
  deriving Inhabited
abbrev Rl.ds (x:Rl):List D:=[I x.At.X,I x.At.Y,lI x.Z]
abbrev Rl.v (x:Rl):V1:=.agg x.ds
theorem zbB (n lo hi:Int):Spec PP 187 [N n,N lo,N hi] [B (within n lo hi)]:=by
 refine sA Tryz.func187 ?_
 repeat' first
  | refine sT ?_
  | refine sF ?_
  | refine bY (fun _=>?_) (fun _=>?_)
  | refine r1B rfl ?_
 all_goals (unfold within; simp_all <;> omega)
theorem zdz (n:Int) (hn:-1000000000000<=n/\n<=1000000000000):Spec PP 188 [N n] [N (n % 3600)]:=by
 have h1:=jaB n (show (0:Int)<3600 by decide)
 have h2:=jaB (-n) (show (0:Int)<3600 by decide)
 rw[Int.neg_tmod] at h2
 refine sA Tryz.func188 ?_
 refine⟨by omega,⟨i6,⟨by omega,?_⟩⟩⟩
 refine r1I rfl ?_
 rw[jal (by omega),jbp]
 rw[Int.tmod_def,ja3]
theorem zne (t:Twr) (id:Int):Spec PP 189 [t.v,.d (capB [I id])] [B (t.ID==id)]:=by
 refine sA Tryz.func189 ?_
 exact r1B rfl rfl
theorem zhm (s:Svc) (id:Int) (hn:s.c.T.length<=1000000):Spec PP 136 [s.v,N id] [(towG s.c.T id).1.v,B (towG s.c.T id).2]:=by
 refine sA Tryz.func136 ?_
 refine CallSt.fz [3] (zj7 s.c.T 189 (capB [I id]) (fun t=>t.ID==id) hn (fun i hi=>zne _ id)) rfl rfl ?_
 apply bY <;> intro h1
 ·have h1:towI s.c.T id<0:=dT h1
  have e:towG s.c.T id=(default,false):=by unfold towG; rw[kH h1]
  rw[e]
  exact⟨rtC (a:=4) rfl rfl rfl rfl rfl rfl (zab _),rtB rfl rfl,trivial⟩
 have h1:¬ towI s.c.T id<0:=dF h1
 obtain⟨h2,h3⟩:=zfe h1
 have e:towG s.c.T id=(s.c.T.getD (towI s.c.T id).toNat default,true):=by unfold towG; rw[kG h1]
 rw[e]
 refine⟨⟨rfl,by show 0<=towI s.c.T id; omega,by show towI s.c.T id<s.c.T.length; omega⟩,?_⟩
 exact⟨rtC (a:=4) rfl rfl rfl rfl rfl rfl (zab _),rtB rfl rfl,trivial⟩
theorem znj (w:Twr) (x:Cir):Spec PP 24 [w.v,.d (capB x.ds)] [B (decide (w.At=x.At))]:=by
 refine sA Tryz.func24 ?_
 exact r1B rfl (eqPW _ _)
abbrev Svc.ds (s:Svc):List D:=[I s.c.M.W,I s.c.M.H,lI s.c.M.G,lT s.c.T,lZ s.c.Z,lC s.k.C,lK s.k.K]
def svc1E (s:Svc) (i:Nat):Int:=if (s.c.T.any fun w=>decide (w.At=(s.k.C.getD i default).At))=true then 0 else 5
def svcE (s:Svc):Int:=if ctryE s.c≠0 then ctryE s.c else if cirsE s.k≠0 then cirsE s.k else err1 (svc1E s) s.k.C.length
theorem zd1 (s:Svc):Spec PP 5 [s.v] [.d (.int .i64 (svcE s))]:=by
 refine sA Tryz.func5 ?_
 refine cP (zlm s.c) rfl rfl ?_
 apply bY <;> intro h0
 ·have h0:ctryE s.c≠0:=by simpa using h0
  refine r1I rfl ?_
  unfold svcE; rw[kH h0]
 have h0:ctryE s.c=0:=by simpa using h0
 have ok0:=zhC h0
 refine cP (zhJ s.k) rfl rfl ?_
 apply bY <;> intro h1
 ·have h1:cirsE s.k≠0:=by simpa using h1
  refine r1I rfl ?_
  unfold svcE; rw[kG (fun hh=>hh h0),kH h1]
 have h1:cirsE s.k=0:=by simpa using h1
 have ok1:=zbS h1
 have e0:svcE s=err1 (svc1E s) s.k.C.length:=by unfold svcE; rw[kG (fun hh=>hh h0),kG (fun hh=>hh h1)]
 have hn:=ok1.n
 have ht:=ok0.t
 refine lOf (σ:=Nat) (fun i=>([(1,.box 1 0),(21,.d (lC s.k.C)),(22,.d (I s.k.C.length)),(23,.d (I i))],[(1,.box (s.ds.map AV.d))])) (fun i=>i<=s.k.C.length /\ ∀ j,j<i->svc1E s j=0) (fun i=>s.k.C.length - i) 0
  ⟨rfl,⟨obD s.ds rfl,trivial⟩,wq rfl⟩ z0L fun i hi=>?_
 obtain⟨hi,ha⟩:=hi
 apply bY <;> intro h3
 ·have h3:i<s.k.C.length:=by have:=dT h3; omega
  refine⟨⟨rfl,by omega,by omega⟩,?_⟩
  refine CallSt.fzP [6] (zom s.c.T 24 (capB (s.k.C.getD i default).ds) (fun w=>decide (w.At=(s.k.C.getD i default).At)) (by omega) (fun k hk=>znj _ _)) rfl ⟨dE _,⟨rfl,rfl,fun j hj=>?_⟩,trivial⟩ rfl ?_
  ·obtain rfl:j=0:=by
    have:j<1:=hj
    omega
   exact dE _
  apply bY <;> intro h4
  ·have h4:(s.c.T.any fun w=>decide (w.At=(s.k.C.getD i default).At))=false:=by simpa using h4
   have e:svc1E s i=5:=by unfold svc1E; rw[kG (by rw[h4]; decide)]
   refine r1I rfl ?_
   rw[e0,zaN ha (by rw[e]; decide) h3,e]
  have h4:(s.c.T.any fun w=>decide (w.At=(s.k.C.getD i default).At))=true:=by simpa using h4
  have e:svc1E s i=0:=by unfold svc1E; rw[kH h4]
  refine⟨i6,?_⟩
  refine⟨i+1,⟨rfl,⟨obD s.ds rfl,trivial⟩,wq rfl⟩,⟨h3,fun j hj=>?_⟩,(msr (by omega))⟩
  by_cases q:j=i
  ·subst q; exact e
  exact ha j (by omega)
 have h3:i=s.k.C.length:=by have:=dF h3; omega
 subst h3
 refine r1I rfl ?_
 rw[e0,za7 ha]
def frmC (r:Rpt):Bool:=(!within r.ID 1 1099511627776) || (!within r.Tick 0 1048576) || (!within r.From 0 3599) || (!within r.Slack 1 100)
def frmB (r:Rpt):Bool:=!frmC r && (if r.Kind=1 then decide (r.To=0) else if r.Kind=2 then within r.To 0 3599 && decide ((r.To - r.From) % 3600<=900) else false)
theorem zng (r:Rpt):Spec PP 135 [r.v] [B (frmB r)]:=by
 refine sA Tryz.func135 ?_
 refine cP (zbB r.ID 1 1099511627776) rfl rfl ?_
 apply bY <;> intro k0
 ·have k0:(!within r.ID 1 1099511627776)=true:=k0
  refine sT (sT (sT (sT (sT (sT ?_)))))
  refine r1B rfl ?_
  unfold frmB frmC; simp only[k0,qJ,qY,ja2,kZ]
 have k0:(!within r.ID 1 1099511627776)=false:=k0
 refine cP (zbB r.Tick 0 1048576) rfl rfl ?_
 refine sF ?_
 apply bY <;> intro k1
 ·have k1:(!within r.Tick 0 1048576)=true:=k1
  refine sT (sT (sT (sT ?_)))
  refine r1B rfl ?_
  unfold frmB frmC; simp only[k0,k1,qJ,qY,ja2,kZ]
 have k1:(!within r.Tick 0 1048576)=false:=k1
 refine cP (zbB r.From 0 3599) rfl rfl ?_
 refine sF ?_
 apply bY <;> intro k2
 ·have k2:(!within r.From 0 3599)=true:=k2
  refine sT (sT ?_)
  refine r1B rfl ?_
  unfold frmB frmC; simp only[k0,k1,k2,qJ,qY,ja2,kZ]
 have k2:(!within r.From 0 3599)=false:=k2
 refine cP (zbB r.Slack 1 100) rfl rfl ?_
 refine sF ?_
 apply bY <;> intro k3
 ·have k3:(!within r.Slack 1 100)=true:=k3
  refine r1B rfl ?_
  unfold frmB frmC; simp only[k0,k1,k2,k3,qJ,qY,ja2,kZ]
 have k3:(!within r.Slack 1 100)=false:=k3
 have e0:frmB r=if r.Kind=1 then decide (r.To=0) else if r.Kind=2 then within r.To 0 3599 && decide ((r.To - r.From) % 3600<=900) else false:=by
  unfold frmB frmC; rw[k0,k1,k2,k3]; rfl
 have hf:0<=r.From/\r.From<=3599:=zaa.1 (by simpa using k2)
 apply bY <;> intro h1
 ·have h1:r.Kind=1:=by simpa using h1
  refine r1B rfl ?_
  rw[e0,kH h1,kO]; simp
 have h1:r.Kind≠1:=by simpa using h1
 apply bY <;> intro h2
 ·have h2:r.Kind=2:=by simpa using h2
  refine cP (zbB r.To 0 3599) rfl rfl ?_
  apply bY <;> intro h3
  ·have h4:=zaa.1 h3
   refine⟨i6,?_⟩
   refine cP (zdz (r.To - r.From) (by omega)) rfl rfl ?_
   refine sT ?_
   refine r1B rfl ?_
   rw[e0,kG h1,kH h2,h3]; rfl
  refine sF ?_
  refine r1B rfl ?_
  rw[e0,kG h1,kH h2,h3]; rfl
 have h2:r.Kind≠2:=by simpa using h2
 refine r1B rfl ?_
 rw[e0,kG h1,kG h2]
def rdgO (r:Rpt):Rdg:=⟨r.C,r.Tick,r.From,r.Slack⟩
theorem zgn (r:Rpt):Spec PP 140 [r.v] [(rdgO r).v]:=by
 refine sA Tryz.func140 ?_
 exact r1C rfl rfl rfl rfl rfl rfl (zab _)
def brnB (b:Brn):Bool:=decide (0<=b.From) && decide (b.From<=b.To) && decide (b.To<=1048576) && within b.Rise 0 200
theorem zk5 (b:Brn):Spec PP 176 [b.v] [B (brnB b)]:=by
 refine sA Tryz.func176 ?_
 apply bY <;> intro h1
 ·have h1:decide (0<=b.From)=true:=h1
  refine sT ?_
  apply bY <;> intro h2
  ·have h2:decide (b.From<=b.To)=true:=h2
   refine sT ?_
   apply bY <;> intro h3
   ·have h3:decide (b.To<=1048576)=true:=h3
    refine cP (zbB b.Rise 0 200) rfl rfl ?_
    refine sT ?_
    refine r1B rfl ?_
    unfold brnB; rw[h1,h2,h3]; rfl
   have h3:decide (b.To<=1048576)=false:=h3
   refine sF ?_
   refine r1B rfl ?_
   unfold brnB; rw[h1,h2,h3]; rfl
  have h2:decide (b.From<=b.To)=false:=h2
  refine sF (sF (sF ?_))
  refine r1B rfl ?_
  unfold brnB; rw[h1,h2]; rfl
 have h1:decide (0<=b.From)=false:=h1
 refine sF (sF (sF (sF (sF ?_))))
 refine r1B rfl ?_
 unfold brnB; rw[h1]; rfl
abbrev Rpt.ds (x:Rpt):List D:=[I x.ID,I x.Kind,I x.Tower,I x.C,I x.Tick,I x.From,I x.To,I x.Slack]
abbrev tldD (r:Rpt):D:=.ifc (if r.Kind=1 then 301 else 302) 8 (getD' r.ds)
theorem zoB (r:Rpt):Spec PP 178 [r.v] [.d (tldD r)]:=by
 refine sA Tryz.func178 ?_
 apply bY <;> intro h1
 ·have h1:r.Kind=1:=by simpa using h1
  unfold tldD; rw[kH h1]
  exact⟨dE _,trivial⟩
 have h1:r.Kind≠1:=by simpa using h1
 unfold tldD; rw[kG h1]
 exact⟨dE _,trivial⟩
theorem zk3 (r:Rpt):Spec PP 262 [r.v] [r.v]:=by
 refine sA Tryz.func262 ?_
 exact r1C rfl rfl rfl rfl rfl rfl (zab _)
theorem zk6 (r:Rpt):Spec PP 264 [r.v] [r.v]:=by
 refine sA Tryz.func264 ?_
 exact r1C rfl rfl rfl rfl rfl rfl (zab _)
theorem zfD (r:Rpt) (s:Svc):Spec PP 263 [r.v,s.v] [(wdgR s.k (rdgO r)).1.v,B (decide ((wdgR s.k (rdgO r)).2=0))]:=by
 refine sA Tryz.func263 ?_
 refine oN 12 ?_
 refine oP (zgn r) rfl rfl ?_
 refine oP (zlW s.k (rdgO r)) rfl rfl ?_
 exact⟨rtC (a:=4) rfl rfl rfl rfl rfl rfl (zab _),rtB rfl (by rw[kO]; simp),trivial⟩
theorem zmg (c:Cirs) (id t:Int):(-300<=(zerR c id t).1.Lo/\(zerR c id t).1.Lo<=100000300)/\(-100000300<=(zerR c id t).1.Hi/\(zerR c id t).1.Hi<=300):=by
 by_cases h:(zerR c id t).2=0
 ·exact zgW h
 have e:(zerR c id t).1=⟨0,0⟩:=by
  unfold zerR at h ⊢
  split
  ·rfl
  rename_i h1; rw[kG h1] at h; exact absurd rfl h
 rw[e]; decide
structure RptB (r:Rpt):Prop where
  f:0<=r.From/\r.From<=3599
  t:0<=r.To/\r.To<=3599
  s:1<=r.Slack/\r.Slack<=100
def blkR (s:Svc) (r:Rpt):Wdg × Bool:=
 if (r.To - r.From) % 3600<2 * r.Slack+(zerR s.k r.C r.Tick).1.Hi - (zerR s.k r.C r.Tick).1.Lo then (⟨0,0⟩,false)
 else (⟨(r.From+r.Slack - (zerR s.k r.C r.Tick).1.Lo) % 3600,(r.To - r.Slack - (zerR s.k r.C r.Tick).1.Hi) % 3600⟩,true)
theorem zfE (r:Rpt) (s:Svc) (hr:RptB r):Spec PP 265 [r.v,s.v] [(blkR s r).1.v,B (blkR s r).2]:=by
 obtain⟨b1,b2,b3⟩:=hr
 have zb:=zmg s.k r.C r.Tick
 refine sA Tryz.func265 ?_
 refine cP (zlV s.k r.C r.Tick) rfl rfl ?_
 refine oN 19 ?_
 refine⟨i6,?_⟩
 refine oP (zdz (r.To - r.From) (by omega)) rfl rfl ?_
 refine⟨i6,⟨i6,⟨i6,?_⟩⟩⟩
 apply bY <;> intro h1
 ·have e:blkR s r=(⟨0,0⟩,false):=by unfold blkR; rw[kH (dT h1)]
  rw[e]
  exact⟨rtC (a:=4) rfl rfl rfl rfl rfl rfl (zab _),rtB rfl rfl,trivial⟩
 have e:blkR s r=(⟨(r.From+r.Slack - (zerR s.k r.C r.Tick).1.Lo) % 3600,(r.To - r.Slack - (zerR s.k r.C r.Tick).1.Hi) % 3600⟩,true):=by unfold blkR; rw[kG (dF h1)]
 rw[e]
 refine oN 25 ?_
 refine⟨i6,⟨i6,?_⟩⟩
 refine oP (zdz (r.From+r.Slack - (zerR s.k r.C r.Tick).1.Lo) (by omega)) rfl rfl ?_
 refine⟨i6,⟨i6,?_⟩⟩
 refine oP (zdz (r.To - r.Slack - (zerR s.k r.C r.Tick).1.Hi) (by omega)) rfl rfl ?_
 exact⟨rtC (a:=4) rfl rfl rfl rfl rfl rfl (zab _),rtB rfl rfl,trivial⟩
theorem zex (x:Cir) (r:Rpt):Spec PP 137 [x.v,.d (capB r.ds)] [B (x.ID==r.C)]:=by
 refine sA Tryz.func137 ?_
 exact r1B rfl rfl
def rptE (s:Svc) (r:Rpt):Int:=
 if frmB r=false then 1 else if (towG s.c.T r.Tower).2=false \/ cirI s.k r.C<0 then 5
 else if (s.k.C.getD (cirI s.k r.C).toNat default).At≠(towG s.c.T r.Tower).1.At then 1
 else if (zerR s.k r.C r.Tick).2≠0 then (zerR s.k r.C r.Tick).2 else if r.Kind=1 then (wdgR s.k (rdgO r)).2 else 0
theorem zbC (s:Svc) (r:Rpt) (hT:s.c.T.length<=1000000) (hC:s.k.C.length<=1000000):Spec PP 89 [s.v,r.v] [.d (.int .i64 (rptE s r))]:=by
 refine sA Tryz.func89 ?_
 refine cP (zng r) rfl rfl ?_
 apply bY <;> intro h1
 ·refine r1I rfl ?_
  unfold rptE; rw[kH (by simpa using h1)]
 have h1:frmB r=true:=by simpa using h1
 refine cP (zhm s r.Tower hT) rfl rfl ?_
 refine CallSt.fzP [3] (zol s.k.C 137 (capB r.ds) (fun x=>x.ID==r.C) hC (fun i hi=>zex _ r)) rfl ⟨dE _,⟨rfl,rfl,fun j hj=>?_⟩,trivial⟩ rfl ?_
 ·obtain rfl:j=0:=by
   have:j<1:=hj
   omega
  exact dE _
 apply bY <;> intro h2
 ·have h2:(towG s.c.T r.Tower).2=false:=by simpa using h2
  refine sT (sT ?_)
  refine r1I rfl ?_
  unfold rptE; rw[kG (by rw[h1]; decide),kH (.inl h2)]
 have h2:(towG s.c.T r.Tower).2=true:=by simpa using h2
 refine sF ?_
 apply bY <;> intro h3
 ·have h3:cirI s.k r.C<0:=dT h3
  refine r1I rfl ?_
  unfold rptE; rw[kG (by rw[h1]; decide),kH (.inr h3)]
 have h3:¬ cirI s.k r.C<0:=dF h3
 obtain⟨h4,h5⟩:=zbk h3
 have e0:rptE s r=if (s.k.C.getD (cirI s.k r.C).toNat default).At≠(towG s.c.T r.Tower).1.At then 1 else if (zerR s.k r.C r.Tick).2≠0 then (zerR s.k r.C r.Tick).2 else if r.Kind=1 then (wdgR s.k (rdgO r)).2 else 0:=by
  unfold rptE; rw[kG (by rw[h1]; decide),kG (by rw[h2]; simp; omega)]
 refine oN 11 ?_
 refine⟨⟨rfl,by show 0<=cirI s.k r.C; omega,by show cirI s.k r.C<s.k.C.length; omega⟩,?_⟩
 apply bY <;> intro h6
 ·have h6:(s.k.C.getD (cirI s.k r.C).toNat default).At≠(towG s.c.T r.Tower).1.At:=by
   have:=(jI (!·) (eqPW (s.k.C.getD (cirI s.k r.C).toNat default).At (towG s.c.T r.Tower).1.At)).symm.trans h6
   simpa using this
  refine r1I rfl ?_
  rw[e0,kH h6]
 have h6:(s.k.C.getD (cirI s.k r.C).toNat default).At=(towG s.c.T r.Tower).1.At:=by
  have:=(jI (!·) (eqPW (s.k.C.getD (cirI s.k r.C).toNat default).At (towG s.c.T r.Tower).1.At)).symm.trans h6
  simpa using this
 refine cP (zlV s.k r.C r.Tick) rfl rfl ?_
 apply bY <;> intro h7
 ·have h7:(zerR s.k r.C r.Tick).2≠0:=by simpa using h7
  refine r1I rfl ?_
  rw[e0,kG (fun hh=>hh h6),kH h7]
 have h7:(zerR s.k r.C r.Tick).2=0:=by simpa using h7
 apply bY <;> intro h8
 ·have h8:r.Kind=1:=by simpa using h8
  refine oN 11 ?_
  refine oP (zgn r) rfl rfl ?_
  refine oP (zlW s.k (rdgO r)) rfl rfl ?_
  refine r1I rfl ?_
  rw[e0,kG (fun hh=>hh h6),kG (fun hh=>hh h7),kH h8]
 have h8:r.Kind≠1:=by simpa using h8
 refine r1I rfl ?_
 rw[e0,kG (fun hh=>hh h6),kG (fun hh=>hh h7),kG h8]
abbrev Brn.ds (b:Brn):List D:=[I b.From,I b.To,I b.Rise]
def lookB (s:Svc) (b:Brn) (r:Rpt) (p:Place):Bool:=decide ((seesE s.c r.Tower p b.Rise r.Tick).2=0) && (seesE s.c r.Tower p b.Rise r.Tick).1 && within r.Tick b.From b.To
theorem zgo (s:Svc) (b:Brn) (r:Rpt) (p:Place):Spec PP 216 [.d (capB s.ds),.d (capB r.ds),.d (capP p),.d (capB b.ds)] [B (lookB s b r p)]:=by
 refine sA Tryz.func216 ?_
 refine cP (zoL s.c r.Tower p b.Rise r.Tick) rfl rfl ?_
 apply bY <;> intro h1
 ·have h1:decide ((seesE s.c r.Tower p b.Rise r.Tick).2=0)=true:=by simpa using h1
  refine sT ?_
  apply bY <;> intro h2
  ·refine cP (zbB r.Tick b.From b.To) rfl rfl ?_
   refine sT ?_
   refine r1B rfl ?_
   unfold lookB; rw[h1,h2]; rfl
  refine sF ?_
  refine r1B rfl ?_
  unfold lookB; rw[h1,h2]; rfl
 have h1:decide ((seesE s.c r.Tower p b.Rise r.Tick).2=0)=false:=by simpa using h1
 refine sF (sF (sF ?_))
 refine r1B rfl ?_
 unfold lookB; rw[h1]; rfl
def secR (s:Svc) (r:Rpt):Wdg × Bool:=if r.Kind=1 then ((wdgR s.k (rdgO r)).1,decide ((wdgR s.k (rdgO r)).2=0)) else blkR s r
def seenB (s:Svc) (b:Brn) (r:Rpt) (p:Place):Bool:=(secR s r).2 && liesW (secR s r).1 (towG s.c.T r.Tower).1.At p && lookB s b r p
def allB (s:Svc) (b:Brn) (r:Rpt) (p:Place):Bool:=if r.Kind=1 then seenB s b r p else !seenB s b r p
theorem zp9 {r:Rpt} (h:frmB r=true) (hk:r.Kind≠1):RptB r:=by
 unfold frmB at h
 rw[kG hk] at h
 simp only[jP,jY] at h
 obtain⟨h1,h2⟩:=h
 split at h2
 ·unfold frmC at h1
  simp only[qT,qV] at h1
  simp only[jP] at h2
  exact⟨zaa.1 h1.1.2,zaa.1 h2.1,zaa.1 h1.2⟩
 cases h2
theorem ziC (s:Svc) (b:Brn) (r:Rpt) (p:Place) (hr:frmB r=true) (hT:s.c.T.length<=1000000):Spec PP 177 [s.v,b.v,.d (tldD r),p.v] [B (allB s b r p)]:=by
 by_cases hk:r.Kind=1
 ·have e1:tldD r = .ifc 301 8 (getD' r.ds):=by unfold tldD; rw[kH hk]
  have e2:secR s r=((wdgR s.k (rdgO r)).1,decide ((wdgR s.k (rdgO r)).2=0)):=by unfold secR; rw[kH hk]
  have e3:allB s b r p=seenB s b r p:=by unfold allB; rw[kH hk]
  rw[e1,e3]
  have e4:seenB s b r p=(decide ((wdgR s.k (rdgO r)).2=0) && liesW (wdgR s.k (rdgO r)).1 (towG s.c.T r.Tower).1.At p && lookB s b r p):=by unfold seenB; rw[e2]
  refine sA Tryz.func177 ?_
  refine⟨⟨_,_,_,_,rfl,by kernel_rfl,oP (zk3 r) rfl rfl ?_⟩⟩
  refine cP (zhm s r.Tower hT) rfl rfl ?_
  refine⟨⟨_,_,_,_,rfl,by kernel_rfl,oP (zfD r s) rfl rfl ?_⟩⟩
  apply bY <;> intro h1
  ·have h1:decide ((wdgR s.k (rdgO r)).2=0)=true:=h1
   refine cP (zoU (wdgR s.k (rdgO r)).1 (towG s.c.T r.Tower).1.At p) rfl rfl ?_
   refine sT ?_
   apply bY <;> intro h2
   ·refine CallSt.fzP [4,9,7,5] (zgo s b r p) rfl ⟨dE _,dE _,dE _,dE _,trivial⟩ rfl ?_
    refine sT ?_
    refine sT ?_
    refine r1B rfl ?_
    rw[e4,h1,h2]; rfl
   refine sF ?_
   refine sT ?_
   refine r1B rfl ?_
   rw[e4,h1,h2]; rfl
  have h1:decide ((wdgR s.k (rdgO r)).2=0)=false:=h1
  refine sF (sF (sF ?_))
  refine sT ?_
  refine r1B rfl ?_
  rw[e4,h1]; rfl
 have e1:tldD r = .ifc 302 8 (getD' r.ds):=by unfold tldD; rw[kG hk]
 have e2:secR s r=blkR s r:=by unfold secR; rw[kG hk]
 have e3:allB s b r p = !seenB s b r p:=by unfold allB; rw[kG hk]
 rw[e1,e3]
 have e4:seenB s b r p=((blkR s r).2 && liesW (blkR s r).1 (towG s.c.T r.Tower).1.At p && lookB s b r p):=by unfold seenB; rw[e2]
 refine sA Tryz.func177 ?_
 refine⟨⟨_,_,_,_,rfl,by kernel_rfl,oP (zk6 r) rfl rfl ?_⟩⟩
 refine cP (zhm s r.Tower hT) rfl rfl ?_
 refine⟨⟨_,_,_,_,rfl,by kernel_rfl,oP (zfE r s (zp9 hr hk)) rfl rfl ?_⟩⟩
 apply bY <;> intro h1
 ·have h1:(blkR s r).2=true:=h1
  refine cP (zoU (blkR s r).1 (towG s.c.T r.Tower).1.At p) rfl rfl ?_
  refine sT ?_
  apply bY <;> intro h2
  ·refine CallSt.fzP [4,9,7,5] (zgo s b r p) rfl ⟨dE _,dE _,dE _,dE _,trivial⟩ rfl ?_
   refine sT ?_
   refine sF ?_
   refine r1B rfl ?_
   rw[e4,h1,h2]; rfl
  refine sF ?_
  refine sF ?_
  refine r1B rfl ?_
  rw[e4,h1,h2]; rfl
 have h1:(blkR s r).2=false:=h1
 refine sF (sF (sF ?_))
 refine sF ?_
 refine r1B rfl ?_
 rw[e4,h1]; rfl
structure SvcOk (s:Svc):Prop where
  c:CtryOk s.c
  k:CirsOk s.k
theorem zbI {s:Svc} (h:svcE s=0):SvcOk s:=by
 unfold svcE at h
 split at h
 ·rename_i h1; exact absurd h h1
 rename_i h1
 split at h
 ·rename_i h2; exact absurd h h2
 rename_i h2
 exact⟨zhC (jL h1),zbS (jL h2)⟩
def crpE (s:Svc) (r:Rpt):Int:=if svcE s≠0 then svcE s else rptE s r
theorem zlB {s:Svc} {r:Rpt} (h:crpE s r=0):svcE s=0/\rptE s r=0/\frmB r=true:=by
 unfold crpE at h
 split at h
 ·rename_i h1; exact absurd h h1
 rename_i h1
 refine⟨jL h1,h,?_⟩
 unfold rptE at h
 split at h
 ·cases h
 rename_i h2; simpa using h2
theorem zcA (s:Svc) (r:Rpt):Spec PP 29 [s.v,r.v] [.d (.int .i64 (crpE s r))]:=by
 refine sA Tryz.func29 ?_
 refine cP (zd1 s) rfl rfl ?_
 apply bY <;> intro h0
 ·refine r1I rfl ?_
  unfold crpE; rw[kH (by simpa using h0)]
 have h0:svcE s=0:=by simpa using h0
 have ok:=zbI h0
 refine cP (zbC s r (by have:=ok.c.t; omega) (by have:=ok.k.n; omega)) rfl rfl ?_
 refine r1I rfl ?_
 unfold crpE; rw[kG (fun hh=>hh h0)]
def alwR (s:Svc) (b:Brn) (r:Rpt) (p:Place):Bool × Int:=
 if svcE s≠0 then (false,svcE s) else if brnB b=false then (false,1) else if rptE s r≠0 then (false,rptE s r) else if onM s.c.M p=false then (false,1) else (allB s b r p,0)
theorem znk (s:Svc) (b:Brn) (r:Rpt) (p:Place):Spec PP 114 [s.v,b.v,r.v,p.v] [B (alwR s b r p).1,.d (.int .i64 (alwR s b r p).2)]:=by
 refine sA Tryz.func114 ?_
 refine cP (zd1 s) rfl rfl ?_
 apply bY <;> intro h0
 ·have e:alwR s b r p=(false,svcE s):=by unfold alwR; rw[kH (by simpa using h0)]
  rw[e]; exact r2BI rfl rfl rfl rfl
 have h0:svcE s=0:=by simpa using h0
 have ok:=zbI h0
 refine cP (zk5 b) rfl rfl ?_
 apply bY <;> intro h1
 ·have e:alwR s b r p=(false,1):=by unfold alwR; rw[kG (fun hh=>hh h0),kH (by simpa using h1)]
  rw[e]; exact r2BI rfl rfl rfl rfl
 have h1:brnB b=true:=by simpa using h1
 refine cP (zbC s r (by have:=ok.c.t; omega) (by have:=ok.k.n; omega)) rfl rfl ?_
 apply bY <;> intro h2
 ·have e:alwR s b r p=(false,rptE s r):=by unfold alwR; rw[kG (fun hh=>hh h0),kG (by rw[h1]; decide),kH (by simpa using h2)]
  rw[e]; exact r2BI rfl rfl rfl rfl
 have h2:rptE s r=0:=by simpa using h2
 have hf:frmB r=true:=(zlB (s:=s) (r:=r) (by unfold crpE; rw[kG (fun hh=>hh h0),h2])).2.2
 refine cP (g_On s.c.M p ok.c.m) rfl rfl ?_
 apply bY <;> intro h3
 ·have e:alwR s b r p=(false,1):=by unfold alwR; rw[kG (fun hh=>hh h0),kG (by rw[h1]; decide),kG (fun hh=>hh h2),kH (by simpa using h3)]
  rw[e]; exact r2BI rfl rfl rfl rfl
 have h3:onM s.c.M p=true:=by simpa using h3
 have e:alwR s b r p=(allB s b r p,0):=by unfold alwR; rw[kG (fun hh=>hh h0),kG (by rw[h1]; decide),kG (fun hh=>hh h2),kG (by rw[h3]; decide)]
 rw[e]
 refine oN 8 ?_
 refine oRo (zoB r) rfl rfl ?_
 refine oP (ziC s b r p hf (by have:=ok.c.t; omega)) rfl rfl ?_
 exact r2BI rfl rfl rfl rfl
end Go.Pg
namespace Go.Pg
open Go.Proofs Go.RowKit Go.MapKept
theorem zeh (n:Int):∀ (es:List MapEntry) (ks:List (List Int)) (i:Nat),(es.map fun e=>e.key)=ks.map kv->(∀ k∈ks,k.length=1)->Instr.findNow (.int .i64) (.int .i64 n) es i=some ((es[ks.idxOf [n]]?).map fun e=>(i+ks.idxOf [n],e.val))
 | [],[],i,_,_=>rfl
 | e :: es,[m] :: ks,i,h,hl=>by
  simp only[kX,jan] at h
  have hk:e.key = .int .i64 m:=h.1
  by_cases e1:n=m
  ·subst e1
   have:List.idxOf [n] ([n] :: ks)=0:=by simp[List.idxOf_cons]
   rw[this]
   simp[Instr.findNow,hk,Instr.sameNow]
  ·have:List.idxOf [n] ([m] :: ks)=List.idxOf [n] ks+1:=by
    rw[List.idxOf_cons]
    have:([m] == [n])=false:=by simp; exact fun e=>e1 e.symm
    rw[this]; rfl
   rw[this]
   have hs:Instr.sameNow (.int .i64) (.int .i64 n) e.key=some false:=by simp[Instr.sameNow,hk,e1]
   simp only[Instr.findNow,hs]
   rw[zeh n es ks (i+1) h.2 fun k hk=>hl k (qS _ hk)]
   simp only[jah]
   congr 2
   funext e'
   rw[show i+1+List.idxOf [n] ks=i+(List.idxOf [n] ks+1) by omega]
 | e :: es,[] :: ks,i,h,hl=>by have:=hl [] (wB ..); cases this
 | e :: es,(_ :: _ :: _) :: ks,i,h,hl=>by have:=hl _ (wB ..); simp at this
 | [],_ :: _,i,h,_=>by simp at h
 | _ :: _,[],i,h,_=>by simp at h
theorem znl {P:Program} {kt:Nat} (hu:P.underlying kt=some (.int .i64)):KeyF P kt 1:=fun key hk=>by
 obtain⟨n,rfl⟩:∃ n,key=[n]:=by
  match key,hk with
  | [n],_=>exact⟨n,rfl⟩
 have hK:IsKey (.int .i64) (Value.int .i64 n):=by simp[IsKey]
 refine⟨fun b w=>run_checkKey hu hK b 9999,fun w=>run_keyThatStays hK,fun w es ks h hl=>?_⟩
 have:=run_findKey (P:=P) (w:=w) hu (zeh n es ks 0 h hl)
 simp only[qH] at this
 exact this
theorem kInt:KeyF PP 3 1:=znl (by kernel_rfl)
theorem zhu (l:List Int) (k:Int):(l.map fun x=>[x]).idxOf [k]<(l.map fun x=>[x]).length ↔ l.contains k=true:=by
 rw[jaR,kK,kD]
 constructor
 ·rintro⟨x,hx,e⟩; cases e; exact hx
 intro h; exact⟨k,h,rfl⟩
theorem zoy (l:List Int) (k:Int):lkD (l.map fun x=>[x]) (fun _=>.bool true) [k] (.bool false) = .bool (l.contains k):=by
 unfold lkD
 by_cases h:l.contains k=true
 ·rw[kH ((zhu l k).2 h),h]
 rw[kG fun e=>h ((zhu l k).1 e),qF.2 h]
theorem zhg {l:List Int} {k:Int} (h:l.contains k=false):D.eqv (.mp 1 (putK (l.map fun x=>[x]) [k]) (putF (l.map fun x=>[x]) (fun _=>.bool true) [k] (.bool true))) (.mp 1 ((l ++ [k]).map fun x=>[x]) fun _=>.bool true):=by
 refine⟨rfl,?_,fun j _=>?_⟩
 ·unfold putK
  rw[kG fun e=>(by rw[(zhu l k).1 e] at h; cases h),jT]; rfl
 unfold putF; split <;> exact dE _
theorem obMp {s:St} {ob:Nat->Option Ob} {m m':Nat} {ks ks':List (List Int)} {f f':Nat->D} {o:Option Ob} (h:o=some (.mp m ks f)) (e:D.eqv (.mp m ks f) (.mp m' ks' f')):Oble s ob o (.mp m' ks' f'):=by subst h; exact e
abbrev Mp.w (m:Mp):Nat:=m.W.toNat
abbrev Mp.h (m:Mp):Nat:=m.H.toNat
def spL (m:Mp):List (Nat × Nat):=(List.range (m.w * m.h)).map fun n=>(n / m.w,n % m.w)
theorem zcR (m:Mp):(spL m).length=m.w * m.h:=by unfold spL; simp
theorem zqT {m:Mp} {y x:Nat} (hy:y<m.h) (hx:x<m.w):(spL m)[y * m.w+x]?=some (y,x):=by
 have h1:y * m.w+x<m.w * m.h:=by
  have:(y+1) * m.w<=m.h * m.w:=jW _ hy
  rw[qC] at this
  rw[qI m.w m.h]
  omega
 have h2:(y * m.w+x) / m.w=y:=by rw[qI,Nat.mul_add_div (by omega),jbf hx]; rfl
 have h3:(y * m.w+x) % m.w=x:=by rw[qI,ja7,jaC hx]
 unfold spL
 rw[jU,qR h1]
 simp only[qG,h2,h3]
def spEnc (m:Mp) (p:Nat × Nat):List V1:=[.d (I (p.1 * m.W+p.2)),.agg [I p.2,I p.1]]
abbrev spClo (m:Mp):D:=.clo 153 1 (fun _=>capB m.ds)
theorem zfC (m:Mp):Spec PP 103 [m.v] [.d (spClo m)]:=by
 refine sA Tryz.func103 ?_
 refine⟨⟨rfl,rfl,fun j hj=>?_⟩,trivial⟩
 match j,hj with
 | 0,_=>exact⟨_,rfl,rfl,_,_,rfl,rfl,rfl,fun j hj=>dE _⟩
theorem zdA (m:Mp) (hv:validM m=true):SeqC PP 153 1 (fun _=>capB m.ds) (spEnc m) (spL m):=by
 obtain⟨bw,bh,-,-⟩:=zag hv
 have hw:((m.w:Nat):Int)=m.W:=by show ((m.W.toNat:Nat):Int)=m.W; omega
 have hh:((m.h:Nat):Int)=m.H:=by show ((m.H.toNat:Nat):Int)=m.H; omega
 refine zfo Tryz.func153 rfl (by kernel_rfl) rfl rfl (spEnc m) _ fun l=>?_
 refine lOf (σ:=Nat) (fun y=>([(G,.gho (some (y * m.w))),(0,.yl l),(1,avOf (.d (capB m.ds))),(6,.d (I m.H)),(7,.d (I y))],[])) (fun y=>y<=m.h) (fun y=>m.h - y) 0 ⟨rfl,trivial,avG rfl (by simp),wq rfl⟩ (jF _) fun y hy=>?_
 apply bY <;> intro h1
 ·have h1:y<m.h:=by have:=dT h1; omega
  refine lOf (σ:=Nat) (fun x=>([(G,.gho (some (y * m.w+x))),(0,.yl l),(1,avOf (.d (capB m.ds))),(3,.d (I y)),(6,.d (I m.H)),(7,.d (I y)),(11,.d (I m.W)),(12,.d (I x))],[])) (fun x=>x<=m.w) (fun x=>m.w - x) 0 ⟨rfl,trivial,avG rfl (by simp),wq rfl⟩ (jF _) fun x hx=>?_
  apply bY <;> intro h2
  ·have h2:x<m.w:=by have:=dT h2; omega
   have m1:=mulB (a:=(y:Int)) (b:=m.W) (x:=49) (y:=49) (by omega) (by omega)
   refine⟨i6,⟨i6,?_⟩⟩
   refine CallSt.yd (d:=25) [(0,.yl l),(1,avOf (.d (capB m.ds))),(3,.d (I y)),(6,.d (I m.H)),(7,.d (I y)),(11,.d (I m.W)),(12,.d (I x))] rfl rfl rfl rfl ⟨rfl,trivial,wq rfl⟩ (zqT h1 h2) rfl rfl ?_ ?_
   ·refine sF ?_
    refine⟨i6,?_⟩
    refine⟨x+1,⟨rfl,trivial,avG rfl rfl,wq rfl⟩,h2,(msr (by omega))⟩
   refine sT ?_
   exact .inr rfl
  have h2:x=m.w:=by have:=dF h2; omega
  subst h2
  refine⟨i6,?_⟩
  refine⟨y+1,⟨rfl,trivial,avG rfl (by rw[qC,Nat.one_mul]),wq rfl⟩,h1,(msr (by omega))⟩
 have h1:y=m.h:=by have:=dF h1; omega
 subst h1
 exact .inl (show AV.gho (some (m.h * m.w)) = .gho (some (spL m).length) by rw[zcR,qI])
def plc (m:Mp) (n:Nat):Place:=⟨((n % m.w:Nat):Int),((n / m.w:Nat):Int)⟩
theorem zh1 {m:Mp} {pre:List (Nat × Nat)} {x:Nat × Nat} (h:pre ++ [x] <+: spL m):x=(pre.length / m.w,pre.length % m.w)/\pre.length<m.w * m.h:=by
 have h1:(spL m)[pre.length]?=some x:=by
  obtain⟨t,e⟩:=h
  rw[<- e]; simp
 have h2:pre.length<m.w * m.h:=by
  have:=(kC.1 h1).1
  rwa [zcR] at this
 unfold spL at h1
 rw[jU,qR h2] at h1
 simp only[qG,jO] at h1
 exact⟨h1.symm,h2⟩
theorem zos {m:Mp} {n:Nat} (hv:validM m=true) (h:n<m.w * m.h):onM m (plc m n)=true:=by
 obtain⟨bw,bh,-,-⟩:=zag hv
 refine zah.2 ?_
 have hw:0<m.w:=by show 0<m.W.toNat; omega
 have h1:=jay n hw
 have h2:n / m.w<m.h:=jaN h
 generalize hq:n / m.w=q at h2
 generalize hr:n % m.w=r at h1
 show (0<=((n % m.w:Nat):Int)/\((n % m.w:Nat):Int)<m.W)/\(0<=((n / m.w:Nat):Int)/\((n / m.w:Nat):Int)<m.H)
 have e1:((m.w:Nat):Int)=m.W:=by show ((m.W.toNat:Nat):Int)=m.W; omega
 have e2:((m.h:Nat):Int)=m.H:=by show ((m.H.toNat:Nat):Int)=m.H; omega
 rw[hq,hr]
 omega
theorem obN {s:St} {ob:Nat->Option Ob} {j e k:Nat} {f:Nat->Nat->D} {o:Option Ob} (h:o=some (.box [.nilsl])) (h1:s.ob j=none) (h2:ob j=some (.row e k 0 f)):Oble s ob o (.box [.own j]):=by
 subst h; exact⟨⟨h1,e,k,f,h2⟩,trivial⟩
theorem obO {s:St} {ob:Nat->Option Ob} {j:Nat} {o:Option Ob} (h:o=some (.box [.own j])):Oble s ob o (.box [.own j]):=by
 subst h; exact⟨rfl,trivial⟩
theorem obZ {s:St} {ob:Nat->Option Ob} {e k n:Nat} {f:Nat->Nat->D} {o:Option Ob} (h:o=none) (h1:n=0):Oble s ob o (.row e k n f):=by
 subst h; exact h1
abbrev lP (l:List Place):D:=.slc 2 l.length fun i=>(l.getD i default).at
abbrev rowP (l:List Place):Nat->Nat->D:=fun i=>(l.getD i default).at
theorem zq8 {vs:List Place} {p:Place} {g:Nat->Nat->D} (hg:∀ j,j<2->D.eqv (g 0 j) (p.at j)):D.eqv (.slc 2 (vs.length+1) (appRow vs.length (rowP vs) g)) (.slc 2 (vs ++ [p]).length (rowP (vs ++ [p]))):=by
 refine⟨by simp,.inr ⟨rfl,fun i hi j hj=>?_⟩⟩
 show D.eqv (appRow vs.length (rowP vs) g i j) (((vs ++ [p]).getD i default).at j)
 unfold appRow
 by_cases h:i<vs.length
 ·rw[kH h,hU,jJ h,<- hU]
  exact dE _
 have e:i=vs.length:=by omega
 subst e
 rw[kG h,kE,hU,jK (jE _),kE]
 exact hg j hj
abbrev Svc.n (s:Svc):Nat:=s.c.M.w * s.c.M.h
def alwK (s:Svc) (b:Brn) (r:Rpt) (k:Nat) (n:Nat):Bool:=decide (n<k) && allB s b r (plc s.c.M n)
def alwP (s:Svc) (b:Brn) (r:Rpt):Nat->Bool:=alwK s b r s.n
theorem zoa {s:Svc} {b:Brn} {r:Rpt} {k:Nat} (h:allB s b r (plc s.c.M k)=true):alwK s b r (k+1)=addP (alwK s b r k) k:=by
 funext n
 unfold alwK addP
 by_cases e:n=k
 ·subst e; rw[h]; simp
 have e1:decide (n<k+1)=decide (n<k):=by apply wF.2; omega
 rw[e1,jax.2 e,jaj]
theorem zqF {s:Svc} {b:Brn} {r:Rpt} {k:Nat} (h:allB s b r (plc s.c.M k)=false):alwK s b r (k+1)=alwK s b r k:=by
 funext n
 unfold alwK
 by_cases e:n=k
 ·subst e; rw[h]; simp
 have e1:decide (n<k+1)=decide (n<k):=by apply wF.2; omega
 rw[e1]
theorem zse (s:Svc) (b:Brn) (r:Rpt):alwK s b r 0=fun _=>false:=by funext n; unfold alwK; simp
theorem bD_0:(bD fun _=>false)=List.replicate 38 (D.int .u64 0):=by
 unfold bD
 simp only[zoY]
 rfl
abbrev bx8 (x:D):Ob:=.box [.d x]
def obAlw (s:Svc) (b:Brn) (r:Rpt) (k:Nat):List (Nat × Ob):=[(3,.box (s.ds.map AV.d)),(4,.box (b.ds.map AV.d)),(6,.box ((List.replicate 38 (D.int .u64 0)).map AV.d)),(7,.box ((bD (alwK s b r k)).map AV.d)),(8,bx8 (tldD r))]
theorem zco {m:Mp} (hv:validM m=true) {k:Nat}:((k / m.w:Nat):Int) * m.W+((k % m.w:Nat):Int)=(k:Int):=by
 obtain⟨bw,bh,-,-⟩:=zag hv
 have e1:((m.w:Nat):Int)=m.W:=by show ((m.W.toNat:Nat):Int)=m.W; omega
 rw[<- e1]
 have:=jaY k m.w
 rw[qI] at this
 exact_mod_cast this
theorem zbv {m:Mp} (hv:validM m=true):m.w * m.h<=2401:=by
 obtain⟨bw,bh,-,-⟩:=zag hv
 have:m.w * m.h<=49 * 49:=Nat.mul_le_mul (by show m.W.toNat<=49; omega) (by show m.H.toNat<=49; omega)
 omega
theorem zk7 (s:Svc) (b:Brn) (r:Rpt) (hv:validM s.c.M=true) (hr:frmB r=true) (hT:s.c.T.length<=1000000):Spec PP 152 [s.v,b.v,r.v] [.agg (bD (alwP s b r))]:=by
 have hl:=zbv hv
 refine sA Tryz.func152 ?_
 refine cR (zoB r) rfl rfl ?_
 refine cR (zfC s.c.M) rfl rfl ?_
 refine CodeOb.rangeAt (zdA s.c.M hv) rfl (fun _=>rfl) (by decide) [(3,.box 3 0),(4,.box 4 0),(6,.box 6 0),(7,.box 7 0),(8,.box 8 0)] [] (fun pre=>obAlw s b r pre.length) rfl (fun _=>rfl) ?_ (Iv:=fun _=>True) trivial (fun v pre x hx _=>?_) (fun _=>?_)
 ·refine⟨rfl,⟨obX rfl,obX rfl,obX rfl,obX ?_,obX rfl,trivial⟩,wq rfl⟩
  show _=some (Ob.box ((bD (alwK s b r 0)).map AV.d))
  rw[zse,bD_0]; rfl
 ·obtain⟨rfl,hk⟩:=zh1 hx
  have hn:=zco hv (k:=pre.length)
  refine cP (ziC s b r (plc s.c.M pre.length) hr hT) rfl rfl ?_
  apply bY <;> intro h1
  ·have hp:=l_put (alwK s b r pre.length) pre.length (by omega)
   rw[<- hn] at hp
   refine CallSt.bxP rfl rfl hp ⟨⟨_,_,_,rfl,rfl,rfl,rfl,rfl⟩⟩ rfl ?_
   refine⟨trivial,rfl,⟨obX rfl,obX rfl,obX rfl,obX ?_,obX rfl,trivial⟩,wq rfl⟩
   rw[jR]
   show _=some (Ob.box ((bD (alwK s b r (pre.length+1))).map AV.d))
   rw[zoa h1,hn]; rfl
  refine⟨trivial,rfl,⟨obX rfl,obX rfl,obX rfl,obX ?_,obX rfl,trivial⟩,wq rfl⟩
  rw[jR]
  show _=some (Ob.box ((bD (alwK s b r (pre.length+1))).map AV.d))
  rw[zqF h1]; rfl
 rw[zcR]
 exact r1C rfl rfl rfl rfl rfl rfl (zab _)
def plsK (m:Mp) (P:Nat->Bool) (k:Nat):List Place:=((List.range k).filter P).map (plc m)
def plsL (m:Mp) (P:Nat->Bool):List Place:=plsK m P (m.w * m.h)
theorem zdr {m:Mp} {P:Nat->Bool} {k:Nat} (h:P k=true):plsK m P (k+1)=plsK m P k ++ [plc m k]:=by
 unfold plsK
 rw[wG,qA,jT,qN h]; rfl
theorem zfr {m:Mp} {P:Nat->Bool} {k:Nat} (h:P k=false):plsK m P (k+1)=plsK m P k:=by
 unfold plsK
 rw[wG,qA,jT,qO (by rw[h]; decide)]; simp
theorem zds (m:Mp) (P:Nat->Bool) (k:Nat):(plsK m P k).length<=k:=by
 unfold plsK
 have:=jaq P (List.range k)
 simpa using this
def obPls (s:Svc) (P:Nat->Bool) (k:Nat):List (Nat × Ob):=[(2,.box (s.ds.map AV.d)),(3,.box ((bD P).map AV.d)),(5,.box [.own 20]),(20,.row 63 2 (plsK s.c.M P k).length (rowP (plsK s.c.M P k)))]
theorem znf (s:Svc) (P:Nat->Bool) (hv:validM s.c.M=true):Spec PP 149 [s.v,.agg (bD P)] [.d (lP (plsL s.c.M P))]:=by
 have hl:=zbv hv
 refine sA Tryz.func149 ?_
 refine cR (zfC s.c.M) rfl rfl ?_
 refine CodeOb.rangeAt (zdA s.c.M hv) rfl (fun _=>rfl) (by decide) [(2,.box 2 0),(3,.box 3 0),(5,.box 5 0)] [(5,0)] (fun pre=>obPls s P pre.length) rfl (fun _=>rfl) ?_ (Iv:=fun _=>True) trivial (fun v pre x hx _=>?_) (fun _=>?_)
 ·exact⟨rfl,⟨obX rfl,obX rfl,obN rfl rfl rfl,obZ rfl rfl,trivial⟩,wq rfl⟩
 ·obtain⟨rfl,hk⟩:=zh1 hx
  have hn:=zco hv (k:=pre.length)
  have hp:=zpQ P pre.length (by omega)
  rw[<- hn] at hp
  have hlen:=zds s.c.M P pre.length
  refine cP hp rfl rfl ?_
  apply bY <;> intro h1
  ·refine⟨⟨.inr rfl,by unfold maxLen; omega,by show ((plsK s.c.M P pre.length).length+1) * 16<=140737488355328; omega⟩,?_⟩
   refine⟨trivial,rfl,⟨obX rfl,obX rfl,obO rfl,obR rfl ?_,trivial⟩,wq rfl⟩
   rw[jR]
   show D.eqv _ (.slc 2 (plsK s.c.M P (pre.length+1)).length (rowP (plsK s.c.M P (pre.length+1))))
   rw[zdr h1]
   exact zq8 (at2 rfl rfl)
  refine⟨trivial,rfl,⟨obX rfl,obX rfl,obO rfl,obR rfl ?_,trivial⟩,wq rfl⟩
  rw[jR]
  show D.eqv _ (.slc 2 (plsK s.c.M P (pre.length+1)).length (rowP (plsK s.c.M P (pre.length+1))))
  rw[zfr h1]; exact dE _
 rw[zcR]
 refine⟨⟨_,_,_,_,rfl,?_⟩,trivial⟩
 exact dE _
abbrev bAt (P:Nat->Bool) (j:Nat):D:=U (wd P j)
abbrev lB (L:List (Nat->Bool)):D:=.slc 38 L.length fun m=>bAt (L.getD m default)
def metP (L:List (Nat->Bool)) (n:Nat):Bool:=L.all fun P=>P n
abbrev litN {n:Nat} (_:n<38):Nat:=n
theorem zkS {L:List (Nat->Bool)} {k:Nat} (h:k<L.length):metP (L.take (k+1))=fun n=>metP (L.take k) n && L.getD k default n:=by
 funext n
 unfold metP
 rw[zay h default,List.all_append]; simp
abbrev mF (L:List (Nat->Bool)) (i j:Nat):Nat:=if j<i then wd (metP L) j else 0
abbrev mK (L:List (Nat->Bool)) (i k j:Nat):Nat:=if j=i then wd (metP (L.take k)) i else mF L i j
abbrev mV (f:Nat->Nat):List AV:=((List.range 38).map fun j=>U (f j)).map AV.d
theorem zry (L:List (Nat->Bool)):((List.range 38).map fun j=>U (mF L 38 j))=bD (metP L):=by
 refine qL fun j hj=>?_
 have hj:=kI.1 hj
 show U (if j<38 then _ else _)=_
 rw[kH hj]
theorem zrx (L:List (Nat->Bool)) (i:Nat):mV (mK L i L.length)=mV (mF L (i+1)):=by
 refine jI (List.map AV.d) (qL fun j hj=>?_)
 show U (if j=i then _ else if j<i then _ else _)=U (if j<i+1 then _ else _)
 rw[jZ]
 by_cases e:j=i
 ·subst e; rw[kH rfl,kH (by omega)]
 rw[kG e]
 by_cases e2:j<i
 ·rw[kH e2,kH (by omega)]
 rw[kG e2,kG (by omega)]
theorem mK_0 (L:List (Nat->Bool)) (i:Nat):mV (mK L i 0)=bV (mF L i) i 18446744073709551615:=by
 refine zr9 ?_ fun j _ hj=>kG hj
 show (((if i=i then wd (metP (L.take 0)) i else _:Nat)):Int)=_
 rw[kH rfl]
 have:metP (L.take 0)=fun _=>true:=by funext n; rfl
 rw[this,zqI]; rfl
theorem mK_s {L:List (Nat->Bool)} {k:Nat} (i:Nat) (h:k<L.length):mV (mK L i (k+1))=bV (mF L i) i (IntKind.wrap .u64 ((BitVec.ofInt 64 ((mK L i k i:Nat):Int) &&& BitVec.ofInt 64 ((wd (L.getD k default) i:Nat):Int)).toNat:Int)):=by
 refine zr9 ?_ fun j _ hj=>kG hj
 show (((if i=i then wd (metP (L.take (k+1))) i else _:Nat)):Int)=IntKind.wrap .u64 ((BitVec.ofInt 64 (((if i=i then wd (metP (L.take k)) i else _:Nat)):Int) &&& _).toNat:Int)
 rw[kH rfl,kH rfl,zqE,zkS h]
theorem zrz (L:List (Nat->Bool)) (hn:L.length<=1000000):Spec PP 150 [.d (lB L)] [.agg (bD (metP L))]:=by
 refine sA Tryz.func150 ?_
 refine lOf (σ:=Nat) (fun i=>([(0,.d (lB L)),(2,.box 2 0),(3,.box 3 0),(7,.d (I i))],[(2,.box ((List.replicate 38 (D.int .u64 0)).map AV.d)),(3,.box (mV (mF L i)))])) (fun i=>i<=38) (fun i=>38 - i) 0
  ⟨rfl,⟨obX rfl,obX rfl,trivial⟩,wq rfl⟩ (jF _) fun i hi=>?_
 apply bY <;> intro h1
 ·have h1:i<38:=by have:(i:Int)<38:=dT h1; omega
  have e0:=mK_0 L i
  have e1:=fun k h=>mK_s (L:=L) (k:=k) i h
  have e2:=zrx L i
  rcases i38 h1 with rfl | rfl | rfl | rfl | rfl | rfl | rfl | rfl | rfl | rfl | rfl | rfl | rfl | rfl | rfl | rfl | rfl | rfl | rfl | rfl | rfl | rfl | rfl | rfl | rfl | rfl | rfl | rfl | rfl | rfl | rfl | rfl | rfl | rfl | rfl | rfl | rfl | rfl <;>
  (
   refine⟨⟨by decide,by decide⟩,?_⟩
   refine lOf (σ:=Nat) (fun k=>([(0,.d (lB L)),(2,.box 2 0),(3,.box 3 0),(4,.d (I (litN h1))),(7,.d (I (litN h1))),(12,.d (lB L)),(13,.d (I L.length)),(14,.d (I k))],[(2,.box ((List.replicate 38 (D.int .u64 0)).map AV.d)),(3,.box (mV (mK L (litN h1) k)))])) (fun k=>k<=L.length) (fun k=>L.length - k) 0
    ⟨rfl,⟨obX rfl,obX (by rw[e0]; rfl),trivial⟩,wq rfl⟩ (jF _) fun k hk=>?_
   apply bY <;> intro h2
   ·have h2:k<L.length:=by have:=dT h2; omega
    refine⟨⟨rfl,by omega,by omega⟩,?_⟩
    refine oN 9 ?_
    refine⟨⟨by unfold litN; omega,by unfold litN; omega⟩,⟨⟨by unfold litN; omega,by unfold litN; omega⟩,⟨⟨by unfold litN; omega,by unfold litN; omega⟩,?_⟩⟩⟩
    refine⟨i6,?_⟩
    refine⟨k+1,⟨rfl,⟨obX rfl,obX (by rw[e1 k h2]; rfl),trivial⟩,wq rfl⟩,h2,(msr (by omega))⟩
   have h2:k=L.length:=by have:=dF h2; omega
   subst h2
   refine⟨zaZ (by unfold litN; omega) (by unfold litN; omega),?_⟩
   exact⟨litN h1+1,⟨rfl,⟨obX rfl,obX (by rw[<- e2]; rfl),trivial⟩,wq rfl⟩,(by unfold litN; omega),(by unfold litN; omega)⟩)
 have h1:i=38:=by have:¬ (i:Int)<38:=dF h1; omega
 subst h1
 rw[<- zry]
 exact r1C rfl rfl rfl rfl rfl rfl (zab _)
def rp1E (s:Svc) (l:List Rpt) (i:Nat):Int:=if rptE s (l.getD i default)≠0 then rptE s (l.getD i default) else if ((l.take i).map Rpt.ID).contains (l.getD i default).ID=true then 6 else 0
def givE (s:Svc) (b:Brn) (l:List Rpt):Int:=if svcE s≠0 then svcE s else if brnB b=false then 1 else if 24<l.length then 2 else err1 (rp1E s l) l.length
structure GivOk (S:Svc) (b:Brn) (l:List Rpt):Prop where
  s:SvcOk S
  n:l.length<=24
  r:∀ i,i<l.length->frmB (l.getD i default)=true/\rptE S (l.getD i default)=0
  d:∀ i,i<l.length->((l.take i).map Rpt.ID).contains (l.getD i default).ID=false
  b:brnB b=true
theorem zps {s:Svc} {r:Rpt} (h:rptE s r=0):frmB r=true:=by
 unfold rptE at h
 split at h
 ·cases h
 rename_i h2; simpa using h2
theorem zde {s:Svc} {b:Brn} {l:List Rpt} (h:givE s b l=0):GivOk s b l:=by
 unfold givE at h
 split at h
 ·rename_i h1; exact absurd h h1
 rename_i h1
 split at h
 ·cases h
 rename_i h2
 split at h
 ·cases h
 rename_i h3
 have a:=zbh h
 have A:∀ i,i<l.length->rptE s (l.getD i default)=0/\((l.take i).map Rpt.ID).contains (l.getD i default).ID=false:=fun i hi=>by
  have:=a i hi
  unfold rp1E at this
  split at this
  ·rename_i h4; exact absurd this h4
  rename_i h4
  split at this
  ·cases this
  rename_i h5
  exact⟨jL h4,by simpa using h5⟩
 exact⟨zbI (jL h1),by omega,fun i hi=>⟨zps (A i hi).1,(A i hi).1⟩,fun i hi=>(A i hi).2,by simpa using h2⟩
theorem zpR (s:Svc) (b:Brn) (l:List Rpt):Spec PP 151 [s.v,b.v,.d (lR l)] [.d (.int .i64 (givE s b l))]:=by
 refine sA Tryz.func151 ?_
 refine cP (zd1 s) rfl rfl ?_
 apply bY <;> intro h0
 ·refine r1I rfl ?_
  unfold givE; rw[kH (by simpa using h0)]
 have h0:svcE s=0:=by simpa using h0
 have ok:=zbI h0
 refine cP (zk5 b) rfl rfl ?_
 apply bY <;> intro h1
 ·refine r1I rfl ?_
  unfold givE; rw[kG (fun hh=>hh h0),kH (by simpa using h1)]
 have h1:brnB b=true:=by simpa using h1
 apply bY <;> intro h2
 ·have h2:24<l.length:=by have:(24:Int)<l.length:=dT h2; omega
  refine r1I rfl ?_
  unfold givE; rw[kG (fun hh=>hh h0),kG (by rw[h1]; decide),kH h2]
 have h2:¬ 24<l.length:=by have:¬ (24:Int)<l.length:=dF h2; omega
 have e0:givE s b l=err1 (rp1E s l) l.length:=by unfold givE; rw[kG (fun hh=>hh h0),kG (by rw[h1]; decide),kG h2]
 rw[e0]
 refine lOf (σ:=Nat) (fun i=>([(2,.d (lR l)),(3,.box 3 0),(8,.own 25),(26,.d (lR l)),(27,.d (I l.length)),(28,.d (I i))],[(3,.box (s.ds.map AV.d)),(25,.mp 1 (((l.take i).map Rpt.ID).map fun x=>[x]) fun _=>.bool true)])) (fun i=>i<=l.length /\ ∀ j,j<i->rp1E s l j=0) (fun i=>l.length - i) 0
  ⟨rfl,⟨obX rfl,obMp rfl ⟨rfl,rfl,fun j hj=>absurd hj (qQ _)⟩,trivial⟩,wq rfl⟩ z0L fun i hi=>?_
 obtain⟨hi,ha⟩:=hi
 apply bY <;> intro h3
 ·have h3:i<l.length:=by have:=dT h3; omega
  refine⟨⟨rfl,by omega,by omega⟩,?_⟩
  refine cP (zbC s (l.getD i default) (by have:=ok.c.t; omega) (by have:=ok.k.n; omega)) rfl rfl ?_
  apply bY <;> intro h4
  ·have h4:rptE s (l.getD i default)≠0:=by simpa using h4
   have e1:rp1E s l i=rptE s (l.getD i default):=by unfold rp1E; rw[kH h4]
   refine r1I rfl ?_
   rw[zaN ha (by rw[e1]; exact h4) h3,e1]
  have h4:rptE s (l.getD i default)=0:=by simpa using h4
  refine⟨⟨kInt,rfl⟩,.bool (((l.take i).map Rpt.ID).contains (l.getD i default).ID),D.eqv_of_eq (zoy _ _),?_⟩
  apply bY <;> intro h5
  ·have h5:((l.take i).map Rpt.ID).contains (l.getD i default).ID=true:=h5
   have e1:rp1E s l i=6:=by unfold rp1E; rw[kG (fun hh=>hh h4),kH h5]
   refine r1I rfl ?_
   rw[zaN ha (by rw[e1]; decide) h3,e1]
  have h5:((l.take i).map Rpt.ID).contains (l.getD i default).ID=false:=h5
  have e1:rp1E s l i=0:=by unfold rp1E; rw[kG (fun hh=>hh h4),kG (by rw[h5]; decide)]
  refine⟨⟨kInt,rfl⟩,?_⟩
  refine⟨i6,?_⟩
  refine⟨i+1,⟨rfl,⟨obX rfl,obMp rfl ?_,trivial⟩,wq rfl⟩,⟨h3,fun j hj=>?_⟩,(msr (by omega))⟩
  ·rw[zay h3 default,jT]; exact zhg h5
  by_cases e:j=i
  ·subst e; exact e1
  exact ha j (by omega)
 have h3:i=l.length:=by have:=dF h3; omega
 subst h3
 refine r1I rfl ?_
 rw[za7 ha]
abbrev rowB (L:List (Nat->Bool)):Nat->Nat->D:=fun i=>bAt (L.getD i default)
theorem pushB {vs:List (Nat->Bool)} {P:Nat->Bool} {g:Nat->Nat->D} (hg:∀ j,j<38->g 0 j=bAt P j):D.eqv (.slc 38 (vs.length+1) (appRow vs.length (rowB vs) g)) (.slc 38 (vs ++ [P]).length (rowB (vs ++ [P]))):=by
 refine⟨by simp,.inr ⟨rfl,fun i hi j hj=>?_⟩⟩
 show D.eqv (appRow vs.length (rowB vs) g i j) (bAt ((vs ++ [P]).getD i default) j)
 unfold appRow
 by_cases h:i<vs.length
 ·rw[kH h,hU,jJ h,<- hU]
  exact dE _
 have e:i=vs.length:=by omega
 subst e
 rw[kG h,kE,hU,jK (jE _),kE]
 rw[hg j hj]
 exact dE _
theorem zsa (P:Nat->Bool):∀ j,j<38->getD' (bD P) j=bAt P j:=fun j hj=>by
 rcases i38 hj with rfl | rfl | rfl | rfl | rfl | rfl | rfl | rfl | rfl | rfl | rfl | rfl | rfl | rfl | rfl | rfl | rfl | rfl | rfl | rfl | rfl | rfl | rfl | rfl | rfl | rfl | rfl | rfl | rfl | rfl | rfl | rfl | rfl | rfl | rfl | rfl | rfl | rfl <;> rfl
theorem bD_0j (P:Nat->Bool) {j:Nat} (hj:j<38):getD' (bD P) (0 * 38+j)=bAt P j:=by
 rw[show 0 * 38+j=j by omega]; exact zsa P j hj
def allR (s:Svc) (b:Brn) (l:List Rpt):List (Nat->Bool) × Int:=if givE s b l≠0 then ([],givE s b l) else (l.map (alwP s b),0)
theorem zmw {α β:Type} (f:α->β) (l:List α) {i:Nat} (h:i<l.length) (d:α):(l.take (i+1)).map f=(l.take i).map f ++ [f (l.getD i d)]:=by
 rw[zay h d,jT]; rfl
theorem zpS (s:Svc) (b:Brn) (l:List Rpt):Spec PP 102 [s.v,b.v,.d (lR l)] [.d (lB (allR s b l).1),.d (.int .i64 (allR s b l).2)]:=by
 refine sA Tryz.func102 ?_
 refine cP (zpR s b l) rfl rfl ?_
 apply bY <;> intro h0
 ·have h0:givE s b l≠0:=by simpa using h0
  have e:allR s b l=([],givE s b l):=by unfold allR; rw[kH h0]
  rw[e]
  exact⟨⟨_,_,_,_,rfl,rfl,.inl rfl⟩,rtI rfl rfl,trivial⟩
 have h0:givE s b l=0:=by simpa using h0
 have e:allR s b l=(l.map (alwP s b),0):=by unfold allR; rw[kG (fun hh=>hh h0)]
 have ok:=zde h0
 rw[e]
 refine lOf (σ:=Nat) (fun i=>([(3,.box 3 0),(4,.box 4 0),(9,.own 9),(19,.d (lR l)),(20,.d (I l.length)),(21,.d (I i))],[(3,.box (s.ds.map AV.d)),(4,.box (b.ds.map AV.d)),(9,.row 242 38 ((l.take i).map (alwP s b)).length (rowB ((l.take i).map (alwP s b))))])) (fun i=>i<=l.length) (fun i=>l.length - i) 0
  ⟨rfl,⟨obX rfl,obX rfl,obR rfl ⟨rfl,.inl rfl⟩,trivial⟩,wq rfl⟩ (jF _) fun i hi=>?_
 apply bY <;> intro h3
 ·have h3:i<l.length:=by have:=dT h3; omega
  have hlen:((l.take i).map (alwP s b)).length=i:=by rw[kU,jQ]; omega
  have hn:=ok.n
  refine⟨⟨rfl,by omega,by omega⟩,?_⟩
  refine cP (zk7 s b (l.getD i default) ok.s.c.m (ok.r i h3).1 (by have:=ok.s.c.t; omega)) rfl rfl ?_
  refine⟨⟨.inr rfl,by unfold maxLen; omega,by show (((l.take i).map (alwP s b)).length+1) * 304<=140737488355328; omega⟩,?_⟩
  refine⟨i6,?_⟩
  refine⟨i+1,⟨rfl,⟨obX rfl,obX rfl,obR rfl ?_,trivial⟩,wq rfl⟩,h3,(msr (by omega))⟩
  rw[zmw (alwP s b) l h3 default]
  exact pushB fun j hj=>bD_0j (alwP s b (l.getD i default)) hj
 have h3:i=l.length:=by have:=dF h3; omega
 subst h3
 refine⟨⟨_,_,_,_,rfl,?_⟩,rtI rfl rfl,trivial⟩
 rw[jZ]
 exact dE _
def plcR (s:Svc) (b:Brn) (l:List Rpt):List Place × Int:=if givE s b l≠0 then ([],givE s b l) else (plsL s.c.M (metP (l.map (alwP s b))),0)
theorem zni (s:Svc) (b:Brn) (l:List Rpt):Spec PP 101 [s.v,b.v,.d (lR l)] [.d (lP (plcR s b l).1),.d (.int .i64 (plcR s b l).2)]:=by
 refine sA Tryz.func101 ?_
 refine cR (zpS s b l) rfl rfl ?_
 by_cases h0:givE s b l=0
 ·have e:allR s b l=(l.map (alwP s b),0):=by unfold allR; rw[kG (fun hh=>hh h0)]
  have e1:plcR s b l=(plsL s.c.M (metP (l.map (alwP s b))),0):=by unfold plcR; rw[kG (fun hh=>hh h0)]
  have ok:=zde h0
  have hn:=ok.n
  rw[e,e1]
  refine sF ?_
  refine oN 6 ?_
  refine oP (zrz (l.map (alwP s b)) (by rw[kU]; omega)) rfl rfl ?_
  refine oRo (znf s (metP (l.map (alwP s b))) ok.s.c.m) rfl rfl ?_
  exact⟨dE _,rtI rfl rfl,trivial⟩
 have e:allR s b l=([],givE s b l):=by unfold allR; rw[kH h0]
 have e1:plcR s b l=([],givE s b l):=by unfold plcR; rw[kH h0]
 rw[e,e1]
 refine sYe (by simpa using h0) ?_
 exact⟨⟨_,_,_,_,rfl,rfl,.inl rfl⟩,rtI rfl rfl,trivial⟩
theorem znh (P:Nat->Bool) (n:Nat) (a:Int) (ha:a=n) (hn:n<2432):Spec PP 155 [.agg (bD P),.d (capB [I a])] [B (!P n)]:=by
 subst ha
 refine sA Tryz.func155 ?_
 refine cP (zpQ P n hn) rfl rfl ?_
 exact r1B rfl rfl
theorem zq1 (l:List (Nat->Bool)) (g:FuncId) (c0:D) (p:(Nat->Bool)->Bool) (hn:l.length<=1000000) (hp:∀ i,i<l.length->Spec PP g [.agg (bD (l.getD i default)),.d c0] [B (p (l.getD i default))]):Spec PP 154 [.d (lB l),.d (cloB g [c0])] [N (idxL p l)]:=by
 refine sA Tryz.func154 ?_
 refine lOf (σ:=Nat) (fun i=>([(0,.d (lB l)),(1,.d (cloB g [c0])),(6,.d (lB l)),(7,.d (I l.length)),(8,.d (I i))],[])) (fun i=>i<=l.length /\ ∀ j,j<i->p (l.getD j default)=false) (fun i=>l.length - i) 0
  ⟨rfl,trivial,wq rfl⟩ z0L fun i hi=>?_
 obtain⟨hi,ha⟩:=hi
 apply bY <;> intro h1
 ·have h1:i<l.length:=by have:=dT h1; omega
  refine⟨⟨rfl,by omega,by omega⟩,?_⟩
  refine cP (hp i h1) rfl rfl ?_
  apply bY <;> intro h2
  ·refine r1I rfl ?_
   exact (zaj default h1 h2 ha).symm
  refine⟨i6,?_⟩
  refine⟨i+1,⟨rfl,trivial,wq rfl⟩,⟨h1,fun j hj=>?_⟩,(msr (by omega))⟩
  by_cases e:j=i
  ·subst e; exact h2
  exact ha j (by omega)
 have h1:i=l.length:=by have:=dF h1; omega
 subst h1
 refine r1I rfl ?_
 exact (zam default ha).symm
def fstI (L:List (Nat->Bool)) (n:Nat):Int:=idxL (fun P:Nat->Bool=>!P n) L
theorem zk4 (L:List (Nat->Bool)) (n:Nat) (a:Int) (ha:a=n) (hn:n<2432) (hL:L.length<=1000000):Spec PP 104 [.d (lB L),N a] [N (fstI L n)]:=by
 refine sA Tryz.func104 ?_
 refine CallSt.fz [3] (zq1 L 155 (capB [I a]) (fun P=>!P n) hL (fun i hi=>znh _ n a ha hn)) rfl rfl ?_
 exact r1I rfl rfl
abbrev rowS (l:List Rsn):Nat->Nat->D:=fun i=>(l.getD i default).at
theorem pushS {vs:List Rsn} {p:Rsn} {g:Nat->Nat->D} (hg:∀ j,j<3->D.eqv (g 0 j) (p.at j)):D.eqv (.slc 3 (vs.length+1) (appRow vs.length (rowS vs) g)) (.slc 3 (vs ++ [p]).length (rowS (vs ++ [p]))):=by
 refine⟨by simp,.inr ⟨rfl,fun i hi j hj=>?_⟩⟩
 show D.eqv (appRow vs.length (rowS vs) g i j) (((vs ++ [p]).getD i default).at j)
 unfold appRow
 by_cases h:i<vs.length
 ·rw[kH h,hU,jJ h,<- hU]
  exact dE _
 have e:i=vs.length:=by omega
 subst e
 rw[kG h,kE,hU,jK (jE _),kE]
 exact hg j hj
theorem at3 {f:Nat->D} {p:Rsn} (h0:f 0=I p.At.X) (h1:f 1=I p.At.Y) (h2:f 2=I p.R):∀ j,j<3->D.eqv (f j) (p.at j)
 | 0,_=>by rw[h0]; exact⟨rfl,rfl⟩
 | 1,_=>by rw[h1]; exact⟨rfl,rfl⟩
 | 2,_=>by rw[h2]; exact⟨rfl,rfl⟩
def rsnA (s:Svc) (l:List Rpt) (L:List (Nat->Bool)) (n:Nat):Rsn:=⟨plc s.c.M n,(l.getD (fstI L n).toNat default).ID⟩
def rsnK (s:Svc) (l:List Rpt) (L:List (Nat->Bool)) (k:Nat):List Rsn:=((List.range k).filter fun n=>decide (0<=fstI L n)).map (rsnA s l L)
theorem zh6 {s:Svc} {l:List Rpt} {L:List (Nat->Bool)} {k:Nat} (h:0<=fstI L k):rsnK s l L (k+1)=rsnK s l L k ++ [rsnA s l L k]:=by
 unfold rsnK
 rw[wG,qA,jT,qN (p:=fun n=>decide (0<=fstI L n)) (jG h)]; rfl
theorem zkd {s:Svc} {l:List Rpt} {L:List (Nat->Bool)} {k:Nat} (h:¬ 0<=fstI L k):rsnK s l L (k+1)=rsnK s l L k:=by
 unfold rsnK
 rw[wG,qA,jT,qO (p:=fun n=>decide (0<=fstI L n)) (by rw[jH h]; decide)]; simp
theorem zh7 (s:Svc) (l:List Rpt) (L:List (Nat->Bool)) (k:Nat):(rsnK s l L k).length<=k:=by
 unfold rsnK
 have:=jaq (fun n=>decide (0<=fstI L n)) (List.range k)
 simpa using this
theorem zlq {L:List (Nat->Bool)} {n:Nat} (h:0<=fstI L n):(fstI L n).toNat<L.length:=by
 rcases idxL_cases (fun P:Nat->Bool=>!P n) L default with⟨h1,_⟩ | ⟨i,h1,h2,_⟩
 ·exact absurd h (by unfold fstI; rw[h1]; decide)
 unfold fstI; rw[h2]; exact h1
def rsnR (s:Svc) (b:Brn) (l:List Rpt):List Rsn × Int:=if givE s b l≠0 then ([],givE s b l) else (rsnK s l (l.map (alwP s b)) s.n,0)
def obRsn (s:Svc) (l:List Rpt) (L:List (Nat->Bool)) (k:Nat):List (Nat × Ob):=[(3,.box (s.ds.map AV.d)),(5,.box [.d (lR l)]),(8,.box [.d (lB L)]),(10,.box [.own 44]),(44,.row 195 3 (rsnK s l L k).length (rowS (rsnK s l L k)))]
theorem zk8 (s:Svc) (b:Brn) (l:List Rpt):Spec PP 47 [s.v,b.v,.d (lR l)] [.d (lRs (rsnR s b l).1),.d (.int .i64 (rsnR s b l).2)]:=by
 refine sA Tryz.func47 ?_
 refine cR (zpS s b l) rfl rfl ?_
 by_cases h0:givE s b l=0
 ·have e:allR s b l=(l.map (alwP s b),0):=by unfold allR; rw[kG (fun hh=>hh h0)]
  have e1:rsnR s b l=(rsnK s l (l.map (alwP s b)) s.n,0):=by unfold rsnR; rw[kG (fun hh=>hh h0)]
  have ok:=zde h0
  have hn:=ok.n
  have hL:(l.map (alwP s b)).length=l.length:=kU _
  have hl:=zbv ok.s.c.m
  rw[e,e1]
  generalize l.map (alwP s b)=L at hL
  refine sF ?_
  refine cR (zfC s.c.M) rfl rfl ?_
  refine CodeOb.rangeAt (zdA s.c.M ok.s.c.m) rfl (fun _=>rfl) (by decide) [(3,.box 3 0),(5,.box 5 0),(8,.box 8 0),(10,.box 10 0)] [(10,0)] (fun pre=>obRsn s l L pre.length) rfl (fun _=>rfl) ?_ (Iv:=fun _=>True) trivial (fun v pre x hx _=>?_) (fun _=>?_)
  ·exact⟨rfl,⟨obX rfl,obX rfl,obX rfl,obN rfl rfl rfl,obZ rfl rfl,trivial⟩,wq rfl⟩
  ·obtain⟨rfl,hk⟩:=zh1 hx
   have hnn:=zco ok.s.c.m (k:=pre.length)
   have hlen:=zh7 s l L pre.length
   refine cP (zk4 L pre.length _ hnn (by omega) (by omega)) rfl rfl ?_
   apply bY <;> intro h1
   ·have h1:0<=fstI L pre.length:=dT h1
    have h2:=zlq h1
    refine oN 11 ?_
    refine⟨⟨rfl,h1,by omega⟩,?_⟩
    refine⟨⟨.inr rfl,by unfold maxLen; omega,by show ((rsnK s l L pre.length).length+1) * 24<=140737488355328; omega⟩,?_⟩
    refine⟨trivial,rfl,⟨obX rfl,obX rfl,obX rfl,obO rfl,obR rfl ?_,trivial⟩,wq rfl⟩
    rw[jR]
    show D.eqv _ (.slc 3 (rsnK s l L (pre.length+1)).length (rowS (rsnK s l L (pre.length+1))))
    rw[zh6 h1]
    exact pushS (at3 rfl rfl rfl)
   have h1:¬ 0<=fstI L pre.length:=dF h1
   refine⟨trivial,rfl,⟨obX rfl,obX rfl,obX rfl,obO rfl,obR rfl ?_,trivial⟩,wq rfl⟩
   rw[jR]
   show D.eqv _ (.slc 3 (rsnK s l L (pre.length+1)).length (rowS (rsnK s l L (pre.length+1))))
   rw[zkd h1]; exact dE _
  rw[zcR]
  exact⟨⟨_,_,_,_,rfl,dE _⟩,rtI rfl rfl,trivial⟩
 have e:allR s b l=([],givE s b l):=by unfold allR; rw[kH h0]
 have e1:rsnR s b l=([],givE s b l):=by unfold rsnR; rw[kH h0]
 rw[e,e1]
 refine sYe (by simpa using h0) ?_
 exact⟨⟨_,_,_,_,rfl,rfl,.inl rfl⟩,rtI rfl rfl,trivial⟩
theorem zra {vs:List Int} {a:Int} {g:Nat->Nat->D} (hg:g 0 0=I a):D.eqv (.slc 1 (vs.length+1) (appRow vs.length (fun i _=>I (vs.getD i 0)) g)) (.slc 1 (vs ++ [a]).length fun i _=>I ((vs ++ [a]).getD i 0)):=by
 refine⟨by simp,.inr ⟨rfl,fun i hi j hj=>?_⟩⟩
 obtain rfl:j=0:=by omega
 show D.eqv (appRow vs.length (fun i _=>I (vs.getD i 0)) g i 0) (I ((vs ++ [a]).getD i 0))
 unfold appRow
 by_cases h:i<vs.length
 ·rw[kH h,hU,jJ h,<- hU]
  exact dE _
 have e:i=vs.length:=by omega
 subst e
 rw[kG h,kE,hg,hU,jK (jE _),kE]
 exact⟨rfl,rfl⟩
end Go.Pg
namespace Go.Pg
open Go.Proofs Go.RowKit Go.Sort Go.Shelf Go.Lib
section
variable {α:Type} [Inhabited α] (f:α->Int)
def oneI:Ints α 1 where
  lst x:=[f x]
  len _:=rfl
  at_ x:=fun _=>I (f x)
  hat x j hj:=by
    obtain rfl:j=0:=by omega
    rfl
def vI (x:α):Value:=.int .i64 (f x)
theorem zrU (l:Array α):flatK (oneI f).enc 1 l=l.map (vI f):=by
 apply Array.ext_getElem?
 intro i
 have hs:=(oneI f).flat_size l
 by_cases hi:i<l.size
 ·have h1:=(oneI f).flat_get l (t:=i) (by omega)
  have h2:i<(flatK (oneI f).enc 1 l).size:=by omega
  rw[jaV _ i h2] at h1
  rw[qX h2,h1]
  have e1:i / 1=i:=Nat.div_one i
  have e2:i % 1=0:=Nat.mod_one i
  rw[e1,e2,Array.getElem?_map,qX hi,jaV l i hi]
  rfl
 rw[jam (by omega),jam (by rw[Array.size_map]; omega)]
theorem zpy (w:World) (b:Nat) (l:Array α):putRow (vI f) w b 0 l=putRowK (oneI f).enc 1 w b 0 l:=by
 unfold putRowK
 rw[zrU]
 unfold putRow
 congr 1
 funext c
 unfold putCells
 congr 1
 funext k x
 rw[Array.size_map]
 by_cases h:0<=k/\k<0+l.size
 ·have hk:k - 0<l.size:=by omega
  rw[kH h,kH h,jaV _ (k - 0) hk,jaV (l.map (vI f)) (k - 0) (by rw[Array.size_map]; exact hk),Array.getElem_map]; rfl
 rw[kG h,kG h]
theorem zqU (w:World) (b m:Nat) (l:Array α) (os:Array Obj):sortWorld (vI f) w b 0 m l os=sortWorldK (oneI f).enc 1 w b 0 m l os:=by
 unfold sortWorld sortWorldK; rw[zpy]
theorem zrN {w:World} {b:Nat} {l:Array α} (h:HoldsK (oneI f).enc 1 w b 0 l):Go.Sort.Holds (vI f) w b 0 l:=fun j hj=>by
 have h':Go.Sort.Holds id w b 0 (flatK (oneI f).enc 1 l):=h
 rw[zrU] at h'
 have:=h' j (by simpa using hj)
 have e:(l.map (vI f))[j]! = vI f l[j]!:=by
  rw[jaV _ j (by simpa using hj),jaV l j hj,Array.getElem_map]
 rw[e] at this
 exact this
end
theorem zg5 {P:Program} {ρ:Ren} (S:Lays.n189 P ρ) (hent:Ent P (ρ.f 189)) (e:TypeId) (l:List Int) (hn:l.length<=1000000) :
  SpecR P (ρ.f 189) [] [] e 1 l.length ((oneI id).row l) ((oneI id).row (l.mergeSort fun x y=>decide (x<=y))) []:=by
 refine⟨hent,fun w ok vs us v xs hok h1 h2 hr=>?_⟩
 cases h1
 cases h2
 have hlen:(l.mergeSort fun x y=>decide (x<=y)).length=l.length:=kY l
 by_cases h0:l=[]
 ·subst h0
  obtain⟨p,c,rfl⟩:∃ p c,v = .slice p 0 c:=by
   rcases hr.own.2 with⟨h3,_⟩ | ⟨q,c,cur,h3,_⟩
   ·exact⟨_,_,h3⟩
   exact⟨_,_,h3⟩
  refine (Any.slices_Sort_int_none S p c w).mono ?_
  rintro en w' ⟨rfl,rfl⟩
  exact⟨_,rfl,⟨rfl,rfl,rfl,jE _,fun _ _ _=>rfl⟩,⟨[],rfl,.nil⟩,xs,hr.own,hr.one,fun m hm=>absurd hm (qQ _)⟩
 rcases hr.own.2 with⟨_,h4⟩ | ⟨q,c,cur,rfl,_,hh,hnc,hcap,hcs,htk⟩
 ·exact absurd (jag.1 h4) h0
 have hH:=(oneI (id:Int->Int)).holds (cap:=c) hh htk hr.rep
 have hq:q<w.heap.size:=(jB.1 hh).1
 have hrun:=Any.slices_Sort_int S q 0 c l w (zrN id hH) hq (by omega)
 refine hrun.mono ?_
 rintro en w' ⟨rfl,n,os,rfl⟩
 have e1:=zqU (id:Int->Int) w q n (l.mergeSort fun x y=>decide (x<=y)).toArray os
 have e2:grow (putRow (Value.int .i64) (Sort.ahead w n) q 0 (l.mergeSort fun x y=>decide (x<=y)).toArray) os=sortWorldK (oneI (id:Int->Int)).enc 1 w q 0 n (l.mergeSort fun x y=>decide (x<=y)).toArray os:=e1
 rw[e2]
 obtain⟨p1,xs',p2,p3,p4⟩:=(oneI (id:Int->Int)).put n (l.mergeSort fun x y=>decide (x<=y)) os hh (by rw[hlen]; exact hnc) hcap hcs
 rw[hlen] at p2 p4
 exact⟨_,rfl,p1,⟨[],rfl,.nil⟩,xs',p2,p3,p4⟩
end Go.Pg
