/- Lemmas, joined by program. -/
import Derived.Test.YtnifogelanhdiaaGreatMD
set_option maxHeartbeats 4000000
set_option linter.all false
set_option maxRecDepth 100000
namespace Go.Pg
open Go.Proofs Go.RowKit Go.Sort Go.Shelf
section
variable {s:St} {o:Oper} {fo:Operand} {f:FuncId} {K:St->Prop} {E:Env}
theorem CallSt.tkF (ids:List Nat) {args:Array Operand} {at':Array TypeId} (hop:o.op = .call { callee:=.value fo,args,argTypes:=at' }) {pre post po:List V1} {i e k n n':Nat} {g g':Nat->Nat->D} (h:SpecT PP f pre post e k n g n' g')
  (ha:RowArgs (s.freezes ids) fo args.toList f pre i po) (he:eqV1s po post) (hi:(s.freezes ids).ob i=some (.row e k n g)) (hk:K (remk (s.freezes ids) i (.row e k n' g') o.dst)):CallSt EN PP s o fo args.toList K:=by
 rw[zaf]
 refine .inr (.inr (.inl ⟨_,⟨fun cx a w hD hd hR=>?_⟩,hk⟩))
 obtain⟨γ,hg⟩:=R.freezes ids hR
 obtain⟨caps,vs,us,xs,h1,h2,h3,h4,h5⟩:=zcr hg ha hi
 refine .enter (zaF hop h1 h.1) ?_
 rw[h2]
 refine (h.2 w _ vs us _ xs (fun b hb=>zal hg hb) h3 (zbc he h4) h5).mono fun en w' ⟨r,he,hgr,hbl,ys,y1,y2,y3⟩=>⟨r,he,?_⟩
 refine zcU (o':=.row e k n' g') hg hi hd hgr (fun e=>by have:=hD e; cases this) (fun b hb=>hbl b hb) (fun ok hok=>⟨ys,by rw[zac]; exact y1,(fun b hb=>?_),y2,fun m hm j hj=>?_⟩) (fun cs e=>by cases e)
 ·rw[zac] at hb
  rcases hbl b hb with h6 | h6
  ·exact (zaG hg hi h6).1
  exact .inl (jM hg.below.size h6)
 obtain⟨u,hu,hr⟩:=y3 m hm j hj
 exact⟨u,hu,Rep.keep0 (w:=w') (fun b hb=>hb.elim) hr⟩
end
theorem zcC {α:Type} (m:List α) (k i:Nat) (p d:α) (hk:k<m.length):(m.set k p).getD i d=if i=k then p else m.getD i d:=by
 rw[hU,List.getElem?_set,hU]
 by_cases h:k=i
 ·subst h; simp[hk]
 rw[kG h,kG fun e=>h e.symm]
theorem setRp {m:List Rpt} {n k k':Nat} {p q:Rpt} (hk:k<m.length) (e1:k'=k) (e2:q=p):D.eqv (.slc 8 n (storeRow (rowRp m) k' 0 [I q.ID,I q.Kind,I q.Tower,I q.C,I q.Tick,I q.From,I q.To,I q.Slack])) (.slc 8 n (rowRp (m.set k p))):=by
 subst e1; subst e2
 refine⟨rfl,.inr ⟨rfl,fun i hi j hj=>?_⟩⟩
 show D.eqv (storeRow (rowRp m) k' 0 _ i j) (((m.set k' q).getD i default).at j)
 rw[zcC m k' i q default hk]
 unfold storeRow
 by_cases h:i=k'
 ·rw[kH h,kH ⟨h,by omega,by simpa using hj⟩]
  match j,hj with
  | 0,_=>exact⟨rfl,rfl⟩
  | 1,_=>exact⟨rfl,rfl⟩
  | 2,_=>exact⟨rfl,rfl⟩
  | 3,_=>exact⟨rfl,rfl⟩
  | 4,_=>exact⟨rfl,rfl⟩
  | 5,_=>exact⟨rfl,rfl⟩
  | 6,_=>exact⟨rfl,rfl⟩
  | 7,_=>exact⟨rfl,rfl⟩
 rw[kG h,kG fun hh=>h hh.1]
 exact dE _
theorem zpb (p:Rpt->Bool) (g:FuncId) (c0:D) (hg:∀ r:Rpt,Spec PP g [r.v,.d c0] [B (p r)]) (l:List Rpt) (hn:l.length<=1000000):SpecT PP 105 [] [.d (cloB g [c0])] 101 8 l.length (rowRp l) (filR p l l.length).length (rowRp (filR p l l.length)):=by
 refine zmC Tryz.func105 rfl (by kernel_rfl) (fun i _ j _=>zoM _ i j) rfl fun v=>?_
 refine cP (zok l g c0 p hn fun i _=>hg _) rfl rfl ?_
 rcases idxL_cases p l default with⟨e0,h1⟩ | ⟨i,h1,e0,h2,h3⟩
 ·refine sYe (by rw[e0]; rfl) ?_
  have e:filR p l l.length=l:=by rw[ziO p l (jE _) h1,jZ]
  rw[e]
  exact⟨rfl,rfl,rfl,fun i hi j hj=>dE _⟩
 refine sNo (by rw[e0]; simp) ?_
 have ck:filR p l (i+1)=l.take i:=by rw[zcG p l h1,kH h2,jaT,ziO p l (by omega) h3]
 refine⟨by rw[e0]; exact i6,?_⟩
 refine lOf (σ:=Nat × Nat × List Rpt) (fun x=>([(0,.own 0),(1,.d (cloB g [c0])),(5,.d (I x.2.1)),(6,.d (I x.1))],[(0,.row 101 8 l.length (rowRp x.2.2))]))
  (fun x=>i+1<=x.1/\x.1<=l.length/\x.2.2.length=l.length/\x.2.1<=x.1 - 1/\x.2.2.take x.2.1=filR p l x.1 /\ ∀ m,x.1<=m->x.2.2.getD m default=l.getD m default) (fun x=>l.length - x.1) (i+1,i,l)
  ⟨rfl,⟨obR rfl (dE _),trivial⟩,rfl,avQ rfl,?_,?_,trivial⟩ ⟨jE _,h1,rfl,by simp,ck.symm,fun _ _=>rfl⟩ fun x hx=>?_
 ·exact avQ (by rw[e0]; rfl)
 ·exact avQ (by rw[e0]; rfl)
 obtain⟨x1,x2,x3,x4,x5,x6⟩:=hx
 apply bY <;> intro g1
 ·have g1:x.1<l.length:=by have:=dT g1; omega
  have e1:x.2.2.getD (x.1:Int).toNat default=l.getD x.1 default:=by rw[jar,x6 x.1 (jE _)]
  refine⟨⟨by omega,by omega⟩,⟨by omega,?_⟩⟩
  refine cP (hg (x.2.2.getD (x.1:Int).toNat default)) rfl rfl ?_
  apply bY <;> intro g2
  ·have g2:p (l.getD x.1 default)=false:=by rw[e1] at g2; simpa using g2
   refine⟨⟨by omega,by omega⟩,⟨by omega,?_⟩⟩
   refine⟨i6,?_⟩
   refine⟨i6,?_⟩
   refine⟨(x.1+1,x.2.1+1,x.2.2.set x.2.1 (l.getD x.1 default)),⟨rfl,⟨obR rfl (setRp (by omega) (jar _) e1),trivial⟩,rfl,wq rfl⟩,⟨by omega,by omega,by simp; omega,(show x.2.1+1<=x.1+1 - 1 by omega),?_,fun m hm=>?_⟩,?_⟩
   ·show (x.2.2.set x.2.1 (l.getD x.1 default)).take (x.2.1+1)=filR p l (x.1+1)
    rw[zcG p l g1,kG (by rw[g2]; decide),zay (i:=x.2.1) (by simp; omega) default,zcC _ _ _ _ _ (by omega),kH rfl,<- x5,List.take_set_of_le (jE _)]
   ·have hm:x.1+1<=m:=hm
    show (x.2.2.set x.2.1 (l.getD x.1 default)).getD m default=_
    rw[zcC _ _ _ _ _ (by omega),kG (by omega)]
    exact x6 m (by omega)
   show l.length - (x.1+1)<l.length - x.1
   omega
  have g2:p (l.getD x.1 default)=true:=by rw[e1] at g2; simpa using g2
  refine⟨i6,?_⟩
  refine⟨(x.1+1,x.2.1,x.2.2),⟨rfl,⟨obR rfl (dE _),trivial⟩,rfl,wq rfl⟩,⟨by omega,by omega,x3,(show x.2.1<=x.1+1 - 1 by omega),?_,fun m hm=>x6 m (by have:x.1+1<=m:=hm; omega)⟩,?_⟩
  ·show x.2.2.take x.2.1=filR p l (x.1+1)
   rw[zcG p l g1,kH g2,jaT,x5]
  show l.length - (x.1+1)<l.length - x.1
  omega
 have g1:x.1=l.length:=by have:=dF g1; omega
 have hk':x.2.1=(filR p l l.length).length:=by
  have:=jI List.length x5
  rw[jQ,g1] at this
  omega
 refine⟨⟨rfl,by omega,by omega⟩,?_⟩
 refine⟨by omega,?_⟩
 refine⟨⟨by omega,by omega⟩,?_⟩
 refine⟨rfl,rfl,?_,fun i hi j hj=>?_⟩
 ·show (x.2.1:Int).toNat=_
  omega
 have e3:(filR p l l.length).getD i default=x.2.2.getD i default:=by
  rw[<- g1,<- x5,hU,jS,kH (by omega),<- hU]
 show D.eqv (clrRow (rowRp x.2.2) (x.2.1:Int).toNat (l.length - (x.2.1:Int).toNat) _ i j) (((filR p l l.length).getD i default).at j)
 unfold clrRow
 rw[kG (by omega),e3]
 exact dE _
def offB (ids:List Int) (r:Rpt):Bool:=(r.Kind==1) && !ids.contains r.ID
def lstD (d:Day) (ids:List Int):List Rpt:=d.R.filter fun r=>!offB ids r
theorem ziy (d:Day) (ids:List Int):(lstD d ids).length<=d.R.length:=jaq _ _
theorem zpX (ids:List Int) (hi:ids.length<=1000000) (r:Rpt):Spec PP 107 [r.v,.d (capB [lI ids])] [B (offB ids r)]:=by
 refine sA Tryz.func107 ?_
 apply bY <;> intro h1
 ·have h1:(r.Kind==1)=true:=h1
  refine cP (zc7 ids r.ID hi) rfl rfl ?_
  refine sT ?_
  exact r1B rfl (by unfold offB; rw[h1,kN])
 have h1:(r.Kind==1)=false:=h1
 refine sF ?_
 exact r1B rfl (by unfold offB; rw[h1,kZ])
theorem ziF (d:Day) (ids:List Int) (hn:d.R.length<=1000000) (hi:ids.length<=1000000):Spec PP 48 [d.v,.d (lI ids)] [.d (lR (lstD d ids))]:=by
 have e:filR (offB ids) d.R d.R.length=lstD d ids:=by unfold filR lstD; rw[jZ]
 refine sA Tryz.func48 ?_
 refine CallSt.own (zm6 d.R hn) rfl rfl (fun m j _ _=>zoM _ m j) ?_
 refine CallSt.tkF [3] rfl (zpb (offB ids) 107 (capB [lI ids]) (zpX ids hi) d.R hn) ⟨⟨[],.tmp 7,[.tmp 8],[],rfl,rfl,rfl,rfl,rfl,rfl,rfl⟩⟩ ⟨⟨rfl,rfl,fun j hj=>by obtain rfl:j=0:=jab.1 hj; exact dE _⟩,trivial⟩ rfl ?_
 rw[e]
 exact⟨⟨_,_,_,_,rfl,rfl,.inr ⟨rfl,fun i _ j _=>dE _⟩⟩,trivial⟩
def day1E (d:Day) (i:Nat):Int:=
 if crpE d.s (d.R.getD i default)≠0 then crpE d.s (d.R.getD i default) else if ((d.R.take i).any fun x=>x.ID==(d.R.getD i default).ID)=true then 6 else 0
def dayE (d:Day):Int:=
 if svcE d.s≠0 then svcE d.s else if (!within d.Rise 0 200 || !within d.Long 0 1440)=true then 1
 else if 7<(sigK d.R).length \/ 10+(sigK d.R).length<d.R.length then 2 else err1 (day1E d) d.R.length
theorem znt (x r:Rpt):Spec PP 96 [x.v,.d (capB r.ds)] [B (x.ID==r.ID)]:=by
 refine sA Tryz.func96 ?_
 exact r1B rfl rfl
theorem zpU (l:List Rpt) {i:Nat} (h:i<=l.length):D.eqv (.slc 8 i fun m=>(l.getD m default).at) (lR (l.take i)):=by
 refine⟨by rw[jQ]; omega,.inr ⟨rfl,fun m hm j _=>?_⟩⟩
 show D.eqv ((l.getD m default).at j) (((l.take i).getD m default).at j)
 rw[hU,hU,jS,kH hm]
 exact dE _
theorem zbD (d:Day) (hn:d.R.length<=1000000):Spec PP 32 [d.v] [.d (.int .i64 (dayE d))]:=by
 refine sA Tryz.func32 ?_
 refine cP (zd1 d.s) rfl rfl ?_
 apply bY <;> intro h0
 ·refine r1I rfl ?_
  unfold dayE; rw[kH (by simpa using h0)]
 have h0:svcE d.s=0:=by simpa using h0
 refine cP (ziE d.Rise 0 200) rfl rfl ?_
 apply bY <;> intro h1
 ·have h1:(!within d.Rise 0 200)=true:=h1
  repeat first | apply sT | apply sF
  refine r1I rfl ?_
  unfold dayE; rw[kG (fun hh=>hh h0),kH (by rw[h1]; rfl)]
 have h1:(!within d.Rise 0 200)=false:=h1
 refine cP (ziE d.Long 0 1440) rfl rfl ?_
 repeat first | apply sT | apply sF
 apply bY <;> intro h2
 ·have h2:(!within d.Long 0 1440)=true:=h2
  refine r1I rfl ?_
  unfold dayE; rw[kG (fun hh=>hh h0),kH (by rw[h1,h2]; rfl)]
 have h2:(!within d.Long 0 1440)=false:=h2
 refine cR (zar d hn) rfl rfl ?_
 have e1:(sigL d.R).length=(sigK d.R).length:=zcp d.R
 have eg:dayE d=if 7<(sigK d.R).length \/ 10+(sigK d.R).length<d.R.length then 2 else err1 (day1E d) d.R.length:=by
  unfold dayE; rw[kG (fun hh=>hh h0),kG (by rw[h1,h2]; decide)]
 rw[eg]
 apply bY <;> intro h3
 ·have h3:7<(sigK d.R).length:=by have:(7:Int)<(sigL d.R).length:=dT h3; omega
  repeat first | apply sT | apply sF
  refine r1I rfl ?_
  rw[kH (.inl h3)]
 have h3:¬ 7<(sigK d.R).length:=by have:¬ (7:Int)<(sigL d.R).length:=dF h3; omega
 refine⟨i6,?_⟩
 repeat first | apply sT | apply sF
 apply bY <;> intro h4
 ·have h4:10+(sigK d.R).length<d.R.length:=by have:(10:Int)<(d.R.length:Int) - (sigL d.R).length:=dT h4; omega
  refine r1I rfl ?_
  rw[kH (.inr h4)]
 have h4:¬ 10+(sigK d.R).length<d.R.length:=by have:¬ (10:Int)<(d.R.length:Int) - (sigL d.R).length:=dF h4; omega
 rw[kG (fun h=>h.elim h3 h4)]
 have hl:d.R.length<=17:=by omega
 refine lOf (σ:=Nat) (fun i=>([(1,.box 1 0),(38,.d (lR d.R)),(39,.d (I d.R.length)),(40,.d (I i))],[(1,.box (d.ds.map AV.d))])) (fun i=>i<=d.R.length /\ ∀ j,j<i->day1E d j=0) (fun i=>d.R.length - i) 0
  ⟨rfl,⟨obD d.ds rfl,trivial⟩,wq rfl⟩ z0L fun i hi=>?_
 obtain⟨hi,ha⟩:=hi
 apply bY <;> intro h5
 ·have h5:i<d.R.length:=by have:=dT h5; omega
  refine⟨⟨rfl,by omega,by omega⟩,?_⟩
  refine cP (zcA d.s (d.R.getD i default)) rfl rfl ?_
  apply bY <;> intro h6
  ·have h6:crpE d.s (d.R.getD i default)≠0:=by simpa using h6
   have e2:day1E d i=crpE d.s (d.R.getD i default):=by unfold day1E; rw[kH h6]
   refine r1I rfl ?_
   rw[zaN ha (by rw[e2]; exact h6) h5,e2]
  have h6:crpE d.s (d.R.getD i default)=0:=by simpa using h6
  refine⟨⟨.inr rfl,by omega,by omega⟩,?_⟩
  refine fEq [6] (zqK (d.R.take i) 96 (capB (d.R.getD i default).ds) (fun x=>x.ID==(d.R.getD i default).ID) (by rw[jQ]; omega) fun k _=>znt _ _) rfl ⟨zpU d.R hi,⟨rfl,rfl,fun j hj=>?_⟩,trivial⟩ rfl ?_
  ·obtain rfl:j=0:=jab.1 hj
   exact dE _
  apply bY <;> intro h7
  ·have e2:day1E d i=6:=by unfold day1E; rw[kG (fun hh=>hh h6),kH h7]
   refine r1I rfl ?_
   rw[zaN ha (by rw[e2]; decide) h5,e2]
  have e2:day1E d i=0:=by unfold day1E; rw[kG (fun hh=>hh h6),kG (by rw[show ((d.R.take i).any fun x=>x.ID==(d.R.getD i default).ID)=false from h7]; decide)]
  refine⟨i6,?_⟩
  refine⟨i+1,⟨rfl,⟨obD d.ds rfl,trivial⟩,wq rfl⟩,⟨h5,fun j hj=>?_⟩,msr h5⟩
  by_cases e:j=i
  ·subst e; exact e2
  exact ha j (by omega)
 have h5:i=d.R.length:=by have:=dF h5; omega
 subst h5
 refine r1I rfl ?_
 rw[za7 ha]
def askE (d:Day) (ids:List Int):Int:=if dayE d≠0 then dayE d else if setB ids=false then 1 else if partB ids (sigL d.R)=false then 5 else 0
theorem zp1 (d:Day) (ids:List Int) (hn:d.R.length<=1000000) (hi:ids.length<=1000000):Spec PP 39 [d.v,.d (lI ids)] [.d (.int .i64 (askE d ids))]:=by
 refine sA Tryz.func39 ?_
 refine cP (zbD d hn) rfl rfl ?_
 apply bY <;> intro h0
 ·refine r1I rfl ?_
  unfold askE; rw[kH (by simpa using h0)]
 have h0:dayE d=0:=by simpa using h0
 refine cP (zfG ids hi) rfl rfl ?_
 apply bY <;> intro h1
 ·have h1:setB ids=false:=by simpa using h1
  refine r1I rfl ?_
  unfold askE; rw[kG (fun hh=>hh h0),kH h1]
 have h1:setB ids=true:=by simpa using h1
 have hs:(sigL d.R).length<=1000000:=by rw[zcp]; exact jM (zdp _) hn
 refine cR (zar d hn) rfl rfl ?_
 refine cP (zeW ids (sigL d.R) hi hs) rfl rfl ?_
 apply bY <;> intro h2
 ·have h2:partB ids (sigL d.R)=false:=by simpa using h2
  refine r1I rfl ?_
  unfold askE; rw[kG (fun hh=>hh h0),kG (by rw[h1]; decide),kH h2]
 have h2:partB ids (sigL d.R)=true:=by simpa using h2
 refine r1I rfl ?_
 unfold askE; rw[kG (fun hh=>hh h0),kG (by rw[h1]; decide),kG (by rw[h2]; decide)]
def brn1 (ids:List Int) (x:Bool × Int × Int) (r:Rpt):Bool × Int × Int:=if ids.contains r.ID=true then (true,min (if x.1=true then x.2.1 else r.Tick) r.Tick,max (if x.1=true then x.2.2 else r.Tick) r.Tick) else x
def brnS (ids:List Int) (l:List Rpt):Bool × Int × Int:=l.foldl (brn1 ids) (false,0,0)
def brnD (d:Day) (ids:List Int):Brn:=⟨(brnS ids d.R).2.1,(brnS ids d.R).2.2,d.Rise⟩
theorem zcK (ids:List Int) (l:List Rpt) {i:Nat} (h:i<l.length):brnS ids (l.take (i+1))=brn1 ids (brnS ids (l.take i)) (l.getD i default):=by
 unfold brnS
 rw[zay h default,jai]; rfl
theorem ziG (d:Day) (ids:List Int) (hn:d.R.length<=1000000) (hi:ids.length<=1000000):Spec PP 45 [d.v,.d (lI ids)] [(brnD d ids).v]:=by
 refine sA Tryz.func45 ?_
 refine lOf (σ:=Nat) (fun i=>([(1,.d (lI ids)),(2,.box 2 0),(4,.box 4 0),(5,.box 5 0),(6,.d (.bool (brnS ids (d.R.take i)).1)),(13,.d (lR d.R)),(14,.d (I d.R.length)),(15,.d (I i))],
   [(2,.box (d.ds.map AV.d)),(4,.box ([I 0,I 0,I 0].map AV.d)),(5,.box ([I (brnS ids (d.R.take i)).2.1,I (brnS ids (d.R.take i)).2.2,I d.Rise].map AV.d))])) (fun i=>i<=d.R.length) (fun i=>d.R.length - i) 0
  ⟨rfl,⟨obD d.ds rfl,obD [I 0,I 0,I 0] rfl,obD [I 0,I 0,I d.Rise] rfl,trivial⟩,wq rfl⟩ (jF _) fun i hi'=>?_
 have hi':i<=d.R.length:=hi'
 apply bY <;> intro h1
 ·have h1:i<d.R.length:=by have:=dT h1; omega
  have es:=zcK ids d.R h1
  refine⟨⟨rfl,by omega,by omega⟩,?_⟩
  refine cP (zc7 ids (d.R.getD i default).ID hi) rfl rfl ?_
  apply bY <;> intro h2
  ·have h2:ids.contains (d.R.getD i default).ID=false:=by simpa using h2
   have e:brnS ids (d.R.take (i+1))=brnS ids (d.R.take i):=by rw[es]; unfold brn1; rw[kG (by rw[h2]; decide)]
   refine⟨i6,?_⟩
   refine⟨i+1,⟨rfl,⟨obD d.ds rfl,obD [I 0,I 0,I 0] rfl,?_,trivial⟩,?_⟩,h1,msr h1⟩
   ·rw[e]; exact obD [I _,I _,I _] rfl
   rw[e]; exact wq rfl
  have h2:ids.contains (d.R.getD i default).ID=true:=by simpa using h2
  apply bY <;> intro h3
  ·have h3:(brnS ids (d.R.take i)).1=false:=by simpa using h3
   have e:brnS ids (d.R.take (i+1))=(true,min (d.R.getD i default).Tick (d.R.getD i default).Tick,max (d.R.getD i default).Tick (d.R.getD i default).Tick):=by rw[es]; unfold brn1; rw[kH h2,h3]; rfl
   refine oL [0,1,2,4,4003,5,6,7,8] (FzOb.fz [8] ⟨rfl,?_⟩)
   refine oL [0,1,2,3,4,5,6,7,10,4008,9,11,12,13] (FzOb.fz [8] ⟨rfl,?_⟩)
   refine⟨i6,?_⟩
   refine⟨i+1,⟨rfl,⟨obD d.ds rfl,obD [I 0,I 0,I 0] rfl,?_,trivial⟩,?_⟩,h1,msr h1⟩
   ·rw[e]; exact obD [I _,I _,I _] rfl
   rw[e]; exact wq rfl
  have h3:(brnS ids (d.R.take i)).1=true:=by simpa using h3
  have e:brnS ids (d.R.take (i+1))=(true,min (brnS ids (d.R.take i)).2.1 (d.R.getD i default).Tick,max (brnS ids (d.R.take i)).2.2 (d.R.getD i default).Tick):=by rw[es]; unfold brn1; rw[kH h2,kH h3,kH h3]
  refine oL [0,1,2,3,4,5,6,7,10,4008,9,11,12,13] (FzOb.fz [8] ⟨rfl,?_⟩)
  refine⟨i6,?_⟩
  refine⟨i+1,⟨rfl,⟨obD d.ds rfl,obD [I 0,I 0,I 0] rfl,?_,trivial⟩,?_⟩,h1,msr h1⟩
  ·rw[e]; exact obD [I _,I _,I _] rfl
  rw[e]; exact⟨avQ rfl,avQ rfl,avQ rfl,avQ rfl,avQ (jI (fun b=>AV.d (.bool b)) h3),avQ rfl,avQ rfl,avQ rfl,trivial⟩
 have h1:i=d.R.length:=by have:=dF h1; omega
 subst h1
 rw[jZ]
 exact⟨rtC (a:=4) rfl rfl rfl rfl rfl rfl (zab _),trivial⟩
theorem zfF (d:Day) (b:Brn) (hb:inR .i64 (b.To - b.From)):Spec PP 46 [d.v,b.v] [B (decide (b.To - b.From<=d.Long))]:=by
 refine sA Tryz.func46 ?_
 refine⟨hb,?_⟩
 exact r1B rfl rfl
structure DayOk (d:Day):Prop where
  s:svcE d.s=0
  rise:within d.Rise 0 200=true
  long:within d.Long 0 1440=true
  sg:(sigK d.R).length<=7
  bl:d.R.length<=10+(sigK d.R).length
  rp:∀ i,i<d.R.length->crpE d.s (d.R.getD i default)=0
  tw:∀ i,i<d.R.length->((d.R.take i).any fun x=>x.ID==(d.R.getD i default).ID)=false
theorem zap {d:Day} (h:dayE d=0):DayOk d:=by
 unfold dayE at h
 split at h
 ·rename_i h1; exact absurd h h1
 rename_i h1
 split at h
 ·cases h
 rename_i h2
 split at h
 ·cases h
 rename_i h3
 have a:=zbh h
 have A:∀ i,i<d.R.length->crpE d.s (d.R.getD i default)=0/\((d.R.take i).any fun x=>x.ID==(d.R.getD i default).ID)=false:=fun i hi=>by
  have:=a i hi
  unfold day1E at this
  split at this
  ·rename_i h4; exact absurd this h4
  rename_i h4
  split at this
  ·cases this
  rename_i h5
  exact⟨jL h4,by simpa using h5⟩
 have h2:within d.Rise 0 200=true/\within d.Long 0 1440=true:=by
  cases e1:within d.Rise 0 200 <;> cases e2:within d.Long 0 1440 <;> simp_all
 exact⟨jL h1,h2.1,h2.2,by omega,by omega,fun i hi=>(A i hi).1,fun i hi=>(A i hi).2⟩
theorem DayOk.n {d:Day} (h:DayOk d):d.R.length<=17:=by have:=h.sg; have:=h.bl; omega
theorem zeE {n lo hi:Int} (h:within n lo hi=true):lo<=n/\n<=hi:=by
 unfold within at h
 simpa using h
theorem DayOk.tick {d:Day} (h:DayOk d) {i:Nat} (hi:i<d.R.length):0<=(d.R.getD i default).Tick/\(d.R.getD i default).Tick<=1048576:=by
 have h1:=(zlB (h.rp i hi)).2.2
 unfold frmB frmC at h1
 have:within (d.R.getD i default).Tick 0 1048576=true:=by
  cases e:within (d.R.getD i default).Tick 0 1048576 with
  | true=>rfl
  | false=>rw[e] at h1; simp at h1
 exact zeE this
theorem zl3 {d:Day} (h:DayOk d) (ids:List Int):∀ i,i<=d.R.length->0<=(brnS ids (d.R.take i)).2.1/\(brnS ids (d.R.take i)).2.1<=1048576/\0<=(brnS ids (d.R.take i)).2.2/\(brnS ids (d.R.take i)).2.2<=1048576
 | 0,_=>by simp[brnS]
 | i+1,hi=>by
  obtain⟨a1,a2,a3,a4⟩:=zl3 h ids i (by omega)
  obtain⟨b1,b2⟩:=h.tick (show i<d.R.length by omega)
  rw[zcK ids d.R (by omega)]
  unfold brn1
  split
  ·show 0<=min _ _/\min _ _<=_/\0<=max _ _/\max _ _<=_
   split <;> omega
  exact⟨a1,a2,a3,a4⟩
theorem zfT {d:Day} (h:DayOk d) (ids:List Int):inR .i64 ((brnD d ids).To - (brnD d ids).From):=by
 have:=zl3 h ids d.R.length (jE _)
 rw[jZ] at this
 show inR .i64 ((brnS ids d.R).2.2 - (brnS ids d.R).2.1)
 exact i6
def plsD (d:Day) (ids:List Int):List Place:=if (brnD d ids).To - (brnD d ids).From<=d.Long then (plcR d.s (brnD d ids) (lstD d ids)).1 else []
theorem zdC {d:Day} (h:DayOk d) (ids:List Int) (hi:ids.length<=1000000):Spec PP 38 [d.v,.d (lI ids)] [.d (lP (plsD d ids))]:=by
 have hn:=h.n
 refine sA Tryz.func38 ?_
 refine cP (ziG d ids (by omega) hi) rfl rfl ?_
 refine cP (zfF d (brnD d ids) (zfT h ids)) rfl rfl ?_
 apply bY <;> intro h1
 ·have h1:¬ (brnD d ids).To - (brnD d ids).From<=d.Long:=by simpa using h1
  have e:plsD d ids=[]:=by unfold plsD; rw[kG h1]
  rw[e]
  exact⟨⟨_,_,_,_,rfl,rfl,.inl rfl⟩,trivial⟩
 have h1:(brnD d ids).To - (brnD d ids).From<=d.Long:=by simpa using h1
 have e:plsD d ids=(plcR d.s (brnD d ids) (lstD d ids)).1:=by unfold plsD; rw[kH h1]
 rw[e]
 refine oN 12 ?_
 refine oRo (ziF d ids (by omega) hi) rfl rfl ?_
 refine oRo (zni d.s (brnD d ids) (lstD d ids)) rfl rfl ?_
 exact⟨dE _,trivial⟩
def offS (a i:Nat):Nat:=a &&& (127 - 2 ^ i)
def onS (a i:Nat):Nat:=a ||| 2 ^ i
theorem al7L {n m:Nat} {P:Nat->Nat->Bool} (h:((List.range n).all fun a=>(List.range m).all (P a))=true) {a i:Nat} (ha:a<n) (hi:i<m):P a i=true:=
 jC.1 (jC.1 h a (kI.2 ha)) i (kI.2 hi)
theorem bShl {i:Nat} (hi:i<=7):IntKind.wrap .i64 (1 * 2 ^ (min ((i:Nat):Int).toNat 64))=((2 ^ i:Nat):Int):=by
 have:∀ i,i<8->IntKind.wrap .i64 (1 * 2 ^ (min ((i:Nat):Int).toNat 64))=((2 ^ i:Nat):Int):=by decide
 exact this i (by omega)
theorem bOff {a i:Nat} (ha:a<128) (hi:i<7):IntKind.wrap .i64 ((BitVec.ofInt 64 (a:Int) &&& ~~~ BitVec.ofInt 64 (IntKind.wrap .i64 (1 * 2 ^ (min ((i:Nat):Int).toNat 64)))).toNat:Int)=((offS a i:Nat):Int):=by
 have:=al7L (n:=128) (m:=7) (P:=fun a i=>decide (IntKind.wrap .i64 ((BitVec.ofInt 64 (a:Int) &&& ~~~ BitVec.ofInt 64 (IntKind.wrap .i64 (1 * 2 ^ (min ((i:Nat):Int).toNat 64)))).toNat:Int)=((offS a i:Nat):Int))) (by decide +kernel) ha hi
 exact kQ this
theorem bOn {a i:Nat} (ha:a<128) (hi:i<7):IntKind.wrap .i64 ((BitVec.ofInt 64 (a:Int) ||| BitVec.ofInt 64 (IntKind.wrap .i64 (1 * 2 ^ (min ((i:Nat):Int).toNat 64)))).toNat:Int)=((onS a i:Nat):Int):=by
 have:=al7L (n:=128) (m:=7) (P:=fun a i=>decide (IntKind.wrap .i64 ((BitVec.ofInt 64 (a:Int) ||| BitVec.ofInt 64 (IntKind.wrap .i64 (1 * 2 ^ (min ((i:Nat):Int).toNat 64)))).toNat:Int)=((onS a i:Nat):Int))) (by decide +kernel) ha hi
 exact kQ this
theorem bHas {a i:Nat} (ha:a<128) (hi:i<7):(IntKind.wrap .i64 ((BitVec.ofInt 64 ((a:Int).fdiv (2 ^ (min ((i:Nat):Int).toNat 64))) &&& BitVec.ofInt 64 1).toNat:Int)==1)=a.testBit i:=by
 have:=al7L (n:=128) (m:=7) (P:=fun a i=>decide ((IntKind.wrap .i64 ((BitVec.ofInt 64 ((a:Int).fdiv (2 ^ (min ((i:Nat):Int).toNat 64))) &&& BitVec.ofInt 64 1).toNat:Int)==1)=a.testBit i)) (by decide +kernel) ha hi
 exact kQ this
theorem zrr {a i:Nat} (ha:a<128) (hi:i<7):onS a i<128:=Nat.or_lt_two_pow (n:=7) ha (Nat.pow_lt_pow_right (by decide) hi)
def membA (ids:List Int) (set i:Nat):List Int:=((List.range i).filter (set.testBit ·)).map (ids.getD · 0)
def memb (ids:List Int) (set:Nat):List Int:=membA ids set ids.length
theorem zcy {ids:List Int} {set i:Nat} (h:set.testBit i=true):membA ids set (i+1)=membA ids set i ++ [ids.getD i 0]:=by
 unfold membA
 rw[wG,qA,qN h,jT]; rfl
theorem zdv {ids:List Int} {set i:Nat} (h:set.testBit i=false):membA ids set (i+1)=membA ids set i:=by
 unfold membA
 rw[wG,qA,qO (by rw[h]; decide)]; simp
theorem zbd (ids:List Int) (set i:Nat):(membA ids set i).length<=i:=by
 unfold membA
 rw[kU]
 exact jM (jaq _ _) (by rw[List.length_range]; exact jE _)
theorem zd3 (ids:List Int) (set:Nat) (hn:ids.length<=7) (hs:set<128):Spec PP 41 [.d (lI ids),N (set:Int)] [.d (lI (memb ids set))]:=by
 refine sA Tryz.func41 ?_
 refine lOf (σ:=Nat) (fun i=>([(1,.d (I set)),(5,.own 5),(8,.d (lI ids)),(9,.d (I ids.length)),(10,.d (I i))],[(5,.row 3 1 (membA ids set i).length (rowI (membA ids set i)))])) (fun i=>i<=ids.length) (fun i=>ids.length - i) 0
  ⟨rfl,⟨obR rfl ⟨rfl,.inl rfl⟩,trivial⟩,wq rfl⟩ (jF _) fun i hi=>?_
 have hi:i<=ids.length:=hi
 have hl:=zbd ids set i
 apply bY <;> intro h1
 ·have h1:i<ids.length:=by have:=dT h1; omega
  refine⟨⟨rfl,by omega,by omega⟩,?_⟩
  refine⟨by omega,?_⟩
  apply bY <;> intro h2
  ·have h2:set.testBit i=true:=by rw[<- bHas hs (show i<7 by omega)]; exact h2
   refine⟨⟨.inr rfl,by unfold maxLen; omega,by show ((membA ids set i).length+1) * 8<=140737488355328; omega⟩,?_⟩
   refine⟨i6,?_⟩
   refine⟨i+1,⟨rfl,⟨obR rfl ?_,trivial⟩,wq rfl⟩,h1,msr h1⟩
   rw[zcy h2]
   exact zra rfl
  have h2:set.testBit i=false:=by rw[<- bHas hs (show i<7 by omega)]; exact h2
  refine⟨i6,?_⟩
  refine⟨i+1,⟨rfl,⟨obR rfl ?_,trivial⟩,wq rfl⟩,h1,msr h1⟩
  rw[zdv h2]
  exact dE _
 have h1:i=ids.length:=by have:=dF h1; omega
 subst h1
 exact⟨⟨_,_,_,_,rfl,rfl,.inr ⟨rfl,fun i _ j _=>dE _⟩⟩,trivial⟩
abbrev celD (d:Day) (set:Nat):List Place:=plsD d (memb (sigL d.R) set)
abbrev keyN (ks:List Nat):List (List Int):=ks.map fun k=>[((k:Nat):Int)]
abbrev cmap (d:Day) (ks:List Nat):D:=.mp 1 (keyN ks) fun j=>lP (celD d (ks.getD j 0))
abbrev lkV (d:Day) (ks:List Nat):V1:=.agg (d.ds ++ [lI (sigL d.R),cmap d ks])
def fitK (d:Day) (ks:List Nat) (set:Nat):Bool:=ks.contains set && decide (0<(celD d set).length)
theorem idxN:∀ (ks:List Nat) (k:Nat),(keyN ks).idxOf [((k:Nat):Int)]=ks.idxOf k
 | [],_=>rfl
 | a :: r,k=>by
  show List.idxOf _ ([((a:Nat):Int)] :: keyN r)=_
  rw[List.idxOf_cons,List.idxOf_cons,idxN r k]
  by_cases h:a=k
  ·subst h; simp
  have h1:([((a:Nat):Int)] == [((k:Nat):Int)])=false:=by simp only[jax,ne_eq,jan,and_true]; omega
  have h2:(a==k)=false:=by simpa using h
  rw[h1,h2]
theorem zoz (d:Day) (ks:List Nat) (k:Nat):D.eqv (lkD (keyN ks) (fun j=>lP (celD d (ks.getD j 0))) [((k:Nat):Int)] .nil) (lP (if ks.contains k=true then celD d k else [])):=by
 unfold lkD
 rw[idxN,kU]
 by_cases h:ks.contains k=true
 ·have hm:k∈ks:=kD.1 h
  have hl:=jaR.2 hm
  rw[kH hl,kH h]
  have:ks.getD (ks.idxOf k) 0=k:=by
   rw[hU,kF hl]
   exact List.getElem_idxOf hl
  show D.eqv (lP (celD d (ks.getD (ks.idxOf k) 0))) _
  rw[this]
  exact dE _
 have hm:k∉ks:=fun hm=>h (kD.2 hm)
 rw[kG (fun hl=>hm (jaR.1 hl)),kG h]
 rfl
theorem zeX (d:Day) (ks:List Nat) (set:Nat):Spec PP 42 [lkV d ks,N (set:Int)] [B (fitK d ks set)]:=by
 refine sA Tryz.func42 ?_
 refine⟨⟨kInt,rfl⟩,_,zoz d ks set,?_⟩
 refine r1B rfl ?_
 unfold fitK
 by_cases h:ks.contains set=true
 ·rw[kH h,h,kN]
  exact wF.2 (by omega)
 rw[kG h,qF.2 h]; rfl
def parK (d:Day) (ks:List Nat) (set i:Nat):Bool:=(offS set i==set) || (offS set i==0) || fitK d ks (offS set i)
def partK (d:Day) (ks:List Nat) (set:Nat):Bool:=(List.range (sigL d.R).length).all (parK d ks set)
def groK (d:Day) (ks:List Nat) (set i:Nat):Bool:=(onS set i != set) && fitK d ks (onS set i)
def growK (d:Day) (ks:List Nat) (set:Nat):Bool:=(List.range (sigL d.R).length).any (groK d ks set)
theorem neT {a b:Nat} (h:((a:Int) != (b:Int))=true):¬ a=b:=fun e=>by subst e; simp at h
theorem neF {a b:Nat} (h:((a:Int) != (b:Int))=false):a=b:=by
 have:(a:Int)=b:=by simpa using h
 omega
theorem sig7 {d:Day} (h:DayOk d):(sigL d.R).length<=7:=by rw[zcp]; exact h.sg
theorem zlc (d:Day) (ks:List Nat) (set:Nat) (hn:(sigL d.R).length<=7) (hs:set<128):Spec PP 44 [lkV d ks,N (set:Int)] [B (partK d ks set)]:=by
 refine sA Tryz.func44 ?_
 refine lOf (σ:=Nat) (fun i=>([(1,.d (I set)),(2,.box 2 0),(8,.d (lI (sigL d.R))),(9,.d (I (sigL d.R).length)),(10,.d (I i))],[(2,.box ((d.ds ++ [lI (sigL d.R),cmap d ks]).map AV.d))])) (fun i=>i<=(sigL d.R).length /\ ∀ j,j<i->parK d ks set j=true) (fun i=>(sigL d.R).length - i) 0
  ⟨rfl,⟨obD (d.ds ++ [lI (sigL d.R),cmap d ks]) rfl,trivial⟩,wq rfl⟩ z0L fun i hi=>?_
 obtain⟨hi,ha⟩:=hi
 apply bY <;> intro h1
 ·have h1:i<(sigL d.R).length:=by have:=dT h1; omega
  have eo:=bOff hs (show i<7 by omega)
  refine⟨by omega,?_⟩
  have next:parK d ks set i=true -> ∀ j,j<i+1->parK d ks set j=true:=fun e j hj=>by
   by_cases q:j=i
   ·subst q; exact e
   exact ha j (by omega)
  apply bY <;> intro h2
  ·have h2:((offS set i:Int) != set)=true:=by rw[<- eo]; exact h2
   have h2:¬ offS set i=set:=neT h2
   repeat first | apply sT | apply sF
   apply bY <;> intro h3
   ·have h3:((offS set i:Int) != 0)=true:=by rw[<- eo]; exact h3
    have h3:¬ offS set i=0:=neT (b:=0) h3
    repeat first | apply sT | apply sF
    refine fEq [] (zeX d ks (offS set i)) rfl ⟨zab _,⟨rfl,eo⟩,trivial⟩ rfl ?_
    repeat first | apply sT | apply sF
    have ep:parK d ks set i=fitK d ks (offS set i):=by unfold parK; simp[h2,h3]
    apply bY <;> intro h4
    ·have h4:fitK d ks (offS set i)=false:=by simpa using h4
     refine r1B rfl ?_
     symm
     rw[qF]
     intro hh
     have:=jC.1 hh i (kI.2 h1)
     rw[ep,h4] at this; cases this
    have h4:fitK d ks (offS set i)=true:=by simpa using h4
    refine⟨i6,?_⟩
    exact⟨i+1,⟨rfl,⟨obD (d.ds ++ [lI (sigL d.R),cmap d ks]) rfl,trivial⟩,wq rfl⟩,⟨h1,next (by rw[ep,h4])⟩,msr h1⟩
   have h3:((offS set i:Int) != 0)=false:=by rw[<- eo]; exact h3
   have h3:offS set i=0:=neF (b:=0) h3
   repeat first | apply sT | apply sF
   refine⟨i6,?_⟩
   exact⟨i+1,⟨rfl,⟨obD (d.ds ++ [lI (sigL d.R),cmap d ks]) rfl,trivial⟩,wq rfl⟩,⟨h1,next (by unfold parK; simp[h3])⟩,msr h1⟩
  have h2:((offS set i:Int) != set)=false:=by rw[<- eo]; exact h2
  have h2:offS set i=set:=neF h2
  repeat first | apply sT | apply sF
  refine⟨i6,?_⟩
  exact⟨i+1,⟨rfl,⟨obD (d.ds ++ [lI (sigL d.R),cmap d ks]) rfl,trivial⟩,wq rfl⟩,⟨h1,next (by unfold parK; simp[h2])⟩,msr h1⟩
 have h1:i=(sigL d.R).length:=by have:=dF h1; omega
 subst h1
 refine r1B rfl ?_
 exact (jC.2 fun j hj=>ha j (kI.1 hj)).symm
theorem zpZ (d:Day) (ks:List Nat) (set:Nat) (hn:(sigL d.R).length<=7) (hs:set<128):Spec PP 43 [lkV d ks,N (set:Int)] [B (growK d ks set)]:=by
 refine sA Tryz.func43 ?_
 refine lOf (σ:=Nat) (fun i=>([(1,.d (I set)),(2,.box 2 0),(8,.d (lI (sigL d.R))),(9,.d (I (sigL d.R).length)),(10,.d (I i))],[(2,.box ((d.ds ++ [lI (sigL d.R),cmap d ks]).map AV.d))])) (fun i=>i<=(sigL d.R).length /\ ∀ j,j<i->groK d ks set j=false) (fun i=>(sigL d.R).length - i) 0
  ⟨rfl,⟨obD (d.ds ++ [lI (sigL d.R),cmap d ks]) rfl,trivial⟩,wq rfl⟩ z0L fun i hi=>?_
 obtain⟨hi,ha⟩:=hi
 apply bY <;> intro h1
 ·have h1:i<(sigL d.R).length:=by have:=dT h1; omega
  have eo:=bOn hs (show i<7 by omega)
  refine⟨by omega,?_⟩
  have next:groK d ks set i=false -> ∀ j,j<i+1->groK d ks set j=false:=fun e j hj=>by
   by_cases q:j=i
   ·subst q; exact e
   exact ha j (by omega)
  apply bY <;> intro h2
  ·have h2:((onS set i:Int) != set)=true:=by rw[<- eo]; exact h2
   have h2:¬ onS set i=set:=neT h2
   refine fEq [] (zeX d ks (onS set i)) rfl ⟨zab _,⟨rfl,eo⟩,trivial⟩ rfl ?_
   repeat first | apply sT | apply sF
   have ep:groK d ks set i=fitK d ks (onS set i):=by unfold groK; simp[h2]
   apply bY <;> intro h4
   ·have h4:fitK d ks (onS set i)=true:=h4
    refine r1B rfl ?_
    exact (kL.2 ⟨i,kI.2 h1,by rw[ep,h4]⟩).symm
   have h4:fitK d ks (onS set i)=false:=h4
   refine⟨i6,?_⟩
   exact⟨i+1,⟨rfl,⟨obD (d.ds ++ [lI (sigL d.R),cmap d ks]) rfl,trivial⟩,wq rfl⟩,⟨h1,next (by rw[ep,h4])⟩,msr h1⟩
  have h2:((onS set i:Int) != set)=false:=by rw[<- eo]; exact h2
  have h2:onS set i=set:=neF h2
  repeat first | apply sT | apply sF
  refine⟨i6,?_⟩
  exact⟨i+1,⟨rfl,⟨obD (d.ds ++ [lI (sigL d.R),cmap d ks]) rfl,trivial⟩,wq rfl⟩,⟨h1,next (by unfold groK; simp[h2])⟩,msr h1⟩
 have h1:i=(sigL d.R).length:=by have:=dF h1; omega
 subst h1
 refine r1B rfl ?_
 symm
 rw[qF]
 intro hh
 obtain⟨j,hj,e⟩:=kL.1 hh
 rw[ha j (kI.1 hj)] at e; cases e
def keysD (d:Day):Nat->List Nat
 | 0=>[]
 | m+1=>if m≠0/\partK d (keysD d m) m=true then keysD d m ++ [m] else keysD d m
theorem zdB (d:Day):∀ (m:Nat),∀ k∈keysD d m,0<k/\k<m
 | 0,k,h=>by cases h
 | m+1,k,h=>by
  unfold keysD at h
  split at h
  ·rename_i hm
   rcases kR.1 h with h | h
   ·have:=zdB d m k h; omega
   obtain rfl:=kM.1 h; omega
  have:=zdB d m k h; omega
theorem zpx {d:Day} {ks:List Nat} {m:Nat} (h:m∉ks):D.eqv (.mp 1 (putK (keyN ks) [((m:Nat):Int)]) (putF (keyN ks) (fun j=>lP (celD d (ks.getD j 0))) [((m:Nat):Int)] (lP (celD d m)))) (cmap d (ks ++ [m])):=by
 have hi:(keyN ks).idxOf [((m:Nat):Int)]=ks.length:=by rw[idxN]; exact List.idxOf_eq_length h
 have hn:¬ (keyN ks).idxOf [((m:Nat):Int)]<(keyN ks).length:=by rw[hi,kU]; exact Nat.lt_irrefl _
 refine⟨rfl,?_,fun j hj=>?_⟩
 ·unfold putK
  rw[kG hn]
  show keyN ks++_=keyN (ks ++ [m])
  rw[keyN,keyN,jT]; rfl
 unfold putF
 rw[hi]
 by_cases e:j=ks.length
 ·subst e
  rw[kH rfl]
  show D.eqv _ (lP (celD d ((ks ++ [m]).getD ks.length 0)))
  rw[hU,jK (jE _),kE]
  exact dE _
 have hj:j<ks.length:=by
  unfold putK at hj
  rw[kG hn,jR,kU] at hj
  simp at hj; omega
 rw[kG e]
 show D.eqv (lP (celD d (ks.getD j 0))) (lP (celD d ((ks ++ [m]).getD j 0)))
 rw[hU,hU,jJ hj]
 exact dE _
theorem zi3 {s:St} {ob:Nat->Option Ob}:∀ (cs:List AV),avles s ob cs (List.replicate cs.length .any)
 | []=>trivial
 | _ :: r=>⟨by unfold AVle; trivial,zi3 r⟩
theorem zaM {s:St} {ob:Nat->Option Ob} {cs:List AV} {n:Nat} {o:Option Ob} (h:o=some (.box cs)) (hn:cs.length=n):Oble s ob o (.box (List.replicate n .any)):=by
 subst h; subst hn; exact zi3 cs
abbrev lkA (d:Day):List AV:=d.ds.map AV.d ++ [.d (lI (sigL d.R)),.own 8]
theorem zoE {d:Day} (h:DayOk d):Spec PP 40 [d.v] [lkV d (keysD d (2 ^ (sigL d.R).length))]:=by
 have hn:=h.n
 have h7:=sig7 h
 refine za3 [7] Tryz.func40 rfl (by kernel_rfl) rfl ?_
 refine oL [0,1,2,2003,4,5,6] (fNo ?_)
 refine oRo (zar d (by omega)) rfl rfl ?_
 refine⟨rfl,?_⟩
 refine lOf (σ:=Nat) (fun m=>([(1,.box 1 0),(2,.box 2 0),(3,.box 3 0),(4,.d (I m))],[(1,.box (d.ds.map AV.d)),(2,.box (List.replicate 12 .any)),(3,.box (lkA d)),(8,.mp 1 (keyN (keysD d m)) fun j=>lP (celD d ((keysD d m).getD j 0)))])) (fun m=>1<=m/\m<=2 ^ (sigL d.R).length) (fun m=>2 ^ (sigL d.R).length - m) 1
  ⟨rfl,⟨obD d.ds rfl,zaM rfl rfl,obX rfl,obMp rfl ⟨rfl,rfl,fun j hj=>absurd hj (qQ _)⟩,trivial⟩,avQ rfl,avQ rfl,avQ rfl,avQ rfl,trivial⟩ ⟨jE _,Nat.one_le_two_pow⟩ fun m hm=>?_
 obtain⟨hm,hm2⟩:=hm
 have hp:2 ^ (sigL d.R).length<=2 ^ 7:=jau (by decide) h7
 have es:=bShl h7
 refine⟨by omega,?_⟩
 apply bY <;> intro h1
 ·have h1:m<2 ^ (sigL d.R).length:=by
   have h1:(m:Int)<((2 ^ (sigL d.R).length:Nat):Int):=by rw[<- es]; exact dT h1
   omega
  refine cP (zlc d (keysD d m) m h7 (by omega)) rfl rfl ?_
  apply bY <;> intro h2
  ·have h2:partK d (keysD d m) m=true:=h2
   have e:keysD d (m+1)=keysD d m ++ [m]:=by rw[keysD,kH ⟨by omega,h2⟩]
   refine oN 10 ?_
   refine oRo (zd3 (sigL d.R) m h7 (by omega)) rfl rfl ?_
   refine oRo (zdC h (memb (sigL d.R) m) (jM (zbd _ _ _) (by omega))) rfl rfl ?_
   refine⟨⟨kInt,rfl⟩,?_⟩
   refine⟨i6,?_⟩
   refine⟨m+1,⟨rfl,⟨obD d.ds rfl,zaM rfl rfl,obX rfl,obMp rfl ?_,trivial⟩,wq rfl⟩,⟨by omega,h1⟩,(show 2 ^ (sigL d.R).length - (m+1)<2 ^ (sigL d.R).length - m by omega)⟩
   rw[e]
   exact zpx fun hm=>by have:=zdB d m m hm; omega
  have h2:partK d (keysD d m) m=false:=h2
  have e:keysD d (m+1)=keysD d m:=by rw[keysD,kG fun hh=>by rw[h2] at hh; cases hh.2]
  refine⟨i6,?_⟩
  refine⟨m+1,⟨rfl,⟨obD d.ds rfl,zaM rfl rfl,obX rfl,obMp rfl ?_,trivial⟩,wq rfl⟩,⟨by omega,h1⟩,(show 2 ^ (sigL d.R).length - (m+1)<2 ^ (sigL d.R).length - m by omega)⟩
  rw[e]
  exact dE _
 have h1:m=2 ^ (sigL d.R).length:=by
  have h1:¬ (m:Int)<((2 ^ (sigL d.R).length:Nat):Int):=by rw[<- es]; exact dF h1
  omega
 subst h1
 refine kAt [(2,.box 2 0),(3,.box 3 0)] [(2,.box (List.replicate 12 .any)),(3,.box ((d.ds ++ [lI (sigL d.R),cmap d (keysD d (2 ^ (sigL d.R).length))]).map AV.d))]
  ⟨rfl,⟨zaM rfl rfl,⟨dE _,dE _,dE _,dE _,dE _,dE _,dE _,dE _,dE _,dE _,dE _,⟨rfl,_,_,_,rfl,dE _⟩,trivial⟩,trivial⟩,wq rfl⟩ ?_
 exact⟨rtC (a:=2) rfl rfl rfl rfl rfl rfl (zab _),trivial⟩
abbrev ksD (d:Day):List Nat:=keysD d (2 ^ (sigL d.R).length)
def EYC {τ:Type} (xs:List τ) (enc:τ->List V1) (cuts:List Nat) (l:Nat):Env:=⟨ET,false,l,fun n vs=>∃ x,xs[n]?=some x/\vs=enc x,true,fun i=>cuts.any (Nat.beq i)⟩
theorem zjJ {τ:Type} {xs:List τ} {enc:τ->List V1} (k:Nat) (vs:List V1):(∃ x,xs[k]?=some x/\vs=enc x) ↔ (xs.map enc)[k]?=some vs:=by
 rw[jU]
 cases xs[k]? with
 | none=>simp
 | some x=>simp; exact eq_comm
theorem zhZ (cuts : List Nat) {f : FuncId} {fn : Func} {c : Code} (hf : PP.funcs[f]? = some fn) (hb : fn.body = some c) (hq : ((fn.name == "runtime.NumGoroutine") || !(codeN fn.ntmps c && Nat.ble fn.ntmps 4294967296)) = false)
  {τ : Type} {xs : List τ} {enc : τ -> List V1} {n m : Nat} (args : Nat -> List AV) {obs obs' : Nat -> List (Nat × Ob)} (ts : List Nat) (hts : fn.results.toList = ts.map ResultVar.tmp) (pins : List (Nat × Nat)) {res resF : List V1} (hlr : ts.length = res.length) (hlF : ts.length = resF.length) (hfl : resF.all V1.flat = true)
  (hr : ∀ l, ∀ v ∈ args l, ∀ j ∈ v.refs, (look (obs l) j).isSome = true) (hpn : (G :: (pins.map Prod.fst ++ ts)).Nodup) (hsz : ∀ l, Nat.ble (args l).length fn.ntmps = true)
  (h : ∀ l γ, awp PP TTab (EYC xs enc cuts l) c (St.of ((G, .gho (some n)) :: slotsM γ 0 (args l)) (obs l)) (retYM ts res resF γ pins (n + m) (obs' l))) : SpecY PP f (xs.map enc) n m args obs obs' (pins.map Prod.snd) res resF := by
 simp only [qT, qV, jP] at hq
 exact zhY hT (eq := ET) hE hM hf hb hq.1 hq.2.1 (jD hq.2.2) args ts hts pins hlr hlF hfl hr hpn (fun l => jD (hsz l)) (yd := fun n vs => ∃ x, xs[n]? = some x /\ vs = enc x) zjJ (fun i => cuts.any (Nat.beq i)) (fun _ _ _ _ hk => hk) h
section
variable {s:St} {o:Oper} {fo:Operand} {K:St->Prop} {args:List Operand} {τ:Type} {xs:List τ} {enc:τ->List V1} {cuts:List Nat} {l:Nat}
theorem CallSt.ydC {d n:Nat} {x:τ} (sl:List (Nat × AV)) (ob:List (Nat × Ob)) (hd:o.dst=some d) (hf:ev s fo = .yl l) (hg:s.sl G = .gho (some n)) (hG:look sl G=none) (hw:Weak s sl ob) (hx:xs[n]?=some x) (hv:toV1s s (args.map (ev s))=some (enc x))
  (hno:(args.map (ev s)).all (fun v=>!v.isOwn)=true) (k1:K ((St.of ((G,.gho (some (n+1))) :: sl) ob).put d (.d (.bool true)))) (k2:K ((St.of ((G,.gho none) :: stillS sl) []).put d (.d (.bool false)))):CallSt (EYC xs enc cuts l) PP s o fo args K:=by
 rw[zaf]
 exact .inr (.inr (.inr (.inl ⟨⟨n,d,sl,ob,_,hd,hf,hg,hG,hw,hv,hno,⟨x,hx,rfl⟩,k1,k2⟩⟩)))
theorem CallSt.cy {n m:Nat} {f:FuncId} {ex:List AV} {ags:Nat->List AV} {obs obs':Nat->List (Nat × Ob)} {pins:List Nat} {res resF:List V1} (sl:List (Nat × AV)) (rest:List (Nat × Ob)) (h:SpecY PP f (xs.map enc) n m ags obs obs' pins res resF)
  (hg:s.sl G = .gho (some n)) (hG:look sl G=none) (hw:Weak s sl (obs l++rest)) (hc:calleeM (ev (St.of sl (obs l++rest)) fo)=some (f,ex)) (ha:(args.map (ev (St.of sl (obs l++rest)))++ex).map (fixA (obs l))=ags l) (hm:closM (obs l)=true) (hgm:goodM sl (obs l) (obs' l) rest pins=true)
  (k1:K ((St.of ((G,.gho (some (n+m))) :: sl) (obs' l++rest)).putO o.dst (resAV res))) (k2:K ((St.of ((G,.gho none) :: stillS sl) []).putO o.dst (resAV resF))):CallSt (EYC xs enc cuts l) PP s o fo args K:=by
 rw[zaf]
 exact .inr (.inr (.inr (.inr ⟨⟨_,n,m,f,ex,ags,sl,rest,obs,obs',pins,res,resF,zjJ,h,hg,hG,hw,hc,ha,hm,hgm,k1,k2⟩⟩)))
end
theorem zlx {P:Program} {a:Act} {w:World} {o:Oper} {fo:Operand} {f:FuncId} {args:Array Operand} {at':Array TypeId} (hop:o.op = .call { callee:=.value fo,args,argTypes:=at' }) {u:Value} (hfo:a.eval fo = .func (.func f) #[u] #[]) (hent:Ent P f) :
  (execOp a.eval o).run P w = .ok (.enter f (u :: args.toList.map a.eval).toArray) w:=by
 have:(u :: args.toList.map a.eval).toArray = #[u]++args.map a.eval ++ #[]:=by simp
 rw[this]
 simp[execOp,hop,resolve,hfo,Deferred.ofValue,invoke,zaz hent]
section
variable {s:St} {o:Oper} {fo:Operand} {K:St->Prop} {E:Env}
theorem CallSt.bn {f:FuncId} {args:Array Operand} {at':Array TypeId} (hop:o.op = .call { callee:=.value fo,args,argTypes:=at' }) {m:Nat} {g:Nat->D} (hf:ev s fo = .d (.bnd f m g)) {xs res:List V1} (hx:toV1s s (args.toList.map (ev s))=some xs)
  (h:SpecG E.dr PP f (.agg ((List.range m).map g) :: xs) res) (hr:res.all V1.flat=true) (hk:K (s.putO o.dst (resAV res))):CallSt E PP s o fo args.toList K:=by
 rw[zaf]
 refine .inr (.inr (.inl ⟨_,⟨fun cx a w hD hd hR=>?_⟩,hk⟩))
 obtain⟨γ,hg⟩:=hR
 have hc:=(ev_m hg fo).1
 rw[hf] at hc
 obtain⟨vs,hv,hl,h3⟩:=hc
 have hm:=(zbt hg hx (zbH hg args.toList)).1
 have hb:All2 (Rep w fun b=>b<w.heap.size) ((List.range m).map g) vs:=.map_left (All2.of_get (by simp[hl]) fun j q y hx hy=>by
  have hj:j<m:=by have:=(kC.1 hx).1; simpa using this
  rw[qR hj] at hx
  cases hx
  obtain⟨u,hu,hr⟩:=h3 j hj
  rw[hy] at hu; cases hu
  exact Rep.keep (fun b hb=>⟨zal hg hb,rfl⟩) hr)
 refine .enter (zlx hop hv h.1) ?_
 refine (h.2 w _ _ (fun b hb=>hb) (.cons ⟨vs,rfl,hb⟩ hm)).mono fun en w' ⟨v,e,hb,hres⟩=>⟨v,e,γ,?_⟩
 exact (hg.grow hb.1 fun e=>hb.2 (hD e)).putO hd (zaS (.inl fun b hb=>hb.elim) (zdO hr hres)) (fun j hj=>by rw[zav] at hj; cases hj)
inductive PosC (pv:D) (ok:List Int->Bool):Prop
 | clo (g0:FuncId) (c0:D) (e:pv=cloB g0 [c0]) (h:∀ s:List Int,s.length<=7->Spec PP g0 [.d (lI s),.d c0] [B (ok s)])
 | bnd (f:FuncId) (m:Nat) (g:Nat->D) (e:pv = .bnd f m g) (h:∀ s:List Int,s.length<=7->Spec PP f [.agg ((List.range m).map g),.d (lI s)] [B (ok s)])
end
abbrev rowII (ss:List (List Int)):Nat->Nat->D:=fun i _=>lI (ss.getD i [])
theorem zpj {ss:List (List Int)} {k k':Nat} {s':List Int} {y:D} (hk:k<ss.length) (e1:k'=k) (hy:D.eqv y (lI s')):D.eqv (.slc 1 ss.length (storeRow (rowII ss) k' 0 [y])) (.slc 1 (ss.set k s').length (rowII (ss.set k s'))):=by
 subst e1
 refine⟨List.length_set.symm,.inr ⟨rfl,fun i hi j hj=>?_⟩⟩
 show D.eqv (storeRow (rowII ss) k' 0 [y] i j) (lI ((ss.set k' s').getD i []))
 rw[zcC ss k' i s' [] hk]
 obtain rfl:j=0:=by omega
 unfold storeRow
 by_cases h:i=k'
 ·rw[kH h,kH ⟨h,jE _,by simp⟩]
  exact hy
 rw[kG h,kG fun hh=>h hh.1]
 exact dE _
theorem zkm {ss:List (List Int)} {s:List Int} {n:Nat} {g:Nat->Nat->D} (hn:n=ss.length) (hg:D.eqv (g 0 0) (lI s)):D.eqv (.slc 1 (n+1) (appRow n (rowII ss) g)) (.slc 1 (ss ++ [s]).length (rowII (ss ++ [s]))):=by
 subst hn
 refine⟨by simp,.inr ⟨rfl,fun i hi j hj=>?_⟩⟩
 show D.eqv (appRow ss.length (rowII ss) g i j) (lI ((ss ++ [s]).getD i []))
 obtain rfl:j=0:=by omega
 unfold appRow
 by_cases h:i<ss.length
 ·rw[kH h,hU (l:=ss ++ [s]),jJ h,<- hU]
  exact dE _
 have e:i=ss.length:=by omega
 subst e
 rw[kG h,kE,hU,jK (jE _),kE]
 exact hg
theorem zm3 (l:List Int) (hn:l.length<=1000000):SpecO PP 88 [.d (lI l)] 3 1 l.length (rowI l):=by
 refine zh0 Tryz.func88 rfl (by kernel_rfl) rfl ?_
 refine fun b hb=>?_
 apply bY <;> intro h1
 ·have h0:=hb h1
  refine⟨rfl,rfl,h0.symm,fun i hi=>?_⟩
  omega
 refine⟨⟨.inr rfl,by unfold maxLen; omega,by show (0+l.length) * 8<=140737488355328; omega⟩,?_⟩
 refine⟨rfl,rfl,qH _,fun i hi j hj=>?_⟩
 exact dE _
theorem zkC (l:List Int) (hn:l.length<=1000000):Spec PP 88 [.d (lI l)] [.d (lI l)]:=by
 refine sA Tryz.func88 ?_
 refine fun b hb=>?_
 apply bY <;> intro h1
 ·have h0:=hb h1
  exact⟨⟨_,_,_,_,rfl,h0.symm,.inl rfl⟩,trivial⟩
 refine⟨⟨.inr rfl,by unfold maxLen; omega,by show (0+l.length) * 8<=140737488355328; omega⟩,?_⟩
 exact⟨⟨_,_,_,_,rfl,qH _,.inr ⟨rfl,fun i hi j hj=>dE _⟩⟩,trivial⟩
def Sub {α:Type} (L:List α) (n:Nat) (L':List α):Prop:=∃ u,u.length=n/\u++L' <+: L
theorem Sub.pre {α:Type} {L L' L2:List α} {n:Nat} (h:Sub L n L') (hp:L2 <+: L'):Sub L n L2:=by
 obtain⟨u,h1,h2⟩:=h
 exact⟨u,h1,List.IsPrefix.trans ((List.prefix_append_right_inj _).2 hp) h2⟩
theorem Sub.snd {α:Type} {L L1 L2:List α} {n:Nat} (h:Sub L n (L1++L2)):Sub L (n+L1.length) L2:=by
 obtain⟨u,h1,h2⟩:=h
 exact⟨u++L1,by rw[jR,h1],by rw[List.append_assoc]; exact h2⟩
theorem Sub.get {α:Type} {L L':List α} {x:α} {n:Nat} (h:Sub L n (x :: L')):L[n]?=some x:=by
 obtain⟨u,rfl,t,h2⟩:=h
 rw[<- h2]
 simp
def prtK {α:Type} (ok:List α->Bool) (a:α) (r:List α) (ss:List (List α)) (k:Nat):List (List (List α)):=(List.range k).flatMap fun k=>prt ok r (ss.set k (ss.getD k [] ++ [a]))
theorem zdS {α:Type} (ok:List α->Bool) (a:α) (r:List α) (ss:List (List α)) (k:Nat):prtK ok a r ss (k+1)=prtK ok a r ss k++prt ok r (ss.set k (ss.getD k [] ++ [a])):=by
 unfold prtK
 rw[wG,List.flatMap_append]; simp
theorem zil {α : Type} (ok : List α -> Bool) (a : α) (r : List α) (ss : List (List α)) : ∀ {k m : Nat}, k <= m -> prtK ok a r ss k <+: prtK ok a r ss m
  | k, 0, h => by obtain rfl : k = 0 := by omega
                  exact List.prefix_rfl
  | k, m + 1, h => by
    by_cases e : k = m + 1
    · subst e; exact List.prefix_rfl
    rw [zdS]
    exact List.IsPrefix.trans (zil ok a r ss (by omega)) (List.prefix_append _ _)
theorem zm0 {α:Type} (ok:List α->Bool) (a:α) (r:List α) (ss:List (List α)):prt ok (a :: r) ss=prtK ok a r ss ss.length++prt ok r (ss ++ [[a]]):=rfl
section
variable (ids:List Int) (pv:D) (ok:List Int->Bool)
abbrev enP (p:List (List Int)):List V1:=[.d (lII p)]
abbrev allP:List (List (List Int)):=prt ok ids []
abbrev posD:D:=capB [pv]
def putCaps:List Cap:=[.dat (capB [lI ids]),.own 4,.dat (posD pv),.own 3,.own 5]
def putObs (ss:List (List Int)) (l:Nat):List (Nat × Ob):=[(4,.box [.own 100]),(100,.row 22 1 ss.length (rowII ss)),(3,.box [.yl l]),(5,.box [.clo 122 (putCaps ids pv)])]
def putArgs (i:Nat) (_:Nat):List AV:=[.d (I i),.d (capB [lI ids]),.box 4 0,.d (posD pv),.box 3 0,.box 5 0]
end
section
variable (ids:List Int) (pv:D) (ok:List Int->Bool)
abbrev putSl (γ:Nat->Value) (i:Nat):List (Nat × AV):=[(0,.d (I i)),(1,.d (capB [lI ids])),(2,.pbox 4 (γ 4)),(3,.d (posD pv)),(4,.pbox 3 (γ 3)),(5,.pbox 5 (γ 5))]
theorem zif (i:Nat) (ss:List (List Int)):∀ l,∀ v∈putArgs ids pv i l,∀ j∈v.refs,(look (putObs ids pv ss l) j).isSome=true:=by
 intro l v hv j hj
 simp only[putArgs,k9,jao,jbk] at hv
 rcases hv with rfl | rfl | rfl | rfl | rfl | rfl
 ·cases hj
 ·cases hj
 ·obtain rfl:j=4:=by simpa [AV.refs] using hj
  rfl
 ·cases hj
 ·obtain rfl:j=3:=by simpa [AV.refs] using hj
  rfl
 obtain rfl:j=5:=by simpa [AV.refs] using hj
 rfl
theorem zri (hn:ids.length<=7) (hok:PosC pv ok) (ss:List (List Int)) (n:Nat) (hs:ss.length<=7) (hl:∀ s∈ss,s.length<=7) (hsub:Sub (allP ids ok) n (prt ok [] ss)) :
  SpecY PP 122 ((allP ids ok).map enP) n (prt ok [] ss).length (putArgs ids pv ids.length) (putObs ids pv ss) (putObs ids pv ss) [4,3,5] [B true] [B false]:=by
 refine zhZ [10] Tryz.func122 rfl (by kernel_rfl) (putArgs ids pv ids.length) [7] rfl [(2,4),(4,3),(5,5)] rfl rfl rfl (zif ids pv _ ss) (by decide) (fun _=>rfl) fun l γ=>?_
 refine sYe (by simp) ?_
 refine lOf (σ:=Nat) (fun j=>([(G,.gho (some n)),(0,.d (I ids.length)),(1,.d (capB [lI ids])),(2,.pbox 4 (γ 4)),(3,.d (posD pv)),(4,.pbox 3 (γ 3)),(5,.pbox 5 (γ 5)),(8,.own 17),(18,.own 100),(19,.d (I ss.length)),(20,.d (I j))],
   [(4,.box [.own 100]),(100,.row 22 1 ss.length (rowII ss)),(3,.box [.yl l]),(5,.box [.clo 122 (putCaps ids pv)]),(17,.row 22 1 (ss.take j).length (rowII (ss.take j)))])) (fun j=>j<=ss.length /\ ∀ q,q<j->ok (ss.getD q [])=true) (fun j=>ss.length - j) 0
  ⟨rfl,⟨obX rfl,obR rfl (dE _),obX rfl,obX rfl,obR rfl ⟨rfl,.inl rfl⟩,trivial⟩,wq rfl⟩ z0L fun j hj=>?_
 obtain⟨hj,ha⟩:=hj
 have lt:(ss.take j).length=j:=by rw[jQ]; omega
 apply bY <;> intro h2
 ·have h2:j<ss.length:=by have:=dT h2; omega
  have ej:((j:Nat):Int).toNat=j:=jar j
  have hm:ss.getD j []∈ss:=by rw[hU,kF h2]; exact kT h2
  refine⟨⟨by omega,by omega⟩,⟨by omega,?_⟩⟩
  rcases hok with⟨g0,c0,rfl,hok⟩ | ⟨f0,m0,g0,rfl,hok⟩
  all_goals
   have hc:=hok (ss.getD (j:Int).toNat []) (by rw[ej]; exact hl _ hm)
   first | refine cP hc rfl rfl ?_ | refine CallSt.bn rfl rfl rfl hc rfl ?_
   apply bY <;> intro h3
   ·have h3:ok (ss.getD j [])=false:=by rw[ej] at h3; simpa using h3
    have em:prt ok [] ss=[]:=kG fun h=>by rw[jC.1 h _ hm] at h3; cases h3
    exact .inl ⟨rfl,⟨obX rfl,obR rfl (dE _),obX rfl,obX rfl,trivial⟩,avG rfl (by rw[em]; rfl),avQ rfl,avQ rfl,avQ rfl,avQ rfl,trivial⟩
   have h3:ok (ss.getD j [])=true:=by rw[ej] at h3; simpa using h3
   refine cR (zkC (ss.getD (j:Int).toNat []) (by rw[ej]; have:=hl _ hm; omega)) rfl rfl ?_
   refine⟨⟨.inr rfl,by unfold maxLen; omega,by show ((ss.take j).length+1) * 24<=140737488355328; omega⟩,?_⟩
   refine⟨i6,?_⟩
   refine⟨j+1,⟨rfl,⟨obX rfl,obR rfl (dE _),obX rfl,obX rfl,obR rfl ?_,trivial⟩,wq rfl⟩,⟨h2,fun q hq=>?_⟩,msr h2⟩
   ·rw[zay h2 []]
    refine zkm rfl ?_
    show D.eqv (lI (ss.getD (j:Int).toNat [])) _
    rw[ej]; exact dE _
   by_cases e:q=j
   ·subst e; exact h3
   exact ha q (by omega)
 have h2:j=ss.length:=by have:=dF h2; omega
 subst h2
 rw[jZ]
 have em:prt ok [] ss=[ss]:=kH (jC.2 fun s hs=>by
  obtain⟨q,hq,rfl⟩:=kP hs
  have:=ha q hq
  rw[hU,kF hq] at this
  exact this)
 refine kAt [(G,.gho (some n)),(0,.d (I ids.length)),(1,.d (capB [lI ids])),(2,.pbox 4 (γ 4)),(3,.d (posD pv)),(4,.pbox 3 (γ 3)),(5,.pbox 5 (γ 5)),(8,.d (lII ss))] (putObs ids pv ss l) ⟨rfl,⟨obX rfl,obR rfl (dE _),obX rfl,obX rfl,trivial⟩,avQ rfl,avQ rfl,avQ rfl,avQ rfl,avQ rfl,avQ rfl,avQ rfl,avOw rfl rfl rfl (dE _),trivial⟩ ?_
 refine CallSt.ydC (d:=36) (putSl ids pv γ ids.length) (putObs ids pv ss l) rfl rfl rfl rfl ⟨rfl,⟨obX rfl,obR rfl (dE _),obX rfl,obX rfl,trivial⟩,wq rfl⟩ (by rw[em] at hsub; exact hsub.get) rfl rfl ?_ ?_
 ·exact .inl ⟨rfl,⟨obX rfl,obR rfl (dE _),obX rfl,obX rfl,trivial⟩,avG rfl (by rw[em]; rfl),avQ rfl,avQ rfl,avQ rfl,avQ rfl,trivial⟩
 exact .inr ⟨rfl,trivial,avQ rfl,avQ rfl,trivial⟩
end
section
variable (ids:List Int) (pv:D) (ok:List Int->Bool)
theorem zrh (hn:ids.length<=7) (i:Nat) (hi:i<ids.length) (ss:List (List Int)) (n:Nat) (hs:ss.length<=i) (hl:∀ s∈ss,s.length<=i) (hsub:Sub (allP ids ok) n (prt ok (ids.drop i) ss))
  (ih:∀ (ss:List (List Int)) (n:Nat),ss.length<=i+1->(∀ s∈ss,s.length<=i+1)->Sub (allP ids ok) n (prt ok (ids.drop (i+1)) ss)->SpecY PP 122 ((allP ids ok).map enP) n (prt ok (ids.drop (i+1)) ss).length (putArgs ids pv (i+1)) (putObs ids pv ss) (putObs ids pv ss) [4,3,5] [B true] [B false]) :
  SpecY PP 122 ((allP ids ok).map enP) n (prt ok (ids.drop i) ss).length (putArgs ids pv i) (putObs ids pv ss) (putObs ids pv ss) [4,3,5] [B true] [B false]:=by
 have ed:ids.drop i=ids.getD i 0 :: ids.drop (i+1):=by rw[qB hi,hU,kF hi]; rfl
 rw[ed] at hsub ⊢
 rw[zm0] at hsub ⊢
 refine zhZ [] Tryz.func122 rfl (by kernel_rfl) (putArgs ids pv i) [7] rfl [(2,4),(4,3),(5,5)] rfl rfl rfl (zif ids pv _ ss) (by decide) (fun _=>rfl) fun l γ=>?_
 refine sNo (by simp; omega) ?_
 refine lOf (σ:=Nat) (fun q=>([(G,.gho (some (n+(prtK ok (ids.getD i 0) (ids.drop (i+1)) ss q).length))),(0,.d (I i)),(1,.d (capB [lI ids])),(2,.pbox 4 (γ 4)),(3,.d (posD pv)),(4,.pbox 3 (γ 3)),(5,.pbox 5 (γ 5)),(38,.d (I ss.length)),(39,.d (I q))],
   [(4,.box [.own 100]),(100,.row 22 1 ss.length (rowII ss)),(3,.box [.yl l]),(5,.box [.clo 122 (putCaps ids pv)])])) (fun q=>q<=ss.length) (fun q=>ss.length - q) 0
  ⟨rfl,⟨obX rfl,obR rfl (dE _),obX rfl,obX rfl,trivial⟩,wq rfl⟩ (jF _) fun q hq=>?_
 have hq:q<=ss.length:=hq
 apply bY <;> intro h2
 ·have h2:q<ss.length:=by have:=dT h2; omega
  have eq:((q:Nat):Int).toNat=q:=jar q
  have hm:ss.getD q []∈ss:=by rw[hU,kF h2]; exact kT h2
  have hml:=hl _ hm
  refine⟨⟨by omega,by omega⟩,⟨by omega,?_⟩⟩
  refine oL [2,4,5,6,7,8,1000,1001,6003,9,10,5011] (fNo ?_)
  refine⟨⟨rfl,by omega,by omega⟩,?_⟩
  refine⟨rfl,rfl,?_⟩
  refine⟨rfl,rfl,?_⟩
  refine⟨⟨_,_,_,_,_,_,rfl,rfl,rfl,rfl,?_⟩⟩
  rw[zaD]
  refine⟨_,_,_,_,_,none,rfl,zm3 (ss.getD (q:Int).toNat []) (by rw[eq]; omega),fun m j _ _=>rfl,?_⟩
  refine⟨⟨.inr rfl,by unfold maxLen; rw[eq]; omega,by show ((ss.getD (q:Int).toNat []).length+1) * 8<=140737488355328; rw[eq]; omega⟩,?_⟩
  refine⟨⟨by omega,by omega⟩,?_⟩
  refine FzOb.fz [49] ?_
  refine⟨by omega,?_⟩
  refine⟨i6,?_⟩
  have hset:(ss.set q (ss.getD q [] ++ [ids.getD i 0])).length<=i+1:=by rw[jaQ]; omega
  have hsl:∀ s∈ss.set q (ss.getD q [] ++ [ids.getD i 0]),s.length<=i+1:=fun s hs=>by
   rcases jaL hs with hs | rfl
   ·have:=hl s hs; omega
   rw[jR,wD]; omega
  have hsub':Sub (allP ids ok) (n+(prtK ok (ids.getD i 0) (ids.drop (i+1)) ss q).length) (prt ok (ids.drop (i+1)) (ss.set q (ss.getD q [] ++ [ids.getD i 0]))):=by
   refine (hsub.pre (L2:=prtK ok (ids.getD i 0) (ids.drop (i+1)) ss q++prt ok (ids.drop (i+1)) (ss.set q (ss.getD q [] ++ [ids.getD i 0]))) ?_).snd
   rw[<- zdS]
   exact List.IsPrefix.trans (zil ok _ _ ss h2) (List.prefix_append _ _)
  refine CallSt.cy [(0,.d (I i)),(1,.d (capB [lI ids])),(2,.pbox 4 (γ 4)),(3,.d (posD pv)),(4,.pbox 3 (γ 3)),(5,.pbox 5 (γ 5)),(11,.d (I q)),(12,.d (lI (ss.getD q []))),(38,.d (I ss.length)),(39,.d (I q)),(57,.clo 122 (putCaps ids pv)),(59,.d (I ((i+1:Nat):Int)))] []
   (ih (ss.set q (ss.getD q [] ++ [ids.getD i 0])) _ hset hsl hsub') rfl rfl ⟨rfl,⟨obX rfl,obR rfl ?_,obX rfl,obX rfl,trivial⟩,avQ rfl,avQ rfl,avQ rfl,avQ rfl,avQ rfl,avQ rfl,avQ rfl,?_,avQ rfl,avQ rfl,avQ rfl,avQ rfl,trivial⟩ rfl rfl rfl rfl ?_ ?_
  ·refine zpj h2 eq ?_
   refine⟨by rw[eq,jR]; rfl,.inr ⟨rfl,fun u hu v hv=>?_⟩⟩
   show D.eqv (appRow _ (rowI (ss.getD (q:Int).toNat [])) _ u v) (I ((ss.getD q [] ++ [ids.getD i 0]).getD u 0))
   rw[eq]
   unfold appRow
   by_cases hh:u<(ss.getD q []).length
   ·rw[kH hh,hU (l:=ss.getD q [] ++ [ids.getD i 0]),jJ hh,<- hU]
    exact dE _
   have hu:u<(ss.getD (q:Int).toNat []).length+1:=hu
   rw[eq] at hu
   have e:u=(ss.getD q []).length:=by omega
   obtain rfl:v=0:=jab.1 hv
   rw[kG hh,hU (l:=ss.getD q [] ++ [ids.getD i 0]),jK (by omega),e,kE]
   show D.eqv (I (ids.getD i 0)) (I (ids.getD i 0))
   exact dE _
  ·show D.eqv (lI (ss.getD (q:Int).toNat [])) (lI (ss.getD q []))
   rw[eq]; exact dE _
  ·refine sF ?_
   have ls:(ss.set q (ss.getD q [] ++ [ids.getD i 0])).length=ss.length:=jaQ
   refine⟨⟨by omega,by rw[ls]; omega⟩,⟨by rw[ls,eq]; exact h2,?_⟩⟩
   refine⟨i6,?_⟩
   refine⟨q+1,⟨rfl,⟨obX rfl,obR rfl ?_,obX rfl,obX rfl,trivial⟩,avG rfl ?_,avQ rfl,avQ rfl,avQ rfl,avQ rfl,avQ rfl,avQ rfl,avQ rfl,avQ rfl,trivial⟩,h2,msr h2⟩
   ·have h3:q<(ss.set q (ss.getD q [] ++ [ids.getD i 0])).length:=by rw[ls]; exact h2
    have h4:=zpj (ss:=ss.set q (ss.getD q [] ++ [ids.getD i 0])) (s':=ss.getD q []) h3 eq (dE _)
    have h5:(ss.set q (ss.getD q [] ++ [ids.getD i 0])).set q (ss.getD q [])=ss:=by
     rw[List.set_set,hU,kF h2]
     exact List.set_getElem_self h2
    rw[h5] at h4
    exact h4
   rw[zdS,jR,jaI]
  refine sT ?_
  exact .inr ⟨rfl,trivial,avQ rfl,avQ rfl,trivial⟩
 have h2:q=ss.length:=by have:=dF h2; omega
 subst h2
 refine oN 9 ?_
 refine⟨⟨rfl,by omega,by omega⟩,?_⟩
 refine⟨⟨.inr rfl,by unfold maxLen; omega,by show (ss.length+1) * 24<=140737488355328; omega⟩,?_⟩
 refine⟨i6,?_⟩
 refine CallSt.cy [(0,.d (I i)),(1,.d (capB [lI ids])),(2,.pbox 4 (γ 4)),(3,.d (posD pv)),(4,.pbox 3 (γ 3)),(5,.pbox 5 (γ 5)),(75,.clo 122 (putCaps ids pv)),(77,.d (I ((i+1:Nat):Int)))] []
  (ih (ss ++ [[ids.getD i 0]]) _ (by rw[jR,wD]; omega) (fun s hs=>by
   rcases kR.1 hs with hs | hs
   ·have:=hl s hs; omega
   obtain rfl:=kM.1 hs; rw[wD]; omega) hsub.snd) rfl rfl ⟨rfl,⟨obX rfl,obR rfl ?_,obX rfl,obX rfl,trivial⟩,avQ rfl,avQ rfl,avQ rfl,avQ rfl,avQ rfl,avQ rfl,avQ rfl,avQ rfl,trivial⟩ rfl rfl rfl rfl ?_ ?_
 ·refine zkm rfl ⟨rfl,.inr ⟨rfl,fun u hu v hv=>?_⟩⟩
  obtain rfl:v=0:=jab.1 hv
  obtain rfl:u=0:=jab.1 hu
  show D.eqv (I (ids.getD i 0)) (I (ids.getD i 0))
  exact dE _
 ·refine sF ?_
  have ll:(ss ++ [[ids.getD i 0]]).length=ss.length+1:=by rw[jR,wD]
  refine⟨i6,?_⟩
  refine⟨⟨by rw[ll]; omega,by rw[ll]; omega⟩,?_⟩
  refine .inl ⟨rfl,⟨obX rfl,obR rfl ?_,obX rfl,obX rfl,trivial⟩,avG rfl ?_,avQ rfl,avQ rfl,avQ rfl,avQ rfl,trivial⟩
  ·refine⟨by rw[ll]; omega,.inr ⟨rfl,fun u hu v hv=>?_⟩⟩
   rw[ll] at hu
   have hu:u<ss.length:=by omega
   show D.eqv (lI ((ss ++ [[ids.getD i 0]]).getD u [])) (lI (ss.getD u []))
   rw[hU (l:=ss ++ [[ids.getD i 0]]),jJ hu,<- hU]
   exact dE _
  rw[jR,jaI]
 refine sT ?_
 exact .inr ⟨rfl,trivial,avQ rfl,avQ rfl,trivial⟩
end
theorem zsb {d:Day} {ids:List Int} (h:askE d ids=0):DayOk d:=by
 unfold askE at h
 split at h
 ·rename_i h1; exact absurd h h1
 rename_i h1; exact zap (jL h1)
def celR (d:Day) (ids:List Int):List Place × Int:=if askE d ids≠0 then ([],askE d ids) else (plsD d ids,0)
def sigR (d:Day):List Int × Int:=if dayE d≠0 then ([],dayE d) else (sigL d.R,0)
theorem zrK (d:Day) (ids:List Int) (hn:d.R.length<=1000000) (hi:ids.length<=1000000):Spec PP 14 [d.v,.d (lI ids)] [.d (lP (celR d ids).1),.d (.int .i64 (celR d ids).2)]:=by
 refine sA Tryz.func14 ?_
 refine cP (zp1 d ids hn hi) rfl rfl ?_
 unfold celR
 apply bY <;> intro h0
 ·rw[kH (by simpa using h0)]
  exact⟨⟨_,_,_,_,rfl,rfl,.inl rfl⟩,rtI rfl rfl,trivial⟩
 have h0:askE d ids=0:=by simpa using h0
 rw[kG (fun hh=>hh h0)]
 refine cR (zdC (zsb h0) ids hi) rfl rfl ?_
 exact⟨dE _,rtI rfl rfl,trivial⟩
theorem zhq (d:Day) (hn:d.R.length<=1000000):Spec PP 10 [d.v] [.d (lI (sigR d).1),.d (.int .i64 (sigR d).2)]:=by
 refine sA Tryz.func10 ?_
 refine cP (zbD d hn) rfl rfl ?_
 unfold sigR
 apply bY <;> intro h0
 ·rw[kH (by simpa using h0)]
  exact⟨⟨_,_,_,_,rfl,rfl,.inl rfl⟩,rtI rfl rfl,trivial⟩
 have h0:dayE d=0:=by simpa using h0
 rw[kG (fun hh=>hh h0)]
 refine cR (zar d hn) rfl rfl ?_
 exact⟨dE _,rtI rfl rfl,trivial⟩
def parE (d:Day) (a b:Int):Int:=if dayE d≠0 then dayE d else if partB [a,b] (sigL d.R)=false then 5 else if a=b then 1 else 0
theorem zoD (d:Day) (a b:Int) (hn:d.R.length<=1000000):Spec PP 63 [d.v,N a,N b] [.d (.int .i64 (parE d a b))]:=by
 refine sA Tryz.func63 ?_
 refine cP (zbD d hn) rfl rfl ?_
 unfold parE
 apply bY <;> intro h0
 ·rw[kH (by simpa using h0)]
  exact r1I rfl rfl
 have h0:dayE d=0:=by simpa using h0
 rw[kG (fun hh=>hh h0)]
 have hs:(sigL d.R).length<=1000000:=by rw[zcp]; exact jM (zdp _) hn
 refine cR (zar d hn) rfl rfl ?_
 refine fEq [15] (zeW [a,b] (sigL d.R) (by simp) hs) rfl ⟨⟨rfl,.inr ⟨rfl,fun i hi j hj=>?_⟩⟩,dE _,trivial⟩ rfl ?_
 ·match i,hi,j,hj with
  | 0,_,0,_=>exact⟨rfl,rfl⟩
  | 1,_,0,_=>exact⟨rfl,rfl⟩
 apply bY <;> intro h1
 ·rw[kH (by simpa using h1)]
  exact r1I rfl rfl
 rw[kG (by simpa using h1)]
 apply bY <;> intro h2
 ·rw[kH (by simpa using h2)]
  exact r1I rfl rfl
 rw[kG (by simpa using h2)]
 exact r1I rfl rfl
abbrev lPP (l:List (List (List Int))):D:=.slc 1 l.length fun i _=>lII (l.getD i [])
def bthB (a b:Int) (s:List Int):Bool:=s.contains a && s.contains b
def togB (a b:Int) (p:List (List Int)):Bool:=p.any (bthB a b)
theorem zhp (a b:Int) (s:List Int) (hs:s.length<=1000000):Spec PP 123 [.d (lI s),.d (capB [I a]),.d (capB [I b])] [B (bthB a b s)]:=by
 refine sA Tryz.func123 ?_
 refine cP (zc7 s a hs) rfl rfl ?_
 apply bY <;> intro h1
 ·have h1:s.contains a=true:=h1
  refine cP (zc7 s b hs) rfl rfl ?_
  repeat first | apply sT | apply sF
  exact r1B rfl (by unfold bthB; rw[h1,kN])
 have h1:s.contains a=false:=h1
 repeat first | apply sT | apply sF
 exact r1B rfl (by unfold bthB; rw[h1,kZ])
theorem zeV (p:List (List Int)) (a b:Int) (hp:p.length<=1000000) (hs:∀ s∈p,s.length<=1000000):Spec PP 68 [.d (lII p),N a,N b] [B (togB a b p)]:=by
 refine sA Tryz.func68 ?_
 refine fEq [4,5] (zmL p 123 (capB [I a]) (capB [I b]) (bthB a b) hp fun i hi=>zhp a b _ (hs _ ?_)) rfl ⟨dE _,⟨rfl,rfl,zr7 _ _ rfl rfl⟩,trivial⟩ rfl ?_
 ·rw[hU,kF hi]; exact kT hi
 exact r1B rfl rfl
structure Vdt where
  Ans:Int
  T:List (List Int)
  A:List (List Int)
  deriving Inhabited
abbrev Vdt.v (x:Vdt):V1:=.agg [I x.Ans,lII x.T,lII x.A]
def fstP (p:List (List Int)->Bool) (l:List (List (List Int))):List (List Int):=(l.find? p).getD []
def vdtR (l:List (List (List Int))) (a b:Int):Vdt:=
 ⟨if l.any (togB a b)=true then (if (l.any fun p=>!togB a b p)=true then 3 else 2) else 1,fstP (togB a b) l,fstP (fun p=>!togB a b p) l⟩
theorem zgy (p:List (List Int)->Bool) {l:List (List (List Int))} {i:Nat} (h:i<l.length):fstP p (l.take (i+1))=if (l.take i).any p=true then fstP p (l.take i) else if p (l.getD i [])=true then l.getD i [] else []:=by
 unfold fstP
 rw[zay h [],List.find?_append]
 cases hf:(l.take i).find? p with
 | some x=>
  rw[kH (kL.2 ⟨x,List.mem_of_find?_eq_some hf,List.find?_some hf⟩)]; rfl
 | none=>
 rw[kG fun ha=>by
  obtain⟨x,h1,h2⟩:=kL.1 ha
  exact List.find?_eq_none.1 hf x h1 h2]
 rw[List.find?_cons]
 cases p (l.getD i []) <;> rfl
theorem zi4 (p:List (List Int)->Bool) {l:List (List (List Int))} {i:Nat} (h:i<l.length):(l.take (i+1)).any p=((l.take i).any p || p (l.getD i [])):=by
 rw[zay h [],List.any_append]; simp
theorem zlp {p:List (List Int)->Bool} {l:List (List (List Int))} (h:l.any p=false):fstP p l=[]:=by
 unfold fstP
 rw[List.find?_eq_none.2 fun x hx hp=>by have:=wI.1 h x hx; exact this hp]; rfl
theorem zbo {p:List (List Int)->Bool} {l:List (List (List Int))} {i:Nat} (h:i<l.length) (h2:(l.take i).any p=true \/ p (l.getD i [])=false):fstP p (l.take (i+1))=fstP p (l.take i):=by
 rw[zgy p h]
 by_cases h3:(l.take i).any p=true
 ·rw[kH h3]
 rw[kG h3,kG (by rw[h2.resolve_left h3]; decide),zlp (by simpa using h3)]
theorem ziL {p:List (List Int)->Bool} {l:List (List (List Int))} {i:Nat} (h:i<l.length) (h2:(l.take i).any p=false) (h3:p (l.getD i [])=true):fstP p (l.take (i+1))=l.getD i []:=by
 rw[zgy p h,kG (by rw[h2]; decide),kH h3]
theorem zgq (l:List (List (List Int))) (a b:Int) (hl:l.length<=1000000) (hp:∀ p∈l,p.length<=1000000 /\ ∀ s∈p,s.length<=1000000):Spec PP 64 [.d (lPP l),N a,N b] [(vdtR l a b).v]:=by
 refine sA Tryz.func64 ?_
 refine lOf (σ:=Nat) (fun i=>([(1,.d (I a)),(2,.d (I b)),(6,.box 6 0),(7,.box 7 0),(8,.d (.bool ((l.take i).any (togB a b)))),(9,.d (.bool ((l.take i).any fun p=>!togB a b p))),(12,.d (lPP l)),(13,.d (I l.length)),(14,.d (I i))],
   [(6,.box (List.replicate 3 .any)),(7,.box ([I 0,lII (fstP (togB a b) (l.take i)),lII (fstP (fun p=>!togB a b p) (l.take i))].map AV.d))])) (fun i=>i<=l.length) (fun i=>l.length - i) 0
  ⟨rfl,⟨zaM rfl rfl,⟨dE _,rfl,rfl,trivial⟩,trivial⟩,wq rfl⟩ (jF _) fun i hi=>?_
 have hi:i<=l.length:=hi
 apply bY <;> intro h1
 ·have h1:i<l.length:=by have:=dT h1; omega
  have hm:l.getD i []∈l:=by rw[hU,kF h1]; exact kT h1
  obtain⟨g1,g2⟩:=hp _ hm
  have a1:=zi4 (togB a b) h1
  have a2:=zi4 (fun p=>!togB a b p) h1
  refine⟨⟨rfl,by omega,by omega⟩,?_⟩
  refine cP (zeV (l.getD i []) a b g1 g2) rfl rfl ?_
  apply bY <;> intro h2
  ·have h2:togB a b (l.getD i [])=true:=h2
   have h2':(!togB a b (l.getD i []))=false:=by rw[h2]; rfl
   rw[h2,qJ] at a1
   rw[h2',jaj] at a2
   apply bY <;> intro h3
   ·have h3:(l.take i).any (togB a b)=false:=by simpa using h3
    refine⟨i6,?_⟩
    refine⟨i+1,⟨rfl,⟨zaM rfl rfl,?_,trivial⟩,?_⟩,h1,msr h1⟩
    ·rw[ziL (p:=togB a b) h1 h3 h2,zbo (p:=fun p=>!togB a b p) h1 (.inr h2')]; exact⟨dE _,dE _,dE _,trivial⟩
    rw[a1,a2]; exact wq rfl
   have h3:(l.take i).any (togB a b)=true:=by simpa using h3
   refine⟨i6,?_⟩
   refine⟨i+1,⟨rfl,⟨zaM rfl rfl,?_,trivial⟩,?_⟩,h1,msr h1⟩
   ·rw[zbo (p:=togB a b) h1 (.inl h3),zbo (p:=fun p=>!togB a b p) h1 (.inr h2')]; exact⟨dE _,dE _,dE _,trivial⟩
   rw[a1.trans h3.symm,a2]; exact wq rfl
  have h2:togB a b (l.getD i [])=false:=h2
  have h2':(!togB a b (l.getD i []))=true:=by rw[h2]; rfl
  rw[h2,jaj] at a1
  rw[h2',qJ] at a2
  apply bY <;> intro h3
  ·have h3:((l.take i).any fun p=>!togB a b p)=false:=by simpa using h3
   refine⟨i6,?_⟩
   refine⟨i+1,⟨rfl,⟨zaM rfl rfl,?_,trivial⟩,?_⟩,h1,msr h1⟩
   ·rw[zbo (p:=togB a b) h1 (.inr h2),ziL (p:=fun p=>!togB a b p) h1 h3 h2']; exact⟨dE _,dE _,dE _,trivial⟩
   rw[a1,a2]; exact wq rfl
  have h3:((l.take i).any fun p=>!togB a b p)=true:=by simpa using h3
  refine⟨i6,?_⟩
  refine⟨i+1,⟨rfl,⟨zaM rfl rfl,?_,trivial⟩,?_⟩,h1,msr h1⟩
  ·rw[zbo (p:=togB a b) h1 (.inr h2),zbo (p:=fun p=>!togB a b p) h1 (.inl h3)]; exact⟨dE _,dE _,dE _,trivial⟩
  rw[a1,a2.trans h3.symm]; exact wq rfl
 have h1:i=l.length:=by have:=dF h1; omega
 subst h1
 rw[jZ]
 unfold vdtR
 apply bY <;> intro h2
 ·have h2:l.any (togB a b)=true:=h2
  rw[kH h2]
  repeat first | apply sT | apply sF
  apply bY <;> intro h3
  ·have h3:(l.any fun p=>!togB a b p)=true:=h3
   rw[kH h3]
   exact⟨rtC (a:=6) rfl rfl rfl rfl rfl rfl (zab _),trivial⟩
  have h3:(l.any fun p=>!togB a b p)=false:=h3
  rw[kG (by rw[h3]; decide)]
  refine sYe h2 ?_
  exact⟨rtC (a:=6) rfl rfl rfl rfl rfl rfl (zab _),trivial⟩
 have h2:l.any (togB a b)=false:=h2
 rw[kG (by rw[h2]; decide)]
 repeat first | apply sT | apply sF
 refine sNo h2 ?_
 exact⟨rtC (a:=6) rfl rfl rfl rfl rfl rfl (zab _),trivial⟩
section
variable (ids:List Int) (pv:D) (ok:List Int->Bool)
theorem zrj (hn:ids.length<=7) (hok:PosC pv ok):∀ (k i:Nat) (ss:List (List Int)) (n:Nat),i+k=ids.length->ss.length<=i->(∀ s∈ss,s.length<=i)->Sub (allP ids ok) n (prt ok (ids.drop i) ss) ->
  SpecY PP 122 ((allP ids ok).map enP) n (prt ok (ids.drop i) ss).length (putArgs ids pv i) (putObs ids pv ss) (putObs ids pv ss) [4,3,5] [B true] [B false]
 | 0,i,ss,n,hi,hs,hl,hsub=>by
  obtain rfl:i=ids.length:=by omega
  rw[jbh] at hsub ⊢
  exact zri ids pv ok hn hok ss n (by omega) (fun s h=>by have:=hl s h; omega) hsub
 | k+1,i,ss,n,hi,hs,hl,hsub=>zrh ids pv ok hn i (by omega) ss n hs hl hsub fun ss n hs hl hsub=>zrj hn hok k (i+1) ss n (by omega) hs hl hsub
def prtCap (j:Nat):D:=getD' [capB [lI ids],posD pv] j
theorem zcw (hn:ids.length<=7) (hok:PosC pv ok):SeqC PP 121 2 (prtCap ids pv) enP (allP ids ok):=by
 refine zfo Tryz.func121 rfl (by kernel_rfl) rfl rfl enP _ fun l=>?_
 refine CallSt.cy (cuts:=[]) [(7,.clo 122 (putCaps ids pv))] [] (zrj ids pv ok hn hok ids.length 0 [] 0 (qH _) (jE _) (fun s h=>by cases h) ⟨[],rfl,List.prefix_rfl⟩) rfl rfl
  ⟨rfl,⟨⟨⟨rfl,_,_,_,rfl⟩,trivial⟩,rfl,obX rfl,obX rfl,trivial⟩,wq rfl⟩ rfl rfl rfl rfl ?_ ?_
 ·exact .inl (jI (fun n=>AV.gho (some n)) (qH _))
 exact .inr rfl
theorem zc9 (hp:(∃ g c,pv=cloB g [c]) \/ ∃ f m g,pv = .bnd f m g):Spec PP 66 [.d (lI ids),.d pv] [.d (cloB 121 [capB [lI ids],posD pv])]:=by
 rcases hp with⟨g0,c0,rfl⟩ | ⟨f0,m0,g0,rfl⟩
 all_goals
  refine sA Tryz.func66 ?_
  refine⟨⟨rfl,rfl,fun j hj=>?_⟩,trivial⟩
  match j,hj with
  | 0,_=>exact⟨_,rfl,rfl,_,_,rfl,rfl,rfl,fun j hj=>dE _⟩
  | 1,_=>exact⟨_,rfl,rfl,_,_,rfl,rfl,rfl,fun j hj=>dE _⟩
end
def bitA (ids s:List Int) (i:Nat):Nat:=(List.range i).foldl (fun b k=>if s.contains (ids.getD k 0)=true then onS b k else b) 0
theorem zbW (ids s:List Int) (i:Nat):bitA ids s (i+1)=if s.contains (ids.getD i 0)=true then onS (bitA ids s i) i else bitA ids s i:=by
 unfold bitA
 rw[wG,jai]; rfl
theorem zl6 (ids s:List Int):∀ i,i<=7->bitA ids s i<128
 | 0,_=>by show 0<128; decide
 | i+1,h=>by
  have:=zl6 ids s i (by omega)
  rw[zbW]
  split
  ·exact zrr this (by omega)
  exact this
def bitS (ids s:List Int):Nat:=bitA ids s ids.length
abbrev lkC (d:Day) (ks:List Nat):List D:=d.ds ++ [lI (sigL d.R),cmap d ks]
theorem zrI (d:Day) (ks:List Nat) (hn:(sigL d.R).length<=7) (s:List Int) (hs:s.length<=1000000):Spec PP 148 [.d (lI s),.d (capB (lkC d ks))] [B (fitK d ks (bitS (sigL d.R) s))]:=by
 refine sA Tryz.func148 ?_
 refine lOf (σ:=Nat) (fun i=>([(0,.d (lI s)),(1,avOf (.d (capB (lkC d ks)))),(4,.d (I (bitA (sigL d.R) s i))),(8,.d (lI (sigL d.R))),(9,.d (I (sigL d.R).length)),(10,.d (I i))],[])) (fun i=>i<=(sigL d.R).length) (fun i=>(sigL d.R).length - i) 0
  ⟨rfl,trivial,wq rfl⟩ (jF _) fun i hi=>?_
 have hi:i<=(sigL d.R).length:=hi
 apply bY <;> intro h1
 ·have h1:i<(sigL d.R).length:=by have:=dT h1; omega
  have hb:=zl6 (sigL d.R) s i (by omega)
  refine⟨⟨rfl,by omega,by omega⟩,?_⟩
  refine cP (zc7 s ((sigL d.R).getD i 0) hs) rfl rfl ?_
  apply bY <;> intro h2
  ·have h2:s.contains ((sigL d.R).getD i 0)=true:=h2
   refine⟨by omega,?_⟩
   refine⟨i6,?_⟩
   refine⟨i+1,⟨rfl,trivial,avQ rfl,avQ rfl,?_,avQ rfl,avQ rfl,avQ rfl,trivial⟩,h1,msr h1⟩
   rw[zbW,kH h2]
   exact avQ (jI (fun n=>AV.d (.int .i64 n)) (bOn hb (by omega)))
  have h2:s.contains ((sigL d.R).getD i 0)=false:=h2
  refine⟨i6,?_⟩
  refine⟨i+1,⟨rfl,trivial,?_⟩,h1,msr h1⟩
  rw[zbW,kG (by rw[h2]; decide)]
  exact wq rfl
 have h1:i=(sigL d.R).length:=by have:=dF h1; omega
 subst h1
 refine cP (zeX d ks (bitS (sigL d.R) s)) rfl rfl ?_
 exact r1B rfl rfl
abbrev allCs (d:Day) (ks:List Nat):List D:=[capB [lI (sigL d.R)],posD (cloB 148 [capB (lkC d ks)])]
theorem j_all (d:Day) (ks:List Nat):Spec PP 98 [lkV d ks] [.d (cloB 121 (allCs d ks))]:=by
 refine sA Tryz.func98 ?_
 refine fEq [1] (zc9 (sigL d.R) (cloB 148 [capB (lkC d ks)]) (.inl ⟨_,_,rfl⟩)) rfl ⟨dE _,⟨rfl,rfl,fun j hj=>by obtain rfl:j=0:=jab.1 hj; exact dE _⟩,trivial⟩ rfl ?_
 exact⟨dE _,trivial⟩
abbrev parts (d:Day):List (List (List Int)):=prt (fun s=>fitK d (ksD d) (bitS (sigL d.R) s)) (sigL d.R) []
theorem znm {d:Day} (h:DayOk d):SeqC PP 121 2 (prtCap (sigL d.R) (cloB 148 [capB (lkC d (ksD d))])) enP (parts d):=
 zcw (sigL d.R) _ _ (sig7 h) (.clo _ _ rfl fun s hs=>zrI d (ksD d) (sig7 h) s (by omega))
theorem zfp {α:Type} {ok:List α->Bool}:∀ {r:List α} {ss:List (List α)} {B:Nat} {x:List (List α)},x∈prt ok r ss->(∀ s∈ss,s.length<=B)->x.length<=ss.length+r.length /\ ∀ s∈x,s.length<=B+r.length+1
 | [],ss,B,x,h,hb=>by
  unfold prt at h
  split at h
  ·obtain rfl:=kM.1 h
   exact⟨jE _,fun s hs=>by have:=hb s hs; simp; omega⟩
  ·cases h
 | a :: r,ss,B,x,h,hb=>by
  unfold prt at h
  rcases kR.1 h with h | h
  ·obtain⟨k,hk,h⟩:=List.mem_flatMap.1 h
   have hk:=kI.1 hk
   obtain⟨h1,h2⟩:=zfp (B:=B+1) h fun s hs=>by
    rcases jaL hs with hs | rfl
    ·have:=hb s hs; omega
    have hm:ss.getD k []∈ss:=by rw[hU,kF hk]; exact kT hk
    have:=hb _ hm
    rw[jR,wD]; omega
   rw[jaQ] at h1
   exact⟨by simp; omega,fun s hs=>by have:=h2 s hs; simp; omega⟩
  obtain⟨h1,h2⟩:=zfp (B:=B+1) h fun s hs=>by
   rcases kR.1 hs with hs | hs
   ·have:=hb s hs; omega
   obtain rfl:=kM.1 hs; simp
  rw[jR] at h1
  exact⟨by simp at h1 ⊢; omega,fun s hs=>by have:=h2 s hs; simp; omega⟩
theorem zkp {α:Type} (ok:List α->Bool) (r:List α) (h:r.length<=7):(prt ok r []).length<=877:=by
 rw[zdQ]
 refine jM (jaq _ _) ?_
 rw[kU]
 have:∀ n,n<8->(rgs n 0).length<=877:=by decide +kernel
 exact this _ (by omega)
theorem zcu {d:Day} (h:DayOk d):(parts d).length<=877:=zkp _ _ (sig7 h)
theorem zct {d:Day} (h:DayOk d) {x:List (List Int)} (hx:x∈parts d):x.length<=7 /\ ∀ s∈x,s.length<=8:=by
 have:=sig7 h
 obtain⟨h1,h2⟩:=zfp (B:=0) hx (fun s hs=>by cases hs)
 exact⟨by simp at h1; omega,fun s hs=>by have:=h2 s hs; omega⟩
def bst0 (out:List (List (List Int))) (p:List (List Int)):List (List (List Int)):=if decide (0<out.length) && decide (p.length<(out.getD 0 []).length) then [] else out
def bst1 (out:List (List (List Int))) (p:List (List Int)):List (List (List Int)):=if decide ((bst0 out p).length=0) || decide (p.length=((bst0 out p).getD 0 []).length) then bst0 out p ++ [p] else bst0 out p
def bstL (l:List (List (List Int))):List (List (List Int)):=l.foldl bst1 []
theorem zbV (l:List (List (List Int))) (p:List (List Int)):bstL (l ++ [p])=bst1 (bstL l) p:=by unfold bstL; rw[jai]; rfl
theorem zn0 (o:List (List (List Int))) (p:List (List Int)):(bst0 o p).length<=o.length:=by
 unfold bst0
 split
 ·exact jF _
 exact jE _
theorem znZ (o:List (List (List Int))) (p:List (List Int)):(bst1 o p).length<=o.length+1:=by
 have:=zn0 o p
 unfold bst1
 split
 ·rw[jR]; simp; omega
 omega
theorem ziY:∀ (l o:List (List (List Int))),(l.foldl bst1 o).length<=o.length+l.length
 | [],o=>jE _
 | p :: l,o=>by
  have h1:=ziY l (bst1 o p)
  have h2:=znZ o p
  rw[jaS,jaH]
  omega
theorem zcJ (l:List (List (List Int))):(bstL l).length<=l.length:=by
 have:=ziY l []
 unfold bstL
 simpa using this
abbrev rowPP (l:List (List (List Int))):Nat->Nat->D:=fun i _=>lII (l.getD i [])
theorem zoq {l:List (List (List Int))} {p:List (List Int)} {g:Nat->Nat->D} (hg:D.eqv (g 0 0) (lII p)):D.eqv (.slc 1 (l.length+1) (appRow l.length (rowPP l) g)) (.slc 1 (l ++ [p]).length (rowPP (l ++ [p]))):=by
 refine⟨by simp,.inr ⟨rfl,fun i hi j hj=>?_⟩⟩
 show D.eqv (appRow l.length (rowPP l) g i j) (lII ((l ++ [p]).getD i []))
 obtain rfl:j=0:=by omega
 unfold appRow
 by_cases h:i<l.length
 ·rw[kH h,hU (l:=l ++ [p]),jJ h,<- hU]
  exact dE _
 have e:i=l.length:=by omega
 subst e
 rw[kG h,kE,hU,jK (jE _),kE]
 exact hg
theorem nz_no {n:Nat} (h:0<n):((n:Int)==0)=false:=by simp; omega
theorem zru {n:Nat} (h:n=0):((n:Int)==0)=true:=by subst h; rfl
def obBst (pre:List (List (List Int))):List (Nat × Ob):=[(3,.box [.own 34]),(34,.row 47 1 (bstL pre).length (rowPP (bstL pre)))]
theorem zou (g:FuncId) (c1 c2:D) (xs:List (List (List Int))) (hx:xs.length<=1000) (hseq:SeqC PP g 2 (getD' [c1,c2]) enP xs):Spec PP 65 [.d (cloB g [c1,c2])] [.d (lPP (bstL xs))]:=by
 refine sA Tryz.func65 ?_
 refine CodeOb.rangeAt hseq rfl (fun _=>rfl) (by decide) [(3,.box 3 0)] [(3,0)] obBst rfl (fun _=>rfl) ?_ (Iv:=fun _=>True) trivial (fun v pre x hx' _=>?_) (fun _=>?_)
 ·exact⟨rfl,⟨obN rfl rfl rfl,obZ rfl rfl,trivial⟩,wq rfl⟩
 ·have hpl:pre.length<1000:=by
   have:=hx'.length_le
   rw[jR] at this; simp at this; omega
  have hlen:=zcJ pre
  have push:∀ o:List (List (List Int)),o.length<=1000->bst1 (bstL pre) x=o ++ [x]->bst1 (bstL pre) x=o ++ [x]:=fun _ _ h=>h
  apply bY <;> intro h1
  ·have h1:0<(bstL pre).length:=by have:=dT h1; omega
   refine⟨⟨by omega,by omega⟩,⟨by omega,?_⟩⟩
   repeat first | apply sT | apply sF
   apply bY <;> intro h2
   ·have h2:x.length<((bstL pre).getD 0 []).length:=by have:(x.length:Int)<((bstL pre).getD 0 []).length:=dT h2; omega
    have e0:bst0 (bstL pre) x=[]:=by unfold bst0; rw[kH (by rw[jG h1,jG h2]; rfl)]
    have e1:bst1 (bstL pre) x=[] ++ [x]:=by unfold bst1; rw[e0]; rfl
    repeat first | apply sT | apply sF
    refine⟨⟨.inr rfl,by unfold maxLen; omega,by show (0+1) * 24<=140737488355328; omega⟩,?_⟩
    refine⟨trivial,rfl,⟨obO rfl,obR rfl ?_,trivial⟩,wq rfl⟩
    rw[zbV,e1]
    refine⟨rfl,.inr ⟨rfl,fun u hu w hw=>?_⟩⟩
    obtain rfl:w=0:=jab.1 hw
    obtain rfl:u=0:=jab.1 hu
    exact dE _
   have h2:¬ x.length<((bstL pre).getD 0 []).length:=by have:¬ (x.length:Int)<((bstL pre).getD 0 []).length:=dF h2; omega
   have e0:bst0 (bstL pre) x=bstL pre:=by unfold bst0; rw[kG (by rw[jH h2,qP]; decide)]
   refine sNo (nz_no h1) ?_
   refine⟨⟨by omega,by omega⟩,⟨by omega,?_⟩⟩
   repeat first | apply sT | apply sF
   apply bY <;> intro h3
   ·have h3:x.length=((bstL pre).getD 0 []).length:=by
     have:(x.length:Int)=((bstL pre).getD 0 []).length:=by simpa using h3
     omega
    have e1:bst1 (bstL pre) x=bstL pre ++ [x]:=by unfold bst1; rw[e0,kH (by rw[jG h3,qJ])]
    refine⟨⟨.inr rfl,by unfold maxLen; omega,by show ((bstL pre).length+1) * 24<=140737488355328; omega⟩,?_⟩
    refine⟨trivial,rfl,⟨obO rfl,obR rfl ?_,trivial⟩,wq rfl⟩
    rw[zbV,e1]
    exact zoq (dE _)
   have h3:¬ x.length=((bstL pre).getD 0 []).length:=fun e=>by
    have:¬ (x.length:Int)=((bstL pre).getD 0 []).length:=by simpa using h3
    exact this (by rw[e])
   have e1:bst1 (bstL pre) x=bstL pre:=by unfold bst1; rw[e0,kG (by rw[jH h3,jH (by omega)]; decide)]
   refine⟨trivial,rfl,⟨obO rfl,obR rfl ?_,trivial⟩,wq rfl⟩
   rw[zbV,e1]
   exact dE _
  have h1:(bstL pre).length=0:=by have:=dF h1; omega
  have e0:bst0 (bstL pre) x=bstL pre:=by unfold bst0; rw[kG (by rw[jH (by omega),kZ]; decide)]
  have e1:bst1 (bstL pre) x=bstL pre ++ [x]:=by unfold bst1; rw[e0,kH (by rw[jG h1,qY])]
  repeat first | apply sT | apply sF
  refine sYe (zru h1) ?_
  repeat first | apply sT | apply sF
  refine⟨⟨.inr rfl,by unfold maxLen; omega,by show ((bstL pre).length+1) * 24<=140737488355328; omega⟩,?_⟩
  refine⟨trivial,rfl,⟨obO rfl,obR rfl ?_,trivial⟩,wq rfl⟩
  rw[zbV,e1]
  exact zoq (dE _)
 refine⟨⟨_,_,_,_,rfl,?_⟩,trivial⟩
 exact dE _
theorem ziZ {o:List (List (List Int))} {p q:List (List Int)} (h:q∈bst0 o p):q∈o:=by
 unfold bst0 at h
 split at h
 ·cases h
 exact h
theorem bst1_mem {o:List (List (List Int))} {p q:List (List Int)} (h:q∈bst1 o p):q∈o \/ q=p:=by
 unfold bst1 at h
 split at h
 ·rcases kR.1 h with h | h
  ·exact .inl (ziZ h)
  exact .inr (kM.1 h)
 exact .inl (ziZ h)
theorem bstF_mem {q:List (List Int)}:∀ {l o:List (List (List Int))},q∈l.foldl bst1 o->q∈o \/ q∈l
 | [],o,h=>.inl h
 | p :: l,o,h=>by
  rcases bstF_mem (l:=l) h with h | h
  ·rcases bst1_mem h with h | rfl
   ·exact .inl h
   exact .inr (wB ..)
  exact .inr (qS _ h)
theorem zca {q:List (List Int)} {l:List (List (List Int))} (h:q∈bstL l):q∈l:=(bstF_mem h).resolve_left fun h=>by cases h
abbrev bsts (d:Day):List (List (List Int)):=bstL (parts d)
def bsR (d:Day):List (List (List Int)) × Int:=if (bsts d).length=0 then ([],9) else (bsts d,0)
theorem zfH {d:Day} (h:DayOk d):Spec PP 34 [d.v] [.d (lPP (bsR d).1),.d (.int .i64 (bsR d).2)]:=by
 refine sA Tryz.func34 ?_
 refine cR (zoE h) rfl rfl ?_
 refine cR (j_all d (ksD d)) rfl rfl ?_
 refine cR (zou 121 _ _ (parts d) (by have:=zcu h; omega) (znm h)) rfl rfl ?_
 unfold bsR
 apply bY <;> intro h1
 ·have h1:(bsts d).length=0:=by
   have:((bsts d).length:Int)=0:=by simpa using h1
   omega
  rw[kH h1]
  exact⟨⟨_,_,_,_,rfl,rfl,.inl rfl⟩,rtI rfl rfl,trivial⟩
 have h1:¬ (bsts d).length=0:=fun e=>by
  have:¬ ((bsts d).length:Int)=0:=by simpa using h1
  exact this (by rw[e]; rfl)
 rw[kG h1]
 exact⟨dE _,rtI rfl rfl,trivial⟩
def fewR (d:Day):Int × Int:=if dayE d≠0 then (0,dayE d) else if (bsts d).length=0 then (0,9) else (((bsts d).getD 0 []).length,0)
theorem zns (d:Day) (hn:d.R.length<=1000000):Spec PP 12 [d.v] [N (fewR d).1,.d (.int .i64 (fewR d).2)]:=by
 refine sA Tryz.func12 ?_
 refine cP (zbD d hn) rfl rfl ?_
 unfold fewR
 apply bY <;> intro h0
 ·rw[kH (by simpa using h0)]
  exact⟨rtI rfl rfl,rtI rfl rfl,trivial⟩
 have h0:dayE d=0:=by simpa using h0
 rw[kG (fun hh=>hh h0)]
 refine cR (zfH (zap h0)) rfl rfl ?_
 by_cases h1:(bsts d).length=0
 ·have e:bsR d=([],9):=by unfold bsR; rw[kH h1]
  rw[e,kH h1]
  refine sT ?_
  exact⟨rtI rfl rfl,rtI rfl rfl,trivial⟩
 have e:bsR d=(bsts d,0):=by unfold bsR; rw[kG h1]
 rw[e,kG h1]
 refine sF ?_
 refine⟨⟨rfl,by omega,by show (0:Int)<((bsts d).length:Int); omega⟩,?_⟩
 exact⟨rtI rfl rfl,rtI rfl rfl,trivial⟩
def samR (d:Day) (a b:Int):Vdt × Int:=if parE d a b≠0 then (⟨0,[],[]⟩,parE d a b) else if (bsts d).length=0 then (⟨0,[],[]⟩,9) else (vdtR (bsts d) a b,0)
theorem zkA {d:Day} {a b:Int} (h:parE d a b=0):DayOk d:=by
 unfold parE at h
 split at h
 ·rename_i h1; exact absurd h h1
 rename_i h1; exact zap (jL h1)
theorem zrJ (d:Day) (a b:Int) (hn:d.R.length<=1000000):Spec PP 19 [d.v,N a,N b] [(samR d a b).1.v,.d (.int .i64 (samR d a b).2)]:=by
 refine sA Tryz.func19 ?_
 refine cP (zoD d a b hn) rfl rfl ?_
 unfold samR
 apply bY <;> intro h0
 ·rw[kH (by simpa using h0)]
  exact⟨rtC (a:=6) rfl rfl rfl rfl rfl rfl ⟨⟨rfl,rfl⟩,rfl,rfl,trivial⟩,rtI rfl rfl,trivial⟩
 have h0:parE d a b=0:=by simpa using h0
 have h:=zkA h0
 rw[kG (fun hh=>hh h0)]
 refine cR (zfH h) rfl rfl ?_
 by_cases h1:(bsts d).length=0
 ·have e:bsR d=([],9):=by unfold bsR; rw[kH h1]
  rw[e,kH h1]
  refine sT ?_
  exact⟨rtC (a:=6) rfl rfl rfl rfl rfl rfl ⟨⟨rfl,rfl⟩,rfl,rfl,trivial⟩,rtI rfl rfl,trivial⟩
 have e:bsR d=(bsts d,0):=by unfold bsR; rw[kG h1]
 rw[e,kG h1]
 refine sF ?_
 refine cR (zgq (bsts d) a b (by have:(bsts d).length<=(parts d).length:=zcJ (parts d); have:=zcu h; omega) fun p hp=>by
  have:=zct h (zca hp)
  exact⟨by omega,fun s hs=>by have:=this.2 s hs; omega⟩) rfl rfl ?_
 exact⟨rtC (a:=6) rfl rfl rfl rfl rfl rfl (zab _),rtI rfl rfl,trivial⟩
def fltP (k:Int) (l:List (List (List Int))):List (List (List Int)):=l.filter fun p=>((p.length:Int)==k)
theorem zlr (k:Int) (l:List (List (List Int))) (p:List (List Int)):fltP k (l ++ [p])=if ((p.length:Int)==k)=true then fltP k l ++ [p] else fltP k l:=by
 unfold fltP
 rw[qA]
 by_cases h:((p.length:Int)==k)=true
 ·rw[kH h,qN (by exact h)]; rfl
 rw[kG h,qO (by exact h)]; simp
theorem zjN (l:List Place) (p:Place) (hn:l.length<=1000000):Spec PP 15 [.d (lP l),p.v] [B (l.contains p)]:=by
 refine sA Tryz.func15 ?_
 refine lOf (σ:=Nat) (fun i=>([(3,.box 3 0),(7,.d (lP l)),(8,.d (I l.length)),(9,.d (I i))],[(3,.box ([I p.X,I p.Y].map AV.d))])) (fun i=>i<=l.length /\ ∀ j,j<i->l.getD j default≠p) (fun i=>l.length - i) 0
  ⟨rfl,⟨obD [I p.X,I p.Y] rfl,trivial⟩,wq rfl⟩ z0L fun i hi=>?_
 obtain⟨i1,i2⟩:=hi
 apply bY <;> intro g1
 ·have g1:i<l.length:=by have:=dT g1; omega
  refine⟨⟨rfl,by omega,by omega⟩,?_⟩
  apply bY <;> intro g2
  ·have g2:l.getD i default=p:=kQ ((eqPW (l.getD i default) p).symm.trans g2)
   exact r1B rfl (kD.2 (g2 ▸ gd1 g1 default)).symm
  have g2:l.getD i default≠p:=jaX ((eqPW (l.getD i default) p).symm.trans g2)
  refine⟨i6,?_⟩
  refine⟨i+1,⟨rfl,⟨obD [I p.X,I p.Y] rfl,trivial⟩,wq rfl⟩,⟨g1,fun j hj=>?_⟩,msr g1⟩
  by_cases e:j=i
  ·subst e; exact g2
  exact i2 j (by omega)
 have g1:i=l.length:=by have:=dF g1; omega
 subst g1
 refine r1B rfl (qF.2 fun hh=>?_).symm
 obtain⟨j,hj,e⟩:=zbL default (kD.1 hh)
 exact i2 j hj e.symm
def inpK (l:List Int) (n:Int):Nat:=(l.takeWhile fun x=>decide (x<n)).length
def ins2 (l:List Int) (n:Int):List Int:=l.take (inpK l n) ++ [n]++l.drop (inpK l n)
theorem zht (l:List Int) (n:Int):inpK l n<=l.length:=(List.takeWhile_sublist _).length_le
theorem zli : ∀ {l : List Int} {n : Int} {k : Nat}, k <= l.length -> (∀ j, j < k -> l.getD j 0 < n) -> (k < l.length -> ¬ l.getD k 0 < n) -> inpK l n = k
  | [], n, k, h, _, _ => by have : k = 0 := by simpa using h
                            subst this; rfl
  | x :: r, n, 0, _, _, h2 => by
    have : ¬ x < n := h2 (by simp)
    unfold inpK
    rw [List.takeWhile_cons_of_neg (by simpa using this)]; rfl
  | x :: r, n, k + 1, h, h1, h2 => by
    have : x < n := h1 0 (by omega)
    have := zli (l := r) (n := n) (k := k) (by simpa using h) (fun j hj => h1 (j + 1) (by omega)) (fun hk => h2 (by simpa using hk))
    unfold inpK at this ⊢
    rw [List.takeWhile_cons_of_pos (by simpa using ‹x < n›), jaH, this]
theorem znv (l:List Int) (n:Int) (m:Nat):(ins2 l n).getD m 0=if m<inpK l n then l.getD m 0 else if m=inpK l n then n else l.getD (m - 1) 0:=by
 have hl:=zht l n
 unfold ins2
 rw[List.append_assoc,hU]
 by_cases h1:m<inpK l n
 ·rw[kH h1,jJ (by rw[jQ]; omega),jS,kH h1,<- hU]
 rw[kG h1,jK (by rw[jQ]; omega),jQ,show min (inpK l n) l.length=inpK l n by omega]
 by_cases h2:m=inpK l n
 ·rw[kH h2,h2,kE]; rfl
 rw[kG h2]
 obtain⟨d,hd⟩:∃ d,m - inpK l n=d+1:=⟨m - inpK l n - 1,by omega⟩
 rw[hd,List.singleton_append,jah,wK,show inpK l n+d=m - 1 by omega,<- hU]
theorem ziH (l:List Int) (n:Int):(ins2 l n).length=l.length+1:=by
 have:=zht l n
 unfold ins2
 simp
 omega
theorem zp3 {l:List Int} {x:Int} {K:Nat} (hi:K<=l.length) (hat:inpK l x=K) {n n':Nat} {F f:Nat->Nat->D} (hn:n=K) (hn':n'=K) (hF:∀ a,a<K -> ∀ j,j<1->F a j=I (l.getD a 0)) (h:f 0 0=I x) :
  D.eqv (.slc 1 (n+1+(l.length - n')) (appRow (n+1) (appRow n F f) fun a _=>I (l.getD (n'+a) 0))) (lI (ins2 l x)):=by
 subst hn
 subst hn'
 refine⟨by rw[ziH]; omega,.inr ⟨rfl,fun m hm j hj=>?_⟩⟩
 show D.eqv (appRow (n'+1) (appRow n' F f) (fun a _=>I (l.getD (n'+a) 0)) m j) (I ((ins2 l x).getD m 0))
 rw[znv,hat]
 unfold appRow
 obtain rfl:j=0:=by omega
 by_cases h1:m<n'
 ·rw[kH (by omega),kH h1,kH h1,hF m h1 0 hj]; exact dE _
 by_cases h2:m=n'
 ·rw[kH (by omega),kG h1,kG h1,kH h2,h2,kE,h]; exact dE _
 rw[kG (by omega),kG h1,kG h2]
 show D.eqv (I (l.getD (n'+(m - (n'+1))) 0)) _
 rw[show n'+(m - (n'+1))=m - 1 by omega]; exact dE _
theorem zml (l:List Int) (n:Int) (hn:l.length<=1000000):Spec PP 31 [.d (lI l),N n] [.d (lI (ins2 l n))]:=by
 refine za3 [4] Tryz.func31 rfl (by kernel_rfl) rfl ?_
 refine lOf (σ:=Nat) (fun k=>([(0,.d (lI l)),(1,.d (I n)),(5,.d (I k))],[])) (fun k=>k<=l.length /\ ∀ j,j<k->l.getD j 0<n) (fun k=>l.length - k) 0
  ⟨rfl,trivial,wq rfl⟩ z0L fun k hk=>?_
 obtain⟨k1,k2⟩:=hk
 have out:(k<l.length -> ¬ l.getD k 0<n)->inpK l n=k:=zli k1 k2
 apply two_
 ·intro key
  apply bY <;> intro g1
  ·have g1:k<l.length:=by have:=dT g1; omega
   repeat first | apply sT | apply sF
   refine⟨⟨rfl,by omega,by omega⟩,?_⟩
   repeat first | apply sT | apply sF
   apply bY <;> intro g2
   ·have g2:l.getD k 0<n:=dT g2
    repeat first | apply sT | apply sF
    refine⟨i6,?_⟩
    refine⟨k+1,⟨rfl,trivial,wq rfl⟩,⟨g1,fun j hj=>?_⟩,msr g1⟩
    by_cases e:j=k
    ·subst e; exact g2
    exact k2 j (by omega)
   have g2:¬ l.getD k 0<n:=dF g2
   repeat first | apply sT | apply sF
   exact kAt [(0,.d (lI l)),(1,.d (I n)),(5,.d (I (inpK l n)))] [] ⟨rfl,trivial,avQ rfl,avQ rfl,avI rfl (by rw[out fun _=>g2]),trivial⟩ key.out
  have g1:¬ k<l.length:=by have:=dF g1; omega
  repeat first | apply sT | apply sF
  exact kAt [(0,.d (lI l)),(1,.d (I n)),(5,.d (I (inpK l n)))] [] ⟨rfl,trivial,avQ rfl,avQ rfl,avI rfl (by rw[out fun h=>absurd h g1]),trivial⟩ key.out
 have hK:=zht l n
 generalize hk:inpK l n=K at *
 refine oL [1,2,3,1005,1006,1008,1009,1010,0,4,7,11,12] (fNo ?_)
 refine⟨⟨.inr rfl,by omega,by omega⟩,?_⟩
 refine⟨rfl,⟨rfl,?_⟩⟩
 refine⟨rfl,⟨rfl,?_⟩⟩
 refine⟨rfl,⟨rfl,?_⟩⟩
 refine⟨rfl,⟨rfl,?_⟩⟩
 refine⟨rfl,⟨⟨.inr rfl,by omega,by omega⟩,⟨rfl,?_⟩⟩⟩
 refine⟨⟨.inr rfl,by simp only[maxLen]; omega,by dsimp only; omega⟩,?_⟩
 refine⟨⟨.inr rfl,by simp only[maxLen]; omega,by dsimp only; omega⟩,?_⟩
 refine⟨⟨.inr rfl,by simp only[maxLen]; omega,by dsimp only; omega⟩,?_⟩
 refine⟨⟨_,_,_,_,rfl,?_⟩,trivial⟩
 exact zp3 hK hk (qH K) rfl (fun a _ j _=>rfl) rfl
structure Fir where
  At:Place
  From:Int
  To:Int
  deriving Inhabited
def Fir.at (x:Fir):Nat->D
 | 0=>I x.At.X
 | 1=>I x.At.Y
 | 2=>I x.From
 | _=>I x.To
abbrev Fir.ds (x:Fir):List D:=[I x.At.X,I x.At.Y,I x.From,I x.To]
abbrev lFi (l:List Fir):D:=.slc 4 l.length fun i=>(l.getD i default).at
def blz1 (s:Svc) (long:Int) (f:Fir):Bool:=onM s.c.M f.At && (decide (0<=f.From) && (decide (f.From<=f.To) && (decide (f.To<=1048576) && decide (f.To - f.From<=long))))
def blzB (s:Svc) (fs:List Fir) (long:Int):Bool:=fs.all (blz1 s long) && (decide (0<fs.length) && decide (fs.length<=4))
theorem zjO (s:Svc) (fs:List Fir) (long:Int) (hv:validM s.c.M=true) (hn:fs.length<=maxLen):Spec PP 7 [s.v,.d (lFi fs),N long] [B (blzB s fs long)]:=by
 unfold maxLen at hn
 refine sA Tryz.func7 ?_
 refine lOf (σ:=Nat) (fun i=>([(1,.d (lFi fs)),(2,.d (I long)),(3,.box 3 0),(9,.d (lFi fs)),(10,.d (I fs.length)),(11,.d (I i))],[(3,.box (s.ds.map AV.d))])) (fun i=>i<=fs.length /\ ∀ j,j<i->blz1 s long (fs.getD j default)=true) (fun i=>fs.length - i) 0
  ⟨rfl,⟨obD s.ds rfl,trivial⟩,wq rfl⟩ z0L fun i hi=>?_
 obtain⟨i1,i2⟩:=hi
 apply bY <;> intro g1
 ·have g1:i<fs.length:=by have:=dT g1; omega
  have bad:blz1 s long (fs.getD i default)=false->blzB s fs long=false:=fun h=>by
   unfold blzB
   rw[show fs.all (blz1 s long)=false from List.all_eq_false.2 ⟨_,gd1 g1 default,by rw[h]; decide⟩]; rfl
  refine⟨⟨rfl,by omega,by omega⟩,?_⟩
  refine cP (g_On s.c.M (fs.getD i default).At hv) rfl rfl ?_
  apply bY <;> intro g2
  ·have g2:onM s.c.M (fs.getD i default).At=false:=by simpa using g2
   repeat first | apply sT | apply sF
   exact r1B rfl (bad (by unfold blz1; rw[g2]; rfl)).symm
  have g2:onM s.c.M (fs.getD i default).At=true:=by simpa using g2
  repeat first | apply sT | apply sF
  apply bY <;> intro g3
  ·have g3:(fs.getD i default).From<0:=dT g3
   repeat first | apply sT | apply sF
   exact r1B rfl (bad (by unfold blz1; rw[jH (by omega)]; simp)).symm
  have g3:¬ (fs.getD i default).From<0:=dF g3
  repeat first | apply sT | apply sF
  apply bY <;> intro g4
  ·have g4:(fs.getD i default).To<(fs.getD i default).From:=dT g4
   repeat first | apply sT | apply sF
   exact r1B rfl (bad (by unfold blz1; rw[jH (p:=(fs.getD i default).From<=(fs.getD i default).To) (by omega)]; simp)).symm
  have g4:¬ (fs.getD i default).To<(fs.getD i default).From:=dF g4
  repeat first | apply sT | apply sF
  apply bY <;> intro g5
  ·have g5:1048576<(fs.getD i default).To:=dT g5
   repeat first | apply sT | apply sF
   exact r1B rfl (bad (by unfold blz1; rw[jH (p:=(fs.getD i default).To<=1048576) (by omega)]; simp)).symm
  have g5:¬ 1048576<(fs.getD i default).To:=dF g5
  repeat first | apply sT | apply sF
  refine⟨(show inR .i64 ((fs.getD i default).To - (fs.getD i default).From) from i6),?_⟩
  repeat first | apply sT | apply sF
  apply bY <;> intro g6
  ·have g6:long<(fs.getD i default).To - (fs.getD i default).From:=dT g6
   repeat first | apply sT | apply sF
   exact r1B rfl (bad (by unfold blz1; rw[jH (p:=(fs.getD i default).To - (fs.getD i default).From<=long) (by omega)]; simp)).symm
  have g6:¬ long<(fs.getD i default).To - (fs.getD i default).From:=dF g6
  refine⟨i6,?_⟩
  refine⟨i+1,⟨rfl,⟨obD s.ds rfl,trivial⟩,wq rfl⟩,⟨g1,fun j hj=>?_⟩,msr g1⟩
  by_cases e:j=i
  ·subst e
   unfold blz1
   rw[g2,jG (by omega),jG (by omega),jG (by omega),jG (by omega)]; rfl
  exact i2 j (by omega)
 have g1:i=fs.length:=by have:=dF g1; omega
 subst g1
 have ea:fs.all (blz1 s long)=true:=jC.2 fun f hf=>by
  obtain⟨j,hj,rfl⟩:=zbL default hf
  exact i2 j hj
 unfold blzB
 rw[ea,kN]
 apply bY <;> intro g2
 rotate_left
 ·have g2:¬ (0:Int)<fs.length:=dF g2
  repeat first | apply sT | apply sF
  exact r1B rfl (by rw[jH (by omega)]; rfl)
 have g2:(0:Int)<fs.length:=dT g2
 repeat first | apply sT | apply sF
 exact r1B rfl (by rw[jG (show 0<fs.length by omega),kN]; exact wF.2 (by omega))
abbrev keyZ (ks:List Int):List (List Int):=ks.map fun x=>[x]
abbrev wmD (w:Int->Int) (ks:List Int):D:=.mp 1 (keyZ ks) fun j=>I (w (ks.getD j 0))
abbrev wmO (w:Int->Int) (ks:List Int):Ob:=.mp 1 (keyZ ks) fun j=>I (w (ks.getD j 0))
theorem idxZ:∀ (ks:List Int) (k:Int),(keyZ ks).idxOf [k]=ks.idxOf k
 | [],_=>rfl
 | a :: r,k=>by
  show List.idxOf _ ([a] :: keyZ r)=_
  rw[List.idxOf_cons,List.idxOf_cons,idxZ r k]
  by_cases h:a=k
  ·subst h; simp
  have h1:([a] == [k])=false:=by simp only[jax,ne_eq,jan,and_true]; exact h
  have h2:(a==k)=false:=by simpa using h
  rw[h1,h2]
theorem put_w {w:Int->Int} {ks:List Int} {x v:Int} (h:x∉ks) (hv:v=w x):D.eqv (.mp 1 (putK (keyZ ks) [x]) (putF (keyZ ks) (fun j=>I (w (ks.getD j 0))) [x] (I v))) (wmD w (ks ++ [x])):=by
 subst hv
 have hi:(keyZ ks).idxOf [x]=ks.length:=by rw[idxZ]; exact List.idxOf_eq_length h
 have hn:¬ (keyZ ks).idxOf [x]<(keyZ ks).length:=by rw[hi,kU]; exact Nat.lt_irrefl _
 refine⟨rfl,?_,fun j hj=>?_⟩
 ·unfold putK
  rw[kG hn]
  show keyZ ks++_=keyZ (ks ++ [x])
  rw[keyZ,keyZ,jT]; rfl
 unfold putF
 rw[hi]
 by_cases e:j=ks.length
 ·subst e
  rw[kH rfl]
  show D.eqv _ (I (w ((ks ++ [x]).getD ks.length 0)))
  rw[hU,jK (jE _),kE]
  exact dE _
 have hj:j<ks.length:=by
  unfold putK at hj
  rw[kG hn,jR,kU] at hj
  simp at hj
  omega
 rw[kG e]
 show D.eqv _ (I (w ((ks ++ [x]).getD j 0)))
 rw[hU (l:=ks ++ [x]),jJ hj,<- hU]
 exact dE _
theorem lk_w (w:Int->Int) {ks:List Int} {x:Int} (h:x∈ks):lkD (keyZ ks) (fun j=>I (w (ks.getD j 0))) [x] (I 0)=I (w x):=by
 unfold lkD
 rw[idxZ,kU]
 have hl:=jaR.2 h
 rw[kH hl]
 have:ks.getD (ks.idxOf x) 0=x:=by
  rw[hU,kF hl]
  exact List.getElem_idxOf hl
 show I (w (ks.getD (ks.idxOf x) 0))=_
 rw[this]
def plcS (p:List (List Int)) (l:List Int):Nat:=(p.takeWhile fun s=>decide (s.getD 0 0<l.getD 0 0)).length
def putS (p:List (List Int)) (l:List Int):List (List Int):=p.take (plcS p l) ++ [l]++p.drop (plcS p l)
def prt1 (p:List (List Int)) (l:List Int):List (List Int):=if l.length=0 then p else putS p l
def prtO (of:List (List Int)):List (List Int):=of.foldl prt1 []
def whoO (of:List (List Int)) (x:Int):Int:=idxL (fun s=>s.contains x) of
theorem zdR {of:List (List Int)} {i:Nat} (h:i<of.length):prtO (of.take (i+1))=prt1 (prtO (of.take i)) (of.getD i []):=by
 unfold prtO
 rw[zay h [],jai]; rfl
theorem zig (p:List (List Int)) (l:List Int):(putS p l).length=p.length+1:=by
 have:plcS p l<=p.length:=(List.takeWhile_sublist _).length_le
 unfold putS
 simp
 omega
theorem zik (of:List (List Int)):(prtO of).length<=of.length:=by
 have:∀ (l:List (List Int)) (p:List (List Int)),(l.foldl prt1 p).length<=p.length+l.length:=by
  intro l
  induction l with
  | nil=>intro p; simp
  | cons a r ih=>
  intro p
  rw[jaS,jaH]
  have h1:=ih (prt1 p a)
  have h2:(prt1 p a).length<=p.length+1:=by
   unfold prt1
   split
   ·omega
   rw[zig]; omega
  omega
 have:=this of []
 unfold prtO
 simpa using this
theorem zku : ∀ {p : List (List Int)} {l : List Int} {k : Nat}, k <= p.length -> (∀ j, j < k -> (p.getD j []).getD 0 0 < l.getD 0 0) -> (k < p.length -> ¬ (p.getD k []).getD 0 0 < l.getD 0 0) -> plcS p l = k
  | [], l, k, h, _, _ => by have : k = 0 := by simpa using h
                            subst this; rfl
  | x :: r, l, 0, _, _, h2 => by
    have : ¬ x.getD 0 0 < l.getD 0 0 := h2 (by simp)
    unfold plcS
    rw [List.takeWhile_cons_of_neg (by simpa using this)]; rfl
  | x :: r, l, k + 1, h, h1, h2 => by
    have hx : x.getD 0 0 < l.getD 0 0 := h1 0 (by omega)
    have := zku (p := r) (l := l) (k := k) (by simpa using h) (fun j hj => h1 (j + 1) (by omega)) (fun hk => h2 (by simpa using hk))
    unfold plcS at this ⊢
    rw [List.takeWhile_cons_of_pos (by simpa using hx), jaH, this]
theorem zmX (p:List (List Int)) (l:List Int) (m:Nat):(putS p l).getD m []=if m<plcS p l then p.getD m [] else if m=plcS p l then l else p.getD (m - 1) []:=by
 have hl:plcS p l<=p.length:=(List.takeWhile_sublist _).length_le
 unfold putS
 rw[List.append_assoc,hU]
 by_cases h1:m<plcS p l
 ·rw[kH h1,jJ (by rw[jQ]; omega),jS,kH h1,<- hU]
 rw[kG h1,jK (by rw[jQ]; omega),jQ,show min (plcS p l) p.length=plcS p l by omega]
 by_cases h2:m=plcS p l
 ·rw[kH h2,h2,kE]; rfl
 rw[kG h2]
 obtain⟨d,hd⟩:∃ d,m - plcS p l=d+1:=⟨m - plcS p l - 1,by omega⟩
 rw[hd,List.singleton_append,jah,wK,show plcS p l+d=m - 1 by omega,<- hU]
theorem zmW {p:List (List Int)} {l:List Int} {K:Nat} (hi:K<=p.length) (hat:plcS p l=K) {n n':Nat} {F f:Nat->Nat->D} (hn:n=K) (hn':n'=K) (hF:∀ a,a<K -> ∀ j,j<1->F a j=lI (p.getD a [])) (h:f 0 0=lI l) :
  D.eqv (.slc 1 (n+1+(p.length - n')) (appRow (n+1) (appRow n F f) fun a _=>lI (p.getD (n'+a) []))) (lII (putS p l)):=by
 subst hn
 subst hn'
 refine⟨by rw[zig]; omega,.inr ⟨rfl,fun m hm j hj=>?_⟩⟩
 show D.eqv (appRow (n'+1) (appRow n' F f) (fun a _=>lI (p.getD (n'+a) [])) m j) (lI ((putS p l).getD m []))
 rw[zmX,hat]
 unfold appRow
 obtain rfl:j=0:=by omega
 by_cases h1:m<n'
 ·rw[kH (by omega),kH h1,kH h1,hF m h1 0 hj]; exact dE _
 by_cases h2:m=n'
 ·rw[kH (by omega),kG h1,kG h1,kH h2,h2,kE,h]; exact dE _
 rw[kG (by omega),kG h1,kG h2]
 show D.eqv (lI (p.getD (n'+(m - (n'+1))) [])) _
 rw[show n'+(m - (n'+1))=m - 1 by omega]; exact dE _
theorem zij:∀ {of:List (List Int)} {i:Nat},i<=of.length -> ∀ s∈prtO (of.take i),0<s.length
 | of,0,_,s,h=>by simp[prtO] at h
 | of,i+1,hi,s,h=>by
  rw[zdR (by omega)] at h
  have ih:=zij (of:=of) (i:=i) (by omega)
  unfold prt1 at h
  split at h
  ·exact ih s h
  rename_i h0
  unfold putS at h
  rcases kR.1 h with h | h
  ·rcases kR.1 h with h | h
   ·exact ih s (jav h)
   rw[kM.1 h]; omega
  exact ih s (ja4 h)
theorem zcl {of:List (List Int)} (hd:of.flatten.Nodup) {i:Nat} (hi:i<of.length) {x:Int} (hx:x∈of.getD i []):whoO of x=i:=by
 unfold whoO
 refine zaj [] hi (kD.2 hx) fun j hj=>?_
 refine qF.2 fun hc=>?_
 have hc:=kD.1 hc
 rw[hU,kF hi] at hx
 rw[hU,kF (by omega)] at hc
 have:=kV.1 (List.pairwise_flatten.1 hd).2 j i (by omega) hi hj
 exact this x hc x hx rfl
theorem zmm (of:List (List Int)) (hd:of.flatten.Nodup) (hn:of.length<=1000000) (hs:∀ s∈of,s.length<=1000000):Spec PP 11 [.d (lII of)] [.d (lII (prtO of)),.d (wmD (whoO of) of.flatten)]:=by
 refine za3 [15] Tryz.func11 rfl (by kernel_rfl) rfl ?_
 refine lOf (σ:=Nat) (fun i=>([(4,.d (lII (prtO (of.take i)))),(5,.own 11),(12,.d (lII of)),(13,.d (I of.length)),(14,.d (I i))],[(11,wmO (whoO of) (of.take i).flatten)])) (fun i=>i<=of.length) (fun i=>of.length - i) 0
  ⟨rfl,⟨obMp rfl ⟨rfl,rfl,fun j hj=>absurd hj (qQ _)⟩,trivial⟩,avOw rfl rfl rfl ⟨rfl,.inl rfl⟩,avQ rfl,avQ rfl,avQ rfl,avQ rfl,trivial⟩ (jF _) fun i hi=>?_
 have hi:i<=of.length:=hi
 apply bY <;> intro g1
 ·have g1:i<of.length:=by have:=dT g1; omega
  have hsi:=hs _ (gd1 g1 [])
  have hpl:=zik (of.take i)
  rw[jQ] at hpl
  refine⟨⟨rfl,by omega,by omega⟩,?_⟩
  apply bY <;> intro g2
  ·have g2:(of.getD i []).length=0:=by
    have:((of.getD i []).length:Int)=0:=by simpa using g2
    omega
   refine⟨i6,?_⟩
   refine⟨i+1,⟨rfl,⟨obMp rfl ?_,trivial⟩,?_,avQ rfl,avQ rfl,avQ rfl,avQ rfl,trivial⟩,g1,msr g1⟩
   ·rw[zay g1 [],List.flatten_append,jag.1 g2]
    simp only[List.flatten_cons,List.flatten_nil,jaT]
    exact dE _
   show D.eqv _ (lII (prtO (of.take (i+1))))
   rw[zdR g1]; unfold prt1; rw[kH g2]; exact dE _
  have g2:(of.getD i []).length≠0:=by
   have:¬ ((of.getD i []).length:Int)=0:=by simpa using g2
   omega
  have hP:=zij (of:=of) (i:=i) hi
  have hnd:((of.take i).flatten++of.getD i []).Nodup:=by
   have e:(of.take (i+1)).flatten=(of.take i).flatten++of.getD i []:=by
    rw[zay g1 [],List.flatten_append]; simp
   rw[<- e]
   have e2:of.flatten=(of.take (i+1)).flatten++(of.drop (i+1)).flatten:=by rw[<- List.flatten_append,List.take_append_drop]
   rw[e2] at hd
   exact (jaz.1 hd).1
  refine lOf (σ:=Nat) (fun k=>([(4,.d (lII (prtO (of.take i)))),(5,.own 11),(6,.d (I i)),(7,.d (lI (of.getD i []))),(12,.d (lII of)),(13,.d (I of.length)),(14,.d (I i)),(22,.d (lI (of.getD i []))),(23,.d (I (of.getD i []).length)),(24,.d (I k))],[(11,wmO (whoO of) ((of.take i).flatten++(of.getD i []).take k))])) (fun k=>k<=(of.getD i []).length) (fun k=>(of.getD i []).length - k) 0
   ⟨rfl,⟨obMp rfl (by rw[List.take_zero,jaT]; exact dE _),trivial⟩,wq rfl⟩ (jF _) fun k hk=>?_
  have hk:k<=(of.getD i []).length:=hk
  apply bY <;> intro g3
  ·have g3:k<(of.getD i []).length:=by have:=dT g3; omega
   refine⟨⟨rfl,by omega,by omega⟩,?_⟩
   refine⟨⟨kInt,rfl⟩,?_⟩
   refine⟨i6,?_⟩
   refine⟨k+1,⟨rfl,⟨obMp rfl ?_,trivial⟩,wq rfl⟩,g3,msr g3⟩
   rw[zay g3 0,<- List.append_assoc]
   refine put_w (fun hm=>?_) (zcl hd g1 (gd1 g3 0)).symm
   have:=jaz.1 hnd
   have hx:(of.getD i []).getD k 0∈of.getD i []:=gd1 g3 0
   rcases kR.1 hm with hm | hm
   ·exact this.2.2 _ hm _ hx rfl
   obtain⟨j,hj,e⟩:=kP hm
   rw[jQ] at hj
   rw[jbt] at e
   have e2:(of.getD i []).getD k 0=(of.getD i [])[k]:=by rw[hU,kF g3]; rfl
   have e:_=(of.getD i []).getD k 0:=e
   rw[e2] at e
   exact kV.1 this.2.1 j k (by omega) g3 (by omega) e
  have g3:k=(of.getD i []).length:=by have:=dF g3; omega
  subst g3
  rw[jZ]
  refine lOf (σ:=Nat) (fun k=>([(4,.d (lII (prtO (of.take i)))),(5,.own 11),(7,.d (lI (of.getD i []))),(10,.d (I k)),(12,.d (lII of)),(13,.d (I of.length)),(14,.d (I i))],[(11,wmO (whoO of) ((of.take i).flatten++of.getD i []))])) (fun k=>k<=(prtO (of.take i)).length /\ ∀ j,j<k->((prtO (of.take i)).getD j []).getD 0 0<(of.getD i []).getD 0 0) (fun k=>(prtO (of.take i)).length - k) 0
   ⟨rfl,⟨obMp rfl (dE _),trivial⟩,wq rfl⟩ z0L fun k hk=>?_
  obtain⟨q1,q2⟩:=hk
  have out:(k<(prtO (of.take i)).length -> ¬ ((prtO (of.take i)).getD k []).getD 0 0<(of.getD i []).getD 0 0)->plcS (prtO (of.take i)) (of.getD i [])=k:=zku q1 q2
  apply two_
  ·intro key
   refine oN 16 ?_
   apply bY <;> intro g4
   ·have g4:k<(prtO (of.take i)).length:=by have:=dT g4; omega
    have hp0:=hP _ (gd1 g4 [])
    repeat first | apply sT | apply sF
    refine⟨⟨rfl,by omega,by omega⟩,?_⟩
    refine⟨⟨rfl,by decide,(show (0:Int)<(((prtO (of.take i)).getD k []).length:Int) by omega)⟩,?_⟩
    refine⟨⟨rfl,by decide,(show (0:Int)<((of.getD i []).length:Int) by omega)⟩,?_⟩
    repeat first | apply sT | apply sF
    apply bY <;> intro g5
    ·have g5:((prtO (of.take i)).getD k []).getD 0 0<(of.getD i []).getD 0 0:=dT g5
     repeat first | apply sT | apply sF
     refine⟨i6,?_⟩
     refine⟨k+1,⟨rfl,⟨obMp rfl (dE _),trivial⟩,wq rfl⟩,⟨g4,fun j hj=>?_⟩,msr g4⟩
     by_cases e:j=k
     ·subst e; exact g5
     exact q2 j (by omega)
    have g5:¬ ((prtO (of.take i)).getD k []).getD 0 0<(of.getD i []).getD 0 0:=dF g5
    repeat first | apply sT | apply sF
    exact kAt [(4,.d (lII (prtO (of.take i)))),(5,.own 11),(7,.d (lI (of.getD i []))),(10,.d (I (plcS (prtO (of.take i)) (of.getD i [])))),(12,.d (lII of)),(13,.d (I of.length)),(14,.d (I i))] [(11,wmO (whoO of) ((of.take i).flatten++of.getD i []))] ⟨rfl,⟨obMp rfl (dE _),trivial⟩,avQ rfl,avQ rfl,avQ rfl,avI rfl (by rw[out fun _=>g5]),avQ rfl,avQ rfl,avQ rfl,trivial⟩ key.out
   have g4:¬ k<(prtO (of.take i)).length:=by have:=dF g4; omega
   repeat first | apply sT | apply sF
   exact kAt [(4,.d (lII (prtO (of.take i)))),(5,.own 11),(7,.d (lI (of.getD i []))),(10,.d (I (plcS (prtO (of.take i)) (of.getD i [])))),(12,.d (lII of)),(13,.d (I of.length)),(14,.d (I i))] [(11,wmO (whoO of) ((of.take i).flatten++of.getD i []))] ⟨rfl,⟨obMp rfl (dE _),trivial⟩,avQ rfl,avQ rfl,avQ rfl,avI rfl (by rw[out fun h=>absurd h g4]),avQ rfl,avQ rfl,avQ rfl,trivial⟩ key.out
  have hK:plcS (prtO (of.take i)) (of.getD i [])<=(prtO (of.take i)).length:=(List.takeWhile_sublist _).length_le
  have e1:prtO (of.take (i+1))=putS (prtO (of.take i)) (of.getD i []):=by rw[zdR g1]; unfold prt1; rw[kG g2]
  have e3:(of.take (i+1)).flatten=(of.take i).flatten++of.getD i []:=by
   rw[zay g1 [],List.flatten_append]; simp
  refine oL [1,2,3,1005,1006,1008,1009,1010,0,4,7,11,12] (fNo ?_)
  refine⟨⟨.inr rfl,by omega,by omega⟩,?_⟩
  refine⟨rfl,⟨rfl,?_⟩⟩
  refine⟨rfl,⟨rfl,?_⟩⟩
  refine⟨rfl,⟨rfl,?_⟩⟩
  refine⟨rfl,⟨rfl,?_⟩⟩
  refine⟨rfl,⟨⟨.inr rfl,by omega,by omega⟩,⟨rfl,?_⟩⟩⟩
  refine⟨⟨.inr rfl,by simp only[maxLen]; omega,by dsimp only; omega⟩,?_⟩
  refine⟨⟨.inr rfl,by simp only[maxLen]; omega,by dsimp only; omega⟩,?_⟩
  refine⟨⟨.inr rfl,by simp only[maxLen]; omega,by dsimp only; omega⟩,?_⟩
  refine⟨i6,?_⟩
  refine⟨i+1,⟨rfl,⟨obMp rfl (by rw[e3]; exact dE _),trivial⟩,avOw rfl rfl rfl ?_,avQ rfl,avQ rfl,avQ rfl,avQ rfl,trivial⟩,g1,msr g1⟩
  rw[e1]
  exact zmW hK rfl (qH _) rfl (fun a _ j _=>rfl) rfl
 have g1:i=of.length:=by have:=dF g1; omega
 subst g1
 rw[jZ]
 exact⟨dE _,⟨_,_,_,rfl,dE _⟩,trivial⟩
def honB (s:Svc) (b:Brn) (zs:List Zs) (p:Place) (r:Rpt):Bool:=(zatR zs r.C r.Tick).2 && tolB s b p (zatR zs r.C r.Tick).1 r
theorem zhV (s:Svc) (b:Brn) (zs:List Zs) (p:Place) (r:Rpt) (hc:crpE s r=0) (hz:∀ z∈zs,0<=z.T/\z.T<=1048576) (hn:zs.length<=1000000):Spec PP 30 [s.v,b.v,.d (lZs zs),p.v,r.v] [B (honB s b zs p r)]:=by
 obtain⟨c1,c2,c3⟩:=zlB hc
 have ok:=zbI c1
 have okt:=ok.c.t
 obtain⟨f1,f2,f3,f4⟩:=zcq c2
 have ff:=znD f1
 have fT:¬ towI s.c.T r.Tower<0:=fun h=>f2 (.inl (by unfold towG; rw[kH h]))
 have tl:=zfe fT
 have tu:=fun {i:Nat} (hi:i<s.c.T.length)=>zms (s:=s) ok.c (id:=r.Tower) hi fT
 have tk:0<=r.Tick/\r.Tick<=1048576:=by
  unfold zerR at f4
  split at f4
  ·rename_i h; exact absurd f4 h
  rename_i h
  obtain⟨k1,k2,k3,-,-⟩:=zho (zn7 (jL h))
  have:=((zbS k1).cs _ (zbk k2).1).t
  have:=zaa.1 k3
  omega
 have cZ:=zmk zs r.C r.Tick hz tk hn
 obtain⟨Z,hZ⟩:∃ Z,Z=(zatR zs r.C r.Tick).1:=⟨_,rfl⟩
 obtain⟨k,hk⟩:∃ k,k=(zatR zs r.C r.Tick).2:=⟨_,rfl⟩
 rw[<- hZ,<- hk] at cZ
 have eH:honB s b zs p r=(k && tolB s b p Z r):=by unfold honB; rw[hZ,hk]
 rw[eH]
 have sb:=zqV (towG s.c.T r.Tower).1.At p Z r.Slack
 have cS:=zqu (towG s.c.T r.Tower).1.At p Z r.Slack
 have eT:tolB s b p Z r=if r.Kind=1 then lookB s b r p && shwB (towG s.c.T r.Tower).1.At p Z r.Slack && decide ((r.From - (shwS (towG s.c.T r.Tower).1.At p Z r.Slack).Lo) % 3600<=(shwS (towG s.c.T r.Tower).1.At p Z r.Slack).Hi - (shwS (towG s.c.T r.Tower).1.At p Z r.Slack).Lo)
  else !lookB s b r p || !shwB (towG s.c.T r.Tower).1.At p Z r.Slack || decide ((r.To - r.From) % 3600<((shwS (towG s.c.T r.Tower).1.At p Z r.Slack).Lo - r.From) % 3600+(shwS (towG s.c.T r.Tower).1.At p Z r.Slack).Hi - (shwS (towG s.c.T r.Tower).1.At p Z r.Slack).Lo):=rfl
 generalize hA:(towG s.c.T r.Tower).1.At=A at *
 generalize tolB s b p Z r=tb at *
 generalize hH:shwB A p Z r.Slack=hs at *
 generalize shwS A p Z r.Slack=sp at *
 refine za3 [10] Tryz.func30 rfl (by kernel_rfl) rfl ?_
 refine lOf (σ:=Nat) (fun i=>([(2,.d (lZs zs)),(5,.box 5 0),(6,.box 6 0),(8,.box 8 0),(9,.box 9 0),(11,.box 11 0),(22,.d (lT s.c.T)),(23,.d (I s.c.T.length)),(24,.d (I i))],[(5,.box (s.ds.map AV.d)),(6,.box (b.ds.map AV.d)),(8,.box ([I p.X,I p.Y].map AV.d)),(9,.box (r.ds.map AV.d)),(11,.box ([I (atK s r i).X,I (atK s r i).Y].map AV.d))])) (fun i=>i<=s.c.T.length) (fun i=>s.c.T.length - i) 0
  ⟨rfl,⟨obD s.ds rfl,obD b.ds rfl,obD [I p.X,I p.Y] rfl,obD r.ds rfl,obX (by unfold atK; rw[kG (by omega)]; rfl),trivial⟩,wq rfl⟩ (jF _) fun i hi=>?_
 apply bY <;> intro g1
 ·have g1:i<s.c.T.length:=by have:=dT g1; omega
  refine⟨⟨rfl,by omega,by omega⟩,?_⟩
  apply bY <;> intro g2
  ·have g2:(s.c.T.getD i default).ID=r.Tower:=by simpa using g2
   have e:=(tu g1).1 g2
   have ea:atK s r (i+1)=(s.c.T.getD i default).At:=by unfold atK; rw[kH (by omega),zmt fT,<- e]
   refine⟨i6,?_⟩
   exact⟨i+1,⟨rfl,⟨obD s.ds rfl,obD b.ds rfl,obD [I p.X,I p.Y] rfl,obD r.ds rfl,obX (by rw[ea]; rfl),trivial⟩,wq rfl⟩,g1,msr g1⟩
  have g2:(s.c.T.getD i default).ID≠r.Tower:=by simpa using g2
  have e:i≠(towI s.c.T r.Tower).toNat:=fun h=>g2 ((tu g1).2 h)
  have ea:atK s r (i+1)=atK s r i:=by
   unfold atK
   by_cases h:(towI s.c.T r.Tower).toNat<i
   ·rw[kH h,kH (by omega)]
   rw[kG h,kG (by omega)]
  refine⟨i6,?_⟩
  exact⟨i+1,⟨rfl,⟨obD s.ds rfl,obD b.ds rfl,obD [I p.X,I p.Y] rfl,obD r.ds rfl,obX (by rw[ea]; rfl),trivial⟩,wq rfl⟩,g1,msr g1⟩
 have g1:i=s.c.T.length:=by have:=dF g1; omega
 subst g1
 have ea:atK s r s.c.T.length=A:=by unfold atK; rw[kH (by omega),hA]
 rw[ea]
 have eL:lookB s b r p=(decide ((seesE s.c r.Tower p b.Rise r.Tick).2=0) && (seesE s.c r.Tower p b.Rise r.Tick).1 && within r.Tick b.From b.To):=rfl
 refine cP (zoL s.c r.Tower p b.Rise r.Tick) rfl rfl ?_
 apply two_
 ·intro key
  apply bY <;> intro l2
  ·have l2:(seesE s.c r.Tower p b.Rise r.Tick).1=true:=l2
   repeat first | apply sT | apply sF
   apply bY <;> intro l1
   ·have l1:(seesE s.c r.Tower p b.Rise r.Tick).2=0:=by simpa using l1
    repeat first | apply sT | apply sF
    apply bY <;> intro l3
    ·have l3:b.From<=r.Tick:=dT l3
     repeat first | apply sT | apply sF
     refine kAt [(2,.d (lZs zs)),(8,.box 8 0),(9,.box 9 0),(11,.box 11 0),(14,.d (.bool (lookB s b r p)))] [(8,.box ([I p.X,I p.Y].map AV.d)),(9,.box (r.ds.map AV.d)),(11,.box ([I A.X,I A.Y].map AV.d))] ⟨rfl,⟨obD [I p.X,I p.Y] rfl,obD r.ds rfl,obX rfl,trivial⟩,avQ rfl,avQ rfl,avQ rfl,avQ rfl,avBl rfl ?_,trivial⟩ key.out
     rw[eL,jG l1,l2]; unfold within; rw[jG l3]; rfl
    have l3:¬ b.From<=r.Tick:=dF l3
    repeat first | apply sT | apply sF
    refine kAt [(2,.d (lZs zs)),(8,.box 8 0),(9,.box 9 0),(11,.box 11 0),(14,.d (.bool (lookB s b r p)))] [(8,.box ([I p.X,I p.Y].map AV.d)),(9,.box (r.ds.map AV.d)),(11,.box ([I A.X,I A.Y].map AV.d))] ⟨rfl,⟨obD [I p.X,I p.Y] rfl,obD r.ds rfl,obX rfl,trivial⟩,avQ rfl,avQ rfl,avQ rfl,avQ rfl,avBl rfl ?_,trivial⟩ key.out
    rw[eL]; unfold within; rw[jH l3]; simp
   have l1:(seesE s.c r.Tower p b.Rise r.Tick).2≠0:=by simpa using l1
   repeat first | apply sT | apply sF
   refine kAt [(2,.d (lZs zs)),(8,.box 8 0),(9,.box 9 0),(11,.box 11 0),(14,.d (.bool (lookB s b r p)))] [(8,.box ([I p.X,I p.Y].map AV.d)),(9,.box (r.ds.map AV.d)),(11,.box ([I A.X,I A.Y].map AV.d))] ⟨rfl,⟨obD [I p.X,I p.Y] rfl,obD r.ds rfl,obX rfl,trivial⟩,avQ rfl,avQ rfl,avQ rfl,avQ rfl,avBl rfl ?_,trivial⟩ key.out
   rw[eL,jH l1]; rfl
  have l2:(seesE s.c r.Tower p b.Rise r.Tick).1=false:=l2
  repeat first | apply sT | apply sF
  refine kAt [(2,.d (lZs zs)),(8,.box 8 0),(9,.box 9 0),(11,.box 11 0),(14,.d (.bool (lookB s b r p)))] [(8,.box ([I p.X,I p.Y].map AV.d)),(9,.box (r.ds.map AV.d)),(11,.box ([I A.X,I A.Y].map AV.d))] ⟨rfl,⟨obD [I p.X,I p.Y] rfl,obD r.ds rfl,obX rfl,trivial⟩,avQ rfl,avQ rfl,avQ rfl,avQ rfl,avBl rfl ?_,trivial⟩ key.out
  rw[eL,l2]; simp
 generalize lookB s b r p=lk at *
 refine cP cZ rfl rfl ?_
 refine cP cS rfl rfl ?_
 apply bY <;> intro k1
 ·have k1:r.Kind=1:=by simpa using k1
  rw[kH k1] at eT
  rw[eT]
  refine oN 22 ?_
  cases k <;> cases lk <;> cases hs
  all_goals repeat first | apply sT | apply sF
  case true.true.true=>
   refine⟨i6,?_⟩
   refine oP (zfd (r.From - sp.Lo) (by omega)) rfl rfl ?_
   refine⟨i6,?_⟩
   repeat first | apply sT | apply sF
   exact r1B rfl rfl
  all_goals exact r1B rfl rfl
 have k1:r.Kind≠1:=by simpa using k1
 rw[kG k1] at eT
 rw[eT]
 obtain⟨fb1,fb2,fb3⟩:=zp9 f1 k1
 refine oN 31 ?_
 cases k <;> cases lk <;> cases hs
 all_goals repeat first | apply sT | apply sF
 case true.true.true=>
  refine⟨i6,?_⟩
  refine oP (zfd (sp.Lo - r.From) (by omega)) rfl rfl ?_
  refine⟨i6,⟨i6,⟨i6,?_⟩⟩⟩
  refine oP (zfd (r.To - r.From) (by omega)) rfl rfl ?_
  repeat first | apply sT | apply sF
  exact r1B rfl rfl
 all_goals exact r1B rfl rfl
abbrev lU8 (l:List Int):D:=.slc 1 l.length fun i _=>.int .u8 (l.getD i 0)
@[irreducible] def kOf (bs:List Int) (n i:Nat):Nat:=if i<bs.length then (bs.getD i 0).toNat % n else 0
def finB (s:Svc) (zs:List Zs) (rise:Int) (fs:List Fir) (r:Rpt) (k n:Nat):Bool:=(r.Kind==1 && decide (n≠k)) || honB s ⟨(fs.getD n default).From,(fs.getD n default).To,rise⟩ zs (fs.getD n default).At r
def accB (s:Svc) (zs:List Zs) (rise:Int) (fs:List Fir) (r:Rpt) (k:Nat):Bool:=(List.range fs.length).all (finB s zs rise fs r k)
def wit1 (s:Svc) (zs:List Zs) (rise:Int) (fs:List Fir) (l:List Rpt) (bs:List Int) (x:List Rpt × List (List Int)) (i:Nat):List Rpt × List (List Int):=
 if crpE s (l.getD i default)≠0 \/ (x.1.map Rpt.ID).contains (l.getD i default).ID=true then x
 else if accB s zs rise fs (l.getD i default) (kOf bs fs.length i)=false then x
 else (x.1 ++ [l.getD i default],if (l.getD i default).Kind=1 then x.2.set (kOf bs fs.length i) (ins2 (x.2.getD (kOf bs fs.length i) []) (l.getD i default).ID) else x.2)
def witK (s:Svc) (zs:List Zs) (rise:Int) (fs:List Fir) (l:List Rpt) (bs:List Int) (i:Nat):List Rpt × List (List Int):=(List.range i).foldl (wit1 s zs rise fs l bs) ([],List.replicate fs.length [])
theorem zf1 (s:Svc) (zs:List Zs) (rise:Int) (fs:List Fir) (l:List Rpt) (bs:List Int) (i:Nat):witK s zs rise fs l bs (i+1)=wit1 s zs rise fs l bs (witK s zs rise fs l bs i) i:=by
 unfold witK
 rw[wG,jai]; rfl
abbrev wtD (s:Svc) (rise long:Int) (R:List Rpt):Day:=⟨s,rise,long,R⟩
abbrev wtB (s:Svc) (rise long:Int):List D:=[I s.c.M.W,I s.c.M.H,lI s.c.M.G,lT s.c.T,lZ s.c.Z,lC s.k.C,lK s.k.K,I rise,I long]
theorem avNz {s:St} {ob:Nat->Option Ob} {v:AV} {j e k:Nat} {f:Nat->Nat->D} (h:v = .d .nil) (h1:s.ob j=none) (h2:ob j=some (.row e k 0 f)):AVle s ob v (.own j):=by subst h; exact⟨h1,e,k,f,h2⟩
theorem obY7 {s:St} {ob:Nat->Option Ob} {o:Option Ob} {cs cs':List AV} (g:o=some (.box cs)) (h:avles s ob cs cs'):Oble s ob o (.box cs'):=by subst g; exact h
theorem zgY (s:Svc) (zs:List Zs) (rise long:Int) (fs:List Fir) (l:List Rpt) (bs:List Int) (hs:svcE s=0) (hz:∀ z∈zs,0<=z.T/\z.T<=1048576) (hzn:zs.length<=1000000) (hf:0<fs.length/\fs.length<=4) (hl:l.length<=9) (hb:∀ b∈bs,0<=b/\b<=255) :
  Spec PP 9 [s.v,.d (lZs zs),N rise,N long,.d (lFi fs),.d (lR l),.d (lU8 bs)] [(wtD s rise long (witK s zs rise fs l bs l.length).1).v,.d (lII (witK s zs rise fs l bs l.length).2)]:=by
 refine za3 [11,24] Tryz.func9 rfl (by kernel_rfl) rfl ?_
 refine⟨⟨(show (0:Int)<=(fs.length:Int) by omega),rfl,by show fs.length * 1<=16777216; omega,by show fs.length * 24<=140737488355328; omega⟩,?_⟩
 refine lOf (σ:=Nat × List Rpt × List (List Int)) (fun x=>([(1,.d (lZs zs)),(2,.d (I rise)),(4,.d (lFi fs)),(6,.d (lU8 bs)),(7,.box 7 0),(14,.box 14 0),(16,.box 16 0),(17,.own 31),(18,.own 32),(33,.d (lR l)),(34,.d (I l.length)),(35,.d (I x.1))],[(7,.box (s.ds.map AV.d)),(14,.box (List.replicate 10 .any)),(16,.box ((wtB s rise long).map AV.d ++ [.own 102])),(102,.row 101 8 x.2.1.length (rowRp x.2.1)),(31,.row 22 1 x.2.2.length (rowII x.2.2)),(32,.mp 1 (keyZ (x.2.1.map Rpt.ID)) fun _=>.bool true)]))
  (fun x=>x.1<=l.length/\x.2=witK s zs rise fs l bs x.1/\x.2.1.length<=x.1/\x.2.2.length=fs.length /\ ∀ s∈x.2.2,s.length<=x.1) (fun x=>l.length - x.1) (0,[],List.replicate fs.length [])
  ⟨rfl,⟨obD s.ds rfl,zaM rfl rfl,?_,obZ rfl rfl,?_,?_,trivial⟩,wq rfl⟩ ⟨jF _,rfl,jE _,List.length_replicate,fun s hs=>by rw[List.eq_of_mem_replicate hs]; exact jE _⟩ fun x hx=>?_
 ·exact⟨dE _,dE _,dE _,dE _,dE _,dE _,dE _,dE _,dE _,avNz rfl rfl rfl,trivial⟩
 ·refine obR rfl ⟨by rw[List.length_replicate]; rfl,.inr ⟨rfl,fun i hi j hj=>?_⟩⟩
  show D.eqv _ (lI ((List.replicate fs.length []).getD i []))
  have:(List.replicate fs.length ([]:List Int)).getD i []=[]:=by
   rw[hU,List.getElem?_replicate]
   split <;> rfl
  rw[this]
  obtain rfl:j=0:=by omega
  exact rfl
 ·exact obMp rfl ⟨rfl,rfl,fun j hj=>absurd hj (qQ _)⟩
 obtain⟨i,R,O⟩:=x
 obtain⟨hi,hx,hR,hO,hm⟩:=hx
 have hi:i<=l.length:=hi
 have hx:(R,O)=witK s zs rise fs l bs i:=hx
 have hR:R.length<=i:=hR
 have hO:O.length=fs.length:=hO
 have hm:∀ s∈O,s.length<=i:=hm
 have nxt:=zf1 s zs rise fs l bs i
 rw[<- hx] at nxt
 apply bY <;> intro g1
 ·have g1:i<l.length:=by have:=dT g1; omega
  refine⟨⟨rfl,by omega,by omega⟩,?_⟩
  refine cP (zcA s (l.getD i default)) rfl rfl ?_
  have skip:witK s zs rise fs l bs (i+1)=(R,O)->(R,O)=witK s zs rise fs l bs (i+1)/\R.length<=i+1/\O.length=fs.length /\ ∀ s∈O,s.length<=i+1:=fun e=>⟨e.symm,by omega,hO,fun s hs=>by have:=hm s hs; omega⟩
  apply bY <;> intro g2
  ·have g2:crpE s (l.getD i default)≠0:=by simpa using g2
   repeat first | apply sT | apply sF
   refine⟨i6,?_⟩
   exact⟨(i+1,R,O),⟨rfl,⟨obD s.ds rfl,zaM rfl rfl,obX rfl,obR rfl (dE _),obR rfl (dE _),obMp rfl (dE _),trivial⟩,wq rfl⟩,⟨g1,skip (by rw[nxt]; unfold wit1; rw[kH (.inl g2)])⟩,msr g1⟩
  have g2:crpE s (l.getD i default)=0:=by simpa using g2
  repeat first | apply sT | apply sF
  refine⟨⟨kInt,rfl⟩,.bool ((R.map Rpt.ID).contains (l.getD i default).ID),D.eqv_of_eq (zoy _ _),?_⟩
  repeat first | apply sT | apply sF
  apply bY <;> intro g3
  ·have g3:(R.map Rpt.ID).contains (l.getD i default).ID=true:=g3
   refine⟨i6,?_⟩
   exact⟨(i+1,R,O),⟨rfl,⟨obD s.ds rfl,zaM rfl rfl,obX rfl,obR rfl (dE _),obR rfl (dE _),obMp rfl (dE _),trivial⟩,wq rfl⟩,⟨g1,skip (by rw[nxt]; unfold wit1; rw[kH (.inr g3)])⟩,msr g1⟩
  have g3:(R.map Rpt.ID).contains (l.getD i default).ID=false:=g3
  apply two_
  ·intro key
   apply bY <;> intro g4
   ·have g4:i<bs.length:=by have:=dT g4; omega
    have hbi:=hb _ (gd1 g4 0)
    refine⟨⟨rfl,by omega,(show (i:Int)<(bs.length:Int) by omega)⟩,?_⟩
    refine⟨(show ((fs.length:Nat):Int)≠0 by omega),?_⟩
    refine kAt [(1,.d (lZs zs)),(2,.d (I rise)),(4,.d (lFi fs)),(6,.d (lU8 bs)),(7,.box 7 0),(14,.box 14 0),(16,.box 16 0),(17,.own 31),(18,.own 32),(20,.box 20 0),(21,.d (I (kOf bs fs.length i))),(33,.d (lR l)),(34,.d (I l.length)),(35,.d (I i))] [(7,.box (s.ds.map AV.d)),(14,.box (List.replicate 10 .any)),(16,.box ((wtB s rise long).map AV.d ++ [.own 102])),(102,.row 101 8 R.length (rowRp R)),(31,.row 22 1 O.length (rowII O)),(32,.mp 1 (keyZ (R.map Rpt.ID)) fun _=>.bool true),(20,.box ((l.getD i default).ds.map AV.d))] ⟨rfl,⟨obD s.ds rfl,zaM rfl rfl,obX rfl,obR rfl (dE _),obR rfl (dE _),obMp rfl (dE _),obD (l.getD i default).ds rfl,trivial⟩,avQ rfl,avQ rfl,avQ rfl,avQ rfl,avQ rfl,avQ rfl,avQ rfl,avQ rfl,avQ rfl,avQ rfl,avI rfl (?_),avQ rfl,avQ rfl,avQ rfl,trivial⟩ key.out
    show Int.tmod (IntKind.i64.wrap (bs.getD i 0)) (fs.length:Int)=_
    rw[zbr (show inR .i64 (bs.getD i 0) from i6)]
    unfold kOf
    rw[kH g4,jal hbi.1,Int.natCast_emod,Int.toNat_of_nonneg hbi.1]
   have g4:¬ i<bs.length:=by have:=dF g4; omega
   refine kAt [(1,.d (lZs zs)),(2,.d (I rise)),(4,.d (lFi fs)),(6,.d (lU8 bs)),(7,.box 7 0),(14,.box 14 0),(16,.box 16 0),(17,.own 31),(18,.own 32),(20,.box 20 0),(21,.d (I (kOf bs fs.length i))),(33,.d (lR l)),(34,.d (I l.length)),(35,.d (I i))] [(7,.box (s.ds.map AV.d)),(14,.box (List.replicate 10 .any)),(16,.box ((wtB s rise long).map AV.d ++ [.own 102])),(102,.row 101 8 R.length (rowRp R)),(31,.row 22 1 O.length (rowII O)),(32,.mp 1 (keyZ (R.map Rpt.ID)) fun _=>.bool true),(20,.box ((l.getD i default).ds.map AV.d))] ?_ ?_
   ·refine⟨rfl,⟨obD s.ds rfl,zaM rfl rfl,obX rfl,obR rfl (dE _),obR rfl (dE _),obMp rfl (dE _),obD (l.getD i default).ds rfl,trivial⟩,avQ rfl,avQ rfl,avQ rfl,avQ rfl,avQ rfl,avQ rfl,avQ rfl,avQ rfl,avQ rfl,avQ rfl,avI rfl (?_),avQ rfl,avQ rfl,avQ rfl,trivial⟩
    unfold kOf
    rw[kG g4]; rfl
   exact key.out
  refine lOf (σ:=Nat) (fun n=>([(1,.d (lZs zs)),(2,.d (I rise)),(4,.d (lFi fs)),(6,.d (lU8 bs)),(7,.box 7 0),(14,.box 14 0),(16,.box 16 0),(17,.own 31),(18,.own 32),(20,.box 20 0),(21,.d (I (kOf bs fs.length i))),(22,.d (.bool ((List.range n).all (finB s zs rise fs (l.getD i default) (kOf bs fs.length i))))),(33,.d (lR l)),(34,.d (I l.length)),(35,.d (I i)),(62,.d (lFi fs)),(63,.d (I fs.length)),(64,.d (I n))],[(7,.box (s.ds.map AV.d)),(14,.box (List.replicate 10 .any)),(16,.box ((wtB s rise long).map AV.d ++ [.own 102])),(102,.row 101 8 R.length (rowRp R)),(31,.row 22 1 O.length (rowII O)),(32,.mp 1 (keyZ (R.map Rpt.ID)) fun _=>.bool true),(20,.box ((l.getD i default).ds.map AV.d))])) (fun n=>n<=fs.length) (fun n=>fs.length - n) 0
   ⟨rfl,⟨obD s.ds rfl,zaM rfl rfl,obX rfl,obR rfl (dE _),obR rfl (dE _),obMp rfl (dE _),obD (l.getD i default).ds rfl,trivial⟩,wq rfl⟩ (jF _) fun n hn=>?_
  have hn:n<=fs.length:=hn
  have rs:(List.range (n+1)).all (finB s zs rise fs (l.getD i default) (kOf bs fs.length i))=((List.range n).all (finB s zs rise fs (l.getD i default) (kOf bs fs.length i)) && finB s zs rise fs (l.getD i default) (kOf bs fs.length i) n):=by
   rw[wG,List.all_append]; simp
  apply bY <;> intro g5
  ·have g5:n<fs.length:=by have:=dT g5; omega
   refine⟨⟨rfl,by omega,by omega⟩,?_⟩
   apply bY <;> intro g6
   ·have g6:(l.getD i default).Kind≠1:=by simpa using g6
    have fe:finB s zs rise fs (l.getD i default) (kOf bs fs.length i) n=honB s ⟨(fs.getD n default).From,(fs.getD n default).To,rise⟩ zs (fs.getD n default).At (l.getD i default):=by
     unfold finB; rw[show ((l.getD i default).Kind==1)=false by simpa using g6]; rfl
    repeat first | apply sT | apply sF
    apply bY <;> intro g7
    ·have g7:(List.range n).all (finB s zs rise fs (l.getD i default) (kOf bs fs.length i))=true:=g7
     repeat first | apply sT | apply sF
     refine cP (zhV s ⟨(fs.getD n default).From,(fs.getD n default).To,rise⟩ zs (fs.getD n default).At (l.getD i default) g2 hz hzn) rfl rfl ?_
     repeat first | apply sT | apply sF
     refine⟨i6,?_⟩
     refine⟨n+1,⟨rfl,⟨obD s.ds rfl,zaM rfl rfl,obX rfl,obR rfl (dE _),obR rfl (dE _),obMp rfl (dE _),obD (l.getD i default).ds rfl,trivial⟩,avQ rfl,avQ rfl,avQ rfl,avQ rfl,avQ rfl,avQ rfl,avQ rfl,avQ rfl,avQ rfl,avQ rfl,avQ rfl,avBl rfl ?_,avQ rfl,avQ rfl,avQ rfl,avQ rfl,avQ rfl,avQ rfl,trivial⟩,g5,msr g5⟩
     rw[rs,g7,kN,fe]
    have g7:(List.range n).all (finB s zs rise fs (l.getD i default) (kOf bs fs.length i))=false:=g7
    repeat first | apply sT | apply sF
    refine⟨i6,?_⟩
    refine⟨n+1,⟨rfl,⟨obD s.ds rfl,zaM rfl rfl,obX rfl,obR rfl (dE _),obR rfl (dE _),obMp rfl (dE _),obD (l.getD i default).ds rfl,trivial⟩,avQ rfl,avQ rfl,avQ rfl,avQ rfl,avQ rfl,avQ rfl,avQ rfl,avQ rfl,avQ rfl,avQ rfl,avQ rfl,avBl rfl ?_,avQ rfl,avQ rfl,avQ rfl,avQ rfl,avQ rfl,avQ rfl,trivial⟩,g5,msr g5⟩
    rw[rs,g7,kZ]
   have g6:(l.getD i default).Kind=1:=by simpa using g6
   repeat first | apply sT | apply sF
   apply bY <;> intro g8
   ·have g8:n=kOf bs fs.length i:=by
     have:(n:Int)=((kOf bs fs.length i:Nat):Int):=by simpa using g8
     omega
    have fe:finB s zs rise fs (l.getD i default) (kOf bs fs.length i) n=honB s ⟨(fs.getD n default).From,(fs.getD n default).To,rise⟩ zs (fs.getD n default).At (l.getD i default):=by
     unfold finB; rw[jH (fun h=>h g8),qP]; rfl
    apply bY <;> intro g7
    ·have g7:(List.range n).all (finB s zs rise fs (l.getD i default) (kOf bs fs.length i))=true:=g7
     repeat first | apply sT | apply sF
     refine cP (zhV s ⟨(fs.getD n default).From,(fs.getD n default).To,rise⟩ zs (fs.getD n default).At (l.getD i default) g2 hz hzn) rfl rfl ?_
     repeat first | apply sT | apply sF
     refine⟨i6,?_⟩
     refine⟨n+1,⟨rfl,⟨obD s.ds rfl,zaM rfl rfl,obX rfl,obR rfl (dE _),obR rfl (dE _),obMp rfl (dE _),obD (l.getD i default).ds rfl,trivial⟩,avQ rfl,avQ rfl,avQ rfl,avQ rfl,avQ rfl,avQ rfl,avQ rfl,avQ rfl,avQ rfl,avQ rfl,avQ rfl,avBl rfl ?_,avQ rfl,avQ rfl,avQ rfl,avQ rfl,avQ rfl,avQ rfl,trivial⟩,g5,msr g5⟩
     rw[rs,g7,kN,fe]
    have g7:(List.range n).all (finB s zs rise fs (l.getD i default) (kOf bs fs.length i))=false:=g7
    repeat first | apply sT | apply sF
    refine⟨i6,?_⟩
    refine⟨n+1,⟨rfl,⟨obD s.ds rfl,zaM rfl rfl,obX rfl,obR rfl (dE _),obR rfl (dE _),obMp rfl (dE _),obD (l.getD i default).ds rfl,trivial⟩,avQ rfl,avQ rfl,avQ rfl,avQ rfl,avQ rfl,avQ rfl,avQ rfl,avQ rfl,avQ rfl,avQ rfl,avQ rfl,avBl rfl ?_,avQ rfl,avQ rfl,avQ rfl,avQ rfl,avQ rfl,avQ rfl,trivial⟩,g5,msr g5⟩
    rw[rs,g7,kZ]
   have g8:n≠kOf bs fs.length i:=fun e=>by
    have:¬ (n:Int)=((kOf bs fs.length i:Nat):Int):=by simpa using g8
    omega
   have fe:finB s zs rise fs (l.getD i default) (kOf bs fs.length i) n=true:=by
    unfold finB; rw[g6,jG g8]; rfl
   refine⟨i6,?_⟩
   refine⟨n+1,⟨rfl,⟨obD s.ds rfl,zaM rfl rfl,obX rfl,obR rfl (dE _),obR rfl (dE _),obMp rfl (dE _),obD (l.getD i default).ds rfl,trivial⟩,avQ rfl,avQ rfl,avQ rfl,avQ rfl,avQ rfl,avQ rfl,avQ rfl,avQ rfl,avQ rfl,avQ rfl,avQ rfl,avBl rfl ?_,avQ rfl,avQ rfl,avQ rfl,avQ rfl,avQ rfl,avQ rfl,trivial⟩,g5,msr g5⟩
   rw[rs,fe,jak]
  have g5:n=fs.length:=by have:=dF g5; omega
  subst g5
  have kl:kOf bs fs.length i<fs.length:=by
   unfold kOf
   split
   ·exact jay _ hf.1
   exact hf.1
  apply bY <;> intro g6
  ·have g6:accB s zs rise fs (l.getD i default) (kOf bs fs.length i)=false:=by
    have:(!(accB s zs rise fs (l.getD i default) (kOf bs fs.length i)))=true:=g6
    simpa using this
   refine⟨i6,?_⟩
   exact⟨(i+1,R,O),⟨rfl,⟨obD s.ds rfl,zaM rfl rfl,obX rfl,obR rfl (dE _),obR rfl (dE _),obMp rfl (dE _),trivial⟩,wq rfl⟩,⟨g1,skip (by rw[nxt]; unfold wit1; rw[kG (fun h=>h.elim (fun h=>h g2) fun h=>by rw[g3] at h; cases h),kH g6])⟩,msr g1⟩
  have g6:accB s zs rise fs (l.getD i default) (kOf bs fs.length i)=true:=by
   have:(!(accB s zs rise fs (l.getD i default) (kOf bs fs.length i)))=false:=g6
   simpa using this
  have nxt2:witK s zs rise fs l bs (i+1)=(R ++ [l.getD i default],if (l.getD i default).Kind=1 then O.set (kOf bs fs.length i) (ins2 (O.getD (kOf bs fs.length i) []) (l.getD i default).ID) else O):=by
   rw[nxt]; unfold wit1; rw[kG (fun h=>h.elim (fun h=>h g2) fun h=>by rw[g3] at h; cases h),kG (by rw[g6]; decide)]
  refine⟨⟨kInt,rfl⟩,?_⟩
  refine⟨⟨.inr rfl,by unfold maxLen; omega,by show (R.length+1) * 64<=140737488355328; omega⟩,?_⟩
  apply bY <;> intro g7
  ·have g7:(l.getD i default).Kind=1:=by simpa using g7
   rw[kH g7] at nxt2
   have ho:=hm _ (gd1 (show (kOf bs fs.length i)<O.length by omega) [])
   refine oN 11 ?_
   refine⟨⟨by omega,(show (((kOf bs fs.length i):Nat):Int)<(O.length:Int) by omega)⟩,?_⟩
   refine⟨(show kOf bs fs.length i<O.length by omega),?_⟩
   refine oRo (zml (O.getD (kOf bs fs.length i) []) (l.getD i default).ID (by omega)) rfl rfl ?_
   refine⟨⟨by omega,(show (((kOf bs fs.length i):Nat):Int)<(O.length:Int) by omega)⟩,?_⟩
   refine⟨(show kOf bs fs.length i<O.length by omega),?_⟩
   refine⟨i6,?_⟩
   refine⟨(i+1,R ++ [l.getD i default],O.set (kOf bs fs.length i) (ins2 (O.getD (kOf bs fs.length i) []) (l.getD i default).ID)),⟨rfl,⟨obD s.ds rfl,zaM rfl rfl,obX rfl,obR rfl (zq7 fun j hj=>?_),obR rfl (zpj (by omega) rfl (dE _)),obMp rfl (by rw[jT]; exact zhg g3),trivial⟩,wq rfl⟩,⟨g1,nxt2.symm,by simp; omega,by rw[jaQ]; exact hO,fun s hs=>?_⟩,msr g1⟩
   ·match j,hj with
     | 0,_=>exact dE _
     | 1,_=>exact dE _
     | 2,_=>exact dE _
     | 3,_=>exact dE _
     | 4,_=>exact dE _
     | 5,_=>exact dE _
     | 6,_=>exact dE _
     | 7,_=>exact dE _
   rcases jaL hs with hs | rfl
   ·have:=hm s hs; omega
   rw[ziH]; omega
  have g7:(l.getD i default).Kind≠1:=by simpa using g7
  rw[kG g7] at nxt2
  refine⟨i6,?_⟩
  refine⟨(i+1,R ++ [l.getD i default],O),⟨rfl,⟨obD s.ds rfl,zaM rfl rfl,obX rfl,obR rfl (zq7 fun j hj=>?_),obR rfl (dE _),obMp rfl (by rw[jT]; exact zhg g3),trivial⟩,wq rfl⟩,⟨g1,nxt2.symm,by simp; omega,hO,fun s hs=>by have:=hm s hs; omega⟩,msr g1⟩
  match j,hj with
    | 0,_=>exact dE _
    | 1,_=>exact dE _
    | 2,_=>exact dE _
    | 3,_=>exact dE _
    | 4,_=>exact dE _
    | 5,_=>exact dE _
    | 6,_=>exact dE _
    | 7,_=>exact dE _
 have g1:i=l.length:=by have:=dF g1; omega
 subst g1
 rw[<- hx]
 refine kAt [(14,.box 14 0),(16,.box 16 0),(17,.d (lII O))] [(14,.box (List.replicate 10 .any)),(16,.box ((wtD s rise long R).ds.map AV.d))]
  ⟨rfl,⟨zaM rfl rfl,obY7 rfl ⟨dE _,dE _,dE _,dE _,dE _,dE _,dE _,dE _,dE _,avOw rfl rfl rfl (dE _),trivial⟩,trivial⟩,avQ rfl,avQ rfl,avOw rfl rfl rfl (dE _),trivial⟩ ?_
 exact⟨rtC (a:=14) rfl rfl rfl rfl rfl rfl (zab _),dE _,trivial⟩
end Go.Pg
