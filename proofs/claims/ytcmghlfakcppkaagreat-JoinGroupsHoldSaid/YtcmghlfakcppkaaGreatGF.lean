/- Lemmas, joined by program. -/
import Derived.Test.YtcmghlfakcppkaaGreatGE
set_option maxHeartbeats 4000000
set_option linter.all false
set_option maxRecDepth 100000
namespace Go.Pg
open Go.Proofs Go.RowKit Go.Sort Go.Shelf
theorem s_EqI (a b:List Int) (hn:a.length<=1000000):Spec PP 36 [.d (lI a),.d (lI b)] [B (decide (a=b))]:=by
 refine sA Tryz.func36 ?_
 apply bY <;> intro h1
 ·have h1:a.length≠b.length:=by
   have:¬ (a.length:Int)=b.length:=by simpa using h1
   omega
  refine r1B rfl ?_
  exact (jH fun e=>h1 (by rw[e])).symm
 have h1:a.length=b.length:=by
  have:(a.length:Int)=b.length:=by simpa using h1
  omega
 refine lOf (σ:=Nat) (fun i=>([(0,.d (lI a)),(1,.d (lI b)),(12,.d (I a.length)),(13,.d (I i))],[])) (fun i=>i<=a.length/\a.take i=b.take i) (fun i=>a.length - i) 0 ⟨rfl,trivial,wq rfl⟩ ⟨jF _,rfl⟩ fun i hi=>?_
 obtain⟨i1,i2⟩:=hi
 apply bY <;> intro h2
 ·have h2:i<a.length:=by have:=dT h2; omega
  refine oN 9 ?_
  refine⟨⟨rfl,by omega,by omega⟩,?_⟩
  refine⟨⟨rfl,by omega,by omega⟩,?_⟩
  apply bY <;> intro h3
  ·have h3:¬ a.getD i 0=b.getD i 0:=by simpa using h3
   refine r1B rfl ?_
   refine (jH fun e=>?_).symm
   subst e
   exact h3 rfl
  have h3:a.getD i 0=b.getD i 0:=by simpa using h3
  refine⟨i6,?_⟩
  refine⟨i+1,⟨rfl,trivial,wq rfl⟩,⟨h2,?_⟩,msr h2⟩
  rw[zaM h2 0,zaM (by omega) 0,i2,h3]
 have h2:i=a.length:=by have:=dF h2; omega
 subst h2
 refine r1B rfl ?_
 rw[jZ,h1,jZ] at i2
 exact (jG i2).symm
theorem ziD (l:List (List Int)) (g:FuncId) (c0:D) (p:List Int->Bool) (hn:l.length<=1000000) (hp:∀ i,i<l.length->Spec PP g [.d (lI (l.getD i [])),.d c0] [B (p (l.getD i []))]):Spec PP 77 [.d (lII l),.d (cloB g [c0])] [N (idxL p l)]:=by
 refine sA Tryz.func77 ?_
 refine lOf (σ:=Nat) (fun i=>([(0,.d (lII l)),(1,.d (cloB g [c0])),(6,.d (lII l)),(7,.d (I l.length)),(8,.d (I i))],[])) (fun i=>i<=l.length /\ ∀ j,j<i->p (l.getD j [])=false) (fun i=>l.length - i) 0
  ⟨rfl,trivial,wq rfl⟩ z0L fun i hi=>?_
 obtain⟨hi,ha⟩:=hi
 apply bY <;> intro h1
 ·have h1:i<l.length:=by have:=dT h1; omega
  refine⟨⟨rfl,by omega,by omega⟩,?_⟩
  refine cP (hp i h1) rfl rfl ?_
  apply bY <;> intro h2
  ·exact r1I rfl (zas [] h1 h2 ha).symm
  refine⟨i6,?_⟩
  refine⟨i+1,⟨rfl,trivial,wq rfl⟩,⟨h1,fun j hj=>?_⟩,(msr (by omega))⟩
  by_cases e:j=i
  ·subst e; exact h2
  exact ha j (by omega)
 have h1:i=l.length:=by have:=dF h1; omega
 subst h1
 exact r1I rfl (zaA [] ha).symm
theorem ziF (l:List (List Int)) (g:FuncId) (c0:D) (p:List Int->Bool) (hn:l.length<=1000000) (hp:∀ i,i<l.length->Spec PP g [.d (lI (l.getD i [])),.d c0] [B (p (l.getD i []))]):Spec PP 34 [.d (lII l),.d (cloB g [c0])] [B (l.any p)]:=by
 refine sA Tryz.func34 ?_
 refine cP (ziD l g c0 p hn hp) rfl rfl ?_
 refine r1B rfl ?_
 rw[kY,kV]
 exact zbA p l []
structure JnOk (j:Jns):Prop where
  F:j.F.length<=1000000
  M:j.M.length<=1000000
  f:∀ f∈j.F,f.IDs.length<=1000000
  m:∀ m∈j.M,m.IDs.length<=1000000/\m.R.length<=1000000
theorem JnOk.get {j:Jns} (h:JnOk j) {i:Nat} (hi:i<j.F.length):(j.F.getD i default).IDs.length<=1000000:=by
 refine h.f _ ?_
 rw[hX,hZ hi]; exact kR hi
abbrev Fit.ds (f:Fit):List D:=[lI f.IDs,I f.At.X,I f.At.Y]
abbrev Jns.ds (j:Jns):List D:=[lFt j.F,lMs j.M]
structure JnLt (n:Nat) (j:Jns):Prop where
  F:j.F.length<=n
  M:j.M.length<=n
  f:∀ f∈j.F,f.IDs.length<=n
  m:∀ m∈j.M,m.IDs.length<=n/\m.R.length<=n
theorem JnLt.ok {n:Nat} {j:Jns} (h:JnLt n j) (hn:n<=1000000):JnOk j:=⟨jM h.F hn,jM h.M hn,fun f hf=>jM (h.f f hf) hn,fun m hm=>⟨jM (h.m m hm).1 hn,jM (h.m m hm).2 hn⟩⟩
def ownC:Nat->List AV
 | 1=>[.own 1001]
 | 2=>[.own 1001,.own 1002]
 | 3=>[.own 1001,.own 1002,.own 1003]
 | 4=>[.own 1001,.own 1002,.own 1003,.own 1004]
 | 5=>[.own 1001,.own 1002,.own 1003,.own 1004,.own 1005]
 | _=>[]
abbrev rwZ (l:List Int):Ob:=.row 3 1 l.length (rowI l)
abbrev ownR (g:Nat->List Int):List (Nat × Ob):=[(1001,rwZ (g 0)),(1002,rwZ (g 1)),(1003,rwZ (g 2)),(1004,rwZ (g 3)),(1005,rwZ (g 4))]
abbrev Tag (_:Nat):Prop:=True
abbrev fm {n:Nat} (_:Tag n):Nat:=n
theorem ziC (l:List (List (List Int))) (g:FuncId) (c0:D) (p:List (List Int)->Bool) (hn:l.length<=1000000) (hp:∀ i,i<l.length->Spec PP g [.d (lII (l.getD i [])),.d c0] [B (p (l.getD i []))]):Spec PP 78 [.d (lPP l),.d (cloB g [c0])] [N (idxL p l)]:=by
 refine sA Tryz.func78 ?_
 refine lOf (σ:=Nat) (fun i=>([(0,.d (lPP l)),(1,.d (cloB g [c0])),(6,.d (lPP l)),(7,.d (I l.length)),(8,.d (I i))],[])) (fun i=>i<=l.length /\ ∀ j,j<i->p (l.getD j [])=false) (fun i=>l.length - i) 0
  ⟨rfl,trivial,wq rfl⟩ z0L fun i hi=>?_
 obtain⟨hi,ha⟩:=hi
 apply bY <;> intro h1
 ·have h1:i<l.length:=by have:=dT h1; omega
  refine⟨⟨rfl,by omega,by omega⟩,?_⟩
  refine cP (hp i h1) rfl rfl ?_
  apply bY <;> intro h2
  ·exact r1I rfl (zas [] h1 h2 ha).symm
  refine⟨i6,?_⟩
  refine⟨i+1,⟨rfl,trivial,wq rfl⟩,⟨h1,fun j hj=>?_⟩,(msr (by omega))⟩
  by_cases e:j=i
  ·subst e; exact h2
  exact ha j (by omega)
 have h1:i=l.length:=by have:=dF h1; omega
 subst h1
 exact r1I rfl (zaA [] ha).symm
theorem ziE (l:List (List (List Int))) (g:FuncId) (c0:D) (p:List (List Int)->Bool) (hn:l.length<=1000000) (hp:∀ i,i<l.length->Spec PP g [.d (lII (l.getD i [])),.d c0] [B (p (l.getD i []))]):Spec PP 37 [.d (lPP l),.d (cloB g [c0])] [B (l.any p)]:=by
 refine sA Tryz.func37 ?_
 refine cP (ziC l g c0 p hn hp) rfl rfl ?_
 refine r1B rfl ?_
 rw[kY,kV]
 exact zbA p l []
def hasS (s:List Int) (p:List (List Int)):Bool:=p.any fun x=>decide (x=s)
theorem znn (x s:List Int) (hx:x.length<=1000000):Spec PP 35 [.d (lI x),.d (capB [lI s])] [B (decide (x=s))]:=by
 refine sA Tryz.func35 ?_
 refine cP (s_EqI x s hx) rfl rfl ?_
 exact r1B rfl rfl
theorem zoZ (p:List (List Int)) (s:List Int) (hp:p.length<=1000000) (hs:∀ i,i<p.length->(p.getD i []).length<=1000000):Spec PP 33 [.d (lII p),.d (capB [lI s])] [B (hasS s p)]:=by
 refine sA Tryz.func33 ?_
 refine cP (ziF p 35 (capB [lI s]) (fun x=>decide (x=s)) hp fun i hi=>znn _ s (hs i hi)) rfl rfl ?_
 exact r1B rfl rfl
theorem zoY (p:List (List Int)) (s:List Int) (hp:p.length<=1000000) (hs:∀ i,i<p.length->(p.getD i []).length<=1000000):Spec PP 38 [.d (lII p),.d (capB [cloB 33 [capB [lI s]]])] [B (!hasS s p)]:=by
 refine sA Tryz.func38 ?_
 refine cP (zoZ p s hp hs) rfl rfl ?_
 exact r1B rfl rfl
def alwS (l:List (List (List Int))) (s:List Int):Bool:=!(l.any fun p=>!hasS s p)
def prvK (l:List (List (List Int))) (i:Nat):List (List Int):=((l.getD 0 []).take i).filter (alwS l)
theorem zkW {l:List (List (List Int))} {i:Nat} (h:i<(l.getD 0 []).length) (h1:alwS l ((l.getD 0 []).getD i [])=true):prvK l (i+1)=prvK l i ++ [(l.getD 0 []).getD i []]:=by
 unfold prvK
 rw[zaM h [],k9,qT h1]; rfl
theorem zmZ {l:List (List (List Int))} {i:Nat} (h:i<(l.getD 0 []).length) (h1:alwS l ((l.getD 0 []).getD i [])=false):prvK l (i+1)=prvK l i:=by
 unfold prvK
 rw[zaM h [],k9,qU (by rw[h1]; decide)]; simp
theorem zg2 (l:List (List (List Int))) (i:Nat):(prvK l i).length<=i:=by
 unfold prvK
 have:=jac (alwS l) ((l.getD 0 []).take i)
 rw[jQ] at this
 omega
def prvR (d:Day):List (List Int) × Int:=if dayE d≠0 then ([],dayE d) else if (bsts d).length=0 then ([],9) else (prvK (bsts d) ((bsts d).getD 0 []).length,0)
theorem zlm (d:Day) (hn:d.R.length<=1000000):Spec PP 10 [d.v] [.d (lII (prvR d).1),.d (.int .i64 (prvR d).2)]:=by
 refine sA Tryz.func10 ?_
 refine cP (zb4 d hn) rfl rfl ?_
 unfold prvR
 apply bY <;> intro h0
 ·rw[kG (by simpa using h0)]
  exact⟨⟨_,_,_,_,rfl,rfl,.inl rfl⟩,rtI rfl rfl,trivial⟩
 have h0:dayE d=0:=by simpa using h0
 have h:=zcS h0
 rw[kF (fun hh=>hh h0)]
 refine cR (zeQ h) rfl rfl ?_
 by_cases h2:(bsts d).length=0
 ·have e:bsR d=([],9):=by unfold bsR; rw[kG h2]
  rw[e,kG h2]
  refine sT ?_
  exact⟨⟨_,_,_,_,rfl,rfl,.inl rfl⟩,rtI rfl rfl,trivial⟩
 have e:bsR d=(bsts d,0):=by unfold bsR; rw[kF h2]
 rw[e,kF h2]
 refine sF ?_
 have hl:(bsts d).length<=1000000:=by have:(bsts d).length<=(parts d).length:=zda (parts d); have:=zce h; omega
 have hp:∀ p∈bsts d,p.length<=1000000 /\ ∀ s∈p,s.length<=1000000:=fun p hp=>by
  have:=zcd h (zcs hp)
  exact⟨by omega,fun s hs=>by have:=this.2 s hs; omega⟩
 generalize bsts d=l at *
 have h0l:0<l.length:=by omega
 have hq:=hp _ (gd1 h0l [])
 refine⟨⟨rfl,by omega,(show (0:Int)<(l.length:Int) by omega)⟩,?_⟩
 refine lOf (σ:=Nat) (fun i=>([(5,.d (lPP l)),(7,.own 7),(26,.d (lII (l.getD 0 []))),(27,.d (I (l.getD 0 []).length)),(28,.d (I i))],[(7,.row 22 1 (prvK l i).length (rowII (prvK l i)))])) (fun i=>i<=(l.getD 0 []).length) (fun i=>(l.getD 0 []).length - i) 0
  ⟨rfl,⟨obR rfl ⟨rfl,.inl rfl⟩,trivial⟩,wq rfl⟩ (jF _) fun i hi=>?_
 apply bY <;> intro k1
 ·have k1:i<(l.getD 0 []).length:=by have:=dT k1; omega
  have hsi:=hq.2 _ (gd1 k1 [])
  have hlen:=zg2 l i
  refine⟨⟨rfl,by omega,by omega⟩,?_⟩
  refine fEq [9,10] (ziE l 38 (capB [cloB 33 [capB [lI ((l.getD 0 []).getD i [])]]]) (fun p=>!hasS ((l.getD 0 []).getD i []) p) hl fun m hm=>zoY _ ((l.getD 0 []).getD i []) (hp _ (gd1 hm [])).1 fun a ha=>(hp _ (gd1 hm [])).2 _ (gd1 ha [])) rfl ⟨dE _,⟨rfl,rfl,fun j hj=>?_⟩,trivial⟩ rfl ?_
  ·obtain rfl:j=0:=jak.1 hj
   exact dE _
  apply bY <;> intro k2
  ·have k2:alwS l ((l.getD 0 []).getD i [])=true:=k2
   refine cR (ziW ((l.getD 0 []).getD i []) hsi) rfl rfl ?_
   refine⟨⟨.inr rfl,by unfold maxLen; omega,by show ((prvK l i).length+1) * 24<=140737488355328; omega⟩,?_⟩
   refine⟨i6,?_⟩
   refine⟨i+1,⟨rfl,⟨obR rfl ?_,trivial⟩,wq rfl⟩,k1,msr k1⟩
   rw[zkW k1 k2]
   exact ziM rfl (dE _)
  have k2:alwS l ((l.getD 0 []).getD i [])=false:=k2
  refine⟨i6,?_⟩
  refine⟨i+1,⟨rfl,⟨obR rfl ?_,trivial⟩,wq rfl⟩,k1,msr k1⟩
  rw[zmZ k1 k2]; exact dE _
 have k1:i=(l.getD 0 []).length:=by have:=dF k1; omega
 subst k1
 exact⟨⟨_,_,_,_,rfl,dE _⟩,rtI rfl rfl,trivial⟩
def yesB (l:List (List (List Int))) (a b:Int):Bool:=(vdtR l a b).Ans==2
def grp1 (l:List (List (List Int))) (o:List (List Int)) (id:Int):List (List Int):=
 if idxL (fun g=>yesB l (g.getD 0 0) id) o<0 then o ++ [[id]] else o.set (idxL (fun g=>yesB l (g.getD 0 0) id) o).toNat (o.getD (idxL (fun g=>yesB l (g.getD 0 0) id) o).toNat [] ++ [id])
def grpK (l:List (List (List Int))) (ids:List Int) (i:Nat):List (List Int):=(ids.take i).foldl (grp1 l) []
theorem zfC (l:List (List (List Int))) {ids:List Int} {i:Nat} (h:i<ids.length):grpK l ids (i+1)=grp1 l (grpK l ids i) (ids.getD i 0):=by
 unfold grpK
 rw[zaM h 0,jam]; rfl
def grpR (d:Day):List (List Int) × Int:=if dayE d≠0 then ([],dayE d) else if (bsts d).length=0 then ([],9) else (grpK (bsts d) (sigL d.R) (sigL d.R).length,0)
def outA (m:Nat):Nat->AV
 | 0=>.nilsl
 | n+1=>.bsl 1000 (n+1) (n+1+m)
def outO (m:Nat) (g:Nat->List Int):Nat->List (Nat × Ob)
 | 0=>ownR g
 | n+1=>(1000,.box (ownC (n+1)++List.replicate m .any)) :: ownR g
theorem znw {l:List (List (List Int))} {o:List (List Int)} {id:Int} {j:Nat} (hj:j<o.length) (hy:yesB l ((o.getD j []).getD 0 0) id=true) (hno:∀ q,q<j->yesB l ((o.getD q []).getD 0 0) id=false):grp1 l o id=o.set j (o.getD j [] ++ [id]):=by
 have e:=zas (p:=fun g:List Int=>yesB l (g.getD 0 0) id) (l:=o) [] hj hy hno
 unfold grp1
 rw[e,kF (by omega),wD]
theorem zo5 {l:List (List (List Int))} {o:List (List Int)} {id:Int} (hno:∀ q,q<o.length->yesB l ((o.getD q []).getD 0 0) id=false):grp1 l o id=o ++ [[id]]:=by
 unfold grp1
 rcases idxL_cases (fun g:List Int=>yesB l (g.getD 0 0) id) o [] with⟨e,-⟩ | ⟨k,hk,e,e1,-⟩
 ·rw[kG (by rw[e]; decide)]
 have:=hno k hk
 have e1:yesB l ((o.getD k []).getD 0 0) id=true:=e1
 rw[this] at e1; cases e1
theorem zjE {α:Type} {l:List α} {x d:α} {q:Nat} (h:q<=l.length):(l ++ [x]).getD q d=if q=l.length then x else l.getD q d:=by
 rw[hX]
 split
 ·rename_i e
  rw[jK (by omega),e,kE]; rfl
 rw[jJ (by omega),<- hX]
theorem obXt {s:St} {ob:Nat->Option Ob} {o:Option Ob} {l:List AV} {i m:Nat} (h:o=some (.box (l++(List.replicate m AV.any).map (AV.purge i)))):Oble s ob o (.box (l++List.replicate m AV.any)):=by
 have e:(List.replicate m AV.any).map (AV.purge i)=List.replicate m AV.any:=by rw[List.map_replicate]; rfl
 rw[e] at h
 exact obX h
theorem lit1R {f:Nat->Nat->D} {x:Int} (h:f 0 0=I x):D.eqv (.slc 1 1 f) (.slc 1 [x].length (rowI [x])):=⟨rfl,.inr ⟨rfl,fun a ha j hj=>by
 obtain rfl:a=0:=by omega
 obtain rfl:j=0:=by omega
 rw[h]; exact dE _⟩⟩
theorem zln (d:Day) (hn:d.R.length<=1000000) (h5':dayE d=0->(sigL d.R).length<=5):Spec PP 9 [d.v] [.d (lII (grpR d).1),.d (.int .i64 (grpR d).2)]:=by
  refine zc0 [19,3000000007,3000000057,3000000058,3000000059] Tryz.func9 rfl (by kernel_rfl) rfl ?_
  refine cP (zb4 d hn) rfl rfl ?_
  unfold grpR
  apply bY <;> intro h0
  · rw[kG (by simpa using h0)]
    exact⟨⟨_,_,_,_,rfl,rfl,.inl rfl⟩,rtI rfl rfl,trivial⟩
  have h0:dayE d=0:=by simpa using h0
  have h5:=h5' h0
  have h:=zcS h0
  rw[kF (fun hh=>hh h0)]
  refine cR (zeQ h) rfl rfl ?_
  by_cases h2:(bsts d).length=0
  · have e:bsR d=([],9):=by unfold bsR; rw[kG h2]
    rw[e,kG h2]
    refine sT ?_
    exact⟨⟨_,_,_,_,rfl,rfl,.inl rfl⟩,rtI rfl rfl,trivial⟩
  have e:bsR d=(bsts d,0):=by unfold bsR; rw[kF h2]
  rw[e,kF h2]
  refine sF ?_
  have hl:(bsts d).length<=1000000:=by have:(bsts d).length<=(parts d).length:=zda (parts d); have:=zce h; omega
  have hp:∀ p∈bsts d,p.length<=1000000 /\ ∀ s∈p,s.length<=1000000:=fun p hp=>by
    have:=zcd h (zcs hp)
    exact⟨by omega,fun s hs=>by have:=this.2 s hs; omega⟩
  generalize bsts d=l at *
  refine CusOb.mv rfl rfl ?_
  refine cR (zaY d hn) rfl rfl ?_
  generalize sigL d.R=ids at *
  refine lOf (σ:=Nat × Nat × Nat × (Nat->List Int)) (fun x=>([(5,.d (lPP l)),(7,outA x.2.2.1 x.2.1),(26,.d (lI ids)),(27,.d (I ids.length)),(28,.d (I x.1))],outO x.2.2.1 x.2.2.2 x.2.1))
    (fun x=>x.1<=ids.length/\x.2.1=(grpK l ids x.1).length/\(∀ q,q<x.2.1->x.2.2.2 q=(grpK l ids x.1).getD q []/\0<(x.2.2.2 q).length)/\(∀ q,(x.2.2.2 q).length<=x.1)/\x.2.1<=x.1) (fun x=>ids.length - x.1) (0,0,0,fun _=>[])
    ⟨rfl,⟨obNz rfl,obNz rfl,obNz rfl,obNz rfl,obNz rfl,trivial⟩,wq rfl⟩ ⟨jF _,rfl,fun q hq=>absurd hq (qD _),fun q=>jE _,jE _⟩ fun x hx=>?_
  obtain⟨i,n,m,g⟩:=x
  obtain⟨i1,i2,i3,i4,i5⟩:i<=ids.length/\n=(grpK l ids i).length/\(∀ q,q<n->g q=(grpK l ids i).getD q []/\0<(g q).length)/\(∀ q,(g q).length<=i)/\n<=i:=hx
  apply bY <;> intro g0
  · have gi:i<ids.length:=by have:=dT g0; omega
    have nx:=zfC l gi
    refine⟨⟨rfl,by omega,(show (i:Int)<(ids.length:Int) by omega)⟩,?_⟩
    have hn5:n=0 \/ n=1 \/ n=2 \/ n=3 \/ n=4:=by omega
    have tg:Tag n:=trivial
    have ft:fm tg=n:=rfl
    rcases hn5 with rfl | rfl | rfl | rfl | rfl
    all_goals
      have oL:(grpK l ids i).length=fm tg:=i2.symm
      refine lOf (σ:=Nat) (fun j=>([(5,.d (lPP l)),(7,outA m (fm tg)),(9,.d (I (ids.getD i 0))),(26,.d (lI ids)),(27,.d (I ids.length)),(28,.d (I i)),(32,outA m (fm tg)),(33,.d (I (fm tg))),(34,.d (I j))],outO m g (fm tg)))
        (fun j=>j<=fm tg /\ ∀ q,q<j->yesB l ((g q).getD 0 0) (ids.getD i 0)=false) (fun j=>fm tg - j) 0
        ⟨?_,?_,wq rfl⟩ z0L fun j hj=>?_
      · first | exact rfl | exact clT rfl rfl
      · first | exact⟨obX rfl,obR rfl (dE _),obR rfl (dE _),obR rfl (dE _),obR rfl (dE _),obR rfl (dE _),trivial⟩ | exact⟨obR rfl (dE _),obR rfl (dE _),obR rfl (dE _),obR rfl (dE _),obR rfl (dE _),trivial⟩
      obtain⟨j1,j2⟩:=hj
      apply bY <;> intro k1
      · have k1:j<fm tg:=by have:=dT k1; omega
        have hj5:j=0 \/ j=1 \/ j=2 \/ j=3:=by omega
        have tj:Tag j:=trivial
        have fj:fm tj=j:=rfl
        rcases hj5 with rfl | rfl | rfl | rfl
        all_goals first | (exfalso; omega) | skip
        all_goals
          obtain⟨q1,q2⟩:=i3 (fm tj) k1
          have q3:(g (fm tj)).length<=i:=i4 (fm tj)
          refine⟨⟨by omega,by show ((fm tj:Nat):Int)<((fm tg:Nat):Int); omega⟩,?_⟩
          refine⟨⟨by decide,(show (0:Int)<((g (fm tj)).length:Int) by omega)⟩,?_⟩
          refine⟨(show 0<(g (fm tj)).length from q2),?_⟩
          refine cR (zfx l ((g (fm tj)).getD 0 0) (ids.getD i 0) hl hp) rfl rfl ?_
          apply bY <;> intro k2
          · have k2:yesB l ((g (fm tj)).getD 0 0) (ids.getD i 0)=true:=k2
            have tm:Tag m:=trivial
            rcases m with _ | m
            all_goals
             refine⟨⟨.inr rfl,(show (g (fm tj)).length+1<=maxLen by unfold maxLen; omega),(show ((g (fm tj)).length+1) * 8<=140737488355328 by omega)⟩,?_⟩
             refine⟨⟨by omega,by show ((fm tj:Nat):Int)<((fm tg:Nat):Int); omega⟩,?_⟩
             refine Eq.mpr (zbR _ _) ?_
             refine⟨i6,?_⟩
             have eN:grpK l ids (i+1)=(grpK l ids i).set (fm tj) ((grpK l ids i).getD (fm tj) [] ++ [ids.getD i 0]):=by
               rw[nx]
               exact znw (by omega) (by rw[<- q1]; exact k2) fun q hq=>by rw[<- (i3 q (by omega)).1]; exact j2 q hq
             refine⟨(i+1,fm tg,fm tm,fun q=>if q=fm tj then g (fm tj) ++ [ids.getD i 0] else g q),⟨?_,⟨?_,?_,?_,?_,?_,?_,trivial⟩,wq rfl⟩,⟨gi,?_,fun q hq=>?_,fun q=>?_,(show fm tg<=i+1 by omega)⟩,msr gi⟩
             · first | exact clT rfl rfl | exact rfl
             · first | exact obX rfl | exact obXt rfl
             iterate 5 (first | exact obR rfl (dE _) | exact obR rfl (zmX rfl))
             · show fm tg=(grpK l ids (i+1)).length
               rw[eN,wH]; exact i2
             · show (if q=fm tj then g (fm tj) ++ [ids.getD i 0] else g q)=(grpK l ids (i+1)).getD q []/\0<(if q=fm tj then g (fm tj) ++ [ids.getD i 0] else g q).length
               rw[eN,za7 _ _ _ _ _ (by omega)]
               by_cases e:q=fm tj
               · rw[kG e,kG e,<- q1]; exact⟨rfl,by simp⟩
               rw[kF e,kF e]; exact i3 q hq
             show (if q=fm tj then g (fm tj) ++ [ids.getD i 0] else g q).length<=i+1
             have h1:(g q).length<=i:=i4 q
             split
             · rw[jR,qK]; omega
             omega
          have k2:yesB l ((g (fm tj)).getD 0 0) (ids.getD i 0)=false:=k2
          refine⟨i6,?_⟩
          refine⟨fm tj+1,⟨?_,?_,wq rfl⟩,⟨k1,fun q hq=>?_⟩,msr k1⟩
          · exact clT rfl rfl
          · exact⟨obX rfl,obR rfl (dE _),obR rfl (dE _),obR rfl (dE _),obR rfl (dE _),obR rfl (dE _),trivial⟩
          by_cases e:q=fm tj
          · rw[e]; exact k2
          exact j2 q (by omega)
      have k1:j=fm tg:=by have:=dF k1; omega
      subst k1
      have eN:grpK l ids (i+1)=grpK l ids i ++ [[ids.getD i 0]]:=by
        rw[nx]
        exact zo5 fun q hq=>by rw[<- (i3 q (by omega)).1]; exact j2 q (by omega)
      refine CusOb.lit1 (r:=1001+fm tg) rfl rfl ⟨⟨rfl,rfl⟩,rfl⟩ ?_
      refine CusOb.lit (u:=57) (i:=1001+fm tg) rfl rfl rfl rfl rfl (fun y=>⟨rfl,rfl⟩) ?_
      first | refine CusOb.app0 (i:=1000) rfl rfl (by kernel_rfl) rfl rfl rfl rfl rfl (fun m'=>?_) | refine CusOb.app (i:=1000) rfl rfl (by kernel_rfl) rfl rfl (by rw[kN,kN,jR,List.length_replicate]; rfl) rfl rfl rfl rfl (by decide) (fun m'=>?_)
      refine CusOb.mv rfl rfl ?_
      refine⟨i6,?_⟩
      refine⟨(i+1,fm tg+1,m',fun q=>if q=fm tg then [ids.getD i 0] else g q),⟨clT rfl rfl,⟨obX rfl,?_,?_,?_,?_,?_,trivial⟩,wq rfl⟩,⟨gi,?_,fun q hq=>?_,fun q=>?_,(show fm tg+1<=i+1 by omega)⟩,msr gi⟩
      iterate 5 (first | exact obR rfl (dE _) | exact obR rfl (lit1R rfl))
      · show fm tg+1=(grpK l ids (i+1)).length
        rw[eN,jR,oL]; rfl
      · have hq:q<fm tg+1:=hq
        show (if q=fm tg then [ids.getD i 0] else g q)=(grpK l ids (i+1)).getD q []/\0<(if q=fm tg then [ids.getD i 0] else g q).length
        rw[eN,zjE (by omega),oL]
        by_cases e:q=fm tg
        · rw[kG e,kG e]; exact⟨rfl,Nat.lt_succ_self 0⟩
        rw[kF e,kF e]; exact i3 q (by omega)
      show (if q=fm tg then [ids.getD i 0] else g q).length<=i+1
      have h1:(g q).length<=i:=i4 q
      split
      · exact Nat.le_add_left 1 i
      omega
  have gi:i=ids.length:=by have:=dF g0; omega
  subst gi
  have hn5:n=0 \/ n=1 \/ n=2 \/ n=3 \/ n=4 \/ n=5:=by omega
  have tg:Tag n:=trivial
  have ft:fm tg=n:=rfl
  rcases hn5 with rfl | rfl | rfl | rfl | rfl | rfl
  all_goals
    refine kAt [(7,.d (lII (grpK l ids ids.length)))] [] ⟨rfl,trivial,?_,trivial⟩ ?_
    · first
        | exact i2.symm
        | refine avBs rfl rfl rfl i2.symm fun j hj=>?_
          have hj:j<fm tg:=hj
          have hj5:j=0 \/ j=1 \/ j=2 \/ j=3 \/ j=4:=by omega
          rcases hj5 with rfl | rfl | rfl | rfl | rfl
          all_goals first | (exfalso; omega) | skip
          all_goals exact⟨_,rfl,rfl,_,_,_,_,rfl,by rw[<- (i3 _ hj).1]; exact dE _⟩
    exact⟨dE _,rtI rfl rfl,trivial⟩
structure Rl where
  At:Place
  Z:List Int
  deriving Inhabited
abbrev Rl.ds (x:Rl):List D:=[I x.At.X,I x.At.Y,lI x.Z]
abbrev Rl.v (x:Rl):V1:=.agg x.ds
@[irreducible] def det (g h:Half):Int:=g.A * h.B - h.A * g.B
abbrev Form:=Place
@[irreducible] def value (f:Form) (p:Corner):Frac:=let n:=f.X * p.X+f.Y * p.Y; let g:Int:=gcdL [n,p.Den]; ⟨n.tdiv g,p.Den.tdiv g⟩
def sidesL:List Half:=[⟨-1,0,0⟩,⟨1,0,48⟩,⟨0,-1,0⟩,⟨0,1,48⟩]
def leC (p q:Corner):Prop:=p.X * q.Den<q.X * p.Den \/ (p.X * q.Den=q.X * p.Den/\p.Y * q.Den<=q.Y * p.Den)
theorem ze9 {p:Corner} (h:valid p=true):Nat.gcd (Nat.gcd p.X.natAbs p.Y.natAbs) p.Den.natAbs=1:=by
 unfold valid at h
 simp only[jP,jae] at h
 have:=h.2
 simp only[gcdL,jaU,List.foldl_nil,Nat.gcd_zero_left] at this
 exact_mod_cast this
theorem zfu {p q:Corner} (hp:valid p=true) (hq:valid q=true) (h1:leC p q) (h2:leC q p):p=q:=by
 have dp:=(zi4 hp).d
 have dq:=(zi4 hq).d
 have ex:p.X * q.Den=q.X * p.Den:=by unfold leC at *; omega
 have ey:p.Y * q.Den=q.Y * p.Den:=by unfold leC at *; omega
 have nx:p.X.natAbs * q.Den.natAbs=q.X.natAbs * p.Den.natAbs:=by rw[<- Int.natAbs_mul,<- Int.natAbs_mul,ex]
 have ny:p.Y.natAbs * q.Den.natAbs=q.Y.natAbs * p.Den.natAbs:=by rw[<- Int.natAbs_mul,<- Int.natAbs_mul,ey]
 have g1:Nat.gcd (Nat.gcd (p.X.natAbs * q.Den.natAbs) (p.Y.natAbs * q.Den.natAbs)) (p.Den.natAbs * q.Den.natAbs)=q.Den.natAbs:=by
  rw[Nat.gcd_mul_right,Nat.gcd_mul_right,ze9 hp,Nat.one_mul]
 have g2:Nat.gcd (Nat.gcd (q.X.natAbs * p.Den.natAbs) (q.Y.natAbs * p.Den.natAbs)) (q.Den.natAbs * p.Den.natAbs)=p.Den.natAbs:=by
  rw[Nat.gcd_mul_right,Nat.gcd_mul_right,ze9 hq,Nat.one_mul]
 rw[nx,ny,qC p.Den.natAbs,g2] at g1
 have ed:p.Den=q.Den:=by omega
 have hx:p.X=q.X:=by
  rw[ed] at ex
  exact Int.eq_of_mul_eq_mul_right (by omega) ex
 have hy:p.Y=q.Y:=by
  rw[ed] at ey
  exact Int.eq_of_mul_eq_mul_right (by omega) ey
 cases p; cases q; simp_all
abbrev VC:={ p:Corner // valid p=true }
theorem VC.den (p:VC):0<p.1.Den:=by have:=(zi4 p.2).d; omega
abbrev Num.v (x:Num):V1:=.agg [I x.n,I x.h.A,I x.h.B,I x.h.C]
def Num.val (x:Num):Value:=.agg #[.int .i64 x.n,.int .i64 x.h.A,.int .i64 x.h.B,.int .i64 x.h.C]
def Num.sl (l:List Num):D:=.slc 4 l.length fun i=>(l.getD i default).at
@[irreducible] def keepC (l:List Corner) (i:Nat):Bool:=i==0 || !(l.getD i default==l.getD (i - 1) default)
theorem keep0 (l:List Corner) {i:Nat} (h:i<1):keepC l i=true:=by
 obtain rfl:i=0:=by omega
 unfold keepC; rfl
theorem zfP {l:List Half} (h:checkL l=0):l.length<=40/\(∀ x∈l,fit x=true) /\ ∀ x∈l,okH x:=by
 unfold checkL at h
 split at h
 ·cases h
 split at h
 ·rename_i h1 h2
  have h3:∀ x∈l,fit x=true:=jC.1 h2
  exact⟨by omega,h3,fun x hx=>zoO (h3 x hx)⟩
 cases h
end Go.Pg
