/- Lemmas, joined by program. -/
import Derived.Test.YtcmghlfakcppkaaGreatTE
set_option maxHeartbeats 4000000
set_option linter.all false
set_option maxRecDepth 100000
namespace Go.Pg
open Go.Proofs Go.RowKit Go.Sort Go.Shelf
theorem s_EqI (a b:List Int) (hn:a.length<=1000000):Spec PP 36 [.d (lI a),.d (lI b)] [B (decide (a=b))]:=by
 refine sA Tryz.func36 ?_
 apply bY <;> intro h1
 ·have h1:a.length≠b.length:=by
   have:¬ (a.length:Int)=b.length:=by simpa using h1
   omega
  refine r1B rfl ?_
  exact (jH fun e=>h1 (by rw[e])).symm
 have h1:a.length=b.length:=by
  have:(a.length:Int)=b.length:=by simpa using h1
  omega
 refine lOf (σ:=Nat) (fun i=>([(0,.d (lI a)),(1,.d (lI b)),(12,.d (I a.length)),(13,.d (I i))],[])) (fun i=>i<=a.length/\a.take i=b.take i) (fun i=>a.length - i) 0 ⟨rfl,trivial,wq rfl⟩ ⟨jF _,rfl⟩ fun i hi=>?_
 obtain⟨i1,i2⟩:=hi
 apply bY <;> intro h2
 ·have h2:i<a.length:=by have:=dT h2; omega
  refine oN 9 ?_
  refine⟨⟨rfl,by omega,by omega⟩,?_⟩
  refine⟨⟨rfl,by omega,by omega⟩,?_⟩
  apply bY <;> intro h3
  ·have h3:¬ a.getD i 0=b.getD i 0:=by simpa using h3
   refine r1B rfl ?_
   refine (jH fun e=>?_).symm
   subst e
   exact h3 rfl
  have h3:a.getD i 0=b.getD i 0:=by simpa using h3
  refine⟨i6,?_⟩
  refine⟨i+1,⟨rfl,trivial,wq rfl⟩,⟨h2,?_⟩,msr h2⟩
  rw[zav h2 0,zav (by omega) 0,i2,h3]
 have h2:i=a.length:=by have:=dF h2; omega
 subst h2
 refine r1B rfl ?_
 rw[jZ,h1,jZ] at i2
 exact (jG i2).symm
theorem zkF (l:List (List Int)) (g:FuncId) (c0:D) (p:List Int->Bool) (hn:l.length<=1000000) (hp:∀ i,i<l.length->Spec PP g [.d (lI (l.getD i [])),.d c0] [B (p (l.getD i []))]):Spec PP 77 [.d (lII l),.d (cloB g [c0])] [N (idxL p l)]:=by
 refine sA Tryz.func77 ?_
 refine lOf (σ:=Nat) (fun i=>([(0,.d (lII l)),(1,.d (cloB g [c0])),(6,.d (lII l)),(7,.d (I l.length)),(8,.d (I i))],[])) (fun i=>i<=l.length /\ ∀ j,j<i->p (l.getD j [])=false) (fun i=>l.length - i) 0
  ⟨rfl,trivial,wq rfl⟩ z0L fun i hi=>?_
 obtain⟨hi,ha⟩:=hi
 apply bY <;> intro h1
 ·have h1:i<l.length:=by have:=dT h1; omega
  refine⟨⟨rfl,by omega,by omega⟩,?_⟩
  refine cP (hp i h1) rfl rfl ?_
  apply bY <;> intro h2
  ·exact r1I rfl (zal [] h1 h2 ha).symm
  refine⟨i6,?_⟩
  refine⟨i+1,⟨rfl,trivial,wq rfl⟩,⟨h1,fun j hj=>?_⟩,(msr (by omega))⟩
  by_cases e:j=i
  ·subst e; exact h2
  exact ha j (by omega)
 have h1:i=l.length:=by have:=dF h1; omega
 subst h1
 exact r1I rfl (zaq [] ha).symm
theorem zkG (l:List (List Int)) (g:FuncId) (c0:D) (p:List Int->Bool) (hn:l.length<=1000000) (hp:∀ i,i<l.length->Spec PP g [.d (lI (l.getD i [])),.d c0] [B (p (l.getD i []))]):Spec PP 34 [.d (lII l),.d (cloB g [c0])] [B (l.any p)]:=by
 refine sA Tryz.func34 ?_
 refine cP (zkF l g c0 p hn hp) rfl rfl ?_
 refine r1B rfl ?_
 rw[kR,k9]
 exact zbM p l []
theorem zpF {a b:List Int} {n:Nat} {g:Nat->Nat->D} (hn:n=a.length) (hg:∀ i,i<b.length->g i 0=I (b.getD i 0)):D.eqv (.slc 1 (n+b.length) (appRow n (rowI a) g)) (.slc 1 (a++b).length (rowI (a++b))):=by
 subst hn
 refine⟨by simp,.inr ⟨rfl,fun i hi j hj=>?_⟩⟩
 obtain rfl:j=0:=by omega
 show D.eqv (appRow a.length (rowI a) g i 0) (I ((a++b).getD i 0))
 unfold appRow
 by_cases h:i<a.length
 ·rw[kH h,hZ,jJ h,<- hZ]
  exact dE _
 rw[kG h,hg _ (by have hi:i<a.length+b.length:=hi; omega),hZ (l:=a++b),jK (by omega),<- hZ]
 exact dE _
theorem zbP {p:List (List Int)} {i:Nat} (h:i<p.length):(p.take (i+1)).flatten=(p.take i).flatten++p.getD i []:=by
 rw[zav h [],List.flatten_append]; simp
theorem zfS (p:List (List Int)) (i:Nat):(p.take i).flatten.length<=p.flatten.length:=by
 have:p.flatten.length=(p.take i).flatten.length+(p.drop i).flatten.length:=by rw[<- jR,<- List.flatten_append,List.take_append_drop]
 omega
theorem zlS (ids:List Int) (p:List (List Int)) (hp:p.length<=1000000) (hf:p.flatten.length<=1000000):Spec PP 43 [.d (lI ids),.d (lII p)] [B (divB ids p)]:=by
 refine sA Tryz.func43 ?_
 refine lOf (σ:=Nat) (fun i=>([(0,.d (lI ids)),(1,.d (lII p)),(5,.own 5),(8,.d (lII p)),(9,.d (I p.length)),(10,.d (I i))],[(5,.row 3 1 (p.take i).flatten.length (rowI (p.take i).flatten))])) (fun i=>i<=p.length /\ ∀ j,j<i->setB (p.getD j [])=true/\fstB p j=true) (fun i=>p.length - i) 0
  ⟨rfl,⟨obR rfl ⟨rfl,.inl rfl⟩,trivial⟩,wq rfl⟩ z0L fun i hi=>?_
 obtain⟨hi,ha⟩:=hi
 have hl:=zfS p i
 apply bY <;> intro h1
 ·have h1:i<p.length:=by have:=dT h1; omega
  have hs1:(p.getD i []).length<=1000000:=by
   have:=zfS p (i+1)
   rw[zbP h1,jR] at this
   omega
  have no:¬ (setB (p.getD i [])=true/\fstB p i=true)->divB ids p=false:=fun h=>by
   unfold divB
   rw[Bool.and_eq_false_iff]; left
   rw[qK]
   intro hh
   have:=jC.1 hh i (kJ.2 h1)
   rw[jP] at this
   exact h this
  refine⟨⟨rfl,by omega,by omega⟩,?_⟩
  refine oN 20 ?_
  refine oP (zlR (p.getD i []) hs1) rfl rfl ?_
  apply bY <;> intro h2
  ·have h2:setB (p.getD i [])=false:=by simpa using h2
   repeat first | apply sT | apply sF
   exact r1B rfl (no fun h=>by rw[h2] at h; cases h.1).symm
  have h2:setB (p.getD i [])=true:=by simpa using h2
  have l2:=(zdM h2).2
  have l2':0<(p.getD ((i:Nat):Int).toNat []).length:=l2
  repeat first | apply sT | apply sF
  have cont:fstB p i=true->(∀ j,j<i+1->setB (p.getD j [])=true/\fstB p j=true):=fun h j hj=>by
   by_cases e:j=i
   ·subst e; exact⟨h2,h⟩
   exact ha j (by omega)
  have mx:(p.take i).flatten.length+(p.getD i []).length<=1000000:=by
   have:=zfS p (i+1)
   rw[zbP h1,jR] at this
   omega
  have mx':(p.take i).flatten.length+(p.getD ((i:Nat):Int).toNat []).length<=1000000:=mx
  apply bY <;> intro h3
  ·have h3:0<i:=by have:=dT h3; omega
   have ei:((i:Int) - 1).toNat=i - 1:=by omega
   have l3:=(zdM (ha (i - 1) (by omega)).1).2
   repeat first | apply sT | apply sF
   refine⟨⟨rfl,by omega,by omega⟩,?_⟩
   refine⟨i6,?_⟩
   refine⟨⟨rfl,by omega,by omega⟩,?_⟩
   refine⟨⟨rfl,by omega,by rw[ei]; show (0:Int)<((p.getD (i - 1) []).length:Int); omega⟩,?_⟩
   repeat first | apply sT | apply sF
   apply bY <;> intro h4
   ·have h4:(p.getD i []).getD 0 0<=(p.getD (i - 1) []).getD 0 0:=by have h4:=dT h4; rw[ei] at h4; exact h4
    repeat first | apply sT | apply sF
    refine r1B rfl (no fun h=>?_).symm
    have:=h.2
    unfold fstB at this
    rw[jH (by omega:¬ i=0),jao] at this
    have:=kQ this
    omega
   have h4:(p.getD (i - 1) []).getD 0 0<(p.getD i []).getD 0 0:=by have h4:=dF h4; rw[ei] at h4; have:¬ (p.getD i []).getD 0 0<=(p.getD (i - 1) []).getD 0 0:=h4; omega
   repeat first | apply sT | apply sF
   refine⟨⟨.inr rfl,by unfold maxLen; omega,by show ((p.take i).flatten.length+(p.getD ((i:Nat):Int).toNat []).length) * 8<=140737488355328; omega⟩,?_⟩
   refine⟨i6,?_⟩
   refine⟨i+1,⟨rfl,⟨obR rfl ?_,trivial⟩,wq rfl⟩,⟨h1,cont (by unfold fstB; rw[jG h4,kY])⟩,msr h1⟩
   rw[zbP h1]
   exact zpF rfl fun _ _=>rfl
  have h3:i=0:=by have:=dF h3; omega
  repeat first | apply sT | apply sF
  refine⟨⟨.inr rfl,by unfold maxLen; omega,by show ((p.take i).flatten.length+(p.getD ((i:Nat):Int).toNat []).length) * 8<=140737488355328; omega⟩,?_⟩
  refine⟨i6,?_⟩
  refine⟨i+1,⟨rfl,⟨obR rfl ?_,trivial⟩,wq rfl⟩,⟨h1,cont (by unfold fstB; rw[jG h3]; rfl)⟩,msr h1⟩
  rw[zbP h1]
  exact zpF rfl fun _ _=>rfl
 have h1:i=p.length:=by have:=dF h1; omega
 subst h1
 rw[jZ]
 have hs:(p.flatten.mergeSort fun x y=>decide (x<=y)).length=p.flatten.length:=qM _
 refine CallSt.rw' rfl (ziu p.flatten hf) ⟨⟨[],.tmp 39,[],[],rfl,rfl,rfl,rfl,rfl,rfl,rfl⟩⟩ rfl ?_
 refine pEq (s_EqI (p.flatten.mergeSort fun x y=>decide (x<=y)) ids (by omega)) rfl ⟨⟨hs.symm,.inr ⟨rfl,fun i _ j _=>dE _⟩⟩,dE _,trivial⟩ rfl ?_
 refine r1B rfl ?_
 have:(List.range p.length).all (fun i=>setB (p.getD i []) && fstB p i)=true:=jC.2 fun j hj=>by
  obtain⟨a1,a2⟩:=ha j (kJ.1 hj)
  rw[a1,a2]; rfl
 unfold divB
 rw[this,qI]
theorem zsW {d:Day} (h:DayOk d) (s:List Int) (hs:s.length<=1000000):Spec PP 44 [.d (lI s),.d (capB d.ds)] [B (!posB d s)]:=by
 refine sA Tryz.func44 ?_
 refine cR (zdB h s hs) rfl rfl ?_
 refine r1B rfl ?_
 unfold posB
 cases hl:(plsD d s).length with
 | zero=>rfl
 | succ n=>simp; omega
theorem zdh (d:Day) (p:List (List Int)) (hn:d.R.length<=1000000) (hp:p.length<=1000000) (hf:p.flatten.length<=1000000):Spec PP 15 [d.v,.d (lII p)] [.d (.int .i64 (cprR d p))]:=by
 refine sA Tryz.func15 ?_
 refine cP (zcd d hn) rfl rfl ?_
 unfold cprR
 apply bY <;> intro h0
 ·rw[kH (by simpa using h0)]
  exact r1I rfl rfl
 have h0:dayE d=0:=by simpa using h0
 have ok:=za5 h0
 rw[kG (fun hh=>hh h0)]
 refine cR (zaO d hn) rfl rfl ?_
 refine cP (zlS (sigL d.R) p hp hf) rfl rfl ?_
 have hm:∀ i,i<p.length->(p.getD i []).length<=1000000:=fun i hi=>by
  have:=zfS p (i+1)
  rw[zbP hi,jR] at this
  omega
 apply bY <;> intro h1
 ·have h1:divB (sigL d.R) p=false:=by simpa using h1
  rw[h1,qQ,kG (by decide)]
  repeat first | apply sT | apply sF
  exact r1I rfl rfl
 have h1:divB (sigL d.R) p=true:=by simpa using h1
 rw[h1,qI]
 refine fEq [2] (zkG p 44 (capB d.ds) (fun s=>!posB d s) hp fun i hi=>zsW ok _ (hm i hi)) rfl ⟨dE _,⟨rfl,rfl,fun j hj=>by obtain rfl:j=0:=jaH.1 hj; exact dE _⟩,trivial⟩ rfl ?_
 repeat first | apply sT | apply sF
 apply bY <;> intro h2
 ·have h2:(p.any fun s=>!posB d s)=true:=h2
  have:¬ p.all (posB d)=true:=fun h=>by
   obtain⟨s,hs1,hs2⟩:=kL.1 h2
   rw[jC.1 h s hs1] at hs2; cases hs2
  rw[kG this]
  exact r1I rfl rfl
 have h2:(p.any fun s=>!posB d s)=false:=h2
 have:p.all (posB d)=true:=jC.2 fun s hs=>by
  have:=jay.1 h2 s hs
  simpa using this
 rw[kH this]
 exact r1I rfl rfl
structure JnOk (j:Jns):Prop where
  F:j.F.length<=1000000
  M:j.M.length<=1000000
  f:∀ f∈j.F,f.IDs.length<=1000000
  m:∀ m∈j.M,m.IDs.length<=1000000/\m.R.length<=1000000
theorem JnOk.get {j:Jns} (h:JnOk j) {i:Nat} (hi:i<j.F.length):(j.F.getD i default).IDs.length<=1000000:=by
 refine h.f _ ?_
 rw[hZ,kF hi]; exact kS hi
abbrev Fit.ds (f:Fit):List D:=[lI f.IDs,I f.At.X,I f.At.Y]
abbrev Jns.ds (j:Jns):List D:=[lFt j.F,lMs j.M]
structure JnLt (n:Nat) (j:Jns):Prop where
  F:j.F.length<=n
  M:j.M.length<=n
  f:∀ f∈j.F,f.IDs.length<=n
  m:∀ m∈j.M,m.IDs.length<=n/\m.R.length<=n
theorem JnLt.ok {n:Nat} {j:Jns} (h:JnLt n j) (hn:n<=1000000):JnOk j:=⟨jM h.F hn,jM h.M hn,fun f hf=>jM (h.f f hf) hn,fun m hm=>⟨jM (h.m m hm).1 hn,jM (h.m m hm).2 hn⟩⟩
def smk1 (ids bs:List Int) (n:Nat) (o:List (List Int)) (i:Nat):List (List Int):=o.set (kOf bs n i) (o.getD (kOf bs n i) [] ++ [ids.getD i 0])
def smkK (ids bs:List Int) (n i:Nat):List (List Int):=(List.range i).foldl (smk1 ids bs n) (List.replicate n [])
theorem zdK (ids bs:List Int) (n i:Nat):smkK ids bs n (i+1)=smk1 ids bs n (smkK ids bs n i) i:=by
 unfold smkK
 rw[jab,wA]; rfl
theorem zcm (ids bs:List Int) (n:Nat):∀ i,(smkK ids bs n i).length=n
 | 0=>List.length_replicate
 | i+1=>by rw[zdK]; unfold smk1; rw[ja4]; exact zcm ids bs n i
def ownC:Nat->List AV
 | 1=>[.own 1001]
 | 2=>[.own 1001,.own 1002]
 | 3=>[.own 1001,.own 1002,.own 1003]
 | 4=>[.own 1001,.own 1002,.own 1003,.own 1004]
 | 5=>[.own 1001,.own 1002,.own 1003,.own 1004,.own 1005]
 | _=>[]
abbrev rwZ (l:List Int):Ob:=.row 3 1 l.length (rowI l)
abbrev ownR (g:Nat->List Int):List (Nat × Ob):=[(1001,rwZ (g 0)),(1002,rwZ (g 1)),(1003,rwZ (g 2)),(1004,rwZ (g 3)),(1005,rwZ (g 4))]
abbrev Tag (_:Nat):Prop:=True
abbrev fm {n:Nat} (_:Tag n):Nat:=n
theorem zmQ (ids bs:List Int) (n:Nat) (hi:ids.length<=7) (hn:0<n/\n<=5) (hb:∀ b∈bs,0<=b/\b<=255):Spec PP 13 [.d (lI ids),N n,.d (lU8 bs)] [.d (lII (smkK ids bs n ids.length))]:=by
 have hcase:n=1 \/ n=2 \/ n=3 \/ n=4 \/ n=5:=by omega
 refine zck [8,9,3000000011] Tryz.func13 rfl (by kernel_rfl) rfl ?_
 refine CusOb.make (n:=n) rfl rfl ⟨⟨by omega,rfl,by show n * 1<=16777216; omega,by show n * 24<=140737488355328; omega⟩,⟨rfl,rfl⟩,fun _ _=>rfl⟩ ?_
 have tg:Tag n:=trivial
 have ft:fm tg=n:=rfl
 rcases hcase with rfl | rfl | rfl | rfl | rfl
 all_goals
  have fe:0<fm tg/\fm tg<=5:=hn
  refine lOf (σ:=Nat × (Nat->List Int)) (fun x=>([(0,.d (lI ids)),(1,.d (I (fm tg))),(2,.d (lU8 bs)),(7,.bsl 11 (fm tg) (fm tg)),(8,.d (I x.1))],(11,.box (ownC (fm tg))) :: ownR x.2)) (fun x=>x.1<=ids.length/\(∀ m,m<fm tg->x.2 m=(smkK ids bs (fm tg) x.1).getD m []) /\ ∀ m,(x.2 m).length<=x.1) (fun x=>ids.length - x.1) (0,fun _=>[])
   ⟨rfl,⟨obYs rfl (by repeat' first | exact trivial | exact⟨rfl,_,_,_,rfl⟩ | refine⟨?_,?_⟩),obNz rfl,obNz rfl,obNz rfl,obNz rfl,obNz rfl,trivial⟩,wq rfl⟩ ⟨jF _,fun m hm=>by
    show []=(List.replicate (fm tg) []).getD m []
    rw[hZ,List.getElem?_replicate,kH hm]; rfl,fun m=>jE _⟩ fun x hx=>?_
  obtain⟨i,g⟩:=x
  obtain⟨i1,i2,i3⟩:=hx
  have i1:i<=ids.length:=i1
  have i2:∀ m,m<fm tg->g m=(smkK ids bs (fm tg) i).getD m []:=i2
  have i3:∀ m,(g m).length<=i:=i3
  apply bY <;> intro g1
  ·have g1:i<ids.length:=by have:=dT g1; omega
   have sl:=zcm ids bs (fm tg) i
   have nx:=zdK ids bs (fm tg) i
   unfold smk1 at nx
   obtain⟨k,hk⟩:∃ k,k=kOf bs (fm tg) i:=⟨_,rfl⟩
   have kl:k<fm tg:=by rw[hk]; exact zpp (by omega)
   rw[<- hk] at nx
   apply two_
   ·intro key
    apply bY <;> intro g2
    ·have g2:i<bs.length:=by have:=dT g2; omega
     have hbi:=hb _ (gd1 g2 0)
     refine⟨⟨rfl,by omega,(show (i:Int)<(bs.length:Int) by omega)⟩,?_⟩
     refine⟨(show ((fm tg:Nat):Int)≠0 by omega),?_⟩
     refine kAt [(0,.d (lI ids)),(1,.d (I (fm tg))),(2,.d (lU8 bs)),(7,.bsl 11 (fm tg) (fm tg)),(8,.d (I i)),(9,.d (I k))] ((11,.box (ownC (fm tg))) :: ownR g) ?_ ?_
     ·refine⟨rfl,⟨obX rfl,obR rfl (dE _),obR rfl (dE _),obR rfl (dE _),obR rfl (dE _),obR rfl (dE _),trivial⟩,avQ rfl,avQ rfl,avQ rfl,avQ rfl,avQ rfl,avI rfl ?_,trivial⟩
      show Int.tmod (IntKind.i64.wrap (bs.getD i 0)) ((fm tg:Nat):Int)=(k:Int)
      rw[zbt (show inR .i64 (bs.getD i 0) from i6),hk]
      unfold kOf
      rw[kH g2,qR hbi.1,Int.natCast_emod,Int.toNat_of_nonneg hbi.1]
     exact key.out
    have g2:¬ i<bs.length:=by have:=dF g2; omega
    refine kAt [(0,.d (lI ids)),(1,.d (I (fm tg))),(2,.d (lU8 bs)),(7,.bsl 11 (fm tg) (fm tg)),(8,.d (I i)),(9,.d (I k))] ((11,.box (ownC (fm tg))) :: ownR g) ?_ ?_
    ·refine⟨rfl,⟨obX rfl,obR rfl (dE _),obR rfl (dE _),obR rfl (dE _),obR rfl (dE _),obR rfl (dE _),trivial⟩,avQ rfl,avQ rfl,avQ rfl,avQ rfl,avQ rfl,avI rfl ?_,trivial⟩
     rw[hk]
     unfold kOf
     rw[kG g2]; rfl
    exact key.out
   have hk5:k=0 \/ k=1 \/ k=2 \/ k=3 \/ k=4:=by omega
   clear hk
   have tk:Tag k:=trivial
   rcases hk5 with rfl | rfl | rfl | rfl | rfl
   all_goals first | (exfalso; omega) | skip
   all_goals
    refine oL [2,3,4,5,6,7,8,9,10,1000,1001,11,12,13] (fNo ?_)
    refine⟨⟨by omega,by omega⟩,?_⟩
    refine⟨⟨rfl,by omega,(show (i:Int)<(ids.length:Int) by omega)⟩,?_⟩
    refine⟨rfl,⟨rfl,?_⟩⟩
    refine⟨rfl,⟨rfl,?_⟩⟩
    refine⟨⟨.inr rfl,?_,?_⟩,?_⟩
    ·have:=i3 0; have:=i3 1; have:=i3 2; have:=i3 3; have:=i3 4
     show _+1<=maxLen
     unfold maxLen; omega
    ·have:=i3 0; have:=i3 1; have:=i3 2; have:=i3 3; have:=i3 4
     show (_+1) * 8<=140737488355328
     omega
    refine⟨⟨by omega,by omega⟩,?_⟩
    refine⟨i6,?_⟩
    refine⟨(i+1,fun m=>if m=fm tk then g (fm tk) ++ [ids.getD i 0] else g m),⟨rfl,⟨obX rfl,?_,?_,?_,?_,?_,trivial⟩,wq rfl⟩,⟨g1,fun m hm=>?_,fun m=>?_⟩,msr g1⟩
    iterate 5 (first | exact obR rfl (dE _) | exact obR rfl (zqw rfl))
    ·show (if m=fm tk then g (fm tk) ++ [ids.getD i 0] else g m)=(smkK ids bs (fm tg) (i+1)).getD m []
     rw[nx,zbO _ _ _ _ _ (by rw[sl]; exact kl)]
     by_cases e:m=fm tk
     ·rw[kH e,kH e,i2 _ kl]
     rw[kG e,kG e,i2 m hm]
    show (if m=fm tk then g (fm tk) ++ [ids.getD i 0] else g m).length<=i+1
    have h1:=i3 m
    have h2:=i3 (fm tk)
    split
    ·rw[jR,wC]; omega
    omega
  have g1:i=ids.length:=by have:=dF g1; omega
  subst g1
  refine kAt [(7,.d (lII (smkK ids bs (fm tg) ids.length)))] [] ⟨rfl,trivial,avBs rfl rfl rfl (zcm _ _ _ _) (fun j hj=>?_),trivial⟩ ?_
  ·have hj5:j=0 \/ j=1 \/ j=2 \/ j=3 \/ j=4:=by omega
   rcases hj5 with rfl | rfl | rfl | rfl | rfl
   all_goals first | (exfalso; omega) | skip
   all_goals exact⟨_,rfl,rfl,_,_,_,_,rfl,by rw[<- i2 _ hj]; exact dE _⟩
  exact⟨dE _,trivial⟩
theorem zor {l:List Int} {i:Nat} {x:Int} (h:i<l.length):(l.take (i+1)).contains x=((l.take i).contains x || (l.getD i 0==x)):=by
 rw[kR,jX,kD,kD,zav h 0,kN,kI,jaI]
 exact or_congr jbt ⟨fun h=>h.symm,fun h=>h.symm⟩
theorem zkk (a b:List Int) (ha:a.length<=1000000) (hb:b.length<=1000000):Spec PP 41 [.d (lI a),.d (lI b)] [B (partB a b)]:=by
 refine sA Tryz.func41 ?_
 refine lOf (σ:=Nat) (fun i=>([(0,.d (lI a)),(1,.d (lI b)),(5,.d (I i))],[])) (fun i=>i<=a.length /\ ∀ q,q<i->b.contains (a.getD q 0)=true) (fun i=>a.length - i) 0
  ⟨rfl,trivial,wq rfl⟩ z0L fun i hi=>?_
 obtain⟨hi,hal⟩:=hi
 apply bY <;> intro h1
 ·have h1:i<a.length:=by have:=dT h1; omega
  refine lOf (σ:=Nat) (fun k=>([(0,.d (lI a)),(1,.d (lI b)),(5,.d (I i)),(6,.d (.bool ((b.take k).contains (a.getD i 0)))),(7,.d (I k))],[])) (fun k=>k<=b.length) (fun k=>b.length - k) 0
   ⟨rfl,trivial,wq rfl⟩ (jF _) fun k hk=>?_
  have hk:k<=b.length:=hk
  apply bY <;> intro h2
  ·have h2:k<b.length:=by have:=dT h2; omega
   have hs:=zor (x:=a.getD i 0) h2
   refine oN 13 ?_
   cases h3:(b.take k).contains (a.getD i 0) with
   | true=>
    repeat first | apply sT | apply sF
    refine⟨i6,?_⟩
    refine⟨k+1,⟨rfl,trivial,avQ rfl,avQ rfl,avQ rfl,avQ ?_,avQ rfl,trivial⟩,h2,msr h2⟩
    rw[hs,h3]; rfl
   | false=>
   repeat first | apply sT | apply sF
   refine⟨⟨rfl,by omega,by omega⟩,?_⟩
   refine⟨⟨rfl,by omega,by omega⟩,?_⟩
   repeat first | apply sT | apply sF
   refine⟨i6,?_⟩
   refine⟨k+1,⟨rfl,trivial,avQ rfl,avQ rfl,avQ rfl,avQ ?_,avQ rfl,trivial⟩,h2,msr h2⟩
   rw[hs,h3]; rfl
  have h2:k=b.length:=by have:=dF h2; omega
  subst h2
  rw[jZ]
  cases h3:b.contains (a.getD i 0) with
  | true=>
   repeat first | apply sT | apply sF
   refine⟨i6,?_⟩
   refine⟨i+1,⟨rfl,trivial,wq rfl⟩,⟨h1,fun q hq=>?_⟩,msr h1⟩
   by_cases e:q=i
   ·subst e; exact h3
   ·exact hal q (by omega)
  | false=>
  repeat first | apply sT | apply sF
  refine r1B rfl ?_
  symm
  rw[qK]
  intro hh
  have:=jC.1 hh _ (gd1 h1 0)
  rw[h3] at this; cases this
 have h1:i=a.length:=by have:=dF h1; omega
 subst h1
 refine r1B rfl ?_
 symm
 refine jC.2 fun x hx=>?_
 obtain⟨q,hq,rfl⟩:=kO hx
 have:=hal q hq
 rwa [hZ,kF hq] at this
structure Rl where
  At:Place
  Z:List Int
  deriving Inhabited
abbrev Rl.ds (x:Rl):List D:=[I x.At.X,I x.At.Y,lI x.Z]
abbrev Rl.v (x:Rl):V1:=.agg x.ds
@[irreducible] def det (g h:Half):Int:=g.A * h.B - h.A * g.B
abbrev Form:=Place
@[irreducible] def value (f:Form) (p:Corner):Frac:=let n:=f.X * p.X+f.Y * p.Y; let g:Int:=gcdL [n,p.Den]; ⟨n.tdiv g,p.Den.tdiv g⟩
def sidesL:List Half:=[⟨-1,0,0⟩,⟨1,0,48⟩,⟨0,-1,0⟩,⟨0,1,48⟩]
def leC (p q:Corner):Prop:=p.X * q.Den<q.X * p.Den \/ (p.X * q.Den=q.X * p.Den/\p.Y * q.Den<=q.Y * p.Den)
theorem zgc {p:Corner} (h:valid p=true):Nat.gcd (Nat.gcd p.X.natAbs p.Y.natAbs) p.Den.natAbs=1:=by
 unfold valid at h
 simp only[jP,jaI] at h
 have:=h.2
 simp only[gcdL,jal,List.foldl_nil,Nat.gcd_zero_left] at this
 exact_mod_cast this
theorem zgz {p q:Corner} (hp:valid p=true) (hq:valid q=true) (h1:leC p q) (h2:leC q p):p=q:=by
 have dp:=(zlk hp).d
 have dq:=(zlk hq).d
 have ex:p.X * q.Den=q.X * p.Den:=by unfold leC at *; omega
 have ey:p.Y * q.Den=q.Y * p.Den:=by unfold leC at *; omega
 have nx:p.X.natAbs * q.Den.natAbs=q.X.natAbs * p.Den.natAbs:=by rw[<- Int.natAbs_mul,<- Int.natAbs_mul,ex]
 have ny:p.Y.natAbs * q.Den.natAbs=q.Y.natAbs * p.Den.natAbs:=by rw[<- Int.natAbs_mul,<- Int.natAbs_mul,ey]
 have g1:Nat.gcd (Nat.gcd (p.X.natAbs * q.Den.natAbs) (p.Y.natAbs * q.Den.natAbs)) (p.Den.natAbs * q.Den.natAbs)=q.Den.natAbs:=by
  rw[Nat.gcd_mul_right,Nat.gcd_mul_right,zgc hp,Nat.one_mul]
 have g2:Nat.gcd (Nat.gcd (q.X.natAbs * p.Den.natAbs) (q.Y.natAbs * p.Den.natAbs)) (q.Den.natAbs * p.Den.natAbs)=p.Den.natAbs:=by
  rw[Nat.gcd_mul_right,Nat.gcd_mul_right,zgc hq,Nat.one_mul]
 rw[nx,ny,qG p.Den.natAbs,g2] at g1
 have ed:p.Den=q.Den:=by omega
 have hx:p.X=q.X:=by
  rw[ed] at ex
  exact Int.eq_of_mul_eq_mul_right (by omega) ex
 have hy:p.Y=q.Y:=by
  rw[ed] at ey
  exact Int.eq_of_mul_eq_mul_right (by omega) ey
 cases p; cases q; simp_all
abbrev VC:={ p:Corner // valid p=true }
instance inhVC:Inhabited VC:=⟨⟨⟨0,0,1⟩,by unfold valid within; decide⟩⟩
theorem VC.den (p:VC):0<p.1.Den:=by have:=(zlk p.2).d; omega
abbrev Num.v (x:Num):V1:=.agg [I x.n,I x.h.A,I x.h.B,I x.h.C]
def Num.val (x:Num):Value:=.agg #[.int .i64 x.n,.int .i64 x.h.A,.int .i64 x.h.B,.int .i64 x.h.C]
def Num.sl (l:List Num):D:=.slc 4 l.length fun i=>(l.getD i default).at
@[irreducible] def keepC (l:List Corner) (i:Nat):Bool:=i==0 || !(l.getD i default==l.getD (i - 1) default)
theorem keep0 (l:List Corner) {i:Nat} (h:i<1):keepC l i=true:=by
 obtain rfl:i=0:=by omega
 unfold keepC; rfl
theorem zgZ {l:List Half} (h:checkL l=0):l.length<=40/\(∀ x∈l,fit x=true) /\ ∀ x∈l,okH x:=by
 unfold checkL at h
 split at h
 ·cases h
 split at h
 ·rename_i h1 h2
  have h3:∀ x∈l,fit x=true:=jC.1 h2
  exact⟨by omega,h3,fun x hx=>zsH (h3 x hx)⟩
 cases h
def most (h:Half):Int:=max (max (max h.A (-h.A)) h.B) (-h.B)
@[irreducible] def opp (g h:Half):Bool:=det g h==0 && decide (g.A * h.A+g.B * h.B<0)
@[irreducible] def scS (g h:Half):Int:=if opp g h=true then most h else 0
@[irreducible] def scT (g h:Half):Int:=if opp g h=true then most g else 0
@[irreducible] def two (g h:Num):Option (List Use):=if opp g.h h.h=true/\scS g.h h.h * g.h.C+scT g.h h.h * h.h.C<0 then some [⟨g.n,scS g.h h.h⟩,⟨h.n,scT g.h h.h⟩] else none
@[irreducible] def flip (n m:Int):Int:=if n<0 then -m else m
abbrev cut (L:List Num) (i:Nat):D:=.slc 4 i fun i=>(L.getD i default).at
abbrev rowU (l:List Use):Nat->Nat->D:=fun i=>(l.getD i default).at
end Go.Pg
