/- Texts joined and shortened by program. -/
import Derived.Test.YtcgbaefojdoicaaGreatRD
import Derived.Test.YtcgbaefojdoicaaGreatR6
import Derived.Test.YtcgbaefojdoicaaGreatRC
import Derived.Test.YtcgbaefojdoicaaGreatRA
import Derived.Test.YtcgbaefojdoicaaGreatRB
import Derived.Test.YtcgbaefojdoicaaGreatR9
import Derived.Test.YtcgbaefojdoicaaGreatR8
import Derived.WideKeyRuns
set_option maxHeartbeats 4000000
set_option linter.all false
set_option maxRecDepth 100000
namespace Go.Pg
open Go.Proofs Go.RowKit Go.Sort Go.Shelf
abbrev rowN (l:List Nat):Nat->Nat->D:=fun i _=>I ((l.getD i 0:Nat):Int)
theorem pushN {l:List Nat} {x n:Nat} {g:Nat->Nat->D} (hn:n=l.length) (hg:D.eqv (g 0 0) (I x)):D.eqv (.slc 1 (n+1) (appRow n (rowN l) g)) (.slc 1 (l ++ [x]).length (rowN (l ++ [x]))):=by
 subst hn
 refine⟨by simp,.inr ⟨rfl,fun i hi j hj=>?_⟩⟩
 obtain rfl:j=0:=by omega
 show D.eqv (appRow l.length (rowN l) g i 0) (I (((l ++ [x]).getD i 0:Nat):Int))
 unfold appRow
 by_cases h:i<l.length
 ·rw[kH h,hZ,jJ h,<- hZ]
  exact dE _
 have e:i=l.length:=by omega
 subst e
 rw[kG h,kE,hZ,jK (jE _),kE]
 exact hg
def mst (ix:List Nat):Nat:=ix.foldl (fun a k=>max a (k+1)) 0
theorem zdf (ix:List Nat) (k:Nat):mst (ix ++ [k])=max (mst ix) (k+1):=by unfold mst; rw[jab]; rfl
def bit1 (o:List Nat) (i k:Nat):List Nat:=if k<o.length then o.set k (o.getD k 0+2 ^ i) else o ++ [2 ^ i]
def bitK (ix:List Nat) (i:Nat):List Nat:=(List.range i).foldl (fun o i=>bit1 o i (ix.getD i 0)) []
def bitX (ix:List Nat):List Nat:=bitK ix ix.length
theorem zbq (ix:List Nat) (i:Nat):bitK ix (i+1)=bit1 (bitK ix i) i (ix.getD i 0):=by
 unfold bitK
 rw[qP,jab]; rfl
def Rg (ix:List Nat):Prop:=∀ i,i<ix.length->ix.getD i 0<=mst (ix.take i)
theorem Rg.snoc {ix:List Nat} {k:Nat} (h:Rg ix) (hk:k<=mst ix):Rg (ix ++ [k]):=fun i hi=>by
 rw[jR,qZ] at hi
 by_cases e:i<ix.length
 ·rw[hZ,jJ e,<- hZ,List.take_append_of_le_length (by omega)]
  exact h i e
 have e:i=ix.length:=by omega
 subst e
 rw[hZ,jK (jE _),kE,List.take_append_of_le_length (jE _),jZ]
 exact hk
theorem zde {ix:List Nat} {i:Nat} (h:i<ix.length):mst (ix.take (i+1))=max (mst (ix.take i)) (ix.getD i 0+1):=by rw[zaE h 0,zdf]
theorem zbE {ix:List Nat} (h:Rg ix):∀ i,i<=ix.length->(bitK ix i).length=mst (ix.take i)
 | 0,_=>rfl
 | i+1,hi=>by
  have ih:=zbE h i (by omega)
  have:=h i (by omega)
  rw[zbq,zde (by omega)]
  unfold bit1
  split
  ·rw[jaU]; omega
  rw[jR,qZ]; omega
theorem zbD (ix:List Nat):∀ i,∀ x∈bitK ix i,0<x/\x<2 ^ i
 | 0,x,h=>by cases h
 | i+1,x,h=>by
  rw[zbq] at h
  have hp:2 ^ (i+1)=2 ^ i+2 ^ i:=by rw[Nat.pow_succ]; omega
  have h1:=Nat.two_pow_pos i
  unfold bit1 at h
  split at h
  ·rename_i hk
   rcases jbw h with h | rfl
   ·have:=zbD ix i x h; omega
   have:(bitK ix i).getD (ix.getD i 0) 0∈bitK ix i:=by rw[hZ,kF hk]; exact kQ hk
   have:=zbD ix i _ this; omega
  rcases qE.1 h with h | h
  ·have:=zbD ix i x h; omega
  rw[kL.1 h]; omega
theorem zge (ix:List Nat) {i:Nat} (h:Rg ix) (hi:i<=ix.length):mst (ix.take i)<=i:=by
 induction i with
 | zero=>simp[mst]
 | succ i ih=>
 have:=ih (by omega)
 have:=h i (by omega)
 rw[zde (by omega)]; omega
theorem ziD {l:List Nat} {k j x:Nat} (hk:k<l.length):(l.set k x).getD j 0=if j=k then x else l.getD j 0:=by
 rw[hZ,List.getElem?_set]
 by_cases e:j=k
 ·subst e; rw[kH rfl,kH hk,kH rfl]; rfl
 rw[kG (fun h=>e h.symm),kG e,<- hZ]
theorem setN {l:List Nat} {k x:Nat} {n:Nat} {f:Nat->Nat->D} (hk:k<l.length) (hf:D.eqv (.slc 1 n f) (.slc 1 l.length (rowN l))):D.eqv (.slc 1 n (storeRow f k 0 [I (x:Int)])) (.slc 1 (l.set k x).length (rowN (l.set k x))):=by
 obtain⟨e,h⟩:=hf
 refine⟨by rw[jaU]; exact e,.inr ⟨rfl,fun i hi j hj=>?_⟩⟩
 obtain rfl:j=0:=by omega
 show D.eqv (storeRow f k 0 [I (x:Int)] i 0) (I (((l.set k x).getD i 0:Nat):Int))
 rw[ziD hk]
 unfold storeRow
 by_cases e1:i=k
 ·subst e1
  rw[kH ⟨rfl,jE _,by simp⟩,kH rfl]
  exact dE _
 rw[kG (fun hh=>e1 hh.1),kG e1]
 rcases h with h | ⟨_,h⟩
 ·omega
 exact h i hi 0 (by omega)
theorem zcm (ix:List Nat) (hr:Rg ix) (hn:ix.length<=7):Spec PP 111 [.d (lN ix)] [.d (lN (bitX ix))]:=by
 refine zbU [7] Tryz.func111 rfl (by kernel_rfl) rfl ?_
 refine LoopOb.of (σ:=Nat) (fun i=>([(0,.d (lN ix)),(3,.own 3),(4,.d (I i))],[(3,.row 3 1 (bitK ix i).length (rowN (bitK ix i)))])) (fun i=>i<=ix.length) (fun i=>ix.length - i) 0
  ⟨rfl,⟨obR rfl ⟨rfl,.inl rfl⟩,trivial⟩,wq rfl⟩ (jF _) fun i hi=>?_
 have hi:i<=ix.length:=hi
 have hl:=zbE hr i hi
 have hm:=zge ix hr hi
 apply bY <;> intro h1
 ·have h1:i<ix.length:=by have:=dT h1; omega
  have hk:=hr i h1
  have es:IntKind.wrap .i64 (1 * 2 ^ (min ((i:Nat):Int).toNat (IntKind.bits .i64)))=((2 ^ i:Nat):Int):=bShl (by omega)
  have h2i:2 ^ i<=2 ^ 7:=jai (by decide) (by omega)
  have e1:((i:Nat):Int).toNat=i:=jac i
  refine⟨⟨rfl,by omega,by omega⟩,?_⟩
  apply bY <;> intro h2
  ·have h2:ix.getD i 0=(bitK ix i).length:=by
    have h2:((ix.getD i 0:Nat):Int)=((bitK ix i).length:Int):=by simpa using h2
    omega
   have eb:bitK ix (i+1)=(bitK ix i ++ [0]).set (ix.getD i 0) ((bitK ix i ++ [0]).getD (ix.getD i 0) 0+2 ^ i):=by
    rw[zbq,bit1,kG (by omega),h2,List.set_append_right _ _ (jE _),kE,hZ,jK (jE _),kE]
    show _=_ ++ [0+2 ^ i]
    rw[kU]
   refine⟨⟨.inr rfl,by unfold maxLen; omega,by show ((bitK ix i).length+1) * 8<=140737488355328; omega⟩,?_⟩
   refine CutOb.at [(0,.d (lN ix)),(3,.own 3),(4,.d (I i))] [(3,.row 3 1 (bitK ix i ++ [0]).length (rowN (bitK ix i ++ [0])))] ⟨rfl,⟨obR rfl (pushN (l:=bitK ix i) (x:=0) rfl (by exact⟨rfl,rfl⟩)),trivial⟩,wq rfl⟩ ?_
   have hlo:ix.getD i 0<(bitK ix i ++ [0]).length:=by rw[h2,jR]; exact Nat.lt_succ_self _
   have hx:(bitK ix i ++ [0]).getD (ix.getD i 0) 0<2 ^ i:=by rw[h2,hZ,jK (jE _),kE]; exact Nat.two_pow_pos i
   generalize bitK ix i ++ [0]=o at hlo hx eb
   refine oL (List.range 17) (FzOb.no ?_)
   refine⟨⟨rfl,by omega,by omega⟩,?_⟩
   refine⟨⟨rfl,by omega,by omega⟩,?_⟩
   refine⟨⟨by omega,by show ((ix.getD i 0:Nat):Int)<(o.length:Int); omega⟩,?_⟩
   refine⟨by show (((ix.getD i 0:Nat):Int)).toNat<o.length; omega,?_⟩
   refine⟨by omega,?_⟩
   refine⟨by rw[es]; show inR .i64 (((o.getD (((ix.getD i 0:Nat):Int)).toNat 0:Nat):Int)+((2 ^ i:Nat):Int)); rw[jac]; exact i6,?_⟩
   refine⟨⟨by omega,by show ((ix.getD i 0:Nat):Int)<(o.length:Int); omega⟩,?_⟩
   refine⟨by show (((ix.getD i 0:Nat):Int)).toNat<o.length; omega,?_⟩
   refine⟨i6,?_⟩
   refine⟨i+1,⟨rfl,⟨obR rfl ?_,trivial⟩,wq rfl⟩,h1,msr h1⟩
   rw[eb]
   have:=setN (x:=o.getD (ix.getD i 0) 0+2 ^ i) hlo (dE (.slc 1 o.length (rowN o)))
   rw[Int.natCast_add] at this
   rw[<- es] at this
   exact this
  have h2:ix.getD i 0<(bitK ix i).length:=by
   have h2:¬ ((ix.getD i 0:Nat):Int)=((bitK ix i).length:Int):=by simpa using h2
   omega
  have eb:bitK ix (i+1)=(bitK ix i).set (ix.getD i 0) ((bitK ix i).getD (ix.getD i 0) 0+2 ^ i):=by rw[zbq,bit1,kH h2]
  refine CutOb.at [(0,.d (lN ix)),(3,.own 3),(4,.d (I i))] [(3,.row 3 1 (bitK ix i).length (rowN (bitK ix i)))] ⟨rfl,⟨obR rfl (dE _),trivial⟩,wq rfl⟩ ?_
  have hlo:ix.getD i 0<(bitK ix i).length:=by omega
  have hx:(bitK ix i).getD (ix.getD i 0) 0<2 ^ i:=by have:(bitK ix i).getD (ix.getD i 0) 0∈bitK ix i:=(by rw[hZ,kF (by omega)]; exact kQ _); exact (zbD ix i _ this).2
  generalize bitK ix i=o at hlo hx eb
  refine oL (List.range 17) (FzOb.no ?_)
  refine⟨⟨rfl,by omega,by omega⟩,?_⟩
  refine⟨⟨rfl,by omega,by omega⟩,?_⟩
  refine⟨⟨by omega,by show ((ix.getD i 0:Nat):Int)<(o.length:Int); omega⟩,?_⟩
  refine⟨by show (((ix.getD i 0:Nat):Int)).toNat<o.length; omega,?_⟩
  refine⟨by omega,?_⟩
  refine⟨by rw[es]; show inR .i64 (((o.getD (((ix.getD i 0:Nat):Int)).toNat 0:Nat):Int)+((2 ^ i:Nat):Int)); rw[jac]; exact i6,?_⟩
  refine⟨⟨by omega,by show ((ix.getD i 0:Nat):Int)<(o.length:Int); omega⟩,?_⟩
  refine⟨by show (((ix.getD i 0:Nat):Int)).toNat<o.length; omega,?_⟩
  refine⟨i6,?_⟩
  refine⟨i+1,⟨rfl,⟨obR rfl ?_,trivial⟩,wq rfl⟩,h1,msr h1⟩
  rw[eb]
  have:=setN (x:=o.getD (ix.getD i 0) 0+2 ^ i) hlo (dE (.slc 1 o.length (rowN o)))
  rw[Int.natCast_add] at this
  rw[<- es] at this
  exact this
 have h1:i=ix.length:=by have:=dF h1; omega
 subst h1
 exact⟨⟨_,_,_,_,rfl,rfl,.inr ⟨rfl,fun i _ j _=>dE _⟩⟩,trivial⟩
abbrev lNN (l:List (List Nat)):D:=.slc 1 l.length fun i _=>lN (l.getD i [])
abbrev rowNN (l:List (List Nat)):Nat->Nat->D:=fun i _=>lN (l.getD i [])
theorem zoN {l:List (List Nat)} {x:List Nat} {n:Nat} {g:Nat->Nat->D} (hn:n=l.length) (hg:D.eqv (g 0 0) (lN x)):D.eqv (.slc 1 (n+1) (appRow n (rowNN l) g)) (.slc 1 (l ++ [x]).length (rowNN (l ++ [x]))):=by
 subst hn
 refine⟨by simp,.inr ⟨rfl,fun i hi j hj=>?_⟩⟩
 obtain rfl:j=0:=by omega
 show D.eqv (appRow l.length (rowNN l) g i 0) (lN ((l ++ [x]).getD i []))
 unfold appRow
 by_cases h:i<l.length
 ·rw[kH h,hZ,jJ h,<- hZ]
  exact dE _
 have e:i=l.length:=by omega
 subst e
 rw[kG h,kE,hZ,jK (jE _),kE]
 exact hg
def gwX (p:Nat->Bool) (r:Nat) (ix:List Nat):List (List Nat):=((rgs r (mst ix)).map (ix ++ ·)).filter fun iy=>(bitX iy).all p
def gwK (p:Nat->Bool) (r:Nat) (ix:List Nat) (k:Nat):List (List Nat):=(List.range k).flatMap fun j=>gwX p r (ix ++ [j])
theorem ziC (p:Nat->Bool) (r:Nat) (ix:List Nat) (k:Nat):gwK p r ix (k+1)=gwK p r ix k++gwX p r (ix ++ [k]):=by
 unfold gwK
 rw[qP,ja2]; simp
theorem ze5 (r m:Nat):rgs (r+1) m=(List.range (m+1)).flatMap fun k=>(rgs r (max m (k+1))).map (k :: ·):=by
 show _++_=_
 rw[qP,ja2,List.flatMap_cons,List.flatMap_nil,jah,Nat.max_eq_right (Nat.le_succ m)]
 congr 1
 exact zbx fun k hk=>by rw[Nat.max_eq_left (kK.1 hk)]
theorem znP (p:Nat->Bool) (r:Nat) (ix:List Nat):gwX p (r+1) ix=gwK p r ix (mst ix+1):=by
 unfold gwX gwK
 rw[ze5,List.map_flatMap,List.filter_flatMap]
 refine zbx fun k hk=>?_
 unfold gwX
 rw[zdf,jbb]
 congr 2
 funext iy
 show ix++k :: iy=ix ++ [k]++iy
 simp
theorem zly (p:Nat->Bool) (r:Nat) (ix:List Nat):(gwX p r ix).length<=(rgs r (mst ix)).length:=by
 unfold gwX
 exact jM (kX _ _) (by rw[kS]; exact jE _)
def gwN (r:Nat) (ix:List Nat) (k:Nat):Nat:=((List.range k).flatMap fun j=>rgs r (mst (ix ++ [j]))).length
theorem zfA (r:Nat) (ix:List Nat) (k:Nat):gwN r ix (k+1)=gwN r ix k+(rgs r (mst (ix ++ [k]))).length:=by
 unfold gwN
 rw[qP,ja2,jR]; simp
theorem ziB (r:Nat) (ix:List Nat):∀ {k m:Nat},k<=m->gwN r ix k<=gwN r ix m
 | k,0,h=>by rw[Nat.le_zero.1 h]; exact jE _
 | k,m+1,h=>by
  by_cases e:k=m+1
  ·subst e; exact jE _
  have:=ziB r ix (show k<=m by omega)
  rw[zfA]; omega
theorem zqL (r:Nat) (ix:List Nat):gwN r ix (mst ix+1)=(rgs (r+1) (mst ix)).length:=by
 unfold gwN
 rw[ze5,List.length_flatMap,List.length_flatMap]
 congr 1
 refine qF fun k _=>?_
 rw[zdf,kS]
theorem zlz (p:Nat->Bool) (r:Nat) (ix:List Nat):∀ k,(gwK p r ix k).length<=gwN r ix k
 | 0=>jF _
 | k+1=>by
  have:=zlz p r ix k
  have:=zly p r (ix ++ [k])
  rw[ziC,zfA,jR]; omega
abbrev obG (L:List (List Nat)):List (Nat × Ob):=[(5,.box [.own 42]),(42,.row 22 1 L.length (rowNN L))]
theorem snocN {l:List Nat} {k n:Nat} {F f:Nat->Nat->D} (hn:n=l.length) (hF:∀ a,a<l.length->F a 0=I ((l.getD a 0:Nat):Int)) (h:f 0 0=I (k:Int)):D.eqv (.slc 1 (n+1) (appRow n F f)) (lN (l ++ [k])):=by
 subst hn
 refine⟨by simp,.inr ⟨rfl,fun i hi j hj=>?_⟩⟩
 obtain rfl:j=0:=by omega
 show D.eqv (appRow l.length F f i 0) (I (((l ++ [k]).getD i 0:Nat):Int))
 unfold appRow
 by_cases h1:i<l.length
 ·rw[kH h1,hF i h1,hZ,hZ,jJ h1]
  exact dE _
 have e:i=l.length:=by omega
 subst e
 rw[kG h1,kE,h,hZ,jK (jE _),kE]
 exact dE _
theorem wkA {s:St} {sl:List (Nat × AV)} {obs rest l:List (Nat × Ob)} (e:obs++rest=l) (h:Weak s sl l):Weak s sl (obs++rest):=e ▸ h
theorem zoU (p:Nat->Bool) (n:Nat) (hn:n<=7):∀ (r:Nat) (ix:List Nat) (L:List (List Nat)),ix.length+r=n->Rg ix->L.length+(rgs r (mst ix)).length<=1000000 ->
  SpecM PP 112 [.d (lBo (2 ^ n) p),.d (lN ix),.d (I n),.box 5 0] (obG L) (obG (L++gwX p r ix)) [5] []
 | 0,ix,L,hl,hr,hb=>by
  have hl:ix.length=n:=hl
  have hlen:(rgs 0 (mst ix)).length=1:=rfl
  have eg:gwX p 0 ix=if (bitX ix).all p=true then [ix] else []:=by
   show List.filter _ [ix ++ []]=_
   rw[jah]
   cases h:(bitX ix).all p <;> simp[h]
  refine zhU [2000000040,2000000069] Tryz.func112 rfl (by kernel_rfl) [] [(3,5)] rfl rfl rfl (by decide) rfl fun γ=>?_
  refine Split.yes (by rw[hl]; simp) ?_
  refine CallSt.ro (zcm ix hr (by omega)) rfl rfl ?_
  have hx:∀ x∈bitX ix,x<2 ^ n:=fun x hx=>by rw[<- hl]; exact (zbD ix _ x hx).2
  have hbl:(bitX ix).length<=7:=by
   have:=zbE hr ix.length (jE _)
   have h2:=zge ix hr (jE _)
   show (bitK ix ix.length).length<=7
   omega
  refine LoopOb.of (σ:=Nat) (fun i=>([(0,.d (lBo (2 ^ n) p)),(1,.d (lN ix)),(3,.pbox 5 (γ 5)),(8,.d (lN (bitX ix))),(9,.d (I i))],obG L)) (fun i=>i<=(bitX ix).length /\ ∀ j,j<i->p ((bitX ix).getD j 0)=true) (fun i=>(bitX ix).length - i) 0
   ⟨rfl,⟨obX rfl,obR rfl (dE _),trivial⟩,wq rfl⟩ z0L fun i hi=>?_
  obtain⟨hi,ha⟩:=hi
  apply bY <;> intro h1
  ·have h1:i<(bitX ix).length:=by have:=dT h1; omega
   have hb1:(bitX ix).getD i 0<2 ^ n:=hx _ (by rw[hZ,kF h1]; exact kQ h1)
   refine⟨⟨rfl,by omega,by omega⟩,?_⟩
   refine⟨⟨rfl,by omega,by show (((bitX ix).getD i 0:Nat):Int)<((2 ^ n:Nat):Int); omega⟩,?_⟩
   apply bY <;> intro h2
   ·have h2:p ((bitX ix).getD i 0)=false:=by
     have h2:(!p ((bitX ix).getD i 0))=true:=h2
     simpa using h2
    have e0:¬ (bitX ix).all p=true:=fun hh=>by
     have:=jC.1 hh ((bitX ix).getD i 0) (by rw[hZ,kF h1]; exact kQ h1)
     rw[h2] at this; cases this
    rw[eg,kG e0,jah]
    exact⟨rfl,⟨obX rfl,obR rfl (dE _),trivial⟩,⟨rfl,rfl⟩,trivial⟩
   have h2:p ((bitX ix).getD i 0)=true:=by
    have h2:(!p ((bitX ix).getD i 0))=false:=h2
    simpa using h2
   refine⟨i6,?_⟩
   refine⟨i+1,⟨rfl,⟨obX rfl,obR rfl (dE _),trivial⟩,wq rfl⟩,⟨h1,fun j hj=>?_⟩,msr h1⟩
   by_cases e:j=i
   ·subst e; exact h2
   exact ha j (by omega)
  have h1:i=(bitX ix).length:=by have:=dF h1; omega
  subst h1
  have e1:(bitX ix).all p=true:=jC.2 fun x hx=>by
   obtain⟨j,hj,rfl⟩:=qJ hx
   have:=ha j hj
   rwa [hZ,kF hj] at this
  rw[eg,kH e1]
  refine oL [5,1000,1001,1002,1003,4,6,7,8,9,10] (FzOb.no ?_)
  refine⟨rfl,⟨rfl,⟨rfl,⟨rfl,⟨rfl,⟨rfl,⟨rfl,⟨rfl,?_⟩⟩⟩⟩⟩⟩⟩⟩
  refine⟨⟨.inr rfl,by unfold maxLen; omega,by show (0+ix.length) * 8<=140737488355328; omega⟩,?_⟩
  refine⟨⟨.inr rfl,by unfold maxLen; omega,by show (L.length+1) * 24<=140737488355328; omega⟩,?_⟩
  refine⟨rfl,⟨obX rfl,obR rfl (zoN rfl ?_),trivial⟩,⟨rfl,rfl⟩,trivial⟩
  refine⟨kU _,.inr ⟨rfl,fun i _ j _=>dE _⟩⟩
 | r+1,ix,L,hl,hr,hb=>by
  have hmx:=zge ix hr (jE _)
  rw[jZ] at hmx
  have hlt:ix.length<n:=by omega
  refine zhU [2000000069] Tryz.func112 rfl (by kernel_rfl) [] [(3,5)] rfl rfl rfl (by decide) rfl fun γ=>?_
  refine Split.no (by simp; omega) ?_
  refine LoopOb.of (σ:=Nat) (fun i=>([(0,.d (lBo (2 ^ n) p)),(1,.d (lN ix)),(2,.d (I n)),(3,.pbox 5 (γ 5)),(10,.d (I (mst (ix.take i)))),(11,.d (I i))],obG L)) (fun i=>i<=ix.length) (fun i=>ix.length - i) 0
   ⟨rfl,⟨obX rfl,obR rfl (dE _),trivial⟩,wq rfl⟩ (jF _) fun i hi=>?_
  have hi:i<=ix.length:=hi
  apply bY <;> intro h1
  ·have h1:i<ix.length:=by have:=dT h1; omega
   have hk:=hr i h1
   have hm:=zge ix hr hi
   refine⟨⟨rfl,by omega,by omega⟩,?_⟩
   refine⟨by show inR .i64 (((ix.getD i 0:Nat):Int)+1); exact i6,?_⟩
   refine⟨i6,?_⟩
   refine⟨i+1,⟨rfl,⟨obX rfl,obR rfl (dE _),trivial⟩,avQ rfl,avQ rfl,avQ rfl,avQ rfl,avI rfl ?_,avQ rfl,trivial⟩,h1,msr h1⟩
   rw[zde h1]
   show max ((mst (ix.take i):Nat):Int) (((ix.getD i 0:Nat):Int)+1)=_
   omega
  have h1:i=ix.length:=by have:=dF h1; omega
  subst h1
  rw[jZ]
  refine LoopOb.of (σ:=Nat) (fun k=>([(0,.d (lBo (2 ^ n) p)),(1,.d (lN ix)),(2,.d (I n)),(3,.pbox 5 (γ 5)),(10,.d (I (mst ix))),(12,.d (I k))],obG (L++gwK p r ix k))) (fun k=>k<=mst ix+1) (fun k=>mst ix+1 - k) 0
   ⟨rfl,⟨obX rfl,obR rfl (by rw[show gwK p r ix 0=[] from rfl,jah]; exact dE _),trivial⟩,wq rfl⟩ (jF _) fun k hk=>?_
  have hk:k<=mst ix+1:=hk
  apply bY <;> intro h1
  ·have h1:k<=mst ix:=by have:(k:Int)<=(mst ix:Int):=dT h1; omega
   have b1:=zlz p r ix k
   have b2:=ziB r ix (show k+1<=mst ix+1 by omega)
   rw[zqL,zfA] at b2
   refine⟨⟨.inr rfl,by unfold maxLen; omega,by show (0+ix.length) * 8<=140737488355328; omega⟩,?_⟩
   refine⟨⟨.inr rfl,by unfold maxLen; omega,by show (0+ix.length+1) * 8<=140737488355328; omega⟩,?_⟩
   refine CallSt.ob [(0,.d (lBo (2 ^ n) p)),(1,.d (lN ix)),(2,.d (I n)),(3,.pbox 5 (γ 5)),(10,.d (I (mst ix))),(12,.d (I k)),(65,.d (lBo (2 ^ n) p)),(69,.d (lN (ix ++ [k]))),(70,.d (I n)),(71,.box 5 0)] (obG (L++gwK p r ix k)) [] rfl rfl
    (zoU p n hn r (ix ++ [k]) (L++gwK p r ix k) (by rw[jR,qZ]; omega) (hr.snoc h1) (by rw[jR]; omega))
    (wkA (l:=obG (L++gwK p r ix k)) rfl ⟨rfl,⟨obX rfl,obR rfl (dE _),trivial⟩,avQ rfl,avQ rfl,avQ rfl,avQ rfl,avQ rfl,avQ rfl,avQ rfl,avE rfl (snocN (kU _) (fun a _=>rfl) rfl),avQ rfl,avQ rfl,trivial⟩) ⟨⟨[],rfl,rfl⟩⟩ rfl rfl ?_
   refine⟨i6,?_⟩
   refine⟨k+1,⟨rfl,⟨obX rfl,obR rfl ?_,trivial⟩,wq rfl⟩,by show k+1<=mst ix+1; omega,by show mst ix+1 - (k+1)<mst ix+1 - k; omega⟩
   rw[ziC,<- List.append_assoc]
   exact dE _
  have h1:k=mst ix+1:=by have:¬ (k:Int)<=(mst ix:Int):=dF h1; omega
  subst h1
  rw[znP]
  exact⟨rfl,⟨obX rfl,obR rfl (dE _),trivial⟩,⟨rfl,rfl⟩,trivial⟩
theorem SpecM.nil {P:Program} {f:FuncId} {a b c:AV} {k:Nat} {g:Nat->Nat->D} {obs obs':List (Nat × Ob)} {pins:List Nat} {res:List V1} (h:SpecM P f [a,.d (.slc k 0 g),b,c] obs obs' pins res):SpecM P f [a,.nilsl,b,c] obs obs' pins res:=
 ⟨h.1,fun w ok γ vs h1 h2 h3=>h.2 w ok γ vs h1 h2 (by
  cases h3 with
  | cons x h3=>
  cases h3 with
  | cons y h3=>exact .cons x (.cons (.inl ⟨y,rfl⟩) h3))⟩
theorem rgs7 {n:Nat} (h:n<=7):(rgs n 0).length<=1000000:=by
 have:∀ n,n<8->(rgs n 0).length<=1000000:=by decide +kernel
 exact this n (by omega)
theorem zrU (p:Nat->Bool) (n:Nat) (hn:n<=7):Spec PP 49 [.d (lBo (2 ^ n) p),N n] [.d (lNN (gwX p n []))]:=by
 refine sA Tryz.func49 ?_
 have hg:=zoU p n hn n [] [] (kU _) (fun i hi=>absurd hi (qK _)) (by have:=rgs7 hn; show 0+(rgs n 0).length<=_; omega)
 refine CallSt.ob [(5,.box 5 0),(6,.d (lBo (2 ^ n) p)),(7,.d (I n))] (obG []) [] rfl rfl hg.nil
  (wkA (l:=obG []) rfl ⟨rfl,⟨⟨⟨rfl,_,_,_,rfl⟩,trivial⟩,rfl,trivial⟩,wq rfl⟩) ⟨⟨[],rfl,rfl⟩⟩ rfl rfl ?_
 exact⟨⟨_,_,_,_,rfl,rfl,.inr ⟨rfl,fun i _ j _=>dE _⟩⟩,trivial⟩
theorem zkg:∀ (r:Nat) (ix:List Nat),Rg ix -> ∀ iy∈rgs r (mst ix),Rg (ix++iy)/\iy.length=r
 | 0,ix,h,iy,hy=>by
  obtain rfl:=kL.1 hy
  rw[jah]
  exact⟨h,rfl⟩
 | r+1,ix,h,iy,hy=>by
  rw[ze5] at hy
  obtain⟨k,hk,hy⟩:=List.mem_flatMap.1 hy
  obtain⟨iz,hz,rfl⟩:=kI.1 hy
  have hk:=kK.1 hk
  rw[<- zdf] at hz
  have:=zkg r (ix ++ [k]) (h.snoc (by omega)) iz hz
  rw[List.append_assoc] at this
  exact⟨this.1,by rw[jbh,this.2]⟩
theorem zoI:Rg []:=fun i hi=>absurd hi (qK _)
theorem ziA {p:Nat->Bool} {n:Nat} {ix:List Nat} (h:ix∈gwX p n []):Rg ix/\ix.length=n:=by
 obtain⟨h,_⟩:=kW.1 h
 obtain⟨iy,hy,rfl⟩:=kI.1 h
 exact zkg n [] zoI iy hy
def Rgs (l:List (List Nat)):Prop:=∀ x∈l,Rg x/\x.length<=7
theorem zlw {p:Nat->Bool} {n:Nat} (hn:n<=7):Rgs (gwX p n []):=fun x hx=>⟨(ziA hx).1,by rw[(ziA hx).2]; exact hn⟩
theorem zlx {p:Nat->Bool} {n:Nat} (hn:n<=7):(gwX p n []).length<=1000000:=jM (zly p n []) (rgs7 hn)
theorem Rgs.get {l:List (List Nat)} (h:Rgs l) {i:Nat} (hi:i<l.length):Rg (l.getD i [])/\(l.getD i []).length<=7:=by
 rw[hZ,kF hi]; exact h _ (kQ hi)
theorem zgJ {ix:List Nat} (h:Rg ix) (hn:ix.length<=7):(bitX ix).length<=7:=by
 have h1:=zbE h ix.length (jE _)
 have h2:=zge ix h (jE _)
 show (bitK ix ix.length).length<=7
 omega
def wthX (k:Int) (l:List (List Nat)):List (List Nat):=l.filter fun x=>((bitX x).length:Int)==k
theorem zfS (k:Int) (l:List (List Nat)) (x:List Nat):wthX k (l ++ [x])=if (((bitX x).length:Int)==k)=true then wthX k l ++ [x] else wthX k l:=by
 unfold wthX
 rw[kM]
 by_cases h:(((bitX x).length:Int)==k)=true
 ·rw[kH h,qA (by exact h)]; rfl
 rw[kG h,qB (by exact h)]; simp
theorem zpR (l:List (List Nat)) (k:Int) (hR:Rgs l) (hn:l.length<=1000000):Spec PP 130 [.d (lNN l),N k] [.d (lNN (wthX k l))]:=by
 refine sA Tryz.func130 ?_
 refine LoopOb.of (σ:=Nat) (fun i=>([(0,.d (lNN l)),(1,.d (I k)),(5,.own 5),(6,.d (I i))],[(5,.row 22 1 (wthX k (l.take i)).length (rowNN (wthX k (l.take i))))])) (fun i=>i<=l.length) (fun i=>l.length - i) 0
  ⟨rfl,⟨obR rfl ⟨rfl,.inl rfl⟩,trivial⟩,wq rfl⟩ (jF _) fun i hi=>?_
 have hi:i<=l.length:=hi
 have hl:(wthX k (l.take i)).length<=l.length:=jM (kX _ _) (by rw[jQ]; omega)
 apply bY <;> intro h1
 ·have h1:i<l.length:=by have:=dT h1; omega
  have hg:=hR.get h1
  refine⟨⟨rfl,by omega,by omega⟩,?_⟩
  refine CallSt.ro (zcm (l.getD i []) hg.1 hg.2) rfl rfl ?_
  apply bY <;> intro h2
  ·have h2:(((bitX (l.getD i [])).length:Int)==k)=true:=h2
   refine⟨⟨rfl,by omega,by omega⟩,?_⟩
   refine⟨⟨.inr rfl,by unfold maxLen; omega,by show ((wthX k (l.take i)).length+1) * 24<=140737488355328; omega⟩,?_⟩
   refine⟨i6,?_⟩
   refine⟨i+1,⟨rfl,⟨obR rfl ?_,trivial⟩,wq rfl⟩,h1,msr h1⟩
   rw[zaE h1 [],zfS,kH h2]
   exact zoN rfl (dE _)
  have h2:(((bitX (l.getD i [])).length:Int)==k)=false:=h2
  refine⟨i6,?_⟩
  refine⟨i+1,⟨rfl,⟨obR rfl ?_,trivial⟩,wq rfl⟩,h1,msr h1⟩
  rw[zaE h1 [],zfS,kG (by rw[h2]; decide)]
  exact dE _
 have h1:i=l.length:=by have:=dF h1; omega
 subst h1
 rw[jZ]
 exact⟨⟨_,_,_,_,rfl,rfl,.inr ⟨rfl,fun i _ j _=>dE _⟩⟩,trivial⟩
def few1 (o:Int) (x:List Nat):Int:=if o<0 \/ ((bitX x).length:Int)<o then ((bitX x).length:Int) else o
def fewN (l:List (List Nat)):Int:=l.foldl few1 (-1)
theorem zlK (l:List (List Nat)) (x:List Nat):fewN (l ++ [x])=few1 (fewN l) x:=by unfold fewN; rw[jab]; rfl
theorem zkm (l:List (List Nat)) (hR:Rgs l) (hn:l.length<=1000000):Spec PP 48 [.d (lNN l)] [N (fewN l)]:=by
 refine sA Tryz.func48 ?_
 refine LoopOb.of (σ:=Nat) (fun i=>([(0,.d (lNN l)),(3,.d (I (fewN (l.take i)))),(4,.d (I i))],[])) (fun i=>i<=l.length) (fun i=>l.length - i) 0
  ⟨rfl,trivial,wq rfl⟩ (jF _) fun i hi=>?_
 have hi:i<=l.length:=hi
 apply bY <;> intro h1
 ·have h1:i<l.length:=by have:=dT h1; omega
  have hg:=hR.get h1
  have hb:=zgJ hg.1 hg.2
  have es:fewN (l.take (i+1))=few1 (fewN (l.take i)) (l.getD i []):=by rw[zaE h1 [],zlK]
  refine⟨⟨rfl,by omega,by omega⟩,?_⟩
  refine CallSt.ro (zcm (l.getD i []) hg.1 hg.2) rfl rfl ?_
  apply bY <;> intro h2
  ·have h2:fewN (l.take i)<0:=dT h2
   repeat first | apply sT | apply sF
   refine⟨i6,?_⟩
   refine⟨i+1,⟨rfl,trivial,avQ rfl,avI rfl ?_,avQ rfl,trivial⟩,h1,msr h1⟩
   rw[es,few1,kH (.inl h2)]
  have h2:¬ fewN (l.take i)<0:=dF h2
  repeat first | apply sT | apply sF
  apply bY <;> intro h3
  ·have h3:((bitX (l.getD i [])).length:Int)<fewN (l.take i):=dT h3
   refine⟨i6,?_⟩
   refine⟨i+1,⟨rfl,trivial,avQ rfl,avI rfl ?_,avQ rfl,trivial⟩,h1,msr h1⟩
   rw[es,few1,kH (.inr h3)]
  have h3:¬ ((bitX (l.getD i [])).length:Int)<fewN (l.take i):=dF h3
  refine⟨i6,?_⟩
  refine⟨i+1,⟨rfl,trivial,avQ rfl,avI rfl ?_,avQ rfl,trivial⟩,h1,msr h1⟩
  rw[es,few1,kG (fun hh=>hh.elim h2 h3)]
 have h1:i=l.length:=by have:=dF h1; omega
 subst h1
 rw[jZ]
 exact r1I rfl rfl
def setX (ids:List Int) (ix:List Nat):List (List Int):=(bitX ix).map (memb ids)
theorem zpT (ids:List Int) (ix:List Nat) (hr:Rg ix) (hn:ix.length<=7) (hi:ids.length<=7):Spec PP 131 [.d (lI ids),.d (lN ix)] [.d (lII (setX ids ix))]:=by
 refine sA Tryz.func131 ?_
 refine CallSt.ro (zcm ix hr hn) rfl rfl ?_
 have hb:=zgJ hr hn
 have hx:∀ i,i<(bitX ix).length->(bitX ix).getD i 0<128:=fun i hi=>by
  have:=(zbD ix ix.length ((bitX ix).getD i 0) (by rw[hZ,kF hi]; exact kQ hi)).2
  have h2:2 ^ ix.length<=2 ^ 7:=jai (by decide) hn
  omega
 unfold setX
 generalize bitX ix=bs at hb hx
 refine LoopOb.of (σ:=Nat) (fun i=>([(0,.d (lI ids)),(5,.d (lN bs)),(6,.own 6),(7,.d (I i))],[(6,.row 22 1 ((bs.take i).map (memb ids)).length (rowII ((bs.take i).map (memb ids))))])) (fun i=>i<=bs.length) (fun i=>bs.length - i) 0
  ⟨rfl,⟨obR rfl ⟨rfl,.inl rfl⟩,trivial⟩,wq rfl⟩ (jF _) fun i hi=>?_
 have hi:i<=bs.length:=hi
 have hl:((bs.take i).map (memb ids)).length<=7:=by rw[kS,jQ]; omega
 apply bY <;> intro h1
 ·have h1:i<bs.length:=by have:=dT h1; omega
  refine⟨⟨rfl,by omega,by omega⟩,?_⟩
  refine CallSt.ro (zf6 ids (bs.getD i 0) (by omega) (hx i h1)) rfl rfl ?_
  refine⟨⟨.inr rfl,by unfold maxLen; omega,by show (((bs.take i).map (memb ids)).length+1) * 24<=140737488355328; omega⟩,?_⟩
  refine⟨i6,?_⟩
  refine⟨i+1,⟨rfl,⟨obR rfl ?_,trivial⟩,wq rfl⟩,h1,msr h1⟩
  rw[zaE h1 0,jT]
  exact zkB rfl (dE _)
 have h1:i=bs.length:=by have:=dF h1; omega
 subst h1
 rw[jZ]
 exact⟨⟨_,_,_,_,rfl,rfl,.inr ⟨rfl,fun i _ j _=>dE _⟩⟩,trivial⟩
def bstX (p:Nat->Bool) (n:Nat):List (List Nat):=wthX (fewN (gwX p n [])) (gwX p n [])
theorem zpY (p:Nat->Bool) (n:Nat) (hn:n<=7):Spec PP 69 [.d (lBo (2 ^ n) p),N n] [.d (lNN (bstX p n))]:=by
 refine sA Tryz.func69 ?_
 refine CallSt.ro (zrU p n hn) rfl rfl ?_
 refine cP (zkm _ (zlw hn) (zlx hn)) rfl rfl ?_
 refine CallSt.ro (zpR _ _ (zlw hn) (zlx hn)) rfl rfl ?_
 exact⟨dE _,trivial⟩
theorem DayOk.nodL {d:Day} (h:DayOk d) (ids:List Int):((lstD d ids).map Rpt.ID).Nodup:=List.Nodup.sublist (List.Sublist.map _ (jbn ..)) h.nodR
theorem DayOk.rpt {d:Day} (h:DayOk d) {r:Rpt} (hr:r∈d.R):rptE d.s r=0/\frmB r=true/\0<=r.Tick/\r.Tick<=1048576:=by
 obtain⟨i,hi,rfl⟩:=qJ hr
 have e:d.R.getD i default=d.R[i]:=by rw[hZ,kF hi]; rfl
 have h1:=zsZ (h.rp i hi)
 have h2:=h.tick hi
 rw[e] at h1 h2
 exact⟨h1.2.1,h1.2.2,h2⟩
theorem zl4 (ids:List Int) (l:List Rpt):∀ i,i<=l.length->((brnS ids (l.take i)).1=true ↔ ∃ r∈l.take i,ids.contains r.ID=true)/\((brnS ids (l.take i)).1=true ->
  (∀ r∈l.take i,ids.contains r.ID=true->(brnS ids (l.take i)).2.1<=r.Tick/\r.Tick<=(brnS ids (l.take i)).2.2)/\(∃ r∈l.take i,ids.contains r.ID=true/\r.Tick=(brnS ids (l.take i)).2.1) /\ ∃ r∈l.take i,ids.contains r.ID=true/\r.Tick=(brnS ids (l.take i)).2.2)
 | 0,_=>by simp[brnS]
 | i+1,hi=>by
  obtain⟨a1,a2⟩:=zl4 ids l i (by omega)
  rw[zcx ids l (by omega),zaE (show i<l.length by omega) default]
  generalize brnS ids (l.take i)=x at a1 a2
  generalize l.getD i default=r
  generalize l.take i=t at a1 a2
  unfold brn1
  by_cases hc:ids.contains r.ID=true
  ·rw[kH hc]
   refine⟨⟨fun _=>⟨r,by simp,hc⟩,fun _=>rfl⟩,fun _=>?_⟩
   by_cases hx:x.1=true
   ·obtain⟨b1,⟨p,hp,hp1,hp2⟩,⟨q,hq,hq1,hq2⟩⟩:=a2 hx
    simp only[hx,jbC]
    refine⟨fun r' hr' hc'=>?_,?_,?_⟩
    ·rcases qE.1 hr' with h | h
     ·have:=b1 r' h hc'; omega
     rw[kL.1 h]; omega
    ·by_cases hm:x.2.1<=r.Tick
     ·exact⟨p,jaw _ hp,hp1,by rw[hp2]; omega⟩
     exact⟨r,by simp,hc,by omega⟩
    by_cases hm:r.Tick<=x.2.2
    ·exact⟨q,jaw _ hq,hq1,by rw[hq2]; omega⟩
    exact⟨r,by simp,hc,by omega⟩
   simp only[hx,jaF]
   refine⟨fun r' hr' hc'=>?_,⟨r,by simp,hc,by simp⟩,⟨r,by simp,hc,by simp⟩⟩
   rcases qE.1 hr' with h | h
   ·exact absurd (a1.2 ⟨r',h,hc'⟩) hx
   rw[kL.1 h]; simp
  rw[kG hc]
  refine⟨a1.trans ⟨fun⟨p,hp,hc'⟩=>⟨p,jaw _ hp,hc'⟩,fun⟨p,hp,hc'⟩=>?_⟩,fun hx=>?_⟩
  ·rcases qE.1 hp with h | h
   ·exact⟨p,h,hc'⟩
   rw[kL.1 h] at hc'; exact absurd hc' hc
  obtain⟨b1,⟨p,hp,hp1,hp2⟩,⟨q,hq,hq1,hq2⟩⟩:=a2 hx
  refine⟨fun r' hr' hc'=>?_,⟨p,jaw _ hp,hp1,hp2⟩,⟨q,jaw _ hq,hq1,hq2⟩⟩
  rcases qE.1 hr' with h | h
  ·exact b1 r' h hc'
  rw[kL.1 h] at hc'; exact absurd hc' hc
theorem zdr {d:Day} {ids:List Int} (hB:(d.R.any fun r=>ids.contains r.ID)=true) :
  (∀ r∈d.R,ids.contains r.ID=true->(brnD d ids).From<=r.Tick/\r.Tick<=(brnD d ids).To)/\(∃ r∈d.R,ids.contains r.ID=true/\r.Tick=(brnD d ids).From) /\ ∃ r∈d.R,ids.contains r.ID=true/\r.Tick=(brnD d ids).To:=by
 have:=zl4 ids d.R d.R.length (jE _)
 rw[jZ] at this
 obtain⟨r,hr,hc⟩:=kJ.1 hB
 exact this.2 (this.1.2 ⟨r,hr,hc⟩)
theorem zre {d:Day} (h:DayOk d) {ids:List Int} (hB:(d.R.any fun r=>ids.contains r.ID)=true):brnB (brnD d ids)=true:=by
 obtain⟨h1,⟨r,hr,hc,e⟩,⟨q,hq,hq1,hq2⟩⟩:=zdr hB
 have g1:=(h.rpt hr).2.2
 have g2:=(h.rpt hq).2.2
 have g3:=(h1 r hr hc).2
 unfold brnB
 rw[show (brnD d ids).Rise=d.Rise from rfl,h.rise,jG (by omega),jG (by omega),jG (by omega)]
 rfl
theorem ziZ {d:Day} {A B:List Int} (hs:∀ x,B.contains x=true->A.contains x=true) (hB:(d.R.any fun r=>B.contains r.ID)=true):(brnD d A).From<=(brnD d B).From/\(brnD d B).To<=(brnD d A).To:=by
 have hA:(d.R.any fun r=>A.contains r.ID)=true:=by
  obtain⟨r,hr,hc⟩:=kJ.1 hB
  exact kJ.2 ⟨r,hr,hs _ hc⟩
 obtain⟨h1,_,_⟩:=zdr hA
 obtain⟨_,⟨r,hr,hc,e⟩,⟨q,hq,hq1,hq2⟩⟩:=zdr hB
 have g1:=(h1 r hr (hs _ hc)).1
 have g2:=(h1 q hq (hs _ hq1)).2
 omega
theorem zqM {d:Day} (h:DayOk d) {b:Brn} (hb:brnB b=true) (ids:List Int):givE d.s b (lstD d ids)=0:=by
 have hn:=h.n
 have hl:=znv d ids
 unfold givE
 rw[kG (fun hh=>hh h.s),kG (by rw[hb]; decide),kG (by omega)]
 refine zaF fun i hi=>?_
 have hm:(lstD d ids).getD i default=(lstD d ids)[i]:=by rw[hZ,kF hi]; rfl
 have hr:(lstD d ids)[i]∈d.R:=(kW.1 (kQ hi)).1
 unfold rp1E
 rw[kG (fun hh=>hh (by rw[hm]; exact (h.rpt hr).1)),kG fun hc=>?_]
 have hc:=kD.1 hc
 rw[hm] at hc
 obtain⟨x,hx,e⟩:=kI.1 hc
 obtain⟨j,hj,rfl⟩:=qJ hx
 rw[jQ] at hj
 rw[ja8] at e
 have:=jan.1 (h.nodL ids) j i (by rw[kS]; omega) (by rw[kS]; exact hi) (by omega)
 simp only[List.getElem_map] at this
 exact this e
theorem zoQ {d:Day} (h:DayOk d) {ids:List Int} (hB:(d.R.any fun r=>ids.contains r.ID)=true) :
  plsD d ids=if (brnD d ids).To - (brnD d ids).From<=d.Long then plsL d.s.c.M (metP ((lstD d ids).map (alwP d.s (brnD d ids)))) else []:=by
 have e:plcR d.s (brnD d ids) (lstD d ids)=(plsL d.s.c.M (metP ((lstD d ids).map (alwP d.s (brnD d ids)))),0):=by
  unfold plcR
  rw[kG (fun hh=>hh (zqM h (zre h hB) ids))]
 unfold plsD
 rw[e]
theorem zhY {s:Svc} {b b':Brn} {r:Rpt} {p:Place} (hr:b.Rise=b'.Rise) (hw:within r.Tick b.From b.To=true->within r.Tick b'.From b'.To=true) (h:seenB s b r p=true):seenB s b' r p=true:=by
 unfold seenB lookB at *
 simp only[jP] at *
 rw[<- hr]
 exact⟨h.1,h.2.1,hw h.2.2⟩
theorem zon {d:Day} (h:DayOk d) {A B:List Int} (hs:∀ x,B.contains x=true->A.contains x=true) (hB:(d.R.any fun r=>B.contains r.ID)=true) {r:Rpt} (hr:r∈lstD d B) {n:Nat} (ha:alwP d.s (brnD d A) r n=true):alwP d.s (brnD d B) r n=true:=by
 obtain⟨m1,m2⟩:=ziZ hs hB
 obtain⟨hr1,hr2⟩:=kW.1 hr
 unfold alwP alwK at *
 simp only[jP] at *
 refine⟨ha.1,?_⟩
 have ha:=ha.2
 unfold allB at *
 by_cases hk:r.Kind=1
 ·rw[kH hk] at *
  refine zhY (b:=brnD d A) (b':=brnD d B) rfl (fun _=>?_) ha
  have hc:B.contains r.ID=true:=by
   unfold offB at hr2
   simpa [hk] using hr2
  have:=(zdr hB).1 r hr1 hc
  unfold within
  simpa using this
 rw[kG hk] at *
 rw[jY] at *
 rw[wE] at *
 intro hh
 refine ha (zhY (b:=brnD d B) (b':=brnD d A) rfl (fun hw=>?_) hh)
 unfold within at *
 simp only[jP,kA] at *
 omega
theorem zif {m:Mp} {P:Nat->Bool} {p:Place}:p∈plsL m P ↔ ∃ n,n<m.w * m.h/\P n=true/\plc m n=p:=by
 unfold plsL plsK
 rw[kI]
 constructor
 ·rintro⟨n,hn,e⟩
  rw[kW,kK] at hn
  exact⟨n,hn.1,hn.2,e⟩
 rintro⟨n,h1,h2,e⟩
 exact⟨n,kW.2 ⟨kK.2 h1,h2⟩,e⟩
theorem zkD {d:Day} (h:DayOk d) {A B:List Int} (hs:∀ x,B.contains x=true->A.contains x=true) (hB:(d.R.any fun r=>B.contains r.ID)=true) {p:Place} (hp:p∈plsD d A):p∈plsD d B:=by
 have hA:(d.R.any fun r=>A.contains r.ID)=true:=by
  obtain⟨r,hr,hc⟩:=kJ.1 hB
  exact kJ.2 ⟨r,hr,hs _ hc⟩
 obtain⟨m1,m2⟩:=ziZ hs hB
 rw[zoQ h hA] at hp
 rw[zoQ h hB]
 split at hp
 ·rename_i g
  rw[kH (by omega)]
  obtain⟨n,h1,h2,e⟩:=zif.1 hp
  refine zif.2 ⟨n,h1,?_,e⟩
  unfold metP at *
  rw[jC] at *
  intro P hP
  obtain⟨r,hr,rfl⟩:=kI.1 hP
  have hr':r∈lstD d A:=by
   obtain⟨g1,g2⟩:=kW.1 hr
   refine kW.2 ⟨g1,?_⟩
   unfold offB at *
   cases e1:A.contains r.ID with
   | true=>simp
   | false=>
   have:B.contains r.ID=false:=by rw[wE]; intro hh; rw[hs _ hh] at e1; cases e1
   rw[this] at g2
   exact g2
  exact zon h hs hB hr (h2 _ (kI.2 ⟨r,hr',rfl⟩))
 cases hp
theorem zsW {d:Day} (h:few7 d):d.R.length<=40:=h.1.2.2.2.2.2
theorem grdE (p:Place):grd exS.c.M p=0:=by
 show (List.replicate 81 (0:Int)).getD _ 0=0
 rw[hZ,List.getElem?_replicate]
 split <;> rfl
theorem valE:validM exS.c.M=true:=by unfold validM; decide +kernel
theorem zrK (id:Int) (h:id=1 \/ id=2) (p:Place) (hp:onM exS.c.M p=true) (t:Int) (ht:within t 0 1048576=true):seesE exS.c id p 0 t=(true,0):=by
 have e0:ctryE exS.c=0:=by unfold ctryE; rw[kG (by rw[valE]; decide +kernel)]; unfold towE hzE onM; decide +kernel
 have e1:(towG exS.c.T id)=(if id=1 then ⟨1,⟨0,0⟩,0⟩ else ⟨2,⟨8,0⟩,0⟩,true):=by rcases h with rfl | rfl <;> decide +kernel
 have e2:farZ t exS.c.Z=100:=rfl
 have op:=zad.1 hp
 have ox:0<=p.X/\p.X<9:=op.1
 have oy:0<=p.Y/\p.Y<9:=op.2
 unfold seesE
 have e1':(towG exS.c.T id).2=true:=by rcases h with rfl | rfl <;> decide +kernel
 rw[kG (fun hh=>hh e0),kG (by rw[e1']; decide +kernel),kG (by rw[hp,ht]; decide +kernel),e2]
 have e3:seesB exS.c (towG exS.c.T id).1 p 0 100=true:=by
  unfold seesB
  have on1:onM exS.c.M ⟨0,0⟩=true:=by unfold onM; decide +kernel
  have on2:onM exS.c.M ⟨8,0⟩=true:=by unfold onM; decide +kernel
  have m1:=mulB (a:=p.X) (b:=p.X) (x:=20) (y:=20) (by omega) (by omega)
  have m2:=mulB (a:=p.Y) (b:=p.Y) (x:=20) (y:=20) (by omega) (by omega)
  have m3:=mulB (a:=8 - p.X) (b:=8 - p.X) (x:=20) (y:=20) (by omega) (by omega)
  rw[e1]
  rcases h with rfl | rfl
  ·show (nearB ⟨0,0⟩ p 100 && freeB exS.c.M ⟨0,0⟩ 0 p 0)=true
   rw[zgu grdE valE on1 hp (by decide +kernel) (by decide +kernel),jad]
   unfold nearB
   refine jG ?_
   show (0 - p.X) * (0 - p.X)+(0 - p.Y) * (0 - p.Y)<=100 * 100
   have a1:(0 - p.X) * (0 - p.X)=p.X * p.X:=by rw[Int.zero_sub,Int.neg_mul_neg]
   have a2:(0 - p.Y) * (0 - p.Y)=p.Y * p.Y:=by rw[Int.zero_sub,Int.neg_mul_neg]
   omega
  show (nearB ⟨8,0⟩ p 100 && freeB exS.c.M ⟨8,0⟩ 0 p 0)=true
  rw[zgu grdE valE on2 hp (by decide +kernel) (by decide +kernel),jad]
  unfold nearB
  refine jG ?_
  show (8 - p.X) * (8 - p.X)+(0 - p.Y) * (0 - p.Y)<=100 * 100
  have a2:(0 - p.Y) * (0 - p.Y)=p.Y * p.Y:=by rw[Int.zero_sub,Int.neg_mul_neg]
  omega
 rw[e3]
theorem thsE (x:Cir):thsL exS.k x=[thg0 x]:=by
 show [thg0 x].mergeSort _=[thg0 x]
 exact List.mergeSort_singleton _
theorem zerE (id t:Int) (h:id=1 \/ id=2) (ht:within t 0 1000=true):zerR exS.k id t=(⟨0,0⟩,0):=by
 have bt:=zab.1 ht
 have e0:cirsE exS.k=0:=by decide +kernel
 have e1:cirI exS.k id=if id=1 then 0 else 1:=by rcases h with rfl | rfl <;> decide +kernel
 have go:∀ x:Cir,x.Drift=0->x.Lo=0->x.Hi=0->knw exS.k id [t]=(x,[thg0 x],0)->zerR exS.k id t=(⟨0,0⟩,0):=fun x d1 d2 d3 hk=>by
  have ec:clsL x [thg0 x]=[]:=by
   unfold clsL clsU clsI
   have en:noneB (thg0 x)=false:=by unfold noneB; exact jH (by show ¬ x.Hi<x.Lo; omega)
   simp[qP,en,clsJ]
  have ea:atR exS.k id t=(x,[thg0 x],0):=by
   unfold atR; rw[hk]; dsimp only; rw[kH rfl]; unfold agrE; rw[kH ec]
  have ed:drf x x.From t=0:=by unfold drf; rw[d1]; simp
  unfold zerR
  rw[ea,kG (fun hh=>hh rfl)]
  dsimp only
  unfold zer
  simp only[jaB,List.foldl_nil,zStep,thg0,ed,d2,d3]
  simp
 rcases h with rfl | rfl
 ·refine go ⟨1,⟨0,0⟩,0,1000,0,0,0⟩ rfl rfl rfl ?_
  unfold knw
  rw[kG (fun hh=>hh e0),e1,kG (by decide +kernel),kH (by show (within t 0 1000 && true)=true; rw[ht]; rfl),thsE]; rfl
 refine go ⟨2,⟨8,0⟩,0,1000,0,0,0⟩ rfl rfl rfl ?_
 unfold knw
 rw[kG (fun hh=>hh e0),e1,kG (by decide +kernel),kH (by show (within t 0 1000 && true)=true; rw[ht]; rfl),thsE]; rfl
theorem wdgE (r:Rpt) (hc:r.C=1 \/ r.C=2) (ht:within r.Tick 0 1000=true) (hs:within r.From 0 3599=true) (hl:r.Slack=10):wdgR exS.k (rdgO r)=(wdg (r.From - 10) 20,0):=by
 have e1:cirsE exS.k=0:=by decide +kernel
 have e2:rdgE exS.k (rdgO r)=0:=by
  unfold rdgE rdgO
  rw[kG (fun hh=>hh e1)]
  rw[kG]
  dsimp only
  rw[hs,hl]; decide +kernel
 have e3:zerR exS.k (rdgO r).C (rdgO r).Tick=(⟨0,0⟩,0):=zerE r.C r.Tick hc ht
 unfold wdgR
 rw[kG (fun hh=>hh e2),e3,kG (fun hh=>hh rfl)]
 show (if (900:Int)<2 * r.Slack+0 - 0 then _ else (wdg (r.From - r.Slack - 0) (2 * r.Slack+0 - 0),(0:Int)))=_
 rw[hl,kG (by decide +kernel)]
 congr 2
 omega
theorem blkE (r:Rpt) (hc:r.C=1 \/ r.C=2) (ht:within r.Tick 0 1000=true) (h:¬ (r.To - r.From) % 3600<2 * r.Slack+0 - 0):blkR exS r=(⟨(r.From+r.Slack) % 3600,(r.To - r.Slack) % 3600⟩,true):=by
 have e3:=zerE r.C r.Tick hc ht
 unfold blkR
 rw[e3]
 dsimp only
 rw[kG h]
 simp
def lieE (w:Wdg) (a:Place) (n:Nat):Bool:=decide (n<81) && liesW w a ⟨((n % 9:Nat):Int),((n / 9:Nat):Int)⟩
def notE (w:Wdg) (a:Place) (n:Nat):Bool:=decide (n<81) && !liesW w a ⟨((n % 9:Nat):Int),((n / 9:Nat):Int)⟩
theorem plcE {n:Nat} (h:n<81):onM exS.c.M (plc exS.c.M n)=true:=zsb valE h
theorem zk2 (b:Brn) (hr:b.Rise=0) (r:Rpt) (hw:r.Tower=1 \/ r.Tower=2) (ht:within r.Tick 0 1048576=true) {n:Nat} (h:n<81):lookB exS b r (plc exS.c.M n)=within r.Tick b.From b.To:=by
 unfold lookB
 rw[hr,zrK r.Tower hw _ (plcE h) r.Tick ht]
 show (true && true && within r.Tick b.From b.To)=_
 cases within r.Tick b.From b.To <;> rfl
theorem zmi (b:Brn) (hr:b.Rise=0) (r:Rpt) (w:Wdg) (a:Place) (hk:r.Kind=1) (hw:r.Tower=1 \/ r.Tower=2) (ht:within r.Tick 0 1048576=true) (hb:within r.Tick b.From b.To=true) (hs:secR exS r=(w,true)) (ha:(towG exS.c.T r.Tower).1.At=a):alwP exS b r=lieE w a:=by
 funext n
 unfold alwP alwK lieE
 show (decide (n<81) && _)=_
 by_cases h:n<81
 ·refine jI (decide (n<81) && ·) ?_
  unfold allB seenB
  rw[kH hk,hs,ha,zk2 b hr r hw ht h,hb,jad]; rfl
 rw[jH h]; rfl
theorem ztg (b:Brn) (hr:b.Rise=0) (r:Rpt) (w:Wdg) (a:Place) (hk:r.Kind≠1) (hw:r.Tower=1 \/ r.Tower=2) (ht:within r.Tick 0 1048576=true) (hb:within r.Tick b.From b.To=true) (hs:secR exS r=(w,true)) (ha:(towG exS.c.T r.Tower).1.At=a):alwP exS b r=notE w a:=by
 funext n
 unfold alwP alwK notE
 show (decide (n<81) && _)=_
 by_cases h:n<81
 ·refine jI (decide (n<81) && ·) ?_
  unfold allB seenB
  rw[kG hk,hs,ha,zk2 b hr r hw ht h,hb,jad]; rfl
 rw[jH h]; rfl
def xq1:Rpt:=⟨1,1,1,1,100,450,0,10⟩
def xq2:Rpt:=⟨2,1,2,2,110,1350,0,10⟩
def xq3:Rpt:=⟨3,1,1,1,300,450,0,10⟩
def xq4:Rpt:=⟨4,2,1,1,105,400,500,10⟩
def exD4:Day:=⟨exS,0,60,[xq1,xq2,xq3,xq4]⟩
theorem svcEx:svcE exS=0:=by
 have e0:ctryE exS.c=0:=by unfold ctryE; rw[kG (by rw[valE]; decide +kernel)]; unfold towE hzE onM; decide +kernel
 have e1:cirsE exS.k=0:=by decide +kernel
 unfold svcE
 rw[kG (fun hh=>hh e0),kG (fun hh=>hh e1)]
 decide +kernel
theorem zmV (r:Rpt) (hf:frmB r=true) (hc:r.C=1 \/ r.C=2) (ht:within r.Tick 0 1000=true) (hw:r.Tower=r.C) (hk:r.Kind=1->within r.From 0 3599=true/\r.Slack=10):rptE exS r=0:=by
 have e3:=zerE r.C r.Tick hc ht
 unfold rptE
 rw[kG (by rw[hf]; decide +kernel),hw,e3]
 have e4:¬ ((towG exS.c.T r.C).2=false \/ cirI exS.k r.C<0):=by rcases hc with e | e <;> rw[e] <;> decide +kernel
 have e5:(exS.k.C.getD (cirI exS.k r.C).toNat default).At=(towG exS.c.T r.C).1.At:=by rcases hc with e | e <;> rw[e] <;> decide +kernel
 rw[kG e4,kG (fun hh=>hh e5),kG (fun hh=>hh rfl)]
 split
 ·rename_i h1
  rw[wdgE r hc ht (hk h1).1 (hk h1).2]
 rfl
theorem sx1:secR exS xq1=(⟨440,460⟩,true):=by
 unfold secR
 rw[kH (by rfl),wdgE xq1 (.inl rfl) (by decide +kernel) (by decide +kernel) rfl]; decide +kernel
theorem sx2:secR exS xq2=(⟨1340,1360⟩,true):=by
 unfold secR
 rw[kH (by rfl),wdgE xq2 (.inr rfl) (by decide +kernel) (by decide +kernel) rfl]; decide +kernel
theorem sx3:secR exS xq3=(⟨440,460⟩,true):=by
 unfold secR
 rw[kH (by rfl),wdgE xq3 (.inl rfl) (by decide +kernel) (by decide +kernel) rfl]; decide +kernel
theorem sx4:secR exS xq4=(⟨410,490⟩,true):=by
 unfold secR
 rw[kG (by decide +kernel),blkE xq4 (.inl rfl) (by decide +kernel) (by decide +kernel)]; decide +kernel
theorem rx1:rptE exS xq1=0:=zmV xq1 (by decide +kernel) (.inl rfl) (by decide +kernel) rfl fun _=>⟨by decide +kernel,rfl⟩
theorem rx2:rptE exS xq2=0:=zmV xq2 (by decide +kernel) (.inr rfl) (by decide +kernel) rfl fun _=>⟨by decide +kernel,rfl⟩
theorem rx3:rptE exS xq3=0:=zmV xq3 (by decide +kernel) (.inl rfl) (by decide +kernel) rfl fun _=>⟨by decide +kernel,rfl⟩
theorem rx4:rptE exS xq4=0:=zmV xq4 (by decide +kernel) (.inl rfl) (by decide +kernel) rfl fun h=>absurd h (by decide +kernel)
abbrev B1:Nat->Bool:=lieE ⟨440,460⟩ ⟨0,0⟩
abbrev B2:Nat->Bool:=lieE ⟨1340,1360⟩ ⟨8,0⟩
abbrev B4:Nat->Bool:=notE ⟨410,490⟩ ⟨0,0⟩
def fullE (n:Nat):Bool:=decide (n<81)
theorem ztf (b:Brn) (hr:b.Rise=0) (r:Rpt) (hk:r.Kind≠1) (hw:r.Tower=1 \/ r.Tower=2) (ht:within r.Tick 0 1048576=true) (hb:within r.Tick b.From b.To=false):alwP exS b r=fullE:=by
 funext n
 unfold alwP alwK fullE
 show (decide (n<81) && _)=_
 by_cases h:n<81
 ·rw[jG h,qS]
  unfold allB seenB
  rw[kG hk]
  show (!(_ && lookB exS b r (plc exS.c.M n)))=true
  rw[zk2 b hr r hw ht h,hb,kN]; rfl
 rw[jH h]; rfl
theorem a1 (b:Brn) (hr:b.Rise=0) (hb:within 100 b.From b.To=true):alwP exS b xq1=B1:=zmi b hr xq1 _ _ rfl (.inl rfl) (by decide +kernel) hb sx1 (by decide +kernel)
theorem a2 (b:Brn) (hr:b.Rise=0) (hb:within 110 b.From b.To=true):alwP exS b xq2=B2:=zmi b hr xq2 _ _ rfl (.inr rfl) (by decide +kernel) hb sx2 (by decide +kernel)
theorem a3 (b:Brn) (hr:b.Rise=0) (hb:within 300 b.From b.To=true):alwP exS b xq3=B1:=zmi b hr xq3 _ _ rfl (.inl rfl) (by decide +kernel) hb sx3 (by decide +kernel)
theorem a4y (b:Brn) (hr:b.Rise=0) (hb:within 105 b.From b.To=true):alwP exS b xq4=B4:=ztg b hr xq4 _ _ (by decide +kernel) (.inl rfl) (by decide +kernel) hb sx4 (by decide +kernel)
theorem a4n (b:Brn) (hr:b.Rise=0) (hb:within 105 b.From b.To=false):alwP exS b xq4=fullE:=ztf b hr xq4 (by decide +kernel) (.inl rfl) (by decide +kernel) hb
theorem zsI (b:Brn) (hb:brnB b=true) (l:List Rpt) (h24:¬ 24<l.length) (h:∀ r∈l,rptE exS r=0) (hd:(l.map Rpt.ID).Nodup):givE exS b l=0:=by
 unfold givE
 rw[kG (fun hh=>hh svcEx),kG (by rw[hb]; decide),kG h24]
 refine zaF fun i hi=>?_
 have hm:l.getD i default=l[i]:=by rw[hZ,kF hi]; rfl
 unfold rp1E
 rw[kG (fun hh=>hh (by rw[hm]; exact h _ (kQ hi))),kG fun hc=>?_]
 have hc:=kD.1 hc
 rw[hm] at hc
 obtain⟨x,hx,e⟩:=kI.1 hc
 obtain⟨j,hj,rfl⟩:=qJ hx
 rw[jQ] at hj
 rw[ja8] at e
 have:=jan.1 hd j i (by rw[kS]; omega) (by rw[kS]; exact hi) (by omega)
 simp only[List.getElem_map] at this
 exact this e
theorem zsa {b:Brn} {l:List Rpt} {As:List (Nat->Bool)} (hb:brnB b=true) (h24:¬ 24<l.length) (h:∀ r∈l,rptE exS r=0) (hd:(l.map Rpt.ID).Nodup) (ha:l.map (alwP exS b)=As):(plcR exS b l).1=plsL exS.c.M (metP As):=by
 unfold plcR
 rw[kG (fun hh=>hh (zsI b hb l h24 h hd)),ha]
theorem sig3:sigL exR=[1,2,3]:=by
 unfold sigL
 rw[List.mergeSort_of_pairwise (by decide +kernel)]
 decide +kernel
theorem sig4:sigL [xq1,xq2,xq3,xq4]=[1,2,3]:=by
 unfold sigL
 rw[List.mergeSort_of_pairwise (by decide +kernel)]
 decide +kernel
theorem zbH {d:Day} {ids:List Int} {b:Brn} {l:List Rpt} {As:List (Nat->Bool)} {L:List Place} (hs:d.s=exS) (hl:d.Long=60) (eb:brnD d ids=b) (el:lstD d ids=l) (sh:b.To - b.From<=60) (hb:brnB b=true) (h24:¬ 24<l.length) (h:∀ r∈l,rptE exS r=0) (hd:(l.map Rpt.ID).Nodup) (ha:l.map (alwP exS b)=As) (hL:plsL exS.c.M (metP As)=L):plsD d ids=L:=by
 unfold plsD
 rw[eb,el,hs,hl,kH sh,zsa hb h24 h hd ha,hL]
theorem zcG {d:Day} {ids:List Int} {b:Brn} (hl:d.Long=60) (eb:brnD d ids=b) (sh:¬ b.To - b.From<=60):plsD d ids=[]:=by
 unfold plsD
 rw[eb,hl,kG sh]
theorem zst (m:Nat):memb [1,2,3] m=memb [1,2,3] (m % 8):=by
 unfold memb membA
 congr 1
 refine jbB fun i hi=>?_
 have hi:i<3:=kK.1 hi
 show m.testBit i=(m % 2 ^ 3).testBit i
 rw[Nat.testBit_mod_two_pow,jG hi,qS]
abbrev L1:List Place:=[⟨1,1⟩,⟨2,2⟩,⟨3,3⟩,⟨4,4⟩,⟨5,5⟩,⟨6,6⟩,⟨7,7⟩,⟨8,8⟩]
abbrev L2:List Place:=[⟨7,1⟩,⟨6,2⟩,⟨5,3⟩,⟨4,4⟩,⟨3,5⟩,⟨2,6⟩,⟨1,7⟩,⟨0,8⟩]
theorem m1:plsL exS.c.M (metP [B1])=L1:=by decide +kernel
theorem m2:plsL exS.c.M (metP [B2])=L2:=by decide +kernel
theorem m12:plsL exS.c.M (metP [B1,B2])=[⟨4,4⟩]:=by decide +kernel
theorem m1f:plsL exS.c.M (metP [B1,fullE])=L1:=by decide +kernel
theorem m2f:plsL exS.c.M (metP [B2,fullE])=L2:=by decide +kernel
theorem m124:plsL exS.c.M (metP [B1,B2,B4])=[]:=by decide +kernel
theorem c1:plsD exD [1]=L1:=zbH (b:=⟨100,100,0⟩) (l:=[xq1]) (As:=[B1]) rfl rfl (by decide +kernel) (by decide +kernel) (by decide +kernel) (by decide +kernel) (by decide +kernel) (fun r hr=>by rw[kL.1 hr]; exact rx1) (by decide +kernel) (by
  simp only[kR,jaT]
  rw[a1 _ rfl (by decide +kernel)]) m1
theorem c2:plsD exD [2]=L2:=zbH (b:=⟨110,110,0⟩) (l:=[xq2]) (As:=[B2]) rfl rfl (by decide +kernel) (by decide +kernel) (by decide +kernel) (by decide +kernel) (by decide +kernel) (fun r hr=>by rw[kL.1 hr]; exact rx2) (by decide +kernel) (by
  simp only[kR,jaT]
  rw[a2 _ rfl (by decide +kernel)]) m2
theorem c3:plsD exD [1,2]=[⟨4,4⟩]:=zbH (b:=⟨100,110,0⟩) (l:=[xq1,xq2]) (As:=[B1,B2]) rfl rfl (by decide +kernel) (by decide +kernel) (by decide +kernel) (by decide +kernel) (by decide +kernel) (fun r hr=>by
  simp only[kT,jau,jbp] at hr
  rcases hr with rfl | rfl
  ·exact rx1
  ·exact rx2
  ) (by decide +kernel) (by
  simp only[kR,jaT]
  rw[a1 _ rfl (by decide +kernel),a2 _ rfl (by decide +kernel)]) m12
theorem c4:plsD exD [3]=L1:=zbH (b:=⟨300,300,0⟩) (l:=[xq3]) (As:=[B1]) rfl rfl (by decide +kernel) (by decide +kernel) (by decide +kernel) (by decide +kernel) (by decide +kernel) (fun r hr=>by rw[kL.1 hr]; exact rx3) (by decide +kernel) (by
  simp only[kR,jaT]
  rw[a3 _ rfl (by decide +kernel)]) m1
theorem e1:plsD exD4 [1]=L1:=zbH (b:=⟨100,100,0⟩) (l:=[xq1,xq4]) (As:=[B1,fullE]) rfl rfl (by decide +kernel) (by decide +kernel) (by decide +kernel) (by decide +kernel) (by decide +kernel) (fun r hr=>by
  simp only[kT,jau,jbp] at hr
  rcases hr with rfl | rfl
  ·exact rx1
  ·exact rx4
  ) (by decide +kernel) (by
  simp only[kR,jaT]
  rw[a1 _ rfl (by decide +kernel),a4n _ rfl (by decide +kernel)]) m1f
theorem e2:plsD exD4 [2]=L2:=zbH (b:=⟨110,110,0⟩) (l:=[xq2,xq4]) (As:=[B2,fullE]) rfl rfl (by decide +kernel) (by decide +kernel) (by decide +kernel) (by decide +kernel) (by decide +kernel) (fun r hr=>by
  simp only[kT,jau,jbp] at hr
  rcases hr with rfl | rfl
  ·exact rx2
  ·exact rx4
  ) (by decide +kernel) (by
  simp only[kR,jaT]
  rw[a2 _ rfl (by decide +kernel),a4n _ rfl (by decide +kernel)]) m2f
theorem e3:plsD exD4 [1,2]=[]:=zbH (b:=⟨100,110,0⟩) (l:=[xq1,xq2,xq4]) (As:=[B1,B2,B4]) rfl rfl (by decide +kernel) (by decide +kernel) (by decide +kernel) (by decide +kernel) (by decide +kernel) (fun r hr=>by
  simp only[kT,jau,jbp] at hr
  rcases hr with rfl | rfl | rfl
  ·exact rx1
  ·exact rx2
  ·exact rx4
  ) (by decide +kernel) (by
  simp only[kR,jaT]
  rw[a1 _ rfl (by decide +kernel),a2 _ rfl (by decide +kernel),a4y _ rfl (by decide +kernel)]) m124
theorem e4:plsD exD4 [3]=L1:=zbH (b:=⟨300,300,0⟩) (l:=[xq3,xq4]) (As:=[B1,fullE]) rfl rfl (by decide +kernel) (by decide +kernel) (by decide +kernel) (by decide +kernel) (by decide +kernel) (fun r hr=>by
  simp only[kT,jau,jbp] at hr
  rcases hr with rfl | rfl
  ·exact rx3
  ·exact rx4
  ) (by decide +kernel) (by
  simp only[kR,jaT]
  rw[a3 _ rfl (by decide +kernel),a4n _ rfl (by decide +kernel)]) m1f
theorem c5:plsD exD [1,3]=[]:=zcG (b:=⟨100,300,0⟩) rfl (by decide +kernel) (by decide +kernel)
theorem c6:plsD exD [2,3]=[]:=zcG (b:=⟨110,300,0⟩) rfl (by decide +kernel) (by decide +kernel)
theorem c7:plsD exD [1,2,3]=[]:=zcG (b:=⟨100,300,0⟩) rfl (by decide +kernel) (by decide +kernel)
theorem e5:plsD exD4 [1,3]=[]:=zcG (b:=⟨100,300,0⟩) rfl (by decide +kernel) (by decide +kernel)
theorem e6:plsD exD4 [2,3]=[]:=zcG (b:=⟨110,300,0⟩) rfl (by decide +kernel) (by decide +kernel)
theorem e7:plsD exD4 [1,2,3]=[]:=zcG (b:=⟨100,300,0⟩) rfl (by decide +kernel) (by decide +kernel)
def T3 (m:Nat):List Place:=match m % 8 with
 | 1=>L1 | 2=>L2 | 3=>[⟨4,4⟩] | 4=>L1 | 0=>plsD exD [] | _=>[]
def T4 (m:Nat):List Place:=match m % 8 with
 | 1=>L1 | 2=>L2 | 4=>L1 | 0=>plsD exD4 [] | _=>[]
theorem cel3 (m:Nat):celD exD m=T3 m:=by
 have h:celD exD m=plsD exD (memb [1,2,3] (m % 8)):=by
  show plsD exD (memb (sigL exR) m)=_
  rw[sig3,zst]
 rw[h]
 have h8:m % 8<8:=jas _ (by decide)
 unfold T3
 generalize m % 8=k at h8
 match k,h8 with
 | 0,_=>rfl
 | 1,_=>exact c1
 | 2,_=>exact c2
 | 3,_=>exact c3
 | 4,_=>exact c4
 | 5,_=>exact c5
 | 6,_=>exact c6
 | 7,_=>exact c7
theorem cel4 (m:Nat):celD exD4 m=T4 m:=by
 have h:celD exD4 m=plsD exD4 (memb [1,2,3] (m % 8)):=by
  show plsD exD4 (memb (sigL [xq1,xq2,xq3,xq4]) m)=_
  rw[sig4,zst]
 rw[h]
 have h8:m % 8<8:=jas _ (by decide)
 unfold T4
 generalize m % 8=k at h8
 match k,h8 with
 | 0,_=>rfl
 | 1,_=>exact e1
 | 2,_=>exact e2
 | 3,_=>exact e3
 | 4,_=>exact e4
 | 5,_=>exact e5
 | 6,_=>exact e6
 | 7,_=>exact e7
def fitT (T:Nat->List Place) (ks:List Nat) (m:Nat):Bool:=ks.contains m && decide (0<(T m).length)
def partT (T:Nat->List Place) (n:Nat) (ks:List Nat) (set:Nat):Bool:=(List.range n).all fun i=>(offS set i==set) || (offS set i==0) || fitT T ks (offS set i)
def growT (T:Nat->List Place) (n:Nat) (ks:List Nat) (set:Nat):Bool:=(List.range n).any fun i=>(onS set i != set) && fitT T ks (onS set i)
def keysT (T:Nat->List Place) (n:Nat):Nat->List Nat
 | 0=>[]
 | m+1=>if m≠0/\partT T n (keysT T n m) m=true then keysT T n m ++ [m] else keysT T n m
section
variable {d:Day} {T:Nat->List Place} (h:∀ m,celD d m=T m) {ids:List Int} (hi:sigL d.R=ids)
include h
theorem zlI:fitK d=fitT T:=by
 funext ks m
 unfold fitK fitT
 rw[h]
include hi
theorem zoR (ks:List Nat) (m:Nat):partK d ks m=partT T ids.length ks m:=by
 unfold partK partT parK
 rw[zlI h,hi]
theorem zsH (ks:List Nat) (m:Nat):growK d ks m=growT T ids.length ks m:=by
 unfold growK growT groK
 rw[zlI h,hi]
theorem ziv:∀ m,keysD d m=keysT T ids.length m
 | 0=>rfl
 | m+1=>by
  unfold keysD keysT
  rw[ziv m,zoR h hi]
theorem zkG:parts d=prt (fun s=>fitT T (keysT T ids.length (2 ^ ids.length)) (bitS ids s)) ids []:=by
 unfold parts ksD
 rw[zlI h,ziv h hi,hi]
end
theorem p3:parts exD=[[[1,2],[3]],[[1],[2],[3]]]:=by
 rw[zkG cel3 sig3]
 decide +kernel
theorem p4:parts exD4=[[[1],[2],[3]]]:=by
 rw[zkG cel4 sig4]
 decide +kernel
theorem dE3:dayE exD=0:=by decide +kernel
theorem dE4:dayE exD4=0:=by decide +kernel
theorem zrv:fewR exD=(2,0):=by
 unfold fewR bsts
 rw[kG (fun hh=>hh dE3),p3]
 decide +kernel
theorem zru:fewR exD4=(3,0):=by
 unfold fewR bsts
 rw[kG (fun hh=>hh dE4),p4]
 decide +kernel
theorem par3 (a b:Int) (h:partB [a,b] [1,2,3]=true) (hn:a≠b):parE exD a b=0:=by
 unfold parE
 rw[kG (fun hh=>hh dE3),show sigL exD.R=[1,2,3] from sig3,kG (by rw[h]; decide),kG hn]
theorem par4 (a b:Int) (h:partB [a,b] [1,2,3]=true) (hn:a≠b):parE exD4 a b=0:=by
 unfold parE
 rw[kG (fun hh=>hh dE4),show sigL exD4.R=[1,2,3] from sig4,kG (by rw[h]; decide),kG hn]
theorem zfX:(samR exD 1 2).1.Ans=2/\(samR exD 1 2).2=0:=by
 unfold samR bsts
 rw[kG (fun hh=>hh (par3 1 2 (by decide +kernel) (by decide))),p3]
 decide +kernel
theorem zfW:(samR exD 1 3).1.Ans=1/\(samR exD 1 3).2=0:=by
 unfold samR bsts
 rw[kG (fun hh=>hh (par3 1 3 (by decide +kernel) (by decide))),p3]
 decide +kernel
theorem zfV:(samR exD4 1 2).1.Ans=1/\(samR exD4 1 2).2=0:=by
 unfold samR bsts
 rw[kG (fun hh=>hh (par4 1 2 (by decide +kernel) (by decide))),p4]
 decide +kernel
theorem ask3 (ids:List Int) (h1:setB ids=true) (h2:partB ids [1,2,3]=true):askE exD ids=0:=by
 unfold askE
 rw[kG (fun hh=>hh dE3),kG (by rw[h1]; decide),show sigL exD.R=[1,2,3] from sig3,kG (by rw[h2]; decide)]
theorem zmv:celR exD [1,3]=([],0):=by
 unfold celR
 rw[kG (fun hh=>hh (ask3 [1,3] (by decide +kernel) (by decide +kernel))),c5]
theorem zjV:(tabR exD).1.length=2/\(tabR exD).2.1.length=2/\(tabR exD).2.2=0:=by
 have e:tabR exD=(srtF (tabA (greB exD (ksD exD)) (fitF exD) (2 ^ (sigL exD.R).length)),srtM (tabA (leaB exD (ksD exD)) (misF exD) (2 ^ (sigL exD.R).length)),0):=by unfold tabR; rw[kG (fun hh=>hh dE3)]
 have g:∀ m,greB exD (ksD exD) m=(fitT T3 (keysT T3 3 8) m && !growT T3 3 (keysT T3 3 8) m):=fun m=>by
  unfold greB ksD
  rw[zlI cel3,zsH cel3 sig3,ziv cel3 sig3,show sigL exD.R=[1,2,3] from sig3]; rfl
 have l:∀ m,leaB exD (ksD exD) m=(!fitT T3 (keysT T3 3 8) m && partT T3 3 (keysT T3 3 8) m):=fun m=>by
  unfold leaB ksD
  rw[zlI cel3,zoR cel3 sig3,ziv cel3 sig3,show sigL exD.R=[1,2,3] from sig3]; rfl
 have hl:∀ {α:Type} (p:Nat->Bool) (f:Nat->α) (n:Nat),(tabA p f n).length=(tabA p id n).length:=fun p f n=>by rw[zci p f,kS]
 rw[e]
 refine⟨?_,?_,rfl⟩
 ·show (srtF _).length=2
  unfold srtF
  rw[qM,hl,show sigL exD.R=[1,2,3] from sig3,show greB exD (ksD exD)=_ from funext g]
  decide +kernel
 show (srtM _).length=2
 unfold srtM
 rw[qM,hl,show sigL exD.R=[1,2,3] from sig3,show leaB exD (ksD exD)=_ from funext l]
 decide +kernel
theorem znn (s:Svc) (P:Nat->Bool) (hv:validM s.c.M=true):SpecO PP 172 [s.v,.agg (bD P)] 75 2 (plsL s.c.M P).length (rowP (plsL s.c.M P)):=by
 have hl:=zc9 hv
 refine zda Tryz.func172 rfl (by kernel_rfl) rfl ?_
 refine CallSt.ro (zfu s.c.M) rfl rfl ?_
 refine CodeOb.rangeAt (zdn s.c.M hv) rfl (fun _=>rfl) (by decide) [(2,.box 2 0),(3,.box 3 0),(5,.box 5 0)] [(5,0)] (fun pre=>obPls s P pre.length) rfl (fun _=>rfl) ?_ (Iv:=fun _=>True) trivial (fun v pre x hx _=>?_) (fun _=>?_)
 ·exact⟨rfl,⟨obX rfl,obX rfl,obN rfl rfl rfl,obZ rfl rfl,trivial⟩,wq rfl⟩
 ·obtain⟨rfl,hk⟩:=zhW hx
  have hn:=zck hv (k:=pre.length)
  have hp:=zqv P pre.length (by omega)
  rw[<- hn] at hp
  have hlen:=zfg s.c.M P pre.length
  refine cP hp rfl rfl ?_
  apply bY <;> intro h1
  ·refine⟨⟨.inr rfl,by unfold maxLen; omega,by show ((plsK s.c.M P pre.length).length+1) * 16<=140737488355328; omega⟩,?_⟩
   refine⟨trivial,rfl,⟨obX rfl,obX rfl,obO rfl,obR rfl ?_,trivial⟩,wq rfl⟩
   rw[jR]
   show D.eqv _ (.slc 2 (plsK s.c.M P (pre.length+1)).length (rowP (plsK s.c.M P (pre.length+1))))
   rw[zff h1]
   exact znf (at2 rfl rfl)
  refine⟨trivial,rfl,⟨obX rfl,obX rfl,obO rfl,obR rfl ?_,trivial⟩,wq rfl⟩
  rw[jR]
  show D.eqv _ (.slc 2 (plsK s.c.M P (pre.length+1)).length (rowP (plsK s.c.M P (pre.length+1))))
  rw[zhd h1]; exact dE _
 rw[zcC]
 exact⟨rfl,rfl,rfl,fun i hi j hj=>dE _⟩
theorem ziJ (l:List Place) (m j:Nat):(rowP l m j).flat=true:=by
 show ((l.getD m default).at j).flat=true
 unfold Place.at
 split <;> rfl
theorem SpecTO.eqv {dr:Bool} {P:Program} {f:FuncId} {xs ys:List V1} {e k n:Nat} {g:Nat->Nat->D} {res:List V1} (h:SpecTO dr P f ys e k n g res) (he:eqV1s xs ys):SpecTO dr P f xs e k n g res:=
 ⟨h.1,fun w ok vs hok hv=>h.2 w ok vs hok (za2 he hv)⟩
def retTO (t0 i:Nat) (ts:List Nat) (res:List V1) (e k n:Nat) (g:Nat->Nat->D):KK:=fun x s=>match x with
 | .normal=>Weak s ((t0,.own i) :: retSl ts res) [(i,.row e k n g)]
 | .ret=>Weak s ((t0,.own i) :: retSl ts res) [(i,.row e k n g)]
 | _=>False
theorem zj7 {P : Program} {T : TT} {E : Env} (hT : ∀ t i, T t = some i -> TI.of P t = some i) (hE : ∀ t, E.eq t = true -> EqFact P t) (hm : P.follows .mixedOrders = true)
  {f : FuncId} {fn : Func} {c : Code} (hf : P.funcs[f]? = some fn) (hb : fn.body = some c) (hn : (fn.name == "runtime.NumGoroutine") = false) (hN : codeN fn.ntmps c = true)
  {args : List V1} (t0 i t1 : Nat) (ts : List Nat) (hts : fn.results.toList = (t0 :: t1 :: ts).map ResultVar.tmp) {res : List V1} (hlr : (t1 :: ts).length = res.length) (hpn : (t0 :: t1 :: ts).Nodup) (hfl : res.all V1.flat = true)
  {e k n : Nat} {g : Nat -> Nat -> D} (hsz : args.length <= fn.ntmps) (hng : fn.ntmps <= G) (h : awp P T E c (St.of (argSlots 0 args) []) (retTO t0 i (t1 :: ts) res e k n g)) : SpecTO E.dr P f args e k n g res :=
 ⟨⟨fn, hf, hn, by rw [hb]; rfl⟩, fun w ok vs hok hm2 => zhp hT hE hm hf hb hN (cx := cx0 E.dr w ok fn.ntmps) id rfl rfl rfl (fun _ _ => id) (ze7 hok hm2 hsz hng) h
  (fun x h1 h2 s h => by cases x <;> first | exact h1 rfl | exact h2 rfl | exact h) fun x s a w' hx hk hR _ => by
  have k2 : Weak s ((t0, .own i) :: retSl (t1 :: ts) res) [(i, .row e k n g)] := by rcases hx with rfl | rfl <;> exact hk
  obtain ⟨γ', hg⟩ := hR.weak k2
  have hsl : ∀ t v, look ((t0, AV.own i) :: retSl (t1 :: ts) res) t = some v -> (St.of ((t0, .own i) :: retSl (t1 :: ts) res) [(i, .row e k n g)]).sl t = v := fun t v e => by
   show (look ((t0, AV.own i) :: retSl (t1 :: ts) res) t).getD .any = _
   rw [e]; rfl
  have hs0 := hg.slots t0
  rw [hsl t0 (.own i) (by simp only [look, zap]; rfl)] at hs0
  have hval : a.tmps.getD t0 undef = γ' i := hs0
  have ho : (St.of ((t0, .own i) :: retSl (t1 :: ts) res) [(i, .row e k n g)]).ob i = some (.row e k n g) := by
   show look [(i, Ob.row e k n g)] i = _
   simp only [look, zap]; rfl
  obtain ⟨xs, h1, h0, h2, h3⟩ := hg.objs i _ ho
  have hnd : (([(t0, AV.own i)] ++ retSl (t1 :: ts) res).map Prod.fst).Nodup := by rw [jT, zbM hlr]; exact hpn
  have hres := zdz hg hlr fun t x hx => hsl t _ (zbo (l := [(t0, AV.own i)]) hx hnd)
  have hrun := zaM (P := P) (fn := fn) (a := a) (w := w') (vs := (t0 :: t1 :: ts).map fun t => a.tmps.getD t undef) (by rw [hts]; exact zdc _)
  have h1' : w'.ownsRow w.heap.size e k (γ' i) n xs := ⟨h1.1, by
   rcases h1.2 with h4 | ⟨g', cap, cur, h4, h5, h6⟩
   ·exact .inl h4
   exact .inr ⟨g', cap, cur, h4, (h0 g' (by rw [h4]; rfl)).elim id False.elim, h6⟩⟩
  refine ⟨_, hrun, γ' i, (t1 :: ts).map (fun t => a.tmps.getD t undef), ?_, ⟨bel0 hg.below, hg.below.drawn⟩, ⟨xs, h1', h2, fun m hm j hj => ?_⟩, fun ok' => ?_⟩
  ·rw [<- hval]; rfl
  ·obtain ⟨u, hu, hr⟩ := h3 m hm j hj
   exact ⟨u, hu, Rep.keep (fun b hb => ⟨hb.imp id fun hb => ⟨hb.1.elim id False.elim, hb.2.1, hb.2.2 i _ ho⟩, rfl⟩) hr⟩
  exact hres.imp fun x u hx hr => Rep1.flat (jC.1 hfl x hx) hr⟩
theorem zf0 {f : FuncId} {fn : Func} {c : Code} (hf : PP.funcs[f]? = some fn) (hb : fn.body = some c) (hq : ((fn.name == "runtime.NumGoroutine") || !(codeN fn.ntmps c && Nat.ble fn.ntmps 4294967296)) = false)
  {args : List V1} (t0 i t1 : Nat) (ts : List Nat) {res : List V1} (hts : fn.results.toList = (t0 :: t1 :: ts).map ResultVar.tmp) (hlr : (t1 :: ts).length = res.length) (hpn : (t0 :: t1 :: ts).Nodup) (hfl : res.all V1.flat = true) {e k n : Nat} {g : Nat -> Nat -> D} (hsz : Nat.ble args.length fn.ntmps = true)
  (h : awp PP TTab (EC []) c (St.of (argSlots 0 args) []) (retTO t0 i (t1 :: ts) res e k n g)) : SpecTO false PP f args e k n g res := by
 simp only [qL, qO, jP] at hq
 exact zj7 (E := EC []) hT hE hM hf hb hq.1 hq.2.1 t0 i t1 ts hts hlr hpn hfl (jD hsz) (jD hq.2.2) h
section
variable {s:St} {o:Oper} {fo:Operand} {args:List Operand} {f:FuncId} {K:St->Prop} {E:Env}
theorem CallSt.ownT {xs ys res:List V1} {d e k n:Nat} {g:Nat->Nat->D} (h:SpecTO E.dr PP f ys e k n g res) (hx:toV1c s fo args=some (f,xs)) (he:eqV1s xs ys) (hd:o.dst=some d) (hg:∀ m j,m<n->j<k->(g m j).flat=true)
  (hk:K (Go.Pg.mk s d (.row e k n g) (.tupr d res))):CallSt E PP s o fo args K:=by
 obtain⟨ex,h1,h2⟩:=zaC hx
 rw[zaf]; exact .inr (.inl ⟨[],f,ex,d,h1,hd,by rw[zaq]; exact⟨xs,e,k,n,g,some res,h2,h.eqv he,hg,hk⟩⟩)
end
theorem zle (s:Svc) (b:Brn) (l:List Rpt) (h0:givE s b l=0):SpecTO false PP 120 [s.v,b.v,.d (lR l)] 75 2 (plcR s b l).1.length (rowP (plcR s b l).1) [.d (.int .i64 0)]:=by
 have e:allR s b l=(l.map (alwP s b),0):=by unfold allR; rw[kG (fun hh=>hh h0)]
 have e1:plcR s b l=(plsL s.c.M (metP (l.map (alwP s b))),0):=by unfold plcR; rw[kG (fun hh=>hh h0)]
 have ok:=zgr h0
 have hn:=ok.n
 rw[e1]
 refine zf0 Tryz.func120 rfl (by kernel_rfl) 6 23 7 [] rfl rfl (by decide) rfl rfl ?_
 have ha:=zqz s b l
 rw[e] at ha
 refine CallSt.ro ha rfl rfl ?_
 refine sF ?_
 refine oL [0,1,2,6003,4,5] (FzOb.no ?_)
 refine oP (zoY (l.map (alwP s b)) (by rw[kS]; omega)) rfl rfl ?_
 refine⟨⟨_,_,_,_,_,_,rfl,rfl,rfl,rfl,?_⟩⟩
 rw[zaq]
 refine⟨_,_,_,_,_,none,rfl,znn s (metP (l.map (alwP s b))) ok.s.c.m,fun m j _ _=>ziJ _ m j,?_⟩
 exact⟨rfl,⟨obR rfl (dE _),trivial⟩,wq rfl⟩
theorem zlk {d:Day} (h:DayOk d) (ids:List Int) (hi:ids.length<=1000000) (h1:(brnD d ids).To - (brnD d ids).From<=d.Long) (h0:givE d.s (brnD d ids) (lstD d ids)=0) :
  SpecO PP 56 [d.v,.d (lI ids)] 75 2 (plsD d ids).length (rowP (plsD d ids)):=by
 have hn:=h.n
 have e:plsD d ids=(plcR d.s (brnD d ids) (lstD d ids)).1:=by unfold plsD; rw[kH h1]
 rw[e]
 refine zda Tryz.func56 rfl (by kernel_rfl) rfl ?_
 refine cP (zln d ids (by omega) hi) rfl rfl ?_
 refine cP (zhk d (brnD d ids) (zhB h ids)) rfl rfl ?_
 apply bY <;> intro h2
 ·have h2:¬ (brnD d ids).To - (brnD d ids).From<=d.Long:=by simpa using h2
  exact absurd h1 h2
 refine oL [0,1,2,3,4,5,6006,7,8,9,10,11] (FzOb.no ?_)
 refine CallOb.ro (zlm d ids (by omega) hi) rfl rfl ?_
 refine⟨⟨_,_,_,_,_,_,rfl,rfl,rfl,rfl,?_⟩⟩
 rw[zaq]
 refine⟨_,_,_,_,_,some _,rfl,zle d.s (brnD d ids) (lstD d ids) h0,fun m j _ _=>ziJ _ m j,?_⟩
 exact⟨rfl,rfl,rfl,fun i hi j hj=>dE _⟩
theorem zqJ (d:Day) (ids:List Int) (hn:d.R.length<=1000000) (hi:ids.length<=1000000) (h0:askE d ids=0) (h1:(brnD d ids).To - (brnD d ids).From<=d.Long) (hg:givE d.s (brnD d ids) (lstD d ids)=0) :
  SpecTO false PP 37 [d.v,.d (lI ids)] 75 2 (plsD d ids).length (rowP (plsD d ids)) [.d (.int .i64 0)]:=by
 refine zf0 Tryz.func37 rfl (by kernel_rfl) 4 15 5 [] rfl rfl (by decide) rfl rfl ?_
 have ha:=zlp d ids hn hi
 rw[h0] at ha
 refine cP ha rfl rfl ?_
 refine sF ?_
 refine CallSt.own (zlk (zpd h0) ids hi h1 hg) rfl rfl (fun m j _ _=>ziJ _ m j) ?_
 exact⟨rfl,⟨obR rfl (dE _),trivial⟩,wq rfl⟩
theorem giv12:givE exS (brnD exD [1,2]) (lstD exD [1,2])=0:=by
 have e1:brnD exD [1,2]=⟨100,110,0⟩:=by decide +kernel
 have e2:lstD exD [1,2]=[xq1,xq2]:=by decide +kernel
 rw[e1,e2]
 refine zsI _ (by decide +kernel) _ (by decide) (fun r hr=>?_) (by decide +kernel)
 rcases kT.1 hr with rfl | hr
 ·exact rx1
 rcases kT.1 hr with rfl | hr
 ·exact rx2
 cases hr
theorem zs4:SpecTO false PP 37 [exD.v,.d (lI [1,2])] 75 2 1 (rowP [⟨4,4⟩]) [.d (.int .i64 0)]:=by
 have h:=zqJ exD [1,2] (by decide) (by decide) (ask3 [1,2] (by decide +kernel) (by decide +kernel)) (by decide +kernel) giv12
 rw[c3] at h
 exact h
theorem zr9:Spec PP 33 [exD.v,.d (lI [1,3])] [B false,.d (.int .i64 0)]:=by
 have h:=zju exD [1,3] (by decide) (by decide)
 rw[zmv] at h
 exact h
theorem few3:Spec PP 25 [exD.v] [N 2,.d (.int .i64 0)]:=by
 have h:=ziy exD (by decide)
 rw[zrv] at h
 exact h
theorem few4:Spec PP 25 [exD4.v] [N 3,.d (.int .i64 0)]:=by
 have h:=ziy exD4 (by decide)
 rw[zru] at h
 exact h
abbrev vdL (a:Int) (m n:Nat):V1:=.agg [I a,lenD m,lenD n]
theorem zjR {w:World} {ok:Nat->Prop} (x:Vdt) {a:Int} (ha:x.Ans=a):∀ u,Rep1 w ok x.v u->Rep1 w (fun _=>False) (vdL a x.T.length x.A.length) u:=fun u ⟨us,e,h⟩=>by
 subst ha
 refine⟨us,e,?_⟩
 cases h with
 | cons h1 h=>
 cases h with
 | cons h2 h=>
 cases h with
 | cons h3 h=>
 cases h
 exact .cons (Rep.flat rfl h1) (.cons (ze6 h2) (.cons (ze6 h3) .nil))
theorem zrE {w:World} {ok:Nat->Prop} {l:List Fit} {m:List Mis}:∀ u,Rep1 w ok (.agg [lFt l,lMs m]) u->Rep1 w (fun _=>False) (.agg [lenD l.length,lenD m.length]) u:=fun u ⟨us,e,h⟩=>by
 refine⟨us,e,?_⟩
 cases h with
 | cons h1 h=>
 cases h with
 | cons h2 h=>
 cases h
 exact .cons (ze6 h1) (.cons (ze6 h2) .nil)
theorem zlf {f:Nat->Nat->D} {a b:Int} (h0:D.eqv (f 0 0) (I a)) (h1:D.eqv (f 1 0) (I b)):D.eqv (.slc 1 2 f) (lI [a,b]):=⟨rfl,.inr ⟨rfl,fun i hi j hj=>by
 match i,hi,j,hj with
 | 0,_,0,_=>exact h0
 | 1,_,0,_=>exact h1⟩⟩
theorem zrM:Spec PP 35 [exD.v,N 1,N 2] [(samR exD 1 2).1.v,.d (.int .i64 0)]:=by
 have h:=zgm exD 1 2 (by decide)
 rw[zfX.2] at h
 exact h
theorem zrL:Spec PP 35 [exD.v,N 1,N 3] [(samR exD 1 3).1.v,.d (.int .i64 0)]:=by
 have h:=zgm exD 1 3 (by decide)
 rw[zfW.2] at h
 exact h
theorem zpK:Spec PP 35 [exD4.v,N 1,N 2] [(samR exD4 1 2).1.v,.d (.int .i64 0)]:=by
 have h:=zgm exD4 1 2 (by decide)
 rw[zfV.2] at h
 exact h
theorem tab3:Spec PP 30 [exD.v] [.agg [lFt (tabR exD).1,lMs (tabR exD).2.1],.d (.int .i64 0)]:=by
 have h:=zqH exD (by decide)
 rw[zjV.2.2] at h
 exact h
theorem zpE {w:World} {ok:Nat->Prop}:∀ u,Rep1 w ok (.agg [lFt (tabR exD).1,lMs (tabR exD).2.1]) u->Rep1 w (fun _=>False) (.agg [lenD 2,lenD 2]) u:=fun u h=>by
 have:=zrE u h
 rw[zjV.1,zjV.2.1] at this
 exact this
theorem zr5 {n:Nat} {g:Nat->Nat->D} (hn:n=4) (hg:∀ j,j<8->D.eqv (g 0 j) (xq4.at j)):D.eqv (.slc 8 n (appRow 3 (rowRp exR) g)) (lR exD4.R):=by
 subst hn
 refine⟨rfl,.inr ⟨rfl,fun i hi j hj=>?_⟩⟩
 match i,hi with
 | 0,_=>exact dE (xq1.at j)
 | 1,_=>exact dE (xq2.at j)
 | 2,_=>exact dE (xq3.at j)
 | 3,_=>exact hg j hj
theorem x4:∀ j,j<8->D.eqv (rowOf 8 xq4.ds 0 j) (xq4.at j):=fun j hj=>by
 match j,hj with
 | 0,_=>exact⟨rfl,rfl⟩
 | 1,_=>exact⟨rfl,rfl⟩
 | 2,_=>exact⟨rfl,rfl⟩
 | 3,_=>exact⟨rfl,rfl⟩
 | 4,_=>exact⟨rfl,rfl⟩
 | 5,_=>exact⟨rfl,rfl⟩
 | 6,_=>exact⟨rfl,rfl⟩
 | 7,_=>exact⟨rfl,rfl⟩
theorem zpt:Spec PP 9 [] [B true]:=by
 refine sA Tryz.func9 ?_
 refine CallSt.obA [(0,.d (.bool false))] [] rfl rfl zjQ ⟨rfl,trivial,wq rfl⟩ rfl rfl (fun j hj=>by
  have hj:j ∈ [25]:=hj
  obtain rfl:=kL.1 hj
  rfl) rfl ?_
 refine CallSt.ownT zs4 rfl ⟨zaa _,zlf ⟨rfl,rfl⟩ ⟨rfl,rfl⟩,trivial⟩ rfl (fun m j _ _=>ziJ _ m j) ?_
 refine CallSt.pureE zr9 rfl ⟨zaa _,zlf ⟨rfl,rfl⟩ ⟨rfl,rfl⟩,trivial⟩ rfl ?_
 refine CallSt.pureE few3 rfl ⟨zaa _,trivial⟩ rfl ?_
 refine CallSt.lendW [] rfl zrM rfl ⟨zaa _,⟨rfl,rfl⟩,⟨rfl,rfl⟩,trivial⟩ (fun w ok v h=>zhN (y:=.int .i64 0) rfl (zjR _ zfX.1) h) ?_
 refine CallSt.lendW [] rfl zrL rfl ⟨zaa _,⟨rfl,rfl⟩,⟨rfl,rfl⟩,trivial⟩ (fun w ok v h=>zhN (y:=.int .i64 0) rfl (zjR _ zfW.1) h) ?_
 refine CallSt.lendW [] rfl tab3 rfl ⟨zaa _,trivial⟩ (fun w ok v h=>zhN (y:=.int .i64 0) rfl zpE h) ?_
 repeat first | apply sT | apply sF
 refine⟨⟨.inr rfl,by unfold maxLen; omega,by show (3+1) * 64<=140737488355328; omega⟩,?_⟩
 refine CallSt.lendW [] rfl zpK rfl ⟨⟨dE _,dE _,dE _,dE _,dE _,dE _,dE _,dE _,dE _,?_,trivial⟩,⟨rfl,rfl⟩,⟨rfl,rfl⟩,trivial⟩ (fun w ok v h=>zhN (y:=.int .i64 0) rfl (zjR _ zfV.1) h) ?_
 ·exact zr5 rfl x4
 refine CallSt.pureE few4 rfl ⟨⟨dE _,dE _,dE _,dE _,dE _,dE _,dE _,dE _,dE _,?_,trivial⟩,trivial⟩ rfl ?_
 ·exact zr5 rfl x4
 refine⟨⟨by decide,by decide⟩,?_⟩
 refine⟨by decide,?_⟩
 repeat first | apply sT | apply sF
 exact r1B rfl rfl
end Go.Pg
namespace Go.Pg
open Go.Proofs Go.RowKit Go.MapKept
end Go.Pg
namespace Go.Pg
open Go.Proofs Go.RowKit Go.Sort Go.Shelf
theorem znq (ids:List Int) (m:Nat):(memb ids m).Sublist ids:=by
 have e:(List.range ids.length).map (ids.getD · 0)=ids:=by
  apply List.ext_getElem (by simp)
  intro i h1 h2
  rw[List.getElem_map,List.getElem_range,hZ,kF h2]; rfl
 have:(memb ids m).Sublist ((List.range ids.length).map (ids.getD · 0)):=List.Sublist.map _ (jbn ..)
 rwa [e] at this
theorem DayOk.lt {d:Day} (h:DayOk d):(sigL d.R).Pairwise (· < ·):=by
 refine List.Pairwise.imp₂ (fun a b h1 h2=>?_) (zhX d.R) h.nod
 have h1:=qC h1
 have h2:a≠b:=h2
 omega
theorem zok {d:Day} (h:dayE d=0) {m:Nat} (hne:memb (sigL d.R) m ≠ []):askE d (memb (sigL d.R) m)=0:=by
 have ok:=zb6 h
 have hsub:=znq (sigL d.R) m
 have hp:=ok.lt.sublist hsub
 have hr:setB (memb (sigL d.R) m)=true:=by
  unfold setB risB
  rw[jP]
  refine⟨jC.2 fun j hj=>jG ?_,jG (ja1.2 hne)⟩
  have hj:=kK.1 hj
  have h1:j<(memb (sigL d.R) m).length:=by omega
  have h2:j+1<(memb (sigL d.R) m).length:=by omega
  rw[hZ,hZ,kF h1,kF h2]
  exact jan.1 hp j (j+1) h1 h2 (by omega)
 have hq:partB (memb (sigL d.R) m) (sigL d.R)=true:=jC.2 fun x hx=>kD.2 (hsub.subset hx)
 unfold askE
 rw[kG (fun hh=>hh h),kG (by rw[hr]; decide),kG (by rw[hq]; decide)]
theorem zns (ids:List Int) (a b:Nat) {x:Int} (h:(memb ids (a &&& b)).contains x=true):(memb ids a).contains x=true:=by
 have h:=kD.1 h
 unfold memb membA at h
 obtain⟨i,hi,e⟩:=kI.1 h
 rw[kW,jbl,jP] at hi
 exact kD.2 (kI.2 ⟨i,kW.2 ⟨hi.1,hi.2.1⟩,e⟩)
theorem zpF {k m:Nat}:k &&& m=k ↔ ∀ i,k.testBit i=true->m.testBit i=true:=by
 constructor
 ·intro h i hi
  rw[<- h,jbl,jP] at hi
  exact hi.2
 intro h
 apply jaY
 intro i
 rw[jbl]
 cases e:k.testBit i with
 | false=>rfl
 | true=>rw[h i e]; rfl
theorem zi2 {n m i:Nat} (hm:m<2 ^ n) (h:m.testBit i=true):i<n:=by
 rcases jar i n with h1 | h1
 ·exact h1
 rw[jaS (jN hm (jai (by decide) h1))] at h; cases h
theorem zrh {n m i j:Nat} (hn:n<=7) (hm:m<2 ^ n) (hi:i<n):(offS m i).testBit j=(m.testBit j && decide (j≠i)):=by
 unfold offS
 rw[jbl]
 cases e:m.testBit j with
 | false=>rfl
 | true=>
 have hj:=zi2 hm e
 have:=allL (n:=7) (m:=7) (P:=fun i j=>(127 - 2 ^ i).testBit j==decide (j≠i)) (by decide +kernel) (show i<7 by omega) (show j<7 by omega)
 rw[eq_of_beq this]
theorem zi1 (m i j:Nat):(onS m i).testBit j=(m.testBit j || decide (i=j)):=by
 unfold onS
 rw[Nat.testBit_or,Nat.testBit_two_pow]
theorem zsr (m i:Nat):offS m i<=m:=Nat.and_le_left
theorem zqh {m:Nat} (h:0<m):∃ i,m.testBit i=true:=by
 refine jL fun hc=>?_
 have:m=0:=by
  apply jaY
  intro i
  rw[Nat.zero_testBit]
  cases e:m.testBit i with
  | false=>rfl
  | true=>exact absurd ⟨i,e⟩ hc
 omega
theorem zqr {ids:List Int} {m:Nat} (h0:0<m) (hm:m<2 ^ ids.length):memb ids m ≠ []:=by
 obtain⟨i,hi⟩:=zqh h0
 have hl:=zi2 hm hi
 intro e
 have:ids.getD i 0∈memb ids m:=kI.2 ⟨i,kW.2 ⟨kK.2 hl,hi⟩,rfl⟩
 rw[e] at this
 cases this
theorem zi5 {d:Day} (h:dayE d=0) {m:Nat} (h0:0<m) (hm:m<2 ^ (sigL d.R).length):(d.R.any fun r=>(memb (sigL d.R) m).contains r.ID)=true:=zrj (zok h (zqr h0 hm))
theorem zhq {d:Day} (h:dayE d=0) {m:Nat} (h0:0<m) (hm:m<2 ^ (sigL d.R).length):fitX d m=decide (0<(celD d m).length):=by
 unfold fitX
 rw[jG h0,qS,zpx (zb6 h) (zi5 h h0 hm)]
theorem znY {d:Day} (h:dayE d=0) {k m:Nat} (h0:0<k) (hs:k &&& m=k) (hm:m<2 ^ (sigL d.R).length) (hp:fitX d m=true):fitX d k=true:=by
 have hk:k<=m:=by rw[<- hs]; exact Nat.and_le_right
 rw[zhq h (by omega) hm] at hp
 rw[zhq h h0 (by omega)]
 obtain⟨q,hq⟩:=List.exists_mem_of_length_pos (qC hp)
 refine jG (List.length_pos_of_mem (a:=q) ?_)
 refine zkD (zb6 h) (A:=memb (sigL d.R) m) (B:=memb (sigL d.R) k) (fun x hx=>?_) (zi5 h h0 (by omega)) hq
 rw[<- hs,Nat.and_comm] at hx
 exact zns _ m k hx
theorem ziK {d:Day} (h:dayE d=0):∀ M,M<=2 ^ (sigL d.R).length -> ∀ m,0<m->m<M->fitK d (keysD d M) m=fitX d m
 | 0,_,m,_,hm=>by omega
 | M+1,hM,m,h0,hm=>by
  have ih:=ziK h M (by omega)
  have h7:=sig7 (zb6 h)
  by_cases e:m=M
  ·subst e
   have hpart:fitX d m=true->partK d (keysD d m) m=true:=fun hp=>by
    unfold partK
    rw[jC]
    intro i hi
    have hi:=kK.1 hi
    unfold parK
    by_cases e1:offS m i=m
    ·simp[e1]
    by_cases e2:offS m i=0
    ·simp[e2]
    have hlt:offS m i<m:=by have:=zsr m i; omega
    have:=ih (offS m i) (by omega) hlt
    rw[this,znY h (by omega) (k:=offS m i) (m:=m) (by
     rw[zpF]; intro j hj
     rw[zrh h7 (show m<_ by omega) hi,jP] at hj; exact hj.1) (by omega) hp]
    simp
   have hnot:(keysD d m).contains m=false:=by
    rw[wE]; intro hc
    have:=zdo d m m (kD.1 hc); omega
   rw[zhq h h0 (by omega)] at *
   unfold keysD
   split
   ·rename_i hk
    unfold fitK
    rw[show (keysD d m ++ [m]).contains m=true from kD.2 (by simp),qS]
   rename_i hk
   unfold fitK
   rw[hnot,qN]
   cases e3:decide (0<(celD d m).length) with
   | false=>rfl
   | true=>exact absurd ⟨by omega,hpart e3⟩ hk
  have hm':m<M:=by omega
  rw[<- ih m h0 hm']
  unfold fitK
  congr 1
  conv=>lhs; unfold keysD
  split
  ·rw[kP,kD,kD,qE,kL]
   exact⟨fun hh=>hh.elim id fun e'=>absurd e' e,.inl⟩
  rfl
theorem zqU {d:Day} (h:dayE d=0) {m:Nat} (h0:0<m) (hm:m<2 ^ (sigL d.R).length):fitK d (ksD d) m=fitX d m:=ziK h _ (jE _) m h0 hm
theorem zdK {ids:List Int} {m j:Nat} (hm:m<2 ^ j):∀ n,j<=n->membA ids m n=membA ids m j
 | 0,h=>by obtain rfl:j=0:=Nat.le_zero.1 h; rfl
 | n+1,h=>by
  by_cases e:j=n+1
  ·rw[e]
  have:m.testBit n=false:=by
   cases q:m.testBit n with
   | false=>rfl
   | true=>have:=zi2 hm q; omega
  rw[zcp this]
  exact zdK hm n (by omega)
theorem zoS {x i:Nat} (h:x<2 ^ i):x+2 ^ i=onS x i:=by
 have:=Nat.two_pow_add_eq_or_of_lt h 1
 unfold onS
 rw[Nat.mul_one] at this
 rw[Nat.add_comm,this,Nat.or_comm]
theorem zez {ids:List Int} {a b:Nat}:∀ {n:Nat},(∀ j,j<n->a.testBit j=b.testBit j)->membA ids a n=membA ids b n
 | 0,_=>rfl
 | n+1,h=>by
  have ih:=zez (ids:=ids) (n:=n) fun j hj=>h j (by omega)
  have hn:=h n (by omega)
  cases e:a.testBit n with
  | true=>rw[zbJ e,zbJ (by rw[<- hn]; exact e),ih]
  | false=>rw[zcp e,zcp (by rw[<- hn]; exact e),ih]
theorem zir {ids:List Int} {x i:Nat} (hx:x<2 ^ i) (hi:i<ids.length):memb ids (x+2 ^ i)=memb ids x ++ [ids.getD i 0]:=by
 have h1:x+2 ^ i<2 ^ (i+1):=by rw[Nat.pow_succ]; omega
 unfold memb
 rw[zdK h1 ids.length hi,zdK hx ids.length (by omega),zoS hx,zbJ (by rw[zi1]; simp)]
 congr 1
 refine zez fun j hj=>?_
 rw[zi1,jH (by omega),jaf]
theorem zkY (ids:List Int):memb ids 0=[]:=by
 unfold memb membA
 rw[List.filter_eq_nil_iff.2 (fun i _=>by simp)]
 rfl
theorem znS {l:List Nat} {f:Nat->List Int} {q:Nat} (h:q<l.length):(l.map f).getD q []=f (l.getD q 0):=by
 rw[hZ,jU,hZ,kF h]; rfl
theorem snocInd {α:Type} {motive:List α->Prop} (h0:motive []) (h1:∀ l x,motive l->motive (l ++ [x])) (l:List α):motive l:=by
 rw[<- List.reverse_reverse l]
 induction l.reverse with
 | nil=>exact h0
 | cons x r ih=>rw[List.reverse_cons]; exact h1 _ _ ih
theorem zl8 {ids:List Int} {ix:List Nat} (hr:Rg ix) (hl:ix.length=ids.length):∀ k i,i+k=ids.length->bld (ids.drop i) ((bitK ix i).map (memb ids)) (ix.drop i)=setX ids ix
 | 0,i,h=>by
  have e:i=ids.length:=by omega
  subst e
  rw[jaQ,<- hl,jaQ]
  rfl
 | k+1,i,h=>by
  have hi:i<ids.length:=by omega
  have hi2:i<ix.length:=by omega
  have d1:ids.drop i=ids.getD i 0 :: ids.drop (i+1):=by rw[kV hi,hZ,kF hi]; rfl
  have d2:ix.drop i=ix.getD i 0 :: ix.drop (i+1):=by rw[kV hi2,hZ,kF hi2]; rfl
  have hk:=hr i hi2
  have hlen:=zbE hr i (by omega)
  rw[d1,d2,<- zl8 hr hl k (i+1) (by omega),zbq]
  show bld (ids.drop (i+1)) (if _ then _ else _) (ix.drop (i+1))=_
  congr 1
  rw[kS]
  unfold bit1
  by_cases h1:ix.getD i 0<(bitK ix i).length
  ·rw[kH h1,kH h1,List.map_set]
   have hx:(bitK ix i).getD (ix.getD i 0) 0<2 ^ i:=(zbD ix i _ (by rw[hZ,kF h1]; exact kQ h1)).2
   rw[zir hx hi]
   congr 2
   exact znS h1
  rw[kG h1,kG h1,jT]
  have:=zir (ids:=ids) (x:=0) (Nat.two_pow_pos i) hi
  rw[kU,zkY] at this
  show _=_ ++ [memb ids (2 ^ i)]
  rw[this]; rfl
theorem zgK {ids:List Int} (hd:ids.Nodup) (h7:ids.length<=7) {m:Nat}:∀ i,i<=ids.length -> ∀ j,(bitA ids (memb ids m) i).testBit j=(decide (j<i) && m.testBit j)
 | 0,_,j=>by show (0:Nat).testBit j=_; simp
 | i+1,hi,j=>by
  have ih:=zgK hd h7 (m:=m) i (by omega)
  have hb:=zdh hd (m:=m) (show i<ids.length by omega)
  rw[zcy]
  by_cases e:m.testBit i=true
  ·rw[kH (kD.2 (hb.2 e)),zi1,ih]
   by_cases e2:i=j
   ·subst e2; simp[e]
   rw[jH e2,jaf]
   congr 1
   exact kZ.2 (by omega)
  rw[kG (fun hh=>e (hb.1 (kD.1 hh))),ih]
  by_cases e2:i=j
  ·subst e2
   rw[Bool.not_eq_true] at e
   rw[e,kN,kN]
  congr 1
  exact kZ.2 (by omega)
theorem zl9 {ids:List Int} (hd:ids.Nodup) (h7:ids.length<=7) {m:Nat} (hm:m<2 ^ ids.length):bitS ids (memb ids m)=m:=by
 unfold bitS
 apply jaY
 intro j
 rw[zgK hd h7 _ (jE _)]
 cases e:m.testBit j with
 | false=>rw[kN]
 | true=>rw[jG (zi2 hm e)]; rfl
abbrev gwD (d:Day):List (List Nat):=gwX (fitX d) (sigL d.R).length []
theorem zqi {d:Day} (h:dayE d=0):parts d=(gwD d).map (setX (sigL d.R)):=by
 have ok:=zb6 h
 have h7:=sig7 ok
 unfold parts gwD gwX
 rw[zfd]
 have e1:(rgs (sigL d.R).length (mst [])).map (([]:List Nat) ++ ·)=rgs (sigL d.R).length 0:=by
  show (rgs (sigL d.R).length 0).map (fun x=>[]++x)=_
  simp
 rw[e1]
 have hm:∀ ix∈rgs (sigL d.R).length 0,Rg ix/\ix.length=(sigL d.R).length:=fun ix hx=>zkg _ [] zoI ix hx
 show List.filter _ ((rgs (sigL d.R).length 0).map (bld (sigL d.R) []))=_
 generalize rgs (sigL d.R).length 0=L at hm
 have hb:∀ ix∈L,bld (sigL d.R) [] ix=setX (sigL d.R) ix:=fun ix hx=>by
  have:=zl8 (hm ix hx).1 (hm ix hx).2 (sigL d.R).length 0 (kU _)
  exact this
 rw[qF hb,List.filter_map]
 congr 1
 refine jbB fun ix hx=>?_
 show (setX (sigL d.R) ix).all _=(bitX ix).all (fitX d)
 unfold setX
 rw[List.all_map,kP,jC,jC]
 refine forall_congr' fun m=>forall_congr' fun hmm=>?_
 have hml:=zbD ix ix.length m hmm
 rw[(hm ix hx).2] at hml
 show fitK d (ksD d) (bitS (sigL d.R) (memb (sigL d.R) m))=true ↔ _
 rw[zl9 ok.nod h7 hml.2,zqU h hml.1 hml.2]
def fwP1 (o:Int) (p:List (List Int)):Int:=if o<0 \/ (p.length:Int)<o then (p.length:Int) else o
def fwP (l:List (List (List Int))):Int:=l.foldl fwP1 (-1)
theorem ziG (l:List (List (List Int))) (p:List (List Int)):fwP (l ++ [p])=fwP1 (fwP l) p:=by unfold fwP; rw[jab]; rfl
theorem zo4:∀ {l:List (List (List Int))},(fwP l<0->l=[])/\(∀ p∈l,fwP l<=(p.length:Int))/\(l ≠ [] -> ∃ p∈l,(p.length:Int)=fwP l):=by
 intro l
 induction l using snocInd with
 | h0=>exact⟨fun _=>rfl,⟨fun p hp=>(by cases hp),fun h=>absurd rfl h⟩⟩
 | h1 l p ih=>
 obtain⟨a,b,c⟩:=ih
 rw[ziG]
 unfold fwP1
 by_cases h:fwP l<0 \/ (p.length:Int)<fwP l
 ·rw[kH h]
  refine⟨fun h'=>by omega,fun q hq=>?_,fun _=>⟨p,by simp,rfl⟩⟩
  rcases qE.1 hq with hq | hq
  ·have:=b q hq
   rcases h with h | h
   ·rw[a h] at hq; cases hq
   omega
  rw[kL.1 hq]; exact ja3 _
 rw[kG h]
 refine⟨fun h'=>absurd (.inl h') h,fun q hq=>?_,fun _=>?_⟩
 ·rcases qE.1 hq with hq | hq
  ·exact b q hq
  rw[kL.1 hq]; omega
 by_cases hl:l=[]
 ·subst hl
  exact absurd (.inl (by show (-1:Int)<0; decide)) h
 obtain⟨q,hq,e⟩:=c hl
 exact⟨q,jaw _ hq,e⟩
theorem zlG {l:List (List (List Int))} (h:fltP (fwP l) l ≠ []):((((fltP (fwP l) l).getD 0 []).length:Nat):Int)=fwP l:=by
 have h0:0<(fltP (fwP l) l).length:=ja1.2 h
 have:(fltP (fwP l) l).getD 0 []∈fltP (fwP l) l:=by rw[hZ,kF h0]; exact kQ h0
 have:=(kW.1 this).2
 simpa using this
theorem znX {l:List (List (List Int))} (h:fltP (fwP l) l=[]):l=[]:=by
 refine jL fun hl=>?_
 obtain⟨p,hp,e⟩:=(zo4 (l:=l)).2.2 hl
 have:p∈fltP (fwP l) l:=kW.2 ⟨hp,by simpa using e⟩
 rw[h] at this; cases this
theorem zoe (p:List (List Int)):bst1 [] p=[p]:=rfl
theorem zrc {o:List (List (List Int))} {p:List (List Int)} (h0:0<o.length) (h:p.length<(o.getD 0 []).length):bst1 o p=[p]:=by
 have e:bst0 o p=[]:=by unfold bst0; rw[jG h0,jG h]; rfl
 unfold bst1; rw[e]; rfl
theorem zl3 {o:List (List (List Int))} {p:List (List Int)} (h:¬ p.length<(o.getD 0 []).length):bst0 o p=o:=by unfold bst0; rw[jH h,kN]; rfl
theorem zl2 {o:List (List (List Int))} {p:List (List Int)} (h:p.length=(o.getD 0 []).length):bst1 o p=o ++ [p]:=by
 unfold bst1; rw[zl3 (by omega),jG h,kO]; rfl
theorem zrd {o:List (List (List Int))} {p:List (List Int)} (h0:0<o.length) (h:(o.getD 0 []).length<p.length):bst1 o p=o:=by
 unfold bst1; rw[zl3 (by omega),jH (by omega:¬ o.length=0),jH (by omega:¬ p.length=(o.getD 0 []).length)]; rfl
theorem zs6:∀ {l:List (List (List Int))},bstL l=fltP (fwP l) l:=by
 intro l
 induction l using snocInd with
 | h0=>rfl
 | h1 l p ih=>
 rw[zbQ,ih,ziG,zlF]
 obtain⟨a,b,_⟩:=zo4 (l:=l)
 by_cases hn:fltP (fwP l) l=[]
 ·have hl:=znX hn
  subst hl
  have e:fwP1 (fwP []) p=(p.length:Int):=kH (Or.inl (show (-1:Int)<0 by decide))
  rw[hn,zoe,e,kH (jaP _)]
  rfl
 have hh:=zlG hn
 have h0:0<(fltP (fwP l) l).length:=ja1.2 hn
 have hf:¬ fwP l<0:=by omega
 by_cases h1:(p.length:Int)<fwP l
 ·have e:fwP1 (fwP l) p=(p.length:Int):=kH (Or.inr h1)
  rw[zrc h0 (by omega),e,kH (jaP _)]
  have:fltP (p.length:Int) l=[]:=List.filter_eq_nil_iff.2 fun q hq=>by
   have:=b q hq
   simp; omega
  rw[this]; rfl
 have e:fwP1 (fwP l) p=fwP l:=kG (fun hh=>hh.elim hf h1)
 rw[e]
 by_cases h2:(p.length:Int)=fwP l
 ·rw[zl2 (by omega),kH (by simpa using h2)]
 rw[zrd h0 (by omega),kG (by simpa using h2)]
theorem fw_eq (ids:List Int) (l:List (List Nat)):fwP (l.map (setX ids))=fewN l:=by
 unfold fwP fewN
 rw[List.foldl_map]
 congr 1
 funext o x
 show (if o<0 \/ (((setX ids x).length:Nat):Int)<o then (((setX ids x).length:Nat):Int) else o)=few1 o x
 unfold setX few1
 rw[kS]
theorem zsS (ids:List Int) (k:Int) (l:List (List Nat)):fltP k (l.map (setX ids))=(wthX k l).map (setX ids):=by
 unfold fltP wthX
 rw[List.filter_map]
 congr 1
 refine jbB fun x _=>?_
 show ((((setX ids x).length:Nat):Int)==k)=_
 unfold setX
 rw[kS]
theorem zrb {d:Day} (h:dayE d=0):bsts d=(bstX (fitX d) (sigL d.R).length).map (setX (sigL d.R)):=by
 show bstL (parts d)=_
 rw[zs6,zqi h,fw_eq,zsS]
 rfl
theorem zpj (k:Int) (l:List (List Nat)):(wthX k l).length<=l.length:=kX _ _
def prR (d:Day) (a b:Int):(Int × Int) × Int:=if parE d a b≠0 then ((0,0),parE d a b) else ((idxL (· == a) (sigL d.R),idxL (· == b) (sigL d.R)),0)
theorem zig (a b:Int) (l:List Int):partB [a,b] l=(l.contains a && l.contains b):=by
 unfold partB
 simp
theorem zpU (d:Day) (a b:Int) (hn:d.R.length<=1000000):Spec PP 68 [d.v,N a,N b] [.agg [I (prR d a b).1.1,I (prR d a b).1.2],.d (.int .i64 (prR d a b).2)]:=by
 refine sA Tryz.func68 ?_
 refine cP (zm6 d hn) rfl rfl ?_
 have bad:∀ e:Int,e≠0->parE d a b=e->prR d a b=((0,0),e):=fun e h h2=>by unfold prR; rw[h2,kH h]
 apply bY <;> intro h0
 ·have h0:dayE d≠0:=by simpa using h0
  rw[bad (dayE d) h0 (by unfold parE; rw[kH h0])]
  exact⟨rtC (a:=6) rfl rfl rfl rfl rfl rfl (zaa _),rtI rfl rfl,trivial⟩
 have h0:dayE d=0:=by simpa using h0
 have hs:(sigL d.R).length<=1000000:=by rw[zbh]; exact jM (zbV _) hn
 refine CallSt.ro (zf7 d hn) rfl rfl ?_
 refine cP (zkp (sigL d.R) a hs) rfl rfl ?_
 refine cP (zkp (sigL d.R) b hs) rfl rfl ?_
 have b5:partB [a,b] (sigL d.R)=false->prR d a b=((0,0),5):=fun h=>bad 5 (by decide) (by unfold parE; rw[kG (fun hh=>hh h0),kH h])
 apply bY <;> intro h1
 ·have h1:(!(sigL d.R).contains a)=true:=by rw[<- zls]; exact h1
  rw[b5 (by rw[zig]; simp at h1 ⊢; exact fun h=>absurd h h1)]
  repeat first | apply sT | apply sF
  exact⟨rtC (a:=6) rfl rfl rfl rfl rfl rfl (zaa _),rtI rfl rfl,trivial⟩
 have h1:(sigL d.R).contains a=true:=by
  have:(!(sigL d.R).contains a)=false:=by rw[<- zls]; exact h1
  simpa using this
 repeat first | apply sT | apply sF
 apply bY <;> intro h2
 ·have h2:(sigL d.R).contains b=false:=by
   have:(!(sigL d.R).contains b)=true:=by rw[<- zls]; exact h2
   simpa using this
  rw[b5 (by rw[zig,h2,kN])]
  exact⟨rtC (a:=6) rfl rfl rfl rfl rfl rfl (zaa _),rtI rfl rfl,trivial⟩
 have h2:(sigL d.R).contains b=true:=by
  have:(!(sigL d.R).contains b)=false:=by rw[<- zls]; exact h2
  simpa using this
 have hp:partB [a,b] (sigL d.R)=true:=by rw[zig,h1,h2]; rfl
 apply bY <;> intro h3
 ·have h3:a=b:=by simpa using h3
  rw[bad 1 (by decide) (by unfold parE; rw[kG (fun hh=>hh h0),kG (by rw[hp]; decide),kH h3])]
  exact⟨rtC (a:=6) rfl rfl rfl rfl rfl rfl (zaa _),rtI rfl rfl,trivial⟩
 have h3:¬ a=b:=by simpa using h3
 have e:prR d a b=((idxL (· == a) (sigL d.R),idxL (· == b) (sigL d.R)),0):=by
  have ep:parE d a b=0:=by unfold parE; rw[kG (fun hh=>hh h0),kG (by rw[hp]; decide),kG h3]
  unfold prR
  rw[kG (fun hh=>hh ep)]
 rw[e]
 exact⟨rtC (a:=6) rfl rfl rfl rfl rfl rfl (zaa _),rtI rfl rfl,trivial⟩
theorem zps (a b:List Int) (hn:a.length<=1000000):Spec PP 13 [.d (lI a),.d (lI b)] [B (decide (a=b))]:=by
 refine sA Tryz.func13 ?_
 apply bY <;> intro h0
 ·have h0:¬ a.length=b.length:=fun e=>by
   have:¬ (a.length:Int)=b.length:=by simpa using h0
   exact this (by rw[e])
  refine r1B rfl ?_
  exact (jH fun e=>h0 (by rw[e])).symm
 have h0:a.length=b.length:=by
  have:(a.length:Int)=b.length:=by simpa using h0
  omega
 refine LoopOb.of (σ:=Nat) (fun i=>([(0,.d (lI a)),(1,.d (lI b)),(5,.d (I i))],[])) (fun i=>i<=a.length /\ ∀ j,j<i->a.getD j 0=b.getD j 0) (fun i=>a.length - i) 0
  ⟨rfl,trivial,wq rfl⟩ z0L fun i hi=>?_
 obtain⟨hi,ha⟩:=hi
 apply bY <;> intro h1
 ·have h1:i<a.length:=by have:=dT h1; omega
  refine oL (List.range 9) (FzOb.no ?_)
  refine⟨⟨rfl,by omega,by omega⟩,?_⟩
  refine⟨⟨rfl,by omega,by omega⟩,?_⟩
  apply bY <;> intro h3
  ·have h3:a.getD i 0≠b.getD i 0:=by simpa using h3
   refine r1B rfl ?_
   exact (jH fun e=>h3 (by rw[e])).symm
  have h3:a.getD i 0=b.getD i 0:=by simpa using h3
  refine⟨i6,?_⟩
  refine⟨i+1,⟨rfl,trivial,wq rfl⟩,⟨h1,fun j hj=>?_⟩,msr h1⟩
  by_cases e:j=i
  ·subst e; exact h3
  exact ha j (by omega)
 have h1:i=a.length:=by have:=dF h1; omega
 subst h1
 refine r1B rfl ?_
 symm
 refine jG ?_
 apply List.ext_getElem h0
 intro j hj hj'
 have:=ha j hj
 rw[hZ,hZ,kF hj,kF hj'] at this
 exact this
theorem zfo {ix:List Nat} {i:Nat}:∀ {k:Nat},i<k->k<=ix.length->ix.getD i 0<mst (ix.take k)
 | 0,h,_=>by omega
 | k+1,h,hk=>by
  rw[zde (by omega)]
  by_cases e:i=k
  ·subst e; omega
  have:=zfo (ix:=ix) (i:=i) (k:=k) (by omega) (by omega); omega
theorem zpc {ix:List Nat} (hr:Rg ix):∀ k,k<=ix.length -> ∀ q,q<(bitK ix k).length -> ∀ i,((bitK ix k).getD q 0).testBit i=(decide (i<k) && (ix.getD i 0==q))
 | 0,_,q,hq,i=>by cases hq
 | k+1,hk,q,hq,i=>by
  have ih:=zpc hr k (by omega)
  have hlen:=zbE hr k (by omega)
  have hc:=hr k (by omega)
  rw[zbq] at hq ⊢
  unfold bit1 at hq ⊢
  have sp:(decide (i<k+1) && (ix.getD i 0==q))=((decide (i<k) && (ix.getD i 0==q)) || (decide (i=k) && (ix.getD k 0==q))):=by
   by_cases e:i=k
   ·subst e; simp
   rw[jH e,show decide (i<k+1)=decide (i<k) from kZ.2 (by omega)]; simp
  rw[sp]
  by_cases h1:ix.getD k 0<(bitK ix k).length
  ·rw[kH h1] at hq ⊢
   rw[jaU] at hq
   rw[ziD h1]
   by_cases e:q=ix.getD k 0
   ·rw[kH e]
    have hx:(bitK ix k).getD (ix.getD k 0) 0<2 ^ k:=(zbD ix k _ (by rw[hZ,kF h1]; exact kQ h1)).2
    rw[zoS hx,zi1,ih _ h1 i,<- e,jaP,jad]
    congr 1
    exact kZ.2 ⟨fun h=>h.symm,fun h=>h.symm⟩
   rw[kG e,ih q hq i,show (ix.getD k 0==q)=false from jal.2 (fun h=>e h.symm),kN,jaf]
  rw[kG h1] at hq ⊢
  rw[jR,qZ] at hq
  by_cases e:q<(bitK ix k).length
  ·rw[hZ,jJ e,<- hZ,ih q e i,show (ix.getD k 0==q)=false from jal.2 (fun h=>by omega),kN,jaf]
  have eq:q=(bitK ix k).length:=by omega
  rw[hZ,jK (by omega),eq,kE]
  show (2 ^ k).testBit i=_
  rw[Nat.testBit_two_pow,show (ix.getD k 0==(bitK ix k).length)=true from jay.2 (by omega),jad]
  have:(decide (i<k) && (ix.getD i 0==(bitK ix k).length))=false:=by
   by_cases h:i<k
   ·have:=zfo (ix:=ix) h (by omega)
    rw[show (ix.getD i 0==(bitK ix k).length)=false from jal.2 (by omega),kN]
   rw[jH h,qN]
  rw[this,jaq]
  exact kZ.2 ⟨fun h=>h.symm,fun h=>h.symm⟩
def samI (i j:Nat) (ix:List Nat):Bool:=ix.getD i 0==ix.getD j 0
theorem zrw {ids:List Int} (hd:ids.Nodup) {ix:List Nat} (hr:Rg ix) (hl:ix.length=ids.length) {i j:Nat} (hi:i<ids.length) (hj:j<ids.length):togB (ids.getD i 0) (ids.getD j 0) (setX ids ix)=samI i j ix:=by
 have hb:∀ q,q<(bitX ix).length -> ∀ i,i<ids.length->((memb ids ((bitX ix).getD q 0)).contains (ids.getD i 0)=true ↔ ix.getD i 0=q):=fun q hq i hi=>by
  rw[kD,zdh hd hi]
  have:=zpc hr ix.length (jE _) q hq i
  show (((bitK ix ix.length).getD q 0).testBit i=true ↔ _)
  rw[this,jG (by omega),qS,jay]
 unfold togB setX samI bthB
 rw[List.any_map,kP,kJ,jay]
 constructor
 ·rintro⟨m,hm,h⟩
  obtain⟨q,hq,rfl⟩:=qJ hm
  have e:(bitX ix)[q]=(bitX ix).getD q 0:=by rw[hZ,kF hq]; rfl
  have h:((memb ids (bitX ix)[q]).contains (ids.getD i 0) && (memb ids (bitX ix)[q]).contains (ids.getD j 0))=true:=h
  rw[e,jP,hb q hq i hi,hb q hq j hj] at h
  omega
 intro h
 have hq:ix.getD i 0<(bitX ix).length:=by
  have h1:=zbE hr ix.length (jE _)
  have h2:=zfo (ix:=ix) (i:=i) (k:=ix.length) (by omega) (jE _)
  show _<(bitK ix ix.length).length
  omega
 refine⟨(bitX ix).getD (ix.getD i 0) 0,by rw[hZ (l:=bitX ix),kF hq]; exact kQ hq,?_⟩
 show ((memb ids ((bitX ix).getD (ix.getD i 0) 0)).contains (ids.getD i 0) && (memb ids ((bitX ix).getD (ix.getD i 0) 0)).contains (ids.getD j 0))=true
 rw[jP,hb _ hq i hi,hb _ hq j hj]
 exact⟨rfl,h.symm⟩
def FI (p:List Nat->Bool) (l:List (List Nat)) (k:Nat) (v:Int):Prop:=(v = -1/\(l.drop k).find? p=none) \/ ∃ q:Nat,v=(q:Int)/\q<l.length/\(l.drop k).find? p=some (l.getD q [])
theorem FI.start (p:List Nat->Bool) (l:List (List Nat)):FI p l l.length (-1):=.inl ⟨rfl,by rw[jaQ]; rfl⟩
theorem FI.yes {p:List Nat->Bool} {l:List (List Nat)} {m:Nat} (hm:m<l.length) (h:p (l.getD m [])=true):FI p l m (m:Int):=by
 have d1:l.drop m=l.getD m [] :: l.drop (m+1):=by rw[kV hm,hZ,kF hm]; rfl
 exact .inr ⟨m,rfl,hm,by rw[d1,List.find?_cons,h]⟩
theorem FI.no {p:List Nat->Bool} {l:List (List Nat)} {m:Nat} {v:Int} (hm:m<l.length) (h:p (l.getD m [])=false) (hf:FI p l (m+1) v):FI p l m v:=by
 have d1:l.drop m=l.getD m [] :: l.drop (m+1):=by rw[kV hm,hZ,kF hm]; rfl
 rcases hf with⟨e,h2⟩ | ⟨q,e,hq,h2⟩
 ·exact .inl ⟨e,by rw[d1,List.find?_cons,h]; exact h2⟩
 exact .inr ⟨q,e,hq,by rw[d1,List.find?_cons,h]; exact h2⟩
def vdtX (ids:List Int) (l:List (List Nat)) (i j:Nat):Vdt:=
 ⟨if l.any (samI i j)=true then (if (l.any fun x=>!samI i j x)=true then 3 else 2) else 1,((l.find? (samI i j)).map (setX ids)).getD [],((l.find? fun x=>!samI i j x).map (setX ids)).getD []⟩
theorem zb4 {p:List Nat->Bool} {l:List (List Nat)}:l.any p=(l.find? p).isSome:=by
 induction l with
 | nil=>rfl
 | cons x l ih=>
 rw[List.any_cons,List.find?_cons]
 cases p x with
 | true=>rfl
 | false=>rw[jaq]; exact ih
theorem zkl (ids:List Int) (l:List (List Nat)) (i j:Nat) (hi:ids.length<=7) (hR:Rgs l) (hl:l.length<=1000000) (hn:l ≠ []) (hx:∀ x∈l,i<x.length/\j<x.length) :
  Spec PP 70 [.d (lI ids),.d (lNN l),.agg [I i,I j]] [(vdtX ids l i j).v]:=by
 refine sA Tryz.func70 ?_
 refine⟨i6,?_⟩
 refine LoopOb.of (σ:=Nat × Int × Int) (fun x=>([(0,.d (lI ids)),(1,.d (lNN l)),(5,.box 5 0),(6,.box 6 0),(7,.box 7 0),(8,.d (I x.2.1)),(9,.d (I x.2.2)),(10,.d (I ((x.1:Int) - 1)))],[(5,.box ([I i,I j].map AV.d)),(6,.box (List.replicate 3 .any)),(7,.box ([I 3,.nil,.nil].map AV.d))]))
  (fun x=>x.1<=l.length/\FI (samI i j) l x.1 x.2.1/\FI (fun x=>!samI i j x) l x.1 x.2.2) (fun x=>x.1) (l.length,-1,-1)
  ⟨rfl,⟨obD [I i,I j] rfl,zaJ rfl rfl,obD [I 3,.nil,.nil] rfl,trivial⟩,wq rfl⟩ ⟨jE _,FI.start _ _,FI.start _ _⟩ fun⟨k,one,two⟩ hk=>?_
 obtain⟨hk,f1,f2⟩:=hk
 have hk:k<=l.length:=hk
 have f1:FI (samI i j) l k one:=f1
 have f2:FI (fun x=>!samI i j x) l k two:=f2
 apply bY <;> intro h1
 ·have h1:1<=k:=by have:(0:Int)<=(k:Int) - 1:=dT h1; omega
  obtain⟨m,rfl⟩:∃ m,k=m+1:=⟨k - 1,by omega⟩
  have hm:m<l.length:=hk
  have em:(((m+1:Nat):Int) - 1).toNat=m:=by omega
  have hmm:=hx (l.getD m []) (by rw[hZ,kF hm]; exact kQ hm)
  refine oL (List.range 17) (FzOb.no ?_)
  refine⟨⟨rfl,by omega,by show (((m+1:Nat):Int) - 1)<(l.length:Int); omega⟩,?_⟩
  refine⟨by decide,?_⟩
  refine⟨⟨rfl,by omega,by show ((i:Nat):Int)<((l.getD (((m+1:Nat):Int) - 1).toNat []).length:Int); rw[em]; omega⟩,?_⟩
  refine⟨⟨rfl,by omega,by show (((m+1:Nat):Int) - 1)<(l.length:Int); omega⟩,?_⟩
  refine⟨by decide,?_⟩
  refine⟨⟨rfl,by omega,by show ((j:Nat):Int)<((l.getD (((m+1:Nat):Int) - 1).toNat []).length:Int); rw[em]; omega⟩,?_⟩
  have key:((((l.getD (((m+1:Nat):Int) - 1).toNat []).getD i 0:Nat):Int)==(((l.getD (((m+1:Nat):Int) - 1).toNat []).getD j 0:Nat):Int))=samI i j (l.getD m []):=by
   rw[em]
   unfold samI
   rw[kP,jay,jay]
   omega
  apply bY <;> intro h2
  ·have h2:samI i j (l.getD m [])=true:=key.symm.trans h2
   refine⟨i6,?_⟩
   refine⟨(m,(m:Int),two),⟨rfl,⟨obD [I i,I j] rfl,zaJ rfl rfl,obD [I 3,.nil,.nil] rfl,trivial⟩,avQ rfl,avQ rfl,avQ rfl,avQ rfl,avQ rfl,avI rfl (by show ((m+1:Nat):Int) - 1=(m:Int); omega),avQ rfl,avI rfl (by show ((m+1:Nat):Int) - 1 - 1=(m:Int) - 1; omega),trivial⟩,⟨by show m<=l.length; omega,FI.yes hm h2,FI.no hm (by rw[h2]; rfl) f2⟩,Nat.lt_succ_self m⟩
  have h2:samI i j (l.getD m [])=false:=key.symm.trans h2
  refine⟨i6,?_⟩
  refine⟨(m,one,(m:Int)),⟨rfl,⟨obD [I i,I j] rfl,zaJ rfl rfl,obD [I 3,.nil,.nil] rfl,trivial⟩,avQ rfl,avQ rfl,avQ rfl,avQ rfl,avQ rfl,avQ rfl,avI rfl (by show ((m+1:Nat):Int) - 1=(m:Int); omega),avI rfl (by show ((m+1:Nat):Int) - 1 - 1=(m:Int) - 1; omega),trivial⟩,⟨by show m<=l.length; omega,FI.no hm h2 f1,FI.yes hm (by rw[h2]; rfl)⟩,Nat.lt_succ_self m⟩
 have h1:k=0:=by have:¬ (0:Int)<=(k:Int) - 1:=dF h1; omega
 subst h1
 have gs:∀ {q:Nat},q<l.length->Spec PP 131 [.d (lI ids),.d (lN (l.getD q []))] [.d (lII (setX ids (l.getD q [])))]:=fun {q} hq=>zpT ids _ (hR.get hq).1 (hR.get hq).2 hi
 have hne:l.any (samI i j)=true \/ (l.any fun x=>!samI i j x)=true:=by
  obtain⟨x,hx'⟩:=List.exists_mem_of_ne_nil _ hn
  cases e:samI i j x with
  | true=>exact .inl (kJ.2 ⟨x,hx',e⟩)
  | false=>exact .inr (kJ.2 ⟨x,hx',by rw[e]; rfl⟩)
 rw[zb4,zb4] at hne
 unfold vdtX
 rw[zb4,zb4]
 have g1:(one = -1/\l.find? (samI i j)=none) \/ ∃ q:Nat,one=(q:Int)/\q<l.length/\l.find? (samI i j)=some (l.getD q []):=f1
 have g2:(two = -1/\l.find? (fun x=>!samI i j x)=none) \/ ∃ q:Nat,two=(q:Int)/\q<l.length/\l.find? (fun x=>!samI i j x)=some (l.getD q []):=f2
 clear f1 f2 hk
 rcases g1 with⟨rfl,e1⟩ | ⟨q1,rfl,hq1,e1⟩ <;> rcases g2 with⟨rfl,e2⟩ | ⟨q2,rfl,hq2,e2⟩
 ·rw[e1,e2] at hne
  rcases hne with h | h <;> cases h
 ·rw[e1,e2]
  refine Split.no (jH (show ¬ ((q2:Nat):Int)<0 by omega)) ?_
  refine Split.yes rfl ?_
  refine Split.no rfl ?_
  refine Split.yes (jG (show (0:Int)<=((q2:Nat):Int) by omega)) ?_
  refine⟨⟨rfl,by show (0:Int)<=((q2:Nat):Int); omega,by show ((q2:Nat):Int)<(l.length:Int); omega⟩,?_⟩
  refine CallSt.ro (gs hq2) rfl rfl ?_
  exact⟨rtC (a:=6) rfl rfl rfl rfl rfl rfl ⟨⟨rfl,rfl⟩,rfl,dE _,trivial⟩,trivial⟩
 ·rw[e1,e2]
  refine Split.yes rfl ?_
  refine Split.no (jH (show ¬ ((q1:Nat):Int)<0 by omega)) ?_
  refine Split.yes (jG (show (0:Int)<=((q1:Nat):Int) by omega)) ?_
  refine⟨⟨rfl,by show (0:Int)<=((q1:Nat):Int); omega,by show ((q1:Nat):Int)<(l.length:Int); omega⟩,?_⟩
  refine CallSt.ro (gs hq1) rfl rfl ?_
  refine Split.no rfl ?_
  exact⟨rtC (a:=6) rfl rfl rfl rfl rfl rfl ⟨⟨rfl,rfl⟩,dE _,rfl,trivial⟩,trivial⟩
 rw[e1,e2]
 refine Split.no (jH (show ¬ ((q2:Nat):Int)<0 by omega)) ?_
 refine Split.no (jH (show ¬ ((q1:Nat):Int)<0 by omega)) ?_
 refine Split.yes (jG (show (0:Int)<=((q1:Nat):Int) by omega)) ?_
 refine⟨⟨rfl,by show (0:Int)<=((q1:Nat):Int); omega,by show ((q1:Nat):Int)<(l.length:Int); omega⟩,?_⟩
 refine CallSt.ro (gs hq1) rfl rfl ?_
 refine Split.yes (jG (show (0:Int)<=((q2:Nat):Int) by omega)) ?_
 refine⟨⟨rfl,by show (0:Int)<=((q2:Nat):Int); omega,by show ((q2:Nat):Int)<(l.length:Int); omega⟩,?_⟩
 refine CallSt.ro (gs hq2) rfl rfl ?_
 exact⟨rtC (a:=6) rfl rfl rfl rfl rfl rfl ⟨⟨rfl,rfl⟩,dE _,dE _,trivial⟩,trivial⟩
end Go.Pg
