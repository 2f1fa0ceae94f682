/- Lemmas, joined by program. -/
import Derived.Test.YtcmghlfakcppkaaGreatTD
import Derived.WideKeyRuns
set_option maxHeartbeats 4000000
set_option linter.all false
set_option maxRecDepth 100000
namespace Go.Pg
open Go.Proofs Go.RowKit Go.Sort Go.Shelf
section
variable (ids:List Int) (pv:D) (ok:List Int->Bool)
theorem zsy (hn:ids.length<=7) (i:Nat) (hi:i<ids.length) (ss:List (List Int)) (n:Nat) (hs:ss.length<=i) (hl:∀ s∈ss,s.length<=i) (hsub:Sub (allP ids ok) n (prt ok (ids.drop i) ss))
  (ih:∀ (ss:List (List Int)) (n:Nat),ss.length<=i+1->(∀ s∈ss,s.length<=i+1)->Sub (allP ids ok) n (prt ok (ids.drop (i+1)) ss)->SpecY PP 188 ((allP ids ok).map enP) n (prt ok (ids.drop (i+1)) ss).length (putArgs ids pv (i+1)) (putObs ids pv ss) (putObs ids pv ss) [4,3,5] [B true] [B false]) :
  SpecY PP 188 ((allP ids ok).map enP) n (prt ok (ids.drop i) ss).length (putArgs ids pv i) (putObs ids pv ss) (putObs ids pv ss) [4,3,5] [B true] [B false]:=by
 have ed:ids.drop i=ids.getD i 0 :: ids.drop (i+1):=by rw[qE hi,hZ,kF hi]; rfl
 rw[ed] at hsub ⊢
 rw[znA] at hsub ⊢
 refine zil [] Tryz.func188 rfl (by kernel_rfl) (putArgs ids pv i) [7] rfl [(2,4),(4,3),(5,5)] rfl rfl rfl (ziy ids pv _ ss) (by decide) (fun _=>rfl) fun l γ=>?_
 refine sNo (by simp; omega) ?_
 refine lOf (σ:=Nat) (fun q=>([(G,.gho (some (n+(prtK ok (ids.getD i 0) (ids.drop (i+1)) ss q).length))),(0,.d (I i)),(1,.d (capB [lI ids])),(2,.pbox 4 (γ 4)),(3,.d (posD pv)),(4,.pbox 3 (γ 3)),(5,.pbox 5 (γ 5)),(38,.d (I ss.length)),(39,.d (I q))],
   [(4,.box [.own 100]),(100,.row 22 1 ss.length (rowII ss)),(3,.box [.yl l]),(5,.box [.clo 188 (putCaps ids pv)])])) (fun q=>q<=ss.length) (fun q=>ss.length - q) 0
  ⟨rfl,⟨obX rfl,obR rfl (dE _),obX rfl,obX rfl,trivial⟩,wq rfl⟩ (jF _) fun q hq=>?_
 have hq:q<=ss.length:=hq
 apply bY <;> intro h2
 ·have h2:q<ss.length:=by have:=dT h2; omega
  have eq:((q:Nat):Int).toNat=q:=jaJ q
  have hm:ss.getD q []∈ss:=by rw[hZ,kF h2]; exact kS h2
  have hml:=hl _ hm
  refine⟨⟨by omega,by omega⟩,⟨by omega,?_⟩⟩
  refine oL [2,4,5,6,7,8,1000,1001,6003,9,10,5011] (fNo ?_)
  refine⟨⟨rfl,by omega,by omega⟩,?_⟩
  refine⟨rfl,rfl,?_⟩
  refine⟨rfl,rfl,?_⟩
  refine⟨⟨_,_,_,_,_,_,rfl,rfl,rfl,rfl,?_⟩⟩
  rw[zan]
  refine⟨_,_,_,_,_,none,rfl,znF (ss.getD (q:Int).toNat []) (by rw[eq]; omega),fun m j _ _=>rfl,?_⟩
  refine⟨⟨.inr rfl,by unfold maxLen; rw[eq]; omega,by show ((ss.getD (q:Int).toNat []).length+1) * 8<=140737488355328; rw[eq]; omega⟩,?_⟩
  refine⟨⟨by omega,by omega⟩,?_⟩
  refine FzOb.fz [49] ?_
  refine⟨by omega,?_⟩
  refine⟨i6,?_⟩
  have hset:(ss.set q (ss.getD q [] ++ [ids.getD i 0])).length<=i+1:=by rw[ja4]; omega
  have hsl:∀ s∈ss.set q (ss.getD q [] ++ [ids.getD i 0]),s.length<=i+1:=fun s hs=>by
   rcases ja9 hs with hs | rfl
   ·have:=hl s hs; omega
   rw[jR,wC]; omega
  have hsub':Sub (allP ids ok) (n+(prtK ok (ids.getD i 0) (ids.drop (i+1)) ss q).length) (prt ok (ids.drop (i+1)) (ss.set q (ss.getD q [] ++ [ids.getD i 0]))):=by
   refine (hsub.pre (L2:=prtK ok (ids.getD i 0) (ids.drop (i+1)) ss q++prt ok (ids.drop (i+1)) (ss.set q (ss.getD q [] ++ [ids.getD i 0]))) ?_).snd
   rw[<- zdR]
   exact List.IsPrefix.trans (ziG ok _ _ ss h2) (List.prefix_append _ _)
  refine CallSt.cy [(0,.d (I i)),(1,.d (capB [lI ids])),(2,.pbox 4 (γ 4)),(3,.d (posD pv)),(4,.pbox 3 (γ 3)),(5,.pbox 5 (γ 5)),(11,.d (I q)),(12,.d (lI (ss.getD q []))),(38,.d (I ss.length)),(39,.d (I q)),(57,.clo 188 (putCaps ids pv)),(59,.d (I ((i+1:Nat):Int)))] []
   (ih (ss.set q (ss.getD q [] ++ [ids.getD i 0])) _ hset hsl hsub') rfl rfl ⟨rfl,⟨obX rfl,obR rfl ?_,obX rfl,obX rfl,trivial⟩,avQ rfl,avQ rfl,avQ rfl,avQ rfl,avQ rfl,avQ rfl,avQ rfl,?_,avQ rfl,avQ rfl,avQ rfl,avQ rfl,trivial⟩ rfl rfl rfl rfl ?_ ?_
  ·refine zr5 h2 eq ?_
   refine⟨by rw[eq,jR]; rfl,.inr ⟨rfl,fun u hu v hv=>?_⟩⟩
   show D.eqv (appRow _ (rowI (ss.getD (q:Int).toNat [])) _ u v) (I ((ss.getD q [] ++ [ids.getD i 0]).getD u 0))
   rw[eq]
   unfold appRow
   by_cases hh:u<(ss.getD q []).length
   ·rw[kH hh,hZ (l:=ss.getD q [] ++ [ids.getD i 0]),jJ hh,<- hZ]
    exact dE _
   have hu:u<(ss.getD (q:Int).toNat []).length+1:=hu
   rw[eq] at hu
   have e:u=(ss.getD q []).length:=by omega
   obtain rfl:v=0:=jaH.1 hv
   rw[kG hh,hZ (l:=ss.getD q [] ++ [ids.getD i 0]),jK (by omega),e,kE]
   show D.eqv (I (ids.getD i 0)) (I (ids.getD i 0))
   exact dE _
  ·show D.eqv (lI (ss.getD (q:Int).toNat [])) (lI (ss.getD q []))
   rw[eq]; exact dE _
  ·refine sF ?_
   have ls:(ss.set q (ss.getD q [] ++ [ids.getD i 0])).length=ss.length:=ja4
   refine⟨⟨by omega,by rw[ls]; omega⟩,⟨by rw[ls,eq]; exact h2,?_⟩⟩
   refine⟨i6,?_⟩
   refine⟨q+1,⟨rfl,⟨obX rfl,obR rfl ?_,obX rfl,obX rfl,trivial⟩,avG rfl ?_,avQ rfl,avQ rfl,avQ rfl,avQ rfl,avQ rfl,avQ rfl,avQ rfl,avQ rfl,trivial⟩,h2,msr h2⟩
   ·have h3:q<(ss.set q (ss.getD q [] ++ [ids.getD i 0])).length:=by rw[ls]; exact h2
    have h4:=zr5 (ss:=ss.set q (ss.getD q [] ++ [ids.getD i 0])) (s':=ss.getD q []) h3 eq (dE _)
    have h5:(ss.set q (ss.getD q [] ++ [ids.getD i 0])).set q (ss.getD q [])=ss:=by
     rw[List.set_set,hZ,kF h2]
     exact List.set_getElem_self h2
    rw[h5] at h4
    exact h4
   rw[zdR,jR,jaO]
  refine sT ?_
  exact .inr ⟨rfl,trivial,avQ rfl,avQ rfl,trivial⟩
 have h2:q=ss.length:=by have:=dF h2; omega
 subst h2
 refine oN 9 ?_
 refine⟨⟨rfl,by omega,by omega⟩,?_⟩
 refine⟨⟨.inr rfl,by unfold maxLen; omega,by show (ss.length+1) * 24<=140737488355328; omega⟩,?_⟩
 refine⟨i6,?_⟩
 refine CallSt.cy [(0,.d (I i)),(1,.d (capB [lI ids])),(2,.pbox 4 (γ 4)),(3,.d (posD pv)),(4,.pbox 3 (γ 3)),(5,.pbox 5 (γ 5)),(75,.clo 188 (putCaps ids pv)),(77,.d (I ((i+1:Nat):Int)))] []
  (ih (ss ++ [[ids.getD i 0]]) _ (by rw[jR,wC]; omega) (fun s hs=>by
   rcases kN.1 hs with hs | hs
   ·have:=hl s hs; omega
   obtain rfl:=kI.1 hs; rw[wC]; omega) hsub.snd) rfl rfl ⟨rfl,⟨obX rfl,obR rfl ?_,obX rfl,obX rfl,trivial⟩,avQ rfl,avQ rfl,avQ rfl,avQ rfl,avQ rfl,avQ rfl,avQ rfl,avQ rfl,trivial⟩ rfl rfl rfl rfl ?_ ?_
 ·refine zpd rfl ⟨rfl,.inr ⟨rfl,fun u hu v hv=>?_⟩⟩
  obtain rfl:v=0:=jaH.1 hv
  obtain rfl:u=0:=jaH.1 hu
  show D.eqv (I (ids.getD i 0)) (I (ids.getD i 0))
  exact dE _
 ·refine sF ?_
  have ll:(ss ++ [[ids.getD i 0]]).length=ss.length+1:=by rw[jR,wC]
  refine⟨i6,?_⟩
  refine⟨⟨by rw[ll]; omega,by rw[ll]; omega⟩,?_⟩
  refine .inl ⟨rfl,⟨obX rfl,obR rfl ?_,obX rfl,obX rfl,trivial⟩,avG rfl ?_,avQ rfl,avQ rfl,avQ rfl,avQ rfl,trivial⟩
  ·refine⟨by rw[ll]; omega,.inr ⟨rfl,fun u hu v hv=>?_⟩⟩
   rw[ll] at hu
   have hu:u<ss.length:=by omega
   show D.eqv (lI ((ss ++ [[ids.getD i 0]]).getD u [])) (lI (ss.getD u []))
   rw[hZ (l:=ss ++ [[ids.getD i 0]]),jJ hu,<- hZ]
   exact dE _
  rw[jR,jaO]
 refine sT ?_
 exact .inr ⟨rfl,trivial,avQ rfl,avQ rfl,trivial⟩
end
section
variable (ids:List Int) (pv:D) (ok:List Int->Bool)
theorem zsA (hn:ids.length<=7) (hok:PosC pv ok):∀ (k i:Nat) (ss:List (List Int)) (n:Nat),i+k=ids.length->ss.length<=i->(∀ s∈ss,s.length<=i)->Sub (allP ids ok) n (prt ok (ids.drop i) ss) ->
  SpecY PP 188 ((allP ids ok).map enP) n (prt ok (ids.drop i) ss).length (putArgs ids pv i) (putObs ids pv ss) (putObs ids pv ss) [4,3,5] [B true] [B false]
 | 0,i,ss,n,hi,hs,hl,hsub=>by
  obtain rfl:i=ids.length:=by omega
  rw[jba] at hsub ⊢
  exact zsz ids pv ok hn hok ss n (by omega) (fun s h=>by have:=hl s h; omega) hsub
 | k+1,i,ss,n,hi,hs,hl,hsub=>zsy ids pv ok hn i (by omega) ss n hs hl hsub fun ss n hs hl hsub=>zsA hn hok k (i+1) ss n (by omega) hs hl hsub
def prtCap (j:Nat):D:=getD' [capB [lI ids],posD pv] j
theorem zfy (hn:ids.length<=7) (hok:PosC pv ok):SeqC PP 187 2 (prtCap ids pv) enP (allP ids ok):=by
 refine zfi Tryz.func187 rfl (by kernel_rfl) rfl rfl enP _ fun l=>?_
 refine CallSt.cy (cuts:=[]) [(7,.clo 188 (putCaps ids pv))] [] (zsA ids pv ok hn hok ids.length 0 [] 0 (qF _) (jE _) (fun s h=>by cases h) ⟨[],rfl,List.prefix_rfl⟩) rfl rfl
  ⟨rfl,⟨⟨⟨rfl,_,_,_,rfl⟩,trivial⟩,rfl,obX rfl,obX rfl,trivial⟩,wq rfl⟩ rfl rfl rfl rfl ?_ ?_
 ·exact .inl (jI (fun n=>AV.gho (some n)) (qF _))
 exact .inr rfl
theorem zgv (hp:(∃ g c,pv=cloB g [c]) \/ ∃ f m g,pv = .bnd f m g):Spec PP 113 [.d (lI ids),.d pv] [.d (cloB 187 [capB [lI ids],posD pv])]:=by
 rcases hp with⟨g0,c0,rfl⟩ | ⟨f0,m0,g0,rfl⟩
 all_goals
  refine sA Tryz.func113 ?_
  refine⟨⟨rfl,rfl,fun j hj=>?_⟩,trivial⟩
  match j,hj with
  | 0,_=>exact⟨_,rfl,rfl,_,_,rfl,rfl,rfl,fun j hj=>dE _⟩
  | 1,_=>exact⟨_,rfl,rfl,_,_,rfl,rfl,rfl,fun j hj=>dE _⟩
end
def bitA (ids s:List Int) (i:Nat):Nat:=(List.range i).foldl (fun b k=>if s.contains (ids.getD k 0)=true then onS b k else b) 0
theorem zcJ (ids s:List Int) (i:Nat):bitA ids s (i+1)=if s.contains (ids.getD i 0)=true then onS (bitA ids s i) i else bitA ids s i:=by
 unfold bitA
 rw[jab,wA]; rfl
theorem zmD (ids s:List Int):∀ i,i<=7->bitA ids s i<128
 | 0,_=>by show 0<128; decide
 | i+1,h=>by
  have:=zmD ids s i (by omega)
  rw[zcJ]
  split
  ·exact zsG this (by omega)
  exact this
def bitS (ids s:List Int):Nat:=bitA ids s ids.length
abbrev lkC (d:Day) (ks:List Nat):List D:=d.ds ++ [lI (sigL d.R),cmap d ks]
theorem zsX (d:Day) (ks:List Nat) (hn:(sigL d.R).length<=7) (s:List Int) (hs:s.length<=1000000):Spec PP 114 [.d (lI s),.d (capB (lkC d ks))] [B (fitK d ks (bitS (sigL d.R) s))]:=by
 refine sA Tryz.func114 ?_
 refine lOf (σ:=Nat) (fun i=>([(0,.d (lI s)),(1,avOf (.d (capB (lkC d ks)))),(4,.d (I (bitA (sigL d.R) s i))),(8,.d (lI (sigL d.R))),(9,.d (I (sigL d.R).length)),(10,.d (I i))],[])) (fun i=>i<=(sigL d.R).length) (fun i=>(sigL d.R).length - i) 0
  ⟨rfl,trivial,wq rfl⟩ (jF _) fun i hi=>?_
 have hi:i<=(sigL d.R).length:=hi
 apply bY <;> intro h1
 ·have h1:i<(sigL d.R).length:=by have:=dT h1; omega
  have hb:=zmD (sigL d.R) s i (by omega)
  refine⟨⟨rfl,by omega,by omega⟩,?_⟩
  refine cP (zc7 s ((sigL d.R).getD i 0) hs) rfl rfl ?_
  apply bY <;> intro h2
  ·have h2:s.contains ((sigL d.R).getD i 0)=true:=h2
   refine⟨by omega,?_⟩
   refine⟨i6,?_⟩
   refine⟨i+1,⟨rfl,trivial,avQ rfl,avQ rfl,?_,avQ rfl,avQ rfl,avQ rfl,trivial⟩,h1,msr h1⟩
   rw[zcJ,kH h2]
   exact avQ (jI (fun n=>AV.d (.int .i64 n)) (bOn hb (by omega)))
  have h2:s.contains ((sigL d.R).getD i 0)=false:=h2
  refine⟨i6,?_⟩
  refine⟨i+1,⟨rfl,trivial,?_⟩,h1,msr h1⟩
  rw[zcJ,kG (by rw[h2]; decide)]
  exact wq rfl
 have h1:i=(sigL d.R).length:=by have:=dF h1; omega
 subst h1
 refine cP (zeQ d ks (bitS (sigL d.R) s)) rfl rfl ?_
 exact r1B rfl rfl
abbrev allCs (d:Day) (ks:List Nat):List D:=[capB [lI (sigL d.R)],posD (cloB 114 [capB (lkC d ks)])]
theorem j_all (d:Day) (ks:List Nat):Spec PP 75 [lkV d ks] [.d (cloB 187 (allCs d ks))]:=by
 refine sA Tryz.func75 ?_
 refine fEq [1] (zgv (sigL d.R) (cloB 114 [capB (lkC d ks)]) (.inl ⟨_,_,rfl⟩)) rfl ⟨dE _,⟨rfl,rfl,fun j hj=>by obtain rfl:j=0:=jaH.1 hj; exact dE _⟩,trivial⟩ rfl ?_
 exact⟨dE _,trivial⟩
abbrev parts (d:Day):List (List (List Int)):=prt (fun s=>fitK d (ksD d) (bitS (sigL d.R) s)) (sigL d.R) []
theorem zn2 {d:Day} (h:DayOk d):SeqC PP 187 2 (prtCap (sigL d.R) (cloB 114 [capB (lkC d (ksD d))])) enP (parts d):=
 zfy (sigL d.R) _ _ (sig7 h) (.clo _ _ rfl fun s hs=>zsX d (ksD d) (sig7 h) s (by omega))
theorem zhA {α:Type} {ok:List α->Bool}:∀ {r:List α} {ss:List (List α)} {B:Nat} {x:List (List α)},x∈prt ok r ss->(∀ s∈ss,s.length<=B)->x.length<=ss.length+r.length /\ ∀ s∈x,s.length<=B+r.length+1
 | [],ss,B,x,h,hb=>by
  unfold prt at h
  split at h
  ·obtain rfl:=kI.1 h
   exact⟨jE _,fun s hs=>by have:=hb s hs; simp; omega⟩
  ·cases h
 | a :: r,ss,B,x,h,hb=>by
  unfold prt at h
  rcases kN.1 h with h | h
  ·obtain⟨k,hk,h⟩:=List.mem_flatMap.1 h
   have hk:=kJ.1 hk
   obtain⟨h1,h2⟩:=zhA (B:=B+1) h fun s hs=>by
    rcases ja9 hs with hs | rfl
    ·have:=hb s hs; omega
    have hm:ss.getD k []∈ss:=by rw[hZ,kF hk]; exact kS hk
    have:=hb _ hm
    rw[jR,wC]; omega
   rw[ja4] at h1
   exact⟨by simp; omega,fun s hs=>by have:=h2 s hs; simp; omega⟩
  obtain⟨h1,h2⟩:=zhA (B:=B+1) h fun s hs=>by
   rcases kN.1 hs with hs | hs
   ·have:=hb s hs; omega
   obtain rfl:=kI.1 hs; simp
  rw[jR] at h1
  exact⟨by simp at h1 ⊢; omega,fun s hs=>by have:=h2 s hs; simp; omega⟩
theorem zqy {α:Type} (ok:List α->Bool) (r:List α) (h:r.length<=7):(prt ok r []).length<=877:=by
 rw[zfr]
 refine jM (jac _ _) ?_
 rw[kW]
 have:∀ n,n<8->(rgs n 0).length<=877:=by decide +kernel
 exact this _ (by omega)
theorem zdS {d:Day} (h:DayOk d):(parts d).length<=877:=zqy _ _ (sig7 h)
theorem zgt {d:Day} (h:DayOk d) {x:List (List Int)} (hx:x∈parts d):x.length<=7 /\ ∀ s∈x,s.length<=8:=by
 have:=sig7 h
 obtain⟨h1,h2⟩:=zhA (B:=0) hx (fun s hs=>by cases hs)
 exact⟨by simp at h1; omega,fun s hs=>by have:=h2 s hs; omega⟩
def bst0 (out:List (List (List Int))) (p:List (List Int)):List (List (List Int)):=if decide (0<out.length) && decide (p.length<(out.getD 0 []).length) then [] else out
def bst1 (out:List (List (List Int))) (p:List (List Int)):List (List (List Int)):=if decide ((bst0 out p).length=0) || decide (p.length=((bst0 out p).getD 0 []).length) then bst0 out p ++ [p] else bst0 out p
def bstL (l:List (List (List Int))):List (List (List Int)):=l.foldl bst1 []
theorem zbU (l:List (List (List Int))) (p:List (List Int)):bstL (l ++ [p])=bst1 (bstL l) p:=by unfold bstL; rw[wA]; rfl
theorem zoD (o:List (List (List Int))) (p:List (List Int)):(bst0 o p).length<=o.length:=by
 unfold bst0
 split
 ·exact jF _
 exact jE _
theorem zoC (o:List (List (List Int))) (p:List (List Int)):(bst1 o p).length<=o.length+1:=by
 have:=zoD o p
 unfold bst1
 split
 ·rw[jR]; simp; omega
 omega
theorem zjm:∀ (l o:List (List (List Int))),(l.foldl bst1 o).length<=o.length+l.length
 | [],o=>jE _
 | p :: l,o=>by
  have h1:=zjm l (bst1 o p)
  have h2:=zoC o p
  rw[jal,ja1]
  omega
theorem zf3 (l:List (List (List Int))):(bstL l).length<=l.length:=by
 have:=zjm l []
 unfold bstL
 simpa using this
abbrev rowPP (l:List (List (List Int))):Nat->Nat->D:=fun i _=>lII (l.getD i [])
theorem zpc {l:List (List (List Int))} {p:List (List Int)} {g:Nat->Nat->D} (hg:D.eqv (g 0 0) (lII p)):D.eqv (.slc 1 (l.length+1) (appRow l.length (rowPP l) g)) (.slc 1 (l ++ [p]).length (rowPP (l ++ [p]))):=by
 refine⟨by simp,.inr ⟨rfl,fun i hi j hj=>?_⟩⟩
 show D.eqv (appRow l.length (rowPP l) g i j) (lII ((l ++ [p]).getD i []))
 obtain rfl:j=0:=by omega
 unfold appRow
 by_cases h:i<l.length
 ·rw[kH h,hZ (l:=l ++ [p]),jJ h,<- hZ]
  exact dE _
 have e:i=l.length:=by omega
 subst e
 rw[kG h,kE,hZ,jK (jE _),kE]
 exact hg
theorem nz_no {n:Nat} (h:0<n):((n:Int)==0)=false:=by simp; omega
theorem zsK {n:Nat} (h:n=0):((n:Int)==0)=true:=by subst h; rfl
def obBst (pre:List (List (List Int))):List (Nat × Ob):=[(3,.box [.own 34]),(34,.row 43 1 (bstL pre).length (rowPP (bstL pre)))]
theorem zsB (g:FuncId) (c1 c2:D) (xs:List (List (List Int))) (hx:xs.length<=1000) (hseq:SeqC PP g 2 (getD' [c1,c2]) enP xs):Spec PP 74 [.d (cloB g [c1,c2])] [.d (lPP (bstL xs))]:=by
 refine sA Tryz.func74 ?_
 refine CodeOb.rangeAt hseq rfl (fun _=>rfl) (by decide) [(3,.box 3 0)] [(3,0)] obBst rfl (fun _=>rfl) ?_ (Iv:=fun _=>True) trivial (fun v pre x hx' _=>?_) (fun _=>?_)
 ·exact⟨rfl,⟨obN rfl rfl rfl,obZ rfl rfl,trivial⟩,wq rfl⟩
 ·have hpl:pre.length<1000:=by
   have:=hx'.length_le
   rw[jR] at this; simp at this; omega
  have hlen:=zf3 pre
  have push:∀ o:List (List (List Int)),o.length<=1000->bst1 (bstL pre) x=o ++ [x]->bst1 (bstL pre) x=o ++ [x]:=fun _ _ h=>h
  apply bY <;> intro h1
  ·have h1:0<(bstL pre).length:=by have:=dT h1; omega
   refine⟨⟨by omega,by omega⟩,⟨by omega,?_⟩⟩
   repeat first | apply sT | apply sF
   apply bY <;> intro h2
   ·have h2:x.length<((bstL pre).getD 0 []).length:=by have:(x.length:Int)<((bstL pre).getD 0 []).length:=dT h2; omega
    have e0:bst0 (bstL pre) x=[]:=by unfold bst0; rw[kH (by rw[jG h1,jG h2]; rfl)]
    have e1:bst1 (bstL pre) x=[] ++ [x]:=by unfold bst1; rw[e0]; rfl
    repeat first | apply sT | apply sF
    refine⟨⟨.inr rfl,by unfold maxLen; omega,by show (0+1) * 24<=140737488355328; omega⟩,?_⟩
    refine⟨trivial,rfl,⟨obO rfl,obR rfl ?_,trivial⟩,wq rfl⟩
    rw[zbU,e1]
    refine⟨rfl,.inr ⟨rfl,fun u hu w hw=>?_⟩⟩
    obtain rfl:w=0:=jaH.1 hw
    obtain rfl:u=0:=jaH.1 hu
    exact dE _
   have h2:¬ x.length<((bstL pre).getD 0 []).length:=by have:¬ (x.length:Int)<((bstL pre).getD 0 []).length:=dF h2; omega
   have e0:bst0 (bstL pre) x=bstL pre:=by unfold bst0; rw[kG (by rw[jH h2,kU]; decide)]
   refine sNo (nz_no h1) ?_
   refine⟨⟨by omega,by omega⟩,⟨by omega,?_⟩⟩
   repeat first | apply sT | apply sF
   apply bY <;> intro h3
   ·have h3:x.length=((bstL pre).getD 0 []).length:=by
     have:(x.length:Int)=((bstL pre).getD 0 []).length:=by simpa using h3
     omega
    have e1:bst1 (bstL pre) x=bstL pre ++ [x]:=by unfold bst1; rw[e0,kH (by rw[jG h3,kY])]
    refine⟨⟨.inr rfl,by unfold maxLen; omega,by show ((bstL pre).length+1) * 24<=140737488355328; omega⟩,?_⟩
    refine⟨trivial,rfl,⟨obO rfl,obR rfl ?_,trivial⟩,wq rfl⟩
    rw[zbU,e1]
    exact zpc (dE _)
   have h3:¬ x.length=((bstL pre).getD 0 []).length:=fun e=>by
    have:¬ (x.length:Int)=((bstL pre).getD 0 []).length:=by simpa using h3
    exact this (by rw[e])
   have e1:bst1 (bstL pre) x=bstL pre:=by unfold bst1; rw[e0,kG (by rw[jH h3,jH (by omega)]; decide)]
   refine⟨trivial,rfl,⟨obO rfl,obR rfl ?_,trivial⟩,wq rfl⟩
   rw[zbU,e1]
   exact dE _
  have h1:(bstL pre).length=0:=by have:=dF h1; omega
  have e0:bst0 (bstL pre) x=bstL pre:=by unfold bst0; rw[kG (by rw[jH (by omega),qQ]; decide)]
  have e1:bst1 (bstL pre) x=bstL pre ++ [x]:=by unfold bst1; rw[e0,kH (by rw[jG h1,qN])]
  repeat first | apply sT | apply sF
  refine sYe (zsK h1) ?_
  repeat first | apply sT | apply sF
  refine⟨⟨.inr rfl,by unfold maxLen; omega,by show ((bstL pre).length+1) * 24<=140737488355328; omega⟩,?_⟩
  refine⟨trivial,rfl,⟨obO rfl,obR rfl ?_,trivial⟩,wq rfl⟩
  rw[zbU,e1]
  exact zpc (dE _)
 refine⟨⟨_,_,_,_,rfl,?_⟩,trivial⟩
 exact dE _
theorem zjn {o:List (List (List Int))} {p q:List (List Int)} (h:q∈bst0 o p):q∈o:=by
 unfold bst0 at h
 split at h
 ·cases h
 exact h
theorem bst1_mem {o:List (List (List Int))} {p q:List (List Int)} (h:q∈bst1 o p):q∈o \/ q=p:=by
 unfold bst1 at h
 split at h
 ·rcases kN.1 h with h | h
  ·exact .inl (zjn h)
  exact .inr (kI.1 h)
 exact .inl (zjn h)
theorem bstF_mem {q:List (List Int)}:∀ {l o:List (List (List Int))},q∈l.foldl bst1 o->q∈o \/ q∈l
 | [],o,h=>.inl h
 | p :: l,o,h=>by
  rcases bstF_mem (l:=l) h with h | h
  ·rcases bst1_mem h with h | rfl
   ·exact .inl h
   exact .inr (wL ..)
  exact .inr (qX _ h)
theorem zjl {q:List (List Int)} {l:List (List (List Int))} (h:q∈bstL l):q∈l:=(bstF_mem h).resolve_left fun h=>by cases h
abbrev bsts (d:Day):List (List (List Int)):=bstL (parts d)
def bsR (d:Day):List (List (List Int)) × Int:=if (bsts d).length=0 then ([],9) else (bsts d,0)
theorem zhK {d:Day} (h:DayOk d):Spec PP 31 [d.v] [.d (lPP (bsR d).1),.d (.int .i64 (bsR d).2)]:=by
 refine sA Tryz.func31 ?_
 refine cR (zpr h) rfl rfl ?_
 refine cR (j_all d (ksD d)) rfl rfl ?_
 refine cR (zsB 187 _ _ (parts d) (by have:=zdS h; omega) (zn2 h)) rfl rfl ?_
 unfold bsR
 apply bY <;> intro h1
 ·have h1:(bsts d).length=0:=by
   have:((bsts d).length:Int)=0:=by simpa using h1
   omega
  rw[kH h1]
  exact⟨⟨_,_,_,_,rfl,rfl,.inl rfl⟩,rtI rfl rfl,trivial⟩
 have h1:¬ (bsts d).length=0:=fun e=>by
  have:¬ ((bsts d).length:Int)=0:=by simpa using h1
  exact this (by rw[e]; rfl)
 rw[kG h1]
 exact⟨dE _,rtI rfl rfl,trivial⟩
def fewR (d:Day):Int × Int:=if dayE d≠0 then (0,dayE d) else if (bsts d).length=0 then (0,9) else (((bsts d).getD 0 []).length,0)
theorem zfO (d:Day) (hn:d.R.length<=1000000):Spec PP 16 [d.v] [N (fewR d).1,.d (.int .i64 (fewR d).2)]:=by
 refine sA Tryz.func16 ?_
 refine cP (zcd d hn) rfl rfl ?_
 unfold fewR
 apply bY <;> intro h0
 ·rw[kH (by simpa using h0)]
  exact⟨rtI rfl rfl,rtI rfl rfl,trivial⟩
 have h0:dayE d=0:=by simpa using h0
 rw[kG (fun hh=>hh h0)]
 refine cR (zhK (za5 h0)) rfl rfl ?_
 by_cases h1:(bsts d).length=0
 ·have e:bsR d=([],9):=by unfold bsR; rw[kH h1]
  rw[e,kH h1]
  refine sT ?_
  exact⟨rtI rfl rfl,rtI rfl rfl,trivial⟩
 have e:bsR d=(bsts d,0):=by unfold bsR; rw[kG h1]
 rw[e,kG h1]
 refine sF ?_
 refine⟨⟨rfl,by omega,by show (0:Int)<((bsts d).length:Int); omega⟩,?_⟩
 exact⟨rtI rfl rfl,rtI rfl rfl,trivial⟩
def samR (d:Day) (a b:Int):Vdt × Int:=if parE d a b≠0 then (⟨0,[],[]⟩,parE d a b) else if (bsts d).length=0 then (⟨0,[],[]⟩,9) else (vdtR (bsts d) a b,0)
theorem zsx {d:Day} {a b:Int} (h:parE d a b=0):DayOk d:=by
 unfold parE at h
 split at h
 ·rename_i h1; exact absurd h h1
 rename_i h1; exact za5 (jL h1)
theorem ziZ (d:Day) (a b:Int) (hn:d.R.length<=1000000):Spec PP 12 [d.v,N a,N b] [(samR d a b).1.v,.d (.int .i64 (samR d a b).2)]:=by
 refine sA Tryz.func12 ?_
 refine cP (zsV d a b hn) rfl rfl ?_
 unfold samR
 apply bY <;> intro h0
 ·rw[kH (by simpa using h0)]
  exact⟨rtC (a:=6) rfl rfl rfl rfl rfl rfl ⟨⟨rfl,rfl⟩,rfl,rfl,trivial⟩,rtI rfl rfl,trivial⟩
 have h0:parE d a b=0:=by simpa using h0
 have h:=zsx h0
 rw[kG (fun hh=>hh h0)]
 refine cR (zhK h) rfl rfl ?_
 by_cases h1:(bsts d).length=0
 ·have e:bsR d=([],9):=by unfold bsR; rw[kH h1]
  rw[e,kH h1]
  refine sT ?_
  exact⟨rtC (a:=6) rfl rfl rfl rfl rfl rfl ⟨⟨rfl,rfl⟩,rfl,rfl,trivial⟩,rtI rfl rfl,trivial⟩
 have e:bsR d=(bsts d,0):=by unfold bsR; rw[kG h1]
 rw[e,kG h1]
 refine sF ?_
 refine cR (zlN (bsts d) a b (by have:(bsts d).length<=(parts d).length:=zf3 (parts d); have:=zdS h; omega) fun p hp=>by
  have:=zgt h (zjl hp)
  exact⟨by omega,fun s hs=>by have:=this.2 s hs; omega⟩) rfl rfl ?_
 exact⟨rtC (a:=6) rfl rfl rfl rfl rfl rfl (zab _),rtI rfl rfl,trivial⟩
def fltP (k:Int) (l:List (List (List Int))):List (List (List Int)):=l.filter fun p=>((p.length:Int)==k)
theorem zl7 (k:Int) (l:List (List (List Int))) (p:List (List Int)):fltP k (l ++ [p])=if ((p.length:Int)==k)=true then fltP k l ++ [p] else fltP k l:=by
 unfold fltP
 rw[kZ]
 by_cases h:((p.length:Int)==k)=true
 ·rw[kH h,qU (by exact h)]; rfl
 rw[kG h,qV (by exact h)]; simp
def fitT (T:Nat->List Place) (ks:List Nat) (m:Nat):Bool:=ks.contains m && decide (0<(T m).length)
def partT (T:Nat->List Place) (n:Nat) (ks:List Nat) (set:Nat):Bool:=(List.range n).all fun i=>(offS set i==set) || (offS set i==0) || fitT T ks (offS set i)
def growT (T:Nat->List Place) (n:Nat) (ks:List Nat) (set:Nat):Bool:=(List.range n).any fun i=>(onS set i != set) && fitT T ks (onS set i)
def keysT (T:Nat->List Place) (n:Nat):Nat->List Nat
 | 0=>[]
 | m+1=>if m≠0/\partT T n (keysT T n m) m=true then keysT T n m ++ [m] else keysT T n m
section
variable {d:Day} {T:Nat->List Place} (h:∀ m,celD d m=T m) {ids:List Int} (hi:sigL d.R=ids)
include h
theorem zl8:fitK d=fitT T:=by
 funext ks m
 unfold fitK fitT
 rw[h]
include hi
theorem zph (ks:List Nat) (m:Nat):partK d ks m=partT T ids.length ks m:=by
 unfold partK partT parK
 rw[zl8 h,hi]
theorem zs3 (ks:List Nat) (m:Nat):growK d ks m=growT T ids.length ks m:=by
 unfold growK growT groK
 rw[zl8 h,hi]
theorem ziX:∀ m,keysD d m=keysT T ids.length m
 | 0=>rfl
 | m+1=>by
  unfold keysD keysT
  rw[ziX m,zph h hi]
theorem zla:parts d=prt (fun s=>fitT T (keysT T ids.length (2 ^ ids.length)) (bitS ids s)) ids []:=by
 unfold parts ksD
 rw[zl8 h,ziX h hi,hi]
end
theorem p3:parts exD=[[[1,2],[3]],[[1],[2],[3]]]:=by
 rw[zla cel3 sig3]
 decide +kernel
theorem p47:parts exD4=[[[1],[2],[3]]]:=by
 rw[zla cel4 sig4]
 decide +kernel
theorem dE3:dayE exD=0:=by decide +kernel
theorem dE4:dayE exD4=0:=by decide +kernel
theorem zrQ:fewR exD=(2,0):=by
 unfold fewR bsts
 rw[kG (fun hh=>hh dE3),p3]
 decide +kernel
theorem zrP:fewR exD4=(3,0):=by
 unfold fewR bsts
 rw[kG (fun hh=>hh dE4),p47]
 decide +kernel
theorem par3 (a b:Int) (h:partB [a,b] [1,2,3]=true) (hn:a≠b):parE exD a b=0:=by
 unfold parE
 rw[kG (fun hh=>hh dE3),show sigL exD.R=[1,2,3] from sig3,kG (by rw[h]; decide),kG hn]
theorem par4 (a b:Int) (h:partB [a,b] [1,2,3]=true) (hn:a≠b):parE exD4 a b=0:=by
 unfold parE
 rw[kG (fun hh=>hh dE4),show sigL exD4.R=[1,2,3] from sig4,kG (by rw[h]; decide),kG hn]
theorem zgg:(samR exD 1 2).1.Ans=2/\(samR exD 1 2).2=0:=by
 unfold samR bsts
 rw[kG (fun hh=>hh (par3 1 2 (by decide +kernel) (by decide))),p3]
 decide +kernel
theorem zgf:(samR exD 1 3).1.Ans=1/\(samR exD 1 3).2=0:=by
 unfold samR bsts
 rw[kG (fun hh=>hh (par3 1 3 (by decide +kernel) (by decide))),p3]
 decide +kernel
theorem zge:(samR exD4 1 2).1.Ans=1/\(samR exD4 1 2).2=0:=by
 unfold samR bsts
 rw[kG (fun hh=>hh (par4 1 2 (by decide +kernel) (by decide))),p47]
 decide +kernel
theorem ask3 (ids:List Int) (h1:setB ids=true) (h2:partB ids [1,2,3]=true):askE exD ids=0:=by
 unfold askE
 rw[kG (fun hh=>hh dE3),kG (by rw[h1]; decide),show sigL exD.R=[1,2,3] from sig3,kG (by rw[h2]; decide)]
theorem zmR:celR exD [1,3]=([],0):=by
 unfold celR
 rw[kG (fun hh=>hh (ask3 [1,3] (by decide +kernel) (by decide +kernel))),c5]
theorem zkm:(tabR exD).1.length=2/\(tabR exD).2.1.length=2/\(tabR exD).2.2=0:=by
 have e:tabR exD=(srtF (tabA (greB exD (ksD exD)) (fitF exD) (2 ^ (sigL exD.R).length)),srtM (tabA (leaB exD (ksD exD)) (misF exD) (2 ^ (sigL exD.R).length)),0):=by unfold tabR; rw[kG (fun hh=>hh dE3)]
 have g:∀ m,greB exD (ksD exD) m=(fitT T3 (keysT T3 3 8) m && !growT T3 3 (keysT T3 3 8) m):=fun m=>by
  unfold greB ksD
  rw[zl8 cel3,zs3 cel3 sig3,ziX cel3 sig3,show sigL exD.R=[1,2,3] from sig3]; rfl
 have l:∀ m,leaB exD (ksD exD) m=(!fitT T3 (keysT T3 3 8) m && partT T3 3 (keysT T3 3 8) m):=fun m=>by
  unfold leaB ksD
  rw[zl8 cel3,zph cel3 sig3,ziX cel3 sig3,show sigL exD.R=[1,2,3] from sig3]; rfl
 have hl:∀ {α:Type} (p:Nat->Bool) (f:Nat->α) (n:Nat),(tabA p f n).length=(tabA p id n).length:=fun p f n=>by rw[zci p f,kW]
 rw[e]
 refine⟨?_,?_,rfl⟩
 ·show (srtF _).length=2
  unfold srtF
  rw[qM,hl,show sigL exD.R=[1,2,3] from sig3,show greB exD (ksD exD)=_ from funext g]
  decide +kernel
 show (srtM _).length=2
 unfold srtM
 rw[qM,hl,show sigL exD.R=[1,2,3] from sig3,show leaB exD (ksD exD)=_ from funext l]
 decide +kernel
def SpecA (P:Program) (f:FuncId) (args:List V1) (obs':List (Nat × Ob)) (cs:List Cap):Prop:=
 Ent P f /\ ∀ (w:World) (ok:Nat->Prop) (vs:List Value),(∀ b,ok b->b<w.heap.size)->All2 (Rep1 w ok) args vs ->
  Calls P f vs.toArray w fun en w'=>∃ v γ',en = .returned v/\FrM w w' γ' []/\OwnS w' (okM w w' ok γ' γ' [] obs') γ' obs' /\
   (∀ i o b,look obs' i=some o->blk (γ' i)=some b->w.heap.size<=b)/\M w' (okM w w' ok γ' γ' [] obs') γ' (.aggc cs) v
def retA (a i:Nat) (obs':List (Nat × Ob)):KK:=fun e s=>match e with
 | .normal=>Weak s [(a,.box i 0)] obs'
 | .ret=>Weak s [(a,.box i 0)] obs'
 | _=>False
theorem zm7 {P : Program} {T : TT} {E : Env} (hdr : E.dr = false) (hT : ∀ t i, T t = some i -> TI.of P t = some i) (hE : ∀ t, E.eq t = true -> EqFact P t) (hm : P.follows .mixedOrders = true)
  {f : FuncId} {fn : Func} {c : Code} (hf : P.funcs[f]? = some fn) (hb : fn.body = some c) (hn : (fn.name == "runtime.NumGoroutine") = false) (hN : codeN fn.ntmps c = true)
  {args : List V1} {obs' : List (Nat × Ob)} {cs : List Cap} (u i t : Nat) {ti : TI} (hts : fn.results.toList = [ResultVar.cell u t]) (ht : T t = some ti) (hld : loadE (St.of [(u, .box i 0)] obs') ti (.box i 0) fun z => z = .aggc cs) (hsz : args.length <= fn.ntmps) (hng : fn.ntmps <= G)
  (h : awp P T E c (St.of (argSlots 0 args) []) (retA u i obs')) : SpecA P f args obs' cs :=
 ⟨⟨fn, hf, hn, by rw [hb]; rfl⟩, fun w ok vs hok hm2 => zjW hT hE hm hf hb hN (cx := cx0 E.dr w ok fn.ntmps) id rfl rfl rfl (fun _ _ => id) (zfm hok hm2 hsz hng) h
  (fun x h1 h2 s h => by cases x <;> first | exact h1 rfl | exact h2 rfl | exact h) fun x s a w' hx hk hR _ => by
  have k2 : Weak s [(u, .box i 0)] obs' := by rcases hx with rfl | rfl <;> exact hk
  obtain ⟨γ', hg⟩ := hR.weak k2
  have hs0 := hg.slots u
  have hsl : (St.of [(u, .box i 0)] obs').sl u = .box i 0 := by
   show (look [(u, AV.box i 0)] u).getD .any = _
   simp only [look, zaw]; rfl
  rw [hsl] at hs0
  have hl0 : ∀ b, ¬ LentB γ' [] b := fun b ⟨j, o, h1, _⟩ => by cases h1
  have hok2 : ∀ b, okOf (cx0 E.dr w ok fn.ntmps) (St.of [(u, .box i 0)] obs') γ' w' b -> okM w w' ok γ' γ' [] obs' b := fun b hb => by
   rcases hb with hb | ⟨h1, h2, h3⟩
   ·exact .inl hb
   exact .inr ⟨.inl (h1.elim id False.elim), h2, fun ⟨j, p, g1, g2⟩ => h3 j p g1 g2⟩
  obtain ⟨z, v, g1, g2, _, rfl⟩ := zcc hg (hT t ti ht) hs0 hld
  obtain ⟨b, hb1, hx1⟩ := id hs0
  have hv : (do loadVar t (← asAddr (a.tmps.getD u undef))).run P w' = .ok v w' := by
   rw [hx1] at g1 ⊢
   have g3 : (loadVar t ⟨b, 0, none⟩).run P w' = .ok v w' := by simpa [Instr.loadAt, Instr.sureAddr] using g1
   simpa [asAddr] using g3
  have hrun := za1 (P := P) (fn := fn) (a := a) (w := w') (vs := [v]) (by
   rw [hts, jbA]
   simp only [Sem.run_bind] at hv ⊢
   rw [hv]
   simp)
  refine ⟨_, hrun, v, γ', rfl, ⟨hg.below.os, hg.below.tape, hg.below.output, hg.below.size, fun k hk _ => hg.below.block k hk id⟩, ⟨fun i o hi => ?_, hg.refs, hg.sep, fun i o b hi hb hok' => ?_⟩, fun i o b hi hb => (zaB hg hi hb).1.elim id False.elim, ?_⟩
  ·exact (hg.objs i o hi).reO rfl (fun _ _ _ _ _ _ => rfl) (fun _ _ => trivial) hok2
  ·rcases hok' with h1 | ⟨_, _, h3⟩
   ·exact zg8 hg (zaB hg hi hb).1 h1
   exact h3 ⟨i, o, hi, hb⟩
  exact M.keep (fun b hb => ⟨hok2 b hb, rfl⟩) (fun _ _ => rfl) g2⟩
section
variable {s:St} {o:Oper} {fo:Operand} {f:FuncId} {K:St->Prop} {E:Env}
theorem CallSt.obA (sl:List (Nat × AV)) (rest:List (Nat × Ob)) {obs':List (Nat × Ob)} {cs:List Cap} (hdr:E.dr=false) {args:Array Operand} {at':Array TypeId} (hop:o.op = .call { callee:=.value fo,args,argTypes:=at' }) {xs:List V1} (h:SpecA PP f xs obs' cs)
  (hw:Weak s sl rest) (hx:toV1c (St.of sl rest) fo args.toList=some (f,xs)) (hno:noOwn (St.of sl rest) args.toList=true) (hi:∀ j∈(AV.aggc cs).refs,(look obs' j).isSome=true) (hc:goodM sl [] obs' rest []=true)
  (hk:K ((St.of sl (obs'++rest)).putO o.dst (.aggc cs))):CallSt E PP s o fo args.toList K:=by
 obtain⟨ex,h1,h2⟩:=zaG hx
 rw[zaf]
 refine .inr (.inr (.inl ⟨_,⟨fun cx a w hD hd hR=>?_⟩,hk⟩))
 obtain⟨γ,hg⟩:=hR.weak hw
 obtain⟨caps,hf,hcm⟩:=zaX h1 (ev_m hg fo).1
 have hm:=(zbm hg h2 ((zbD hg args.toList).append hcm)).2 (zct hno (zbl h1))
 refine .enter (zaA hop hf h.1) ?_
 refine (h.2 w _ _ (fun b hb=>zak hg hb) hm).mono fun en w' ⟨v,γ2,e0,hfr,ho,hn,hres⟩=>?_
 have hl0:∀ (γ:Nat->Value) b,¬ LentB γ [] b:=fun γ b ⟨j,o,h1,_⟩=>by cases h1
 have hM0:∀ b,okM w w' (okOf cx (St.of sl ([]++rest)) γ w) γ2 γ2 [] obs' b ↔ okM w w' (okOf cx (St.of sl ([]++rest)) γ w) γ γ2 [] obs' b:=fun b=>
  ⟨fun hb=>hb.imp id fun hb=>⟨hb.1.imp id fun h=>absurd h (hl0 _ _),hb.2⟩,fun hb=>hb.imp id fun hb=>⟨hb.1.imp id fun h=>absurd h (hl0 _ _),hb.2⟩⟩
 obtain⟨γ',hg',hγ,hM⟩:=RG.lendM (obs:=[]) (pins:=[]) (γ2:=γ2) hg (fun e=>by have:=hD e; rw[hdr] at this; cases this) ⟨hfr.os,hfr.tape,hfr.output,hfr.size,fun k hk _=>hfr.block k hk (hl0 _ _)⟩ (fun i hi=>by cases hi)
  ⟨fun i o hi=>(ho.objs i o hi).reO rfl (fun _ _ _ _ _ _=>rfl) (fun _ _=>trivial) fun b hb=>(hM0 b).1 hb,ho.refs,ho.sep,fun i o b hi hb hk=>ho.out i o b hi hb ((hM0 b).2 hk)⟩ (fun i o b hi hb=>.inl (hn i o b hi hb)) hc
 refine⟨_,e0,γ',hg'.putO hd (M.keep (fun b hb=>⟨hM b ((hM0 b).1 hb),rfl⟩) (fun j hj=>hγ j (hi j hj)) hres) fun j hj=>?_⟩
 show (look (obs'++rest) j).isSome=true
 rw[zap]
 have:=hi j hj
 cases e:look obs' j with
 | some x=>rfl
 | none=>rw[e] at this; cases this
theorem CallSt.lendW (ids:List Nat) {args:Array Operand} {at':Array TypeId} (hop:o.op = .call { callee:=.value fo,args,argTypes:=at' }) {xs ys res res':List V1} (h:SpecG E.dr PP f ys res) (hx:toV1c (s.freezes ids) fo args.toList=some (f,xs)) (he:eqV1s xs ys)
  (hw:∀ w ok v,ResRep w ok res v->ResRep w (fun _=>False) res' v) (hk:K (s.putO o.dst (resAV res'))):CallSt E PP s o fo args.toList K:=by
 obtain⟨ex,h1,h2⟩:=zaG hx
 rw[zaf]
 refine .inr (.inr (.inl ⟨_,⟨fun cx a w hD hd hR=>?_⟩,hk⟩))
 obtain⟨γ,hg⟩:=hR
 obtain⟨γ',h'⟩:=R.freezes ids ⟨γ,hg⟩
 obtain⟨cvs,hcx,hcm⟩:=zaX h1 (ev_m h' fo).1
 have hm:=(zbm h' h2 ((zbD h' args.toList).append hcm)).1
 refine .enter (zaA hop hcx h.1) ?_
 refine ((h.eqv he).2 w _ _ (fun b hb=>hb) hm).mono fun en w' ⟨v,e,hb,hres⟩=>⟨v,e,γ,?_⟩
 exact (hg.grow hb.1 fun e=>hb.2 (hD e)).putO hd (zaT (.inl fun b hb=>hb.elim) (hw _ _ _ hres)) (fun j hj=>by rw[zaz] at hj; cases hj)
end
theorem zfl {w:World} {ok:Nat->Prop} {k n:Nat} {f g:Nat->Nat->D} {v:Value} (h:Rep w ok (.slc k n f) v):Rep w (fun _=>False) (.slc 0 n g) v:=by
 rcases h with⟨h,e⟩ | ⟨a,cap,e,h1,h2,_⟩
 ·exact .inl ⟨h,e⟩
 exact .inr ⟨a,cap,e,h1,h2,fun i _ j hj=>absurd hj (qD _)⟩
abbrev lenD (n:Nat):D:=.slc 0 n fun _ _=>.nil
theorem zif {w:World} {ok:Nat->Prop} {x x':V1} {y:D} {v:Value} (hy:y.flat=true) (hx:∀ u,Rep1 w ok x u->Rep1 w (fun _=>False) x' u) (h:ResRep w ok [x,.d y] v):ResRep w (fun _=>False) [x',.d y] v:=by
 obtain⟨vs,e,h⟩:=h
 cases h with
 | cons a b=>
 cases b with
 | cons c d=>
 cases d
 exact⟨_,e,.cons (hx _ a) (.cons (Rep1.flat (x:=.d y) hy c) .nil)⟩
theorem zm8 (ids : List Nat) {f : FuncId} {fn : Func} {c : Code} (hf : PP.funcs[f]? = some fn) (hb : fn.body = some c) (hq : ((fn.name == "runtime.NumGoroutine") || !(codeN fn.ntmps c && Nat.ble fn.ntmps 4294967296)) = false)
  {args : List V1} {obs' : List (Nat × Ob)} {cs : List Cap} (u i t : Nat) {ti : TI} (hts : fn.results.toList = [ResultVar.cell u t]) (ht : TTab t = some ti) (hld : loadE (St.of [(u, .box i 0)] obs') ti (.box i 0) fun z => z = .aggc cs) (hsz : Nat.ble args.length fn.ntmps = true)
  (h : awp PP TTab (EC ids) c (St.of (argSlots 0 args) []) (retA u i obs')) : SpecA PP f args obs' cs := by
 simp only [qP, qW, jP] at hq
 exact zm7 (E := EC ids) rfl hT hE hM hf hb hq.1 hq.2.1 u i t hts ht hld (jD hsz) (jD hq.2.2) h
abbrev exP:List D:=[I 9,I 9,lI exS.c.M.G,lT exS.c.T,lZ exS.c.Z,lC exS.k.C,lK exS.k.K,I 0,I 60]
abbrev exOb:List (Nat × Ob):=[(0,.box (exP.map AV.d ++ [.own 25])),(25,.row 90 8 3 (rowRp exR))]
abbrev exCs:List Cap:=exP.map Cap.dat ++ [.own 25]
theorem zke:SpecA PP 24 [] exOb exCs:=by
 refine zm8 [6] Tryz.func24 rfl (by kernel_rfl) 0 0 37 rfl rfl rfl rfl ?_
 refine⟨⟨by decide,rfl,by decide,by decide⟩,?_⟩
 refine kAt [(0,.box 0 0),(1,.box 1 0)] [(0,.box (List.replicate 10 .any)),(1,.box (exP.map AV.d ++ [.own 25])),(25,.row 90 8 3 (rowRp exR))] ⟨rfl,⟨zbK rfl rfl,?_,obR rfl ⟨rfl,.inr ⟨rfl,fun i hi j hj=>?_⟩⟩,trivial⟩,wq rfl⟩ ?_
 ·refine⟨⟨rfl,rfl⟩,⟨rfl,rfl⟩,⟨rfl,.inr ⟨rfl,fun i hi j hj=>?_⟩⟩,⟨rfl,_,_,_,_,rfl,rfl,.inr ⟨rfl,fun i hi j hj=>?_⟩⟩,rfl,⟨rfl,_,_,_,_,rfl,rfl,.inr ⟨rfl,fun i hi j hj=>?_⟩⟩,rfl,⟨rfl,rfl⟩,⟨rfl,rfl⟩,rfl,trivial⟩
  ·have hj:j<1:=hj
   obtain rfl:j=0:=by omega
   show D.eqv (I 0) (I ((List.replicate 81 (0:Int)).getD i 0))
   have:(List.replicate 81 (0:Int)).getD i 0=0:=by
    rw[hZ,List.getElem?_replicate]
    split <;> rfl
   rw[this]
   exact⟨rfl,rfl⟩
  ·have hi:i<2:=hi
   have hj:j<4:=hj
   obtain rfl | rfl:i=0 \/ i=1:=by omega
   all_goals match j,hj with
   | 0,_=>exact⟨rfl,rfl⟩
   | 1,_=>exact⟨rfl,rfl⟩
   | 2,_=>exact⟨rfl,rfl⟩
   | 3,_=>exact⟨rfl,rfl⟩
  have hi:i<2:=hi
  have hj:j<8:=hj
  obtain rfl | rfl:i=0 \/ i=1:=by omega
  all_goals match j,hj with
  | 0,_=>exact⟨rfl,rfl⟩
  | 1,_=>exact⟨rfl,rfl⟩
  | 2,_=>exact⟨rfl,rfl⟩
  | 3,_=>exact⟨rfl,rfl⟩
  | 4,_=>exact⟨rfl,rfl⟩
  | 5,_=>exact⟨rfl,rfl⟩
  | 6,_=>exact⟨rfl,rfl⟩
  | 7,_=>exact⟨rfl,rfl⟩
 ·have hi:i<3:=hi
  have hj:j<8:=hj
  obtain rfl | rfl | rfl:i=0 \/ i=1 \/ i=2:=by omega
  all_goals match j,hj with
  | 0,_=>exact⟨rfl,rfl⟩
  | 1,_=>exact⟨rfl,rfl⟩
  | 2,_=>exact⟨rfl,rfl⟩
  | 3,_=>exact⟨rfl,rfl⟩
  | 4,_=>exact⟨rfl,rfl⟩
  | 5,_=>exact⟨rfl,rfl⟩
  | 6,_=>exact⟨rfl,rfl⟩
  | 7,_=>exact⟨rfl,rfl⟩
 exact⟨rfl,⟨obX rfl,obR rfl (dE _),trivial⟩,wq rfl⟩
theorem znK (s:Svc) (P:Nat->Bool) (hv:validM s.c.M=true):SpecO PP 130 [s.v,.agg (bD P)] 60 2 (plsL s.c.M P).length (rowP (plsL s.c.M P)):=by
 have hl:=zbw hv
 refine zdm Tryz.func130 rfl (by kernel_rfl) rfl ?_
 refine cR (zfK s.c.M) rfl rfl ?_
 refine CodeOb.rangeAt (zdz s.c.M hv) rfl (fun _=>rfl) (by decide) [(2,.box 2 0),(3,.box 3 0),(5,.box 5 0)] [(5,0)] (fun pre=>obPls s P pre.length) rfl (fun _=>rfl) ?_ (Iv:=fun _=>True) trivial (fun v pre x hx _=>?_) (fun _=>?_)
 ·exact⟨rfl,⟨obX rfl,obX rfl,obN rfl rfl rfl,obZ rfl rfl,trivial⟩,wq rfl⟩
 ·obtain⟨rfl,hk⟩:=zim hx
  have hn:=zcj hv (k:=pre.length)
  have hp:=zqQ P pre.length (by omega)
  rw[<- hn] at hp
  have hlen:=zcs s.c.M P pre.length
  refine cP hp rfl rfl ?_
  apply bY <;> intro h1
  ·refine⟨⟨.inr rfl,by unfold maxLen; omega,by show ((plsK s.c.M P pre.length).length+1) * 16<=140737488355328; omega⟩,?_⟩
   refine⟨trivial,rfl,⟨obX rfl,obX rfl,obO rfl,obR rfl ?_,trivial⟩,wq rfl⟩
   rw[jR]
   show D.eqv _ (.slc 2 (plsK s.c.M P (pre.length+1)).length (rowP (plsK s.c.M P (pre.length+1))))
   rw[zfu h1]
   exact zqv (at2 rfl rfl)
  refine⟨trivial,rfl,⟨obX rfl,obX rfl,obO rfl,obR rfl ?_,trivial⟩,wq rfl⟩
  rw[jR]
  show D.eqv _ (.slc 2 (plsK s.c.M P (pre.length+1)).length (rowP (plsK s.c.M P (pre.length+1))))
  rw[zhC h1]; exact dE _
 rw[zcN]
 exact⟨rfl,rfl,rfl,fun i hi j hj=>dE _⟩
theorem zja (l:List Place) (m j:Nat):(rowP l m j).flat=true:=by
 show ((l.getD m default).at j).flat=true
 unfold Place.at
 split <;> rfl
theorem SpecTO.eqv {dr:Bool} {P:Program} {f:FuncId} {xs ys:List V1} {e k n:Nat} {g:Nat->Nat->D} {res:List V1} (h:SpecTO dr P f ys e k n g res) (he:eqV1s xs ys):SpecTO dr P f xs e k n g res:=
 ⟨h.1,fun w ok vs hok hv=>h.2 w ok vs hok (zbd he hv)⟩
def retTO (t0 i:Nat) (ts:List Nat) (res:List V1) (e k n:Nat) (g:Nat->Nat->D):KK:=fun x s=>match x with
 | .normal=>Weak s ((t0,.own i) :: retSl ts res) [(i,.row e k n g)]
 | .ret=>Weak s ((t0,.own i) :: retSl ts res) [(i,.row e k n g)]
 | _=>False
theorem zky {P : Program} {T : TT} {E : Env} (hT : ∀ t i, T t = some i -> TI.of P t = some i) (hE : ∀ t, E.eq t = true -> EqFact P t) (hm : P.follows .mixedOrders = true)
  {f : FuncId} {fn : Func} {c : Code} (hf : P.funcs[f]? = some fn) (hb : fn.body = some c) (hn : (fn.name == "runtime.NumGoroutine") = false) (hN : codeN fn.ntmps c = true)
  {args : List V1} (t0 i t1 : Nat) (ts : List Nat) (hts : fn.results.toList = (t0 :: t1 :: ts).map ResultVar.tmp) {res : List V1} (hlr : (t1 :: ts).length = res.length) (hpn : (t0 :: t1 :: ts).Nodup) (hfl : res.all V1.flat = true)
  {e k n : Nat} {g : Nat -> Nat -> D} (hsz : args.length <= fn.ntmps) (hng : fn.ntmps <= G) (h : awp P T E c (St.of (argSlots 0 args) []) (retTO t0 i (t1 :: ts) res e k n g)) : SpecTO E.dr P f args e k n g res :=
 ⟨⟨fn, hf, hn, by rw [hb]; rfl⟩, fun w ok vs hok hm2 => zjW hT hE hm hf hb hN (cx := cx0 E.dr w ok fn.ntmps) id rfl rfl rfl (fun _ _ => id) (zfm hok hm2 hsz hng) h
  (fun x h1 h2 s h => by cases x <;> first | exact h1 rfl | exact h2 rfl | exact h) fun x s a w' hx hk hR _ => by
  have k2 : Weak s ((t0, .own i) :: retSl (t1 :: ts) res) [(i, .row e k n g)] := by rcases hx with rfl | rfl <;> exact hk
  obtain ⟨γ', hg⟩ := hR.weak k2
  have hsl : ∀ t v, look ((t0, AV.own i) :: retSl (t1 :: ts) res) t = some v -> (St.of ((t0, .own i) :: retSl (t1 :: ts) res) [(i, .row e k n g)]).sl t = v := fun t v e => by
   show (look ((t0, AV.own i) :: retSl (t1 :: ts) res) t).getD .any = _
   rw [e]; rfl
  have hs0 := hg.slots t0
  rw [hsl t0 (.own i) (by simp only [look, zaw]; rfl)] at hs0
  have hval : a.tmps.getD t0 undef = γ' i := hs0
  have ho : (St.of ((t0, .own i) :: retSl (t1 :: ts) res) [(i, .row e k n g)]).ob i = some (.row e k n g) := by
   show look [(i, Ob.row e k n g)] i = _
   simp only [look, zaw]; rfl
  obtain ⟨xs, h1, h0, h2, h3⟩ := hg.objs i _ ho
  have hnd : (([(t0, AV.own i)] ++ retSl (t1 :: ts) res).map Prod.fst).Nodup := by rw [jT, zcC hlr]; exact hpn
  have hres := zfk hg hlr fun t x hx => hsl t _ (zbL (l := [(t0, AV.own i)]) hx hnd)
  have hrun := za1 (P := P) (fn := fn) (a := a) (w := w') (vs := (t0 :: t1 :: ts).map fun t => a.tmps.getD t undef) (by rw [hts]; exact zfj _)
  have h1' : w'.ownsRow w.heap.size e k (γ' i) n xs := ⟨h1.1, by
   rcases h1.2 with h4 | ⟨g', cap, cur, h4, h5, h6⟩
   ·exact .inl h4
   exact .inr ⟨g', cap, cur, h4, (h0 g' (by rw [h4]; rfl)).elim id False.elim, h6⟩⟩
  refine ⟨_, hrun, γ' i, (t1 :: ts).map (fun t => a.tmps.getD t undef), ?_, ⟨bel0 hg.below, hg.below.drawn⟩, ⟨xs, h1', h2, fun m hm j hj => ?_⟩, fun ok' => ?_⟩
  ·rw [<- hval]; rfl
  ·obtain ⟨u, hu, hr⟩ := h3 m hm j hj
   exact ⟨u, hu, Rep.keep (fun b hb => ⟨hb.imp id fun hb => ⟨hb.1.elim id False.elim, hb.2.1, hb.2.2 i _ ho⟩, rfl⟩) hr⟩
  exact hres.imp fun x u hx hr => Rep1.flat (jC.1 hfl x hx) hr⟩
theorem zgj {f : FuncId} {fn : Func} {c : Code} (hf : PP.funcs[f]? = some fn) (hb : fn.body = some c) (hq : ((fn.name == "runtime.NumGoroutine") || !(codeN fn.ntmps c && Nat.ble fn.ntmps 4294967296)) = false)
  {args : List V1} (t0 i t1 : Nat) (ts : List Nat) {res : List V1} (hts : fn.results.toList = (t0 :: t1 :: ts).map ResultVar.tmp) (hlr : (t1 :: ts).length = res.length) (hpn : (t0 :: t1 :: ts).Nodup) (hfl : res.all V1.flat = true) {e k n : Nat} {g : Nat -> Nat -> D} (hsz : Nat.ble args.length fn.ntmps = true)
  (h : awp PP TTab (EC []) c (St.of (argSlots 0 args) []) (retTO t0 i (t1 :: ts) res e k n g)) : SpecTO false PP f args e k n g res := by
 simp only [qP, qW, jP] at hq
 exact zky (E := EC []) hT hE hM hf hb hq.1 hq.2.1 t0 i t1 ts hts hlr hpn hfl (jD hsz) (jD hq.2.2) h
section
variable {s:St} {o:Oper} {fo:Operand} {args:List Operand} {f:FuncId} {K:St->Prop} {E:Env}
theorem CallSt.ownT {xs ys res:List V1} {d e k n:Nat} {g:Nat->Nat->D} (h:SpecTO E.dr PP f ys e k n g res) (hx:toV1c s fo args=some (f,xs)) (he:eqV1s xs ys) (hd:o.dst=some d) (hg:∀ m j,m<n->j<k->(g m j).flat=true)
  (hk:K (Go.Pg.mk s d (.row e k n g) (.tupr d res))):CallSt E PP s o fo args K:=by
 obtain⟨ex,h1,h2⟩:=zaG hx
 rw[zaf]; exact .inr (.inl ⟨[],f,ex,d,h1,hd,by rw[zan]; exact⟨xs,e,k,n,g,some res,h2,h.eqv he,hg,hk⟩⟩)
end
theorem zlI (s:Svc) (b:Brn) (l:List Rpt) (h0:givE s b l=0):SpecTO false PP 87 [s.v,b.v,.d (lR l)] 60 2 (plcR s b l).1.length (rowP (plcR s b l).1) [.d (.int .i64 0)]:=by
 have e:allR s b l=(l.map (alwP s b),0):=by unfold allR; rw[kG (fun hh=>hh h0)]
 have e1:plcR s b l=(plsL s.c.M (metP (l.map (alwP s b))),0):=by unfold plcR; rw[kG (fun hh=>hh h0)]
 have ok:=zgH h0
 have hn:=ok.n
 rw[e1]
 refine zgj Tryz.func87 rfl (by kernel_rfl) 6 23 7 [] rfl rfl (by decide) rfl rfl ?_
 have ha:=zqU s b l
 rw[e] at ha
 refine cR ha rfl rfl ?_
 refine sF ?_
 refine oL [0,1,2,6003,4,5] (fNo ?_)
 refine oP (zpn (l.map (alwP s b)) (by rw[kW]; omega)) rfl rfl ?_
 refine⟨⟨_,_,_,_,_,_,rfl,rfl,rfl,rfl,?_⟩⟩
 rw[zan]
 refine⟨_,_,_,_,_,none,rfl,znK s (metP (l.map (alwP s b))) ok.s.c.m,fun m j _ _=>zja _ m j,?_⟩
 exact⟨rfl,⟨obR rfl (dE _),trivial⟩,wq rfl⟩
theorem zlO {d:Day} (h:DayOk d) (ids:List Int) (hi:ids.length<=1000000) (h1:(brnD d ids).To - (brnD d ids).From<=d.Long) (h0:givE d.s (brnD d ids) (lstD d ids)=0) :
  SpecO PP 45 [d.v,.d (lI ids)] 60 2 (plsD d ids).length (rowP (plsD d ids)):=by
 have hn:=h.n
 have e:plsD d ids=(plcR d.s (brnD d ids) (lstD d ids)).1:=by unfold plsD; rw[kH h1]
 rw[e]
 refine zdm Tryz.func45 rfl (by kernel_rfl) rfl ?_
 refine cP (zlT d ids (by omega) hi) rfl rfl ?_
 refine cP (zhJ d (brnD d ids) (zh1 h ids)) rfl rfl ?_
 apply bY <;> intro h2
 ·have h2:¬ (brnD d ids).To - (brnD d ids).From<=d.Long:=by simpa using h2
  exact absurd h1 h2
 refine oL [0,1,2,3,4,5,6006,7,8,9,10,11] (fNo ?_)
 refine oRo (zlQ d ids (by omega) hi) rfl rfl ?_
 refine⟨⟨_,_,_,_,_,_,rfl,rfl,rfl,rfl,?_⟩⟩
 rw[zan]
 refine⟨_,_,_,_,_,some _,rfl,zlI d.s (brnD d ids) (lstD d ids) h0,fun m j _ _=>zja _ m j,?_⟩
 exact⟨rfl,rfl,rfl,fun i hi j hj=>dE _⟩
theorem zq2 (d:Day) (ids:List Int) (hn:d.R.length<=1000000) (hi:ids.length<=1000000) (h0:askE d ids=0) (h1:(brnD d ids).To - (brnD d ids).From<=d.Long) (hg:givE d.s (brnD d ids) (lstD d ids)=0) :
  SpecTO false PP 25 [d.v,.d (lI ids)] 60 2 (plsD d ids).length (rowP (plsD d ids)) [.d (.int .i64 0)]:=by
 refine zgj Tryz.func25 rfl (by kernel_rfl) 4 15 5 [] rfl rfl (by decide) rfl rfl ?_
 have ha:=zlU d ids hn hi
 rw[h0] at ha
 refine cP ha rfl rfl ?_
 refine sF ?_
 refine CallSt.own (zlO (zpE h0) ids hi h1 hg) rfl rfl (fun m j _ _=>zja _ m j) ?_
 exact⟨rfl,⟨obR rfl (dE _),trivial⟩,wq rfl⟩
theorem giv12:givE exS (brnD exD [1,2]) (lstD exD [1,2])=0:=by
 have e1:brnD exD [1,2]=⟨100,110,0⟩:=by decide +kernel
 have e2:lstD exD [1,2]=[xq1,xq2]:=by decide +kernel
 rw[e1,e2]
 refine zs4 _ (by decide +kernel) _ (by decide) (fun r hr=>?_) (by decide +kernel)
 rcases kT.1 hr with rfl | hr
 ·exact rx1
 rcases kT.1 hr with rfl | hr
 ·exact rx2
 cases hr
theorem zto:SpecTO false PP 25 [exD.v,.d (lI [1,2])] 60 2 1 (rowP [⟨4,4⟩]) [.d (.int .i64 0)]:=by
 have h:=zq2 exD [1,2] (by decide) (by decide) (ask3 [1,2] (by decide +kernel) (by decide +kernel)) (by decide +kernel) giv12
 rw[c3] at h
 exact h
theorem zst:Spec PP 26 [exD.v,.d (lI [1,3])] [B false,.d (.int .i64 0)]:=by
 have h:=zjT exD [1,3] (by decide) (by decide)
 rw[zmR] at h
 exact h
theorem few3:Spec PP 16 [exD.v] [N 2,.d (.int .i64 0)]:=by
 have h:=zfO exD (by decide)
 rw[zrQ] at h
 exact h
theorem few4:Spec PP 16 [exD4.v] [N 3,.d (.int .i64 0)]:=by
 have h:=zfO exD4 (by decide)
 rw[zrP] at h
 exact h
abbrev vdL (a:Int) (m n:Nat):V1:=.agg [I a,lenD m,lenD n]
theorem zkf {w:World} {ok:Nat->Prop} (x:Vdt) {a:Int} (ha:x.Ans=a):∀ u,Rep1 w ok x.v u->Rep1 w (fun _=>False) (vdL a x.T.length x.A.length) u:=fun u ⟨us,e,h⟩=>by
 subst ha
 refine⟨us,e,?_⟩
 cases h with
 | cons h1 h=>
 cases h with
 | cons h2 h=>
 cases h with
 | cons h3 h=>
 cases h
 exact .cons (Rep.flat rfl h1) (.cons (zfl h2) (.cons (zfl h3) .nil))
theorem zrZ {w:World} {ok:Nat->Prop} {l:List Fit} {m:List Mis}:∀ u,Rep1 w ok (.agg [lFt l,lMs m]) u->Rep1 w (fun _=>False) (.agg [lenD l.length,lenD m.length]) u:=fun u ⟨us,e,h⟩=>by
 refine⟨us,e,?_⟩
 cases h with
 | cons h1 h=>
 cases h with
 | cons h2 h=>
 cases h
 exact .cons (zfl h1) (.cons (zfl h2) .nil)
theorem zlJ {f:Nat->Nat->D} {a b:Int} (h0:D.eqv (f 0 0) (I a)) (h1:D.eqv (f 1 0) (I b)):D.eqv (.slc 1 2 f) (lI [a,b]):=⟨rfl,.inr ⟨rfl,fun i hi j hj=>by
 match i,hi,j,hj with
 | 0,_,0,_=>exact h0
 | 1,_,0,_=>exact h1⟩⟩
theorem zr8:Spec PP 12 [exD.v,N 1,N 2] [(samR exD 1 2).1.v,.d (.int .i64 0)]:=by
 have h:=ziZ exD 1 2 (by decide)
 rw[zgg.2] at h
 exact h
theorem zr7:Spec PP 12 [exD.v,N 1,N 3] [(samR exD 1 3).1.v,.d (.int .i64 0)]:=by
 have h:=ziZ exD 1 3 (by decide)
 rw[zgf.2] at h
 exact h
theorem zqa:Spec PP 12 [exD4.v,N 1,N 2] [(samR exD4 1 2).1.v,.d (.int .i64 0)]:=by
 have h:=ziZ exD4 1 2 (by decide)
 rw[zge.2] at h
 exact h
theorem tab3:Spec PP 27 [exD.v] [.agg [lFt (tabR exD).1,lMs (tabR exD).2.1],.d (.int .i64 0)]:=by
 have h:=zq1 exD (by decide)
 rw[zkm.2.2] at h
 exact h
theorem zp1 {w:World} {ok:Nat->Prop}:∀ u,Rep1 w ok (.agg [lFt (tabR exD).1,lMs (tabR exD).2.1]) u->Rep1 w (fun _=>False) (.agg [lenD 2,lenD 2]) u:=fun u h=>by
 have:=zrZ u h
 rw[zkm.1,zkm.2.1] at this
 exact this
theorem zsp {n:Nat} {g:Nat->Nat->D} (hn:n=4) (hg:∀ j,j<8->D.eqv (g 0 j) (xq4.at j)):D.eqv (.slc 8 n (appRow 3 (rowRp exR) g)) (lR exD4.R):=by
 subst hn
 refine⟨rfl,.inr ⟨rfl,fun i hi j hj=>?_⟩⟩
 match i,hi with
 | 0,_=>exact dE (xq1.at j)
 | 1,_=>exact dE (xq2.at j)
 | 2,_=>exact dE (xq3.at j)
 | 3,_=>exact hg j hj
theorem x4:∀ j,j<8->D.eqv (rowOf 8 xq4.ds 0 j) (xq4.at j):=fun j hj=>by
 match j,hj with
 | 0,_=>exact⟨rfl,rfl⟩
 | 1,_=>exact⟨rfl,rfl⟩
 | 2,_=>exact⟨rfl,rfl⟩
 | 3,_=>exact⟨rfl,rfl⟩
 | 4,_=>exact⟨rfl,rfl⟩
 | 5,_=>exact⟨rfl,rfl⟩
 | 6,_=>exact⟨rfl,rfl⟩
 | 7,_=>exact⟨rfl,rfl⟩
theorem zpR:Spec PP 6 [] [B true]:=by
 refine sA Tryz.func6 ?_
 refine CallSt.obA [(0,.d (.bool false))] [] rfl rfl zke ⟨rfl,trivial,wq rfl⟩ rfl rfl (fun j hj=>by
  have hj:j ∈ [25]:=hj
  obtain rfl:=kI.1 hj
  rfl) rfl ?_
 refine CallSt.ownT zto rfl ⟨zab _,zlJ ⟨rfl,rfl⟩ ⟨rfl,rfl⟩,trivial⟩ rfl (fun m j _ _=>zja _ m j) ?_
 refine pEq zst rfl ⟨zab _,zlJ ⟨rfl,rfl⟩ ⟨rfl,rfl⟩,trivial⟩ rfl ?_
 refine pEq few3 rfl ⟨zab _,trivial⟩ rfl ?_
 refine CallSt.lendW [] rfl zr8 rfl ⟨zab _,⟨rfl,rfl⟩,⟨rfl,rfl⟩,trivial⟩ (fun w ok v h=>zif (y:=.int .i64 0) rfl (zkf _ zgg.1) h) ?_
 refine CallSt.lendW [] rfl zr7 rfl ⟨zab _,⟨rfl,rfl⟩,⟨rfl,rfl⟩,trivial⟩ (fun w ok v h=>zif (y:=.int .i64 0) rfl (zkf _ zgf.1) h) ?_
 refine CallSt.lendW [] rfl tab3 rfl ⟨zab _,trivial⟩ (fun w ok v h=>zif (y:=.int .i64 0) rfl zp1 h) ?_
 repeat first | apply sT | apply sF
 refine⟨⟨.inr rfl,by unfold maxLen; omega,by show (3+1) * 64<=140737488355328; omega⟩,?_⟩
 refine CallSt.lendW [] rfl zqa rfl ⟨⟨dE _,dE _,dE _,dE _,dE _,dE _,dE _,dE _,dE _,?_,trivial⟩,⟨rfl,rfl⟩,⟨rfl,rfl⟩,trivial⟩ (fun w ok v h=>zif (y:=.int .i64 0) rfl (zkf _ zge.1) h) ?_
 ·exact zsp rfl x4
 refine pEq few4 rfl ⟨⟨dE _,dE _,dE _,dE _,dE _,dE _,dE _,dE _,dE _,?_,trivial⟩,trivial⟩ rfl ?_
 ·exact zsp rfl x4
 refine⟨⟨by decide,by decide⟩,?_⟩
 refine⟨by decide,?_⟩
 repeat first | apply sT | apply sF
 exact r1B rfl rfl
end Go.Pg
namespace Go.Pg
open Go.Proofs Go.RowKit Go.MapKept
abbrev ivs (l:List Int):List Value:=l.map (Value.int .i64)
theorem zlK:∀ {l:List Int},2<=l.length->kv l = .agg (ivs l).toArray
 | [],h=>by simp at h
 | [_],h=>by simp at h
 | _ :: _ :: _,_=>rfl
theorem zhp {w:World} {ok:Nat->Prop}:∀ l:List Int,All2 (Rep w ok) (l.map fun n=>D.int .i64 n) (ivs l)
 | []=>.nil
 | _ :: l=>.cons rfl (zhp l)
theorem zgU:∀ {xs ys:List Int},xs.length=ys.length->eqDs (xs.map fun n=>D.int .i64 n) (ys.map fun n=>D.int .i64 n)=some (decide (xs=ys))
 | [],[],_=>rfl
 | x :: xs,y :: ys,h=>by
  have e:eqDs ((x :: xs).map fun n=>D.int .i64 n) ((y :: ys).map fun n=>D.int .i64 n)=match some (x==y),eqDs (xs.map fun n=>D.int .i64 n) (ys.map fun n=>D.int .i64 n) with
   | some a,some b=>some (a && b)
   | _,_=>none:=rfl
  rw[e,zgU (by simpa using h)]
  show some ((x==y) && decide (xs=ys))=_
  congr 1
  rw[kR]
  simp
 | [],_ :: _,h=>by simp at h
 | _ :: _,[],h=>by simp at h
theorem zeR {P:Program} {t:TypeId} (h:intS P t=true):∃ fs:Array Field,P.underlying t=some (.struct fs)/\intF P 0 fs.toList=true/\P.stoodInHeld t=false:=by
 unfold intS at h
 split at h
 ·rename_i fs hu
  simp only[jP,jY] at h
  exact⟨fs,hu,h.1.1.1,h.1.2⟩
 simp at h
theorem zen {P:Program} {t:TypeId} (h:intS P t=true) {fs:Array Field} (hu:P.underlying t=some (.struct fs)) {xs ys:List Int} (hx:xs.length=fs.size) (hy:xs.length=ys.length) (w:World) :
  (Op.equal t (.agg (ivs xs).toArray) (.agg (ivs ys).toArray)).run P w = .ok (decide (xs=ys)) w:=by
 obtain⟨fs',hu',h1,h3⟩:=zeR h
 rw[hu] at hu'
 cases hu'
 have hfo:P.fieldsOf t=fs:=by simp[Program.fieldsOf,hu]
 have ht:P.underlying t=some (.struct (P.fieldsOf t)):=by rw[hfo]; exact hu
 show (Op.equalIn 10000 t _ _).run P w=_
 rw[run_equalIn_struct w 9999 t _ _ ht h3,hfo]
 exact zma fs.toList 0 _ _ _ _ (fun _=>True) _ h1 (by simp[hx]) (by simpa using zgU hy) (zhp xs) (zhp ys)
theorem zeD {P : Program} {w : World} {em : Bool} {n : Nat} {l : List Int} : ∀ (L : List Field) (i : Nat), intF P i L = true -> l.length = i + L.length ->
  (forIn L PUnit.unit fun (f : Field) (_ : PUnit) => (if f.name ≠ "_" then (do
   let x <- part f.type (ivs l).toArray f.offset
   Instr.checkKey em (n + 1) f.type x
   pure (ForInStep.yield PUnit.unit)) else pure (ForInStep.yield PUnit.unit) : Sem (ForInStep PUnit)) : Sem PUnit).run P w = .ok PUnit.unit w
 | [], i, _, _ => by simp
 | f :: L, i, h, hl => by
  simp only [intF, jP, jY] at h
  obtain ⟨⟨⟨hn, ho⟩, ht⟩, hr⟩ := h
  have ho := jA ho
  have hn' : f.name ≠ "_" := by simpa using hn
  have hi : i < l.length := by rw [hl]; simp
  have hv : (ivs l).toArray[i]? = some (.int .i64 l[i]) := by
   show (ivs l).toArray[i]? = _
   rw [List.getElem?_toArray, jU, kF hi]; rfl
  cases hund : P.underlying f.type with
  | none => rw [hund] at ht; simp at ht
  | some td =>
  cases td with
  | int k0 =>
   have hag : (isAgg f.type).run P w = .ok false w := by simp [isAgg, run_underlying hund]
   have hp1 : (part f.type (ivs l).toArray f.offset).run P w = .ok (.int .i64 l[i]) w := by simp only [part, ho, hv]; simp [hag]
   have hc : (Instr.checkKey em (n + 1) f.type (.int .i64 l[i])).run P w = .ok () w := by simp [Instr.checkKey, run_underlying hund]
   have ih := zeD (w := w) (em := em) (n := n) L (i + 1) hr (by rw [hl]; simp; omega)
   simp only [List.forIn_cons, Sem.run_bind, hn', ne_eq, not_false_eq_true, jbk, Result.andThen_ok, hp1, hc, Sem.run_pure]
   exact ih
  | _ => rw [hund] at ht; simp at ht
theorem zde {P:Program} {t:TypeId} (h:intS P t=true) {fs:Array Field} (hu:P.underlying t=some (.struct fs)) (h2:2<=fs.size) {key:List Int} (hk:key.length=fs.size) (w:World):∀ (es:List MapEntry) (ks:List (List Int)) (i:Nat),(es.map fun e=>e.key)=ks.map kv->(∀ k∈ks,k.length=fs.size) ->
  (Instr.findAsking t (kv key) es i).run P w = .ok ((es[ks.idxOf key]?).map fun e=>(i+ks.idxOf key,e.val)) w
 | [],[],i,_,_=>by simp[Instr.findAsking]
 | e :: es,m :: ks,i,he,hl=>by
  simp only[kV,jam] at he
  have hm:=hl m (wL ..)
  have hq:=zen h hu (xs:=key) (ys:=m) hk (by omega) w
  rw[<- zlK (by omega),<- zlK (by omega)] at hq
  by_cases e1:key=m
  ·subst e1
   have:List.idxOf key (key :: ks)=0:=by simp[List.idxOf_cons]
   rw[this]
   rw[jG rfl] at hq
   simp[Instr.findAsking,he.1,hq]
  ·have e2:List.idxOf key (m :: ks)=List.idxOf key ks+1:=by
    rw[List.idxOf_cons]
    have:(m==key)=false:=by simp; exact fun e=>e1 e.symm
    rw[this]; rfl
   rw[e2]
   rw[jH e1] at hq
   have ih:=zde h hu h2 hk w es ks (i+1) he.2 fun k hk=>hl k (qX _ hk)
   simp only[Instr.findAsking,he.1,Sem.run_bind,hq,Result.andThen_ok,qJ,jaz]
   rw[ih]
   simp only[qT]
   congr 2
   funext e'
   rw[show i+1+List.idxOf key ks=i+(List.idxOf key ks+1) by omega]
 | [],_ :: _,i,h,_=>by simp at h
 | _ :: _,[],i,h,_=>by simp at h
theorem zlL {P:Program} {t:TypeId} {fs:Array Field} (h:intS P t=true) (hu:P.underlying t=some (.struct fs)) (h2:2<=fs.size):KeyF P t fs.size:=fun key hk=>by
 obtain⟨fs',hu',h1,h3⟩:=zeR h
 rw[hu] at hu'
 cases hu'
 have ek:kv key = .agg (ivs key).toArray:=zlK (by omega)
 refine⟨fun b w=>?_,fun w=>?_,fun w es ks he hl=>?_⟩
 ·rw[ek,show (10000:Nat)=9999+1 from rfl,Instr.checkKey]
  simp only[Sem.run_bind,run_underlying hu,Result.andThen_ok]
  rw[<- Array.forIn_toList]
  refine jbF (jI (Result.andThen · fun a w'=>Sem.run P (pure ()) w') (zeD (l:=key) (em:=b) (n:=9998) (w:=w) fs.toList 0 h1 (by simp[hk]))) ?_
  simp
 ·have hs:Instr.sameBits 10000 (kv key) (kv key)=true:=by
   rw[ek]
   show ((ivs key).toArray.size==(ivs key).toArray.size && ((ivs key).toArray.toList.zip (ivs key).toArray.toList).all fun (x,y)=>Instr.sameBits 9999 x y)=true
   simp only[jaN,qI]
   rw[jC]
   intro p hp
   obtain⟨a,b⟩:=p
   have hz:∀ {l:List Int} {a b:Value},(a,b)∈(ivs l).zip (ivs l) -> ∃ n,a = .int .i64 n/\b = .int .i64 n:=fun {l}=>by
    induction l with
    | nil=>intro a b h; simp at h
    | cons x l ih=>
    intro a b h
    simp only[ivs,kV,List.zip_cons_cons,kT] at h
    rcases h with h | h
    ·cases h; exact⟨x,rfl,rfl⟩
    exact ih h
   obtain⟨n,rfl,rfl⟩:=hz (by simpa using hp)
   simp[Instr.sameBits]
  simp[Instr.keyThatStays,hs]
 rw[run_findKey_eq w (by rw[hu]) (kv key) es]
 have:=zde h hu h2 hk w es ks 0 he hl
 simp only[qF] at this
 exact this
theorem zdC {α:Type} (e:α->List Int) (hi:∀ x y,e x=e y->x=y) (l:List α) (k:α):(l.map e).idxOf (e k)<(l.map e).length ↔ k∈l:=by
 rw[jaV,kK]
 constructor
 ·rintro⟨x,hx,h⟩; rw[<- hi _ _ h]; exact hx
 intro h; exact⟨k,h,rfl⟩
end Go.Pg
namespace Go.Pg
open Go.Proofs Go.RowKit Go.Sort Go.Shelf
abbrev plK (p:Place):List Int:=[p.X,p.Y]
theorem zfw (p q:Place) (h:plK p=plK q):p=q:=by
 obtain⟨a,b⟩:=p
 obtain⟨c,d⟩:=q
 simp only[plK,jam,and_true] at h
 rw[h.1,h.2]
theorem kPl:KeyF PP 60 2:=by
 have h2:(PP.fieldsOf 60).size=2:=by kernel_rfl
 have:=zlL (P:=PP) (t:=60) (fs:=PP.fieldsOf 60) (by kernel_rfl) (by kernel_rfl) (by omega)
 rwa [h2] at this
theorem zsR (l:List Place) (p:Place):lkD (l.map plK) (fun _=>.bool true) (plK p) (.bool false) = .bool (decide (p∈l)):=by
 unfold lkD
 by_cases h:p∈l
 ·rw[kH ((zdC plK zfw l p).2 h),jG h]
 rw[kG fun e=>h ((zdC plK zfw l p).1 e),jH h]
def putPl (l:List Place) (p:Place):List Place:=if p∈l then l else l ++ [p]
theorem zpa (l:List Place) (p:Place):D.eqv (.mp 2 (putK (l.map plK) (plK p)) (putF (l.map plK) (fun _=>.bool true) (plK p) (.bool true))) (.mp 2 ((putPl l p).map plK) fun _=>.bool true):=by
 refine⟨rfl,?_,fun j _=>?_⟩
 ·unfold putK putPl
  by_cases h:p∈l
  ·rw[kH ((zdC plK zfw l p).2 h),kH h]
  rw[kG fun e=>h ((zdC plK zfw l p).1 e),kG h,jT]; rfl
 unfold putF; split <;> exact dE _
theorem zkj (a b:List Place) (ha:a.length<=1000000) (hb:b.length<=1000000):Spec PP 18 [.d (lP a),.d (lP b)] [B (a.all fun p=>decide (p∈b))]:=by
 refine sA Tryz.func18 ?_
 refine lOf (σ:=Nat × List Place) (fun x=>([(0,.d (lP a)),(1,.d (lP b)),(5,.own 8),(6,.d (I x.1))],[(8,.mp 2 (x.2.map plK) fun _=>.bool true)])) (fun x=>x.1<=b.length /\ ∀ p,p∈x.2 ↔ p∈b.take x.1) (fun x=>b.length - x.1) (0,[])
  ⟨rfl,⟨obMp rfl ⟨rfl,rfl,fun j hj=>absurd hj (qD _)⟩,trivial⟩,wq rfl⟩ ⟨jF _,by simp⟩ fun x hx=>?_
 obtain⟨i,L⟩:=x
 obtain⟨hi,hL⟩:=hx
 have hi:i<=b.length:=hi
 have hL:∀ p,p∈L ↔ p∈b.take i:=hL
 apply bY <;> intro h1
 ·have h1:i<b.length:=by have:=dT h1; omega
  refine⟨⟨rfl,by omega,by omega⟩,?_⟩
  refine⟨⟨kPl,rfl⟩,?_⟩
  refine⟨i6,?_⟩
  refine⟨(i+1,putPl L (b.getD i default)),⟨rfl,⟨obMp rfl (zpa L (b.getD i default)),trivial⟩,wq rfl⟩,⟨h1,fun p=>?_⟩,msr h1⟩
  show p∈putPl L (b.getD i default) ↔ p∈b.take (i+1)
  rw[zav h1 default,kN,kI,<- hL]
  unfold putPl
  split
  ·rename_i hm
   exact⟨.inl,fun h=>h.elim id fun e=>e ▸ hm⟩
  rw[kN,kI]
 have h1:i=b.length:=by have:=dF h1; omega
 subst h1
 have hL:∀ p,p∈L ↔ p∈b:=fun p=>by rw[hL,jZ]
 refine lOf (σ:=Nat) (fun i=>([(0,.d (lP a)),(5,.own 8),(7,.d (I i))],[(8,.mp 2 (L.map plK) fun _=>.bool true)])) (fun i=>i<=a.length /\ ∀ j,j<i->a.getD j default∈b) (fun i=>a.length - i) 0
  ⟨rfl,⟨obMp rfl (dE _),trivial⟩,wq rfl⟩ z0L fun i hx=>?_
 obtain⟨hi,hj⟩:=hx
 have hi:i<=a.length:=hi
 apply bY <;> intro h1
 ·have h1:i<a.length:=by have:=dT h1; omega
  refine⟨⟨rfl,by omega,by omega⟩,?_⟩
  refine⟨⟨kPl,rfl⟩,.bool (decide (a.getD i default∈L)),D.eqv_of_eq (zsR L (a.getD i default)),?_⟩
  apply bY <;> intro h2
  ·have h2:a.getD i default∉L:=by simpa using h2
   refine r1B rfl ?_
   refine (qK.2 fun hh=>?_).symm
   have:=jC.1 hh (a.getD i default) (by rw[hZ,kF h1]; exact kS h1)
   exact h2 ((hL _).2 (kQ this))
  have h2:a.getD i default∈L:=by simpa using h2
  refine⟨i6,?_⟩
  refine⟨i+1,⟨rfl,⟨obMp rfl (dE _),trivial⟩,wq rfl⟩,⟨h1,fun j hj'=>?_⟩,msr h1⟩
  by_cases e:j=i
  ·subst e; exact (hL _).1 h2
  exact hj j (by omega)
 have h1:i=a.length:=by have:=dF h1; omega
 subst h1
 refine r1B rfl ?_
 symm
 refine jC.2 fun p hp=>jG ?_
 obtain⟨j,h2,rfl⟩:=kO hp
 have:=hj j h2
 rwa [hZ,kF h2] at this
theorem zds (ids:List Int) (m:Nat):(memb ids m).Sublist ids:=by
 have e:(List.range ids.length).map (ids.getD · 0)=ids:=by
  apply List.ext_getElem (by simp)
  intro i h1 h2
  rw[List.getElem_map,List.getElem_range,hZ,kF h2]; rfl
 have:(memb ids m).Sublist ((List.range ids.length).map (ids.getD · 0)):=List.Sublist.map _ (jbs ..)
 rwa [e] at this
theorem DayOk.lt {d:Day} (h:DayOk d):(sigL d.R).Pairwise (· < ·):=by
 refine List.Pairwise.imp₂ (fun a b h1 h2=>?_) (zin d.R) h.nod
 have h1:=kQ h1
 have h2:a≠b:=h2
 omega
theorem zoJ {d:Day} (h:dayE d=0) {m:Nat} (hne:memb (sigL d.R) m ≠ []):askE d (memb (sigL d.R) m)=0:=by
 have ok:=za5 h
 have hsub:=zds (sigL d.R) m
 have hp:=ok.lt.sublist hsub
 have hr:setB (memb (sigL d.R) m)=true:=by
  unfold setB risB
  rw[jP]
  refine⟨jC.2 fun j hj=>jG ?_,jG (jaZ.2 hne)⟩
  have hj:=kJ.1 hj
  have h1:j<(memb (sigL d.R) m).length:=by omega
  have h2:j+1<(memb (sigL d.R) m).length:=by omega
  rw[hZ,hZ,kF h1,kF h2]
  exact kM.1 hp j (j+1) h1 h2 (by omega)
 have hq:partB (memb (sigL d.R) m) (sigL d.R)=true:=jC.2 fun x hx=>kD.2 (hsub.subset hx)
 unfold askE
 rw[kG (fun hh=>hh h),kG (by rw[hr]; decide),kG (by rw[hq]; decide)]
theorem znP (ids:List Int) (a b:Nat) {x:Int} (h:(memb ids (a &&& b)).contains x=true):(memb ids a).contains x=true:=by
 have h:=kD.1 h
 unfold memb membA at h
 obtain⟨i,hi,e⟩:=kK.1 h
 rw[kX,jbq,jP] at hi
 exact kD.2 (kK.2 ⟨i,kX.2 ⟨hi.1,hi.2.1⟩,e⟩)
theorem zp3 {k m:Nat}:k &&& m=k ↔ ∀ i,k.testBit i=true->m.testBit i=true:=by
 constructor
 ·intro h i hi
  rw[<- h,jbq,jP] at hi
  exact hi.2
 intro h
 apply ja8
 intro i
 rw[jbq]
 cases e:k.testBit i with
 | false=>rfl
 | true=>rw[h i e]; rfl
theorem zjs {n m i:Nat} (hm:m<2 ^ n) (h:m.testBit i=true):i<n:=by
 rcases jaB i n with h1 | h1
 ·exact h1
 rw[ja2 (jN hm (ja7 (by decide) h1))] at h; cases h
theorem zry {n m i j:Nat} (hn:n<=7) (hm:m<2 ^ n) (hi:i<n):(offS m i).testBit j=(m.testBit j && decide (j≠i)):=by
 unfold offS
 rw[jbq]
 cases e:m.testBit j with
 | false=>rfl
 | true=>
 have hj:=zjs hm e
 have:=al7L (n:=7) (m:=7) (P:=fun i j=>(127 - 2 ^ i).testBit j==decide (j≠i)) (by decide +kernel) (show i<7 by omega) (show j<7 by omega)
 rw[eq_of_beq this]
theorem zjr (m i j:Nat):(onS m i).testBit j=(m.testBit j || decide (i=j)):=by
 unfold onS
 rw[Nat.testBit_or,Nat.testBit_two_pow]
theorem zsJ (m i:Nat):offS m i<=m:=Nat.and_le_left
theorem zqB {m:Nat} (h:0<m):∃ i,m.testBit i=true:=by
 refine jL fun hc=>?_
 have:m=0:=by
  apply ja8
  intro i
  rw[Nat.zero_testBit]
  cases e:m.testBit i with
  | false=>rfl
  | true=>exact absurd ⟨i,e⟩ hc
 omega
theorem zlt {ids:List Int} {m:Nat} (h0:0<m) (hm:m<2 ^ ids.length):memb ids m ≠ []:=by
 obtain⟨i,hi⟩:=zqB h0
 have hl:=zjs hm hi
 intro e
 have:ids.getD i 0∈memb ids m:=kK.2 ⟨i,kX.2 ⟨kJ.2 hl,hi⟩,rfl⟩
 rw[e] at this
 cases this
theorem zjv {d:Day} (h:dayE d=0) {m:Nat} (h0:0<m) (hm:m<2 ^ (sigL d.R).length):(d.R.any fun r=>(memb (sigL d.R) m).contains r.ID)=true:=zrB (zoJ h (zlt h0 hm))
theorem zfU {d:Day} (h:dayE d=0) {m:Nat} (h0:0<m) (hm:m<2 ^ (sigL d.R).length):fitX d m=decide (0<(celD d m).length):=by
 unfold fitX
 rw[jG h0,qI,zpV (za5 h) (zjv h h0 hm)]
theorem zoi {d:Day} (h:dayE d=0) {k m:Nat} (h0:0<k) (hs:k &&& m=k) (hm:m<2 ^ (sigL d.R).length) (hp:fitX d m=true):fitX d k=true:=by
 have hk:k<=m:=by rw[<- hs]; exact Nat.and_le_right
 rw[zfU h (by omega) hm] at hp
 rw[zfU h h0 (by omega)]
 obtain⟨q,hq⟩:=List.exists_mem_of_length_pos (kQ hp)
 refine jG (List.length_pos_of_mem (a:=q) ?_)
 refine zk3 (za5 h) (A:=memb (sigL d.R) m) (B:=memb (sigL d.R) k) (fun x hx=>?_) (zjv h h0 (by omega)) hq
 rw[<- hs,Nat.and_comm] at hx
 exact znP _ m k hx
theorem zjb {d:Day} (h:dayE d=0):∀ M,M<=2 ^ (sigL d.R).length -> ∀ m,0<m->m<M->fitK d (keysD d M) m=fitX d m
 | 0,_,m,_,hm=>by omega
 | M+1,hM,m,h0,hm=>by
  have ih:=zjb h M (by omega)
  have h7:=sig7 (za5 h)
  by_cases e:m=M
  ·subst e
   have hpart:fitX d m=true->partK d (keysD d m) m=true:=fun hp=>by
    unfold partK
    rw[jC]
    intro i hi
    have hi:=kJ.1 hi
    unfold parK
    by_cases e1:offS m i=m
    ·simp[e1]
    by_cases e2:offS m i=0
    ·simp[e2]
    have hlt:offS m i<m:=by have:=zsJ m i; omega
    have:=ih (offS m i) (by omega) hlt
    rw[this,zoi h (by omega) (k:=offS m i) (m:=m) (by
     rw[zp3]; intro j hj
     rw[zry h7 (show m<_ by omega) hi,jP] at hj; exact hj.1) (by omega) hp]
    simp
   have hnot:(keysD d m).contains m=false:=by
    rw[qK]; intro hc
    have:=zdA d m m (kD.1 hc); omega
   rw[zfU h h0 (by omega)] at *
   unfold keysD
   split
   ·rename_i hk
    unfold fitK
    rw[show (keysD d m ++ [m]).contains m=true from kD.2 (by simp),qI]
   rename_i hk
   unfold fitK
   rw[hnot,qQ]
   cases e3:decide (0<(celD d m).length) with
   | false=>rfl
   | true=>exact absurd ⟨by omega,hpart e3⟩ hk
  have hm':m<M:=by omega
  rw[<- ih m h0 hm']
  unfold fitK
  congr 1
  conv=>lhs; unfold keysD
  split
  ·rw[kR,kD,kD,kN,kI]
   exact⟨fun hh=>hh.elim id fun e'=>absurd e' e,.inl⟩
  rfl
theorem zrb {d:Day} (h:dayE d=0) {m:Nat} (h0:0<m) (hm:m<2 ^ (sigL d.R).length):fitK d (ksD d) m=fitX d m:=zjb h _ (jE _) m h0 hm
theorem zdX {ids:List Int} {m j:Nat} (hm:m<2 ^ j):∀ n,j<=n->membA ids m n=membA ids m j
 | 0,h=>by obtain rfl:j=0:=Nat.le_zero.1 h; rfl
 | n+1,h=>by
  by_cases e:j=n+1
  ·rw[e]
  have:m.testBit n=false:=by
   cases q:m.testBit n with
   | false=>rfl
   | true=>have:=zjs hm q; omega
  rw[zdt this]
  exact zdX hm n (by omega)
theorem zpi {x i:Nat} (h:x<2 ^ i):x+2 ^ i=onS x i:=by
 have:=Nat.two_pow_add_eq_or_of_lt h 1
 unfold onS
 rw[Nat.mul_one] at this
 rw[Nat.add_comm,this,Nat.or_comm]
theorem zeP {ids:List Int} {a b:Nat}:∀ {n:Nat},(∀ j,j<n->a.testBit j=b.testBit j)->membA ids a n=membA ids b n
 | 0,_=>rfl
 | n+1,h=>by
  have ih:=zeP (ids:=ids) (n:=n) fun j hj=>h j (by omega)
  have hn:=h n (by omega)
  cases e:a.testBit n with
  | true=>rw[zcw e,zcw (by rw[<- hn]; exact e),ih]
  | false=>rw[zdt e,zdt (by rw[<- hn]; exact e),ih]
theorem ziR {ids:List Int} {x i:Nat} (hx:x<2 ^ i) (hi:i<ids.length):memb ids (x+2 ^ i)=memb ids x ++ [ids.getD i 0]:=by
 have h1:x+2 ^ i<2 ^ (i+1):=by rw[Nat.pow_succ]; omega
 unfold memb
 rw[zdX h1 ids.length hi,zdX hx ids.length (by omega),zpi hx,zcw (by rw[zjr]; simp)]
 congr 1
 refine zeP fun j hj=>?_
 rw[zjr,jH (by omega),jag]
theorem zls (ids:List Int):memb ids 0=[]:=by
 unfold memb membA
 rw[List.filter_eq_nil_iff.2 (fun i _=>by simp)]
 rfl
theorem zfQ {l:List Nat} {f:Nat->List Int} {q:Nat} (h:q<l.length):(l.map f).getD q []=f (l.getD q 0):=by
 rw[hZ,jU,hZ,kF h]; rfl
theorem snocInd {α:Type} {motive:List α->Prop} (h0:motive []) (h1:∀ l x,motive l->motive (l ++ [x])) (l:List α):motive l:=by
 rw[<- List.reverse_reverse l]
 induction l.reverse with
 | nil=>exact h0
 | cons x r ih=>rw[List.reverse_cons]; exact h1 _ _ ih
theorem zmA {ids:List Int} {ix:List Nat} (hr:Rg ix) (hl:ix.length=ids.length):∀ k i,i+k=ids.length->bld (ids.drop i) ((bitK ix i).map (memb ids)) (ix.drop i)=setX ids ix
 | 0,i,h=>by
  have e:i=ids.length:=by omega
  subst e
  rw[jba,<- hl,jba]
  rfl
 | k+1,i,h=>by
  have hi:i<ids.length:=by omega
  have hi2:i<ix.length:=by omega
  have d1:ids.drop i=ids.getD i 0 :: ids.drop (i+1):=by rw[qE hi,hZ,kF hi]; rfl
  have d2:ix.drop i=ix.getD i 0 :: ix.drop (i+1):=by rw[qE hi2,hZ,kF hi2]; rfl
  have hk:=hr i hi2
  have hlen:=zcI hr i (by omega)
  rw[d1,d2,<- zmA hr hl k (i+1) (by omega),zcH]
  show bld (ids.drop (i+1)) (if _ then _ else _) (ix.drop (i+1))=_
  congr 1
  rw[kW]
  unfold bit1
  by_cases h1:ix.getD i 0<(bitK ix i).length
  ·rw[kH h1,kH h1,List.map_set]
   have hx:(bitK ix i).getD (ix.getD i 0) 0<2 ^ i:=(zbH ix i _ (by rw[hZ,kF h1]; exact kS h1)).2
   rw[ziR hx hi]
   congr 2
   exact zfQ h1
  rw[kG h1,kG h1,jT]
  have:=ziR (ids:=ids) (x:=0) (Nat.two_pow_pos i) hi
  rw[qF,zls] at this
  show _=_ ++ [memb ids (2 ^ i)]
  rw[this]; rfl
theorem zg4 {ids:List Int} (hd:ids.Nodup) (h7:ids.length<=7) {m:Nat}:∀ i,i<=ids.length -> ∀ j,(bitA ids (memb ids m) i).testBit j=(decide (j<i) && m.testBit j)
 | 0,_,j=>by show (0:Nat).testBit j=_; simp
 | i+1,hi,j=>by
  have ih:=zg4 hd h7 (m:=m) i (by omega)
  have hb:=zcv hd (m:=m) (show i<ids.length by omega)
  rw[zcJ]
  by_cases e:m.testBit i=true
  ·rw[kH (kD.2 (hb.2 e)),zjr,ih]
   by_cases e2:i=j
   ·subst e2; simp[e]
   rw[jH e2,jag]
   congr 1
   exact qO.2 (by omega)
  rw[kG (fun hh=>e (hb.1 (kD.1 hh))),ih]
  by_cases e2:i=j
  ·subst e2
   rw[Bool.not_eq_true] at e
   rw[e,kU,kU]
  congr 1
  exact qO.2 (by omega)
theorem zmC {ids:List Int} (hd:ids.Nodup) (h7:ids.length<=7) {m:Nat} (hm:m<2 ^ ids.length):bitS ids (memb ids m)=m:=by
 unfold bitS
 apply ja8
 intro j
 rw[zg4 hd h7 _ (jE _)]
 cases e:m.testBit j with
 | false=>rw[kU]
 | true=>rw[jG (zjs hm e)]; rfl
def fwP1 (o:Int) (p:List (List Int)):Int:=if o<0 \/ (p.length:Int)<o then (p.length:Int) else o
def fwP (l:List (List (List Int))):Int:=l.foldl fwP1 (-1)
theorem zi6 (l:List (List (List Int))) (p:List (List Int)):fwP (l ++ [p])=fwP1 (fwP l) p:=by unfold fwP; rw[wA]; rfl
theorem zl6:∀ {l:List (List (List Int))},(fwP l<0->l=[])/\(∀ p∈l,fwP l<=(p.length:Int))/\(l ≠ [] -> ∃ p∈l,(p.length:Int)=fwP l):=by
 intro l
 induction l using snocInd with
 | h0=>exact⟨fun _=>rfl,⟨fun p hp=>(by cases hp),fun h=>absurd rfl h⟩⟩
 | h1 l p ih=>
 obtain⟨a,b,c⟩:=ih
 rw[zi6]
 unfold fwP1
 by_cases h:fwP l<0 \/ (p.length:Int)<fwP l
 ·rw[kH h]
  refine⟨fun h'=>by omega,fun q hq=>?_,fun _=>⟨p,by simp,rfl⟩⟩
  rcases kN.1 hq with hq | hq
  ·have:=b q hq
   rcases h with h | h
   ·rw[a h] at hq; cases hq
   omega
  rw[kI.1 hq]; exact ja0 _
 rw[kG h]
 refine⟨fun h'=>absurd (.inl h') h,fun q hq=>?_,fun _=>?_⟩
 ·rcases kN.1 hq with hq | hq
  ·exact b q hq
  rw[kI.1 hq]; omega
 by_cases hl:l=[]
 ·subst hl
  exact absurd (.inl (by show (-1:Int)<0; decide)) h
 obtain⟨q,hq,e⟩:=c hl
 exact⟨q,qY _ hq,e⟩
theorem zgN {l:List (List (List Int))} (h:fltP (fwP l) l ≠ []):((((fltP (fwP l) l).getD 0 []).length:Nat):Int)=fwP l:=by
 have h0:0<(fltP (fwP l) l).length:=jaZ.2 h
 have:(fltP (fwP l) l).getD 0 []∈fltP (fwP l) l:=by rw[hZ,kF h0]; exact kS h0
 have:=(kX.1 this).2
 simpa using this
theorem zi9 {l:List (List (List Int))} (h:fltP (fwP l) l=[]):l=[]:=by
 refine jL fun hl=>?_
 obtain⟨p,hp,e⟩:=(zl6 (l:=l)).2.2 hl
 have:p∈fltP (fwP l) l:=kX.2 ⟨hp,by simpa using e⟩
 rw[h] at this; cases this
theorem zoB (p:List (List Int)):bst1 [] p=[p]:=rfl
theorem zrv {o:List (List (List Int))} {p:List (List Int)} (h0:0<o.length) (h:p.length<(o.getD 0 []).length):bst1 o p=[p]:=by
 have e:bst0 o p=[]:=by unfold bst0; rw[jG h0,jG h]; rfl
 unfold bst1; rw[e]; rfl
theorem zmv {o:List (List (List Int))} {p:List (List Int)} (h:¬ p.length<(o.getD 0 []).length):bst0 o p=o:=by unfold bst0; rw[jH h,kU]; rfl
theorem zmu {o:List (List (List Int))} {p:List (List Int)} (h:p.length=(o.getD 0 []).length):bst1 o p=o ++ [p]:=by
 unfold bst1; rw[zmv (by omega),jG h,kY]; rfl
theorem zrw {o:List (List (List Int))} {p:List (List Int)} (h0:0<o.length) (h:(o.getD 0 []).length<p.length):bst1 o p=o:=by
 unfold bst1; rw[zmv (by omega),jH (by omega:¬ o.length=0),jH (by omega:¬ p.length=(o.getD 0 []).length)]; rfl
theorem ztq:∀ {l:List (List (List Int))},bstL l=fltP (fwP l) l:=by
 intro l
 induction l using snocInd with
 | h0=>rfl
 | h1 l p ih=>
 rw[zbU,ih,zi6,zl7]
 obtain⟨a,b,_⟩:=zl6 (l:=l)
 by_cases hn:fltP (fwP l) l=[]
 ·have hl:=zi9 hn
  subst hl
  have e:fwP1 (fwP []) p=(p.length:Int):=kH (Or.inl (show (-1:Int)<0 by decide))
  rw[hn,zoB,e,kH (jaN _)]
  rfl
 have hh:=zgN hn
 have h0:0<(fltP (fwP l) l).length:=jaZ.2 hn
 have hf:¬ fwP l<0:=by omega
 by_cases h1:(p.length:Int)<fwP l
 ·have e:fwP1 (fwP l) p=(p.length:Int):=kH (Or.inr h1)
  rw[zrv h0 (by omega),e,kH (jaN _)]
  have:fltP (p.length:Int) l=[]:=List.filter_eq_nil_iff.2 fun q hq=>by
   have:=b q hq
   simp; omega
  rw[this]; rfl
 have e:fwP1 (fwP l) p=fwP l:=kG (fun hh=>hh.elim hf h1)
 rw[e]
 by_cases h2:(p.length:Int)=fwP l
 ·rw[zmu (by omega),kH (by simpa using h2)]
 rw[zrw h0 (by omega),kG (by simpa using h2)]
theorem zcu {ix:List Nat} {i:Nat}:∀ {k:Nat},i<k->k<=ix.length->ix.getD i 0<mst (ix.take k)
 | 0,h,_=>by omega
 | k+1,h,hk=>by
  rw[zfD (by omega)]
  by_cases e:i=k
  ·subst e; omega
  have:=zcu (ix:=ix) (i:=i) (k:=k) (by omega) (by omega); omega
theorem zmB {ix:List Nat} (hr:Rg ix):∀ k,k<=ix.length -> ∀ q,q<(bitK ix k).length -> ∀ i,((bitK ix k).getD q 0).testBit i=(decide (i<k) && (ix.getD i 0==q))
 | 0,_,q,hq,i=>by cases hq
 | k+1,hk,q,hq,i=>by
  have ih:=zmB hr k (by omega)
  have hlen:=zcI hr k (by omega)
  have hc:=hr k (by omega)
  rw[zcH] at hq ⊢
  unfold bit1 at hq ⊢
  have sp:(decide (i<k+1) && (ix.getD i 0==q))=((decide (i<k) && (ix.getD i 0==q)) || (decide (i=k) && (ix.getD k 0==q))):=by
   by_cases e:i=k
   ·subst e; simp
   rw[jH e,show decide (i<k+1)=decide (i<k) from qO.2 (by omega)]; simp
  rw[sp]
  by_cases h1:ix.getD k 0<(bitK ix k).length
  ·rw[kH h1] at hq ⊢
   rw[ja4] at hq
   rw[zoc h1]
   by_cases e:q=ix.getD k 0
   ·rw[kH e]
    have hx:(bitK ix k).getD (ix.getD k 0) 0<2 ^ k:=(zbH ix k _ (by rw[hZ,kF h1]; exact kS h1)).2
    rw[zpi hx,zjr,ih _ h1 i,<- e,jaN,jaa]
    congr 1
    exact qO.2 ⟨fun h=>h.symm,fun h=>h.symm⟩
   rw[kG e,ih q hq i,show (ix.getD k 0==q)=false from jaq.2 (fun h=>e h.symm),kU,jag]
  rw[kG h1] at hq ⊢
  rw[jR,wC] at hq
  by_cases e:q<(bitK ix k).length
  ·rw[hZ,jJ e,<- hZ,ih q e i,show (ix.getD k 0==q)=false from jaq.2 (fun h=>by omega),kU,jag]
  have eq:q=(bitK ix k).length:=by omega
  rw[hZ,jK (by omega),eq,kE]
  show (2 ^ k).testBit i=_
  rw[Nat.testBit_two_pow,show (ix.getD k 0==(bitK ix k).length)=true from jaI.2 (by omega),jaa]
  have:(decide (i<k) && (ix.getD i 0==(bitK ix k).length))=false:=by
   by_cases h:i<k
   ·have:=zcu (ix:=ix) h (by omega)
    rw[show (ix.getD i 0==(bitK ix k).length)=false from jaq.2 (by omega),kU]
   rw[jH h,qQ]
  rw[this,jao]
  exact qO.2 ⟨fun h=>h.symm,fun h=>h.symm⟩
def whr (p:List (List Int)) (x:Int):Nat->Int
 | 0=>-1
 | n+1=>if x∈p.getD n [] then (n:Int) else whr p x n
theorem zbu {p:List (List Int)} {x:Int}:∀ {n:Nat},whr p x n<0 ↔ ∀ m,m<n->x∉p.getD m []
 | 0=>⟨fun _ m h=>by omega,fun _=>by show (-1:Int)<0; decide⟩
 | n+1=>by
  have ih:=zbu (p:=p) (x:=x) (n:=n)
  unfold whr
  by_cases h:x∈p.getD n []
  ·rw[kH h]
   exact⟨fun hh=>by omega,fun hh=>absurd h (hh n (Nat.lt_succ_self _))⟩
  rw[kG h,ih]
  refine⟨fun hh m hm=>?_,fun hh m hm=>hh m (by omega)⟩
  by_cases e:m=n
  ·rw[e]; exact h
  exact hh m (by omega)
theorem ze6 {p:List (List Int)} {x:Int}:∀ {n m:Nat},whr p x n=(m:Int)->m<n/\x∈p.getD m []
 | 0,m,h=>by
  have h:(-1:Int)=(m:Int):=h
  omega
 | n+1,m,h=>by
  unfold whr at h
  split at h
  ·rename_i h1
   have:n=m:=by omega
   subst this
   exact⟨Nat.lt_succ_self _,h1⟩
  have:=ze6 h
  exact⟨by omega,this.2⟩
def fstB (p:List (List Int)) (i:Nat):Bool:=decide (i=0) || decide ((p.getD (i - 1) []).getD 0 0<(p.getD i []).getD 0 0)
def plc1 (ids:List Int) (p:List (List Int)) (i:Nat):Bool:=setB (p.getD i []) && partB (p.getD i []) ids && fstB p i && (p.getD i []).all fun x=>decide (whr p x i<0)
def plcB (ids:List Int) (p:List (List Int)):Bool:=(List.range p.length).all (plc1 ids p)
def fndB (ids:List Int) (p:List (List Int)):Bool:=ids.all fun x=>decide (0<=whr p x p.length)
def divB (ids:List Int) (p:List (List Int)):Bool:=((List.range p.length).all fun i=>setB (p.getD i []) && fstB p i) && decide ((p.flatten.mergeSort fun x y=>decide (x<=y))=ids)
theorem zdM {s:List Int} (h:setB s=true):s.Pairwise (· < ·)/\0<s.length:=by
 unfold setB at h
 rw[jP] at h
 refine⟨?_,kQ h.2⟩
 have hr:=h.1
 unfold risB at hr
 rw[jC] at hr
 have step:∀ j,j+1<s.length->s.getD j 0<s.getD (j+1) 0:=fun j hj=>kQ (hr j (kJ.2 (by omega)))
 have far:∀ k j,j+k+1<s.length->s.getD j 0<s.getD (j+k+1) 0:=by
  intro k
  induction k with
  | zero=>intro j hj; exact step j hj
  | succ k ih=>
  intro j hj
  have h1:=ih j (by omega)
  have h2:=step (j+k+1) (by omega)
  show s.getD j 0<s.getD (j+k+1+1) 0
  omega
 refine kM.2 fun i j hi hj hij=>?_
 have:=far (j - i - 1) i (by omega)
 rw[show i+(j - i - 1)+1=j by omega] at this
 rw[hZ,hZ,kF hi,kF hj] at this
 exact this
theorem za6 {s:List Int} (h:s.Pairwise (· < ·)):s.Nodup:=h.imp fun {a b} hab=>by
 show a≠b
 omega
theorem ziT {s:List Int} (h:s.Pairwise (· < ·)):Srt s:=h.imp fun {a b} hab=>jG (jaC hab)
theorem ziP {a b:List Int} (ha:a.Nodup) (hb:b.Nodup) (h:∀ x,x∈a ↔ x∈b):a.Perm b:=by
 rw[List.perm_iff_count]
 intro x
 rw[List.Nodup.count ha,List.Nodup.count hb]
 by_cases e:x∈a
 ·rw[kH e,kH ((h x).1 e)]
 rw[kG e,kG fun hh=>e ((h x).2 hh)]
theorem zqN {a b:List Int} (ha:a.Pairwise (· < ·)) (hb:b.Pairwise (· < ·)) (h:∀ x,x∈a ↔ x∈b):a=b:=
 zcl (ziT ha) (ziT hb) (ziP (za6 ha) (za6 hb) h)
theorem zbz {p:List (List Int)} {x:Int}:x∈p.flatten ↔ ∃ m,m<p.length/\x∈p.getD m []:=by
 rw[List.mem_flatten]
 constructor
 ·rintro⟨s,hs,hx⟩
  obtain⟨m,hm,rfl⟩:=kO hs
  exact⟨m,hm,by rw[hZ,kF hm]; exact hx⟩
 rintro⟨m,hm,hx⟩
 rw[hZ,kF hm] at hx
 exact⟨_,kS hm,hx⟩
theorem zmd {ids:List Int} (hr:ids.Pairwise (· < ·)) (p:List (List Int)):divB ids p=(plcB ids p && fndB ids p):=by
 rw[kR]
 unfold divB plcB fndB
 rw[jP,jP,jC,jC,jC,k9]
 have gm:∀ i,i<p.length -> ∃ hi:i<p.length,p.getD i []=p[i]:=fun i hi=>⟨hi,by rw[hZ,kF hi]; rfl⟩
 constructor
 ·rintro⟨h1,h2⟩
  have hp:p.flatten.Perm ids:=by rw[<- h2]; exact (wD _ _).symm
  have hn:p.flatten.Nodup:=hp.nodup_iff.2 (za6 hr)
  have hd:=(List.pairwise_flatten.1 hn).2
  refine⟨fun i hi=>?_,fun x hx=>jG ?_⟩
  ·have h3:=h1 i hi
   rw[kJ] at hi
   rw[jP] at h3
   unfold plc1
   rw[jP,jP,jP]
   refine⟨⟨⟨h3.1,jC.2 fun x hx=>kD.2 (hp.mem_iff.1 (zbz.2 ⟨i,hi,hx⟩))⟩,h3.2⟩,jC.2 fun x hx=>jG (zbu.2 fun m hm hxm=>?_)⟩
   obtain⟨_,e1⟩:=gm i hi
   obtain⟨hm',e2⟩:=gm m (by omega)
   rw[e1] at hx
   rw[e2] at hxm
   exact kM.1 hd m i hm' hi hm x hxm x hx rfl
  obtain⟨m,hm,hxm⟩:=zbz.1 (hp.mem_iff.2 hx)
  refine Int.not_lt.1 fun h=>zbu.1 h m hm hxm
 rintro⟨h1,h2⟩
 have h3:∀ i,i<p.length->setB (p.getD i [])=true/\partB (p.getD i []) ids=true/\fstB p i=true /\ ∀ x∈p.getD i [],whr p x i<0:=fun i hi=>by
  have:=h1 i (kJ.2 hi)
  unfold plc1 at this
  rw[jP,jP,jP,jC] at this
  exact⟨this.1.1.1,this.1.1.2,this.1.2,fun x hx=>kQ (this.2 x hx)⟩
 refine⟨fun i hi=>?_,?_⟩
 ·have:=h3 i (kJ.1 hi)
  rw[jP]; exact⟨this.1,this.2.2.1⟩
 have hn:p.flatten.Nodup:=by
  refine List.pairwise_flatten.2 ⟨fun s hs=>?_,kM.2 fun i j hi hj hij x hx y hy e=>?_⟩
  ·obtain⟨m,hm,rfl⟩:=kO hs
   obtain⟨_,e⟩:=gm m hm
   rw[<- e]
   exact za6 (zdM (h3 m hm).1).1
  subst e
  obtain⟨_,e1⟩:=gm i hi
  obtain⟨_,e2⟩:=gm j hj
  rw[<- e1] at hx
  rw[<- e2] at hy
  exact zbu.1 ((h3 j hj).2.2.2 x hy) i hij hx
 have hp:p.flatten.Perm ids:=ziP hn (za6 hr) fun x=>by
  rw[zbz]
  constructor
  ·rintro⟨m,hm,hx⟩
   have:=(h3 m hm).2.1
   exact kD.1 (jC.1 this x hx)
  intro hx
  have:=kQ (h2 x hx)
  obtain⟨m,hm⟩:=Int.eq_ofNat_of_zero_le this
  exact⟨m,ze6 hm⟩
 refine zcl ?_ (ziT hr) ((wD _ _).trans hp)
 exact List.pairwise_mergeSort (le:=fun x y=>decide (x<=y)) (fun a b c h1 h2=>by
  have h1:=kQ h1
  have h2:=kQ h2
  exact jG (by omega)) (fun a b=>by
  rw[jX,k9,k9]
  omega) _
def ixP (ids:List Int) (p:List (List Int)):List Nat:=ids.map fun x=>(whr p x p.length).toNat
theorem zd0 (ids:List Int) (p:List (List Int)):(ixP ids p).length=ids.length:=kW _
theorem zq3 {ids:List Int} {p:List (List Int)} {k:Nat} (h:k<ids.length):(ixP ids p).getD k 0=(whr p (ids.getD k 0) p.length).toNat:=by
 unfold ixP
 rw[hZ,jU,kF h,hZ,kF h]; rfl
theorem zsL {n:Nat}:∀ {ix:List Nat},(∀ x∈ix,x<n)->mst ix<=n:=by
 intro ix
 induction ix using snocInd with
 | h0=>intro _; exact jF _
 | h1 l x ih=>
 intro h
 have h1:=ih fun y hy=>h y (qY _ hy)
 have h2:=h x (by simp)
 rw[zdq]; omega
section
variable {ids:List Int} {p:List (List Int)} (hr:ids.Pairwise (· < ·)) (h1:plcB ids p=true) (h2:fndB ids p=true)
include h1
theorem zb9 {i:Nat} (hi:i<p.length):setB (p.getD i [])=true/\partB (p.getD i []) ids=true/\fstB p i=true /\ ∀ x∈p.getD i [],whr p x i<0:=by
 unfold plcB at h1
 have:=jC.1 h1 i (kJ.2 hi)
 unfold plc1 at this
 rw[jP,jP,jP,jC] at this
 exact⟨this.1.1.1,this.1.1.2,this.1.2,fun x hx=>kQ (this.2 x hx)⟩
theorem zqD {x:Int} {m:Nat} (hm:m<p.length) (hx:x∈p.getD m []):whr p x p.length=(m:Int):=by
 have h3:¬ whr p x p.length<0:=fun h=>zbu.1 h m hm hx
 obtain⟨k,hk⟩:=Int.eq_ofNat_of_zero_le (Int.not_lt.1 h3)
 obtain⟨k1,k2⟩:=ze6 hk
 rw[hk]
 by_cases e:k=m
 ·rw[e]
 rcases Nat.lt_or_gt_of_ne e with e | e
 ·exact absurd k2 (zbu.1 ((zb9 h1 hm).2.2.2 x hx) k e)
 exact absurd hx (zbu.1 ((zb9 h1 k1).2.2.2 x k2) m e)
theorem zk4 {x:Int} {m:Nat} (hm:m<p.length) (hx:x∈p.getD m []):∃ k,k<ids.length/\ids.getD k 0=x:=by
 have:=kD.1 (jC.1 (zb9 h1 hm).2.1 x hx)
 obtain⟨k,hk,rfl⟩:=kO this
 exact⟨k,hk,by rw[hZ,kF hk]; rfl⟩
include h2
theorem zgs {k m:Nat} (hk:k<ids.length):(m<p.length/\ids.getD k 0∈p.getD m []) ↔ (ixP ids p).getD k 0=m:=by
 rw[zq3 hk]
 constructor
 ·rintro⟨hm,hx⟩
  rw[zqD h1 hm hx]; rfl
 intro e
 have hx:ids.getD k 0∈ids:=by rw[hZ,kF hk]; exact kS hk
 have:=kQ (jC.1 h2 _ hx)
 have e2:whr p (ids.getD k 0) p.length=(m:Int):=by omega
 exact ze6 e2
include hr
theorem zsZ {i k:Nat} (hi:i<ids.length) (hk:k<ids.length) (h:ids.getD k 0<ids.getD i 0):k<i:=by
 refine Nat.lt_of_not_le fun hh=>?_
 by_cases e:i=k
 ·subst e; omega
 have:=kM.1 hr i k hi hk (by omega)
 rw[hZ,hZ,kF hi,kF hk] at h
 simp at h
 omega
theorem zps:Rg (ixP ids p):=fun i hi=>by
 rw[zd0] at hi
 obtain⟨hm,hx⟩:=(zgs h1 h2 hi).2 (rfl:(ixP ids p).getD i 0=_)
 generalize (ixP ids p).getD i 0=m at hm hx
 rcases jat m with e | e
 ·omega
 have s1:=zb9 h1 hm
 have s2:=zb9 h1 (show m - 1<p.length by omega)
 have f1:(p.getD (m - 1) []).getD 0 0<(p.getD m []).getD 0 0:=by
  have:=s1.2.2.1
  unfold fstB at this
  rw[jH (by omega:¬ m=0),jao] at this
  exact kQ this
 have l1:=zdM s1.1
 have l2:=zdM s2.1
 have f2:(p.getD m []).getD 0 0<=ids.getD i 0:=by
  obtain⟨j,hj,ej⟩:=kO hx
  rw[<- ej,hZ,kF l1.2]
  show (p.getD m [])[0]<=(p.getD m [])[j]
  by_cases e0:j=0
  ·subst e0; exact ja0 _
  exact jaC (kM.1 l1.1 0 j l1.2 hj (by omega))
 have hf:(p.getD (m - 1) []).getD 0 0∈p.getD (m - 1) []:=by rw[hZ (i:=0),kF l2.2]; exact kS l2.2
 obtain⟨k,hk,ek⟩:=zk4 h1 (show m - 1<p.length by omega) hf
 have hki:=zsZ hr h1 h2 hi hk (by rw[ek]; omega)
 have hix:=(zgs h1 h2 (m:=m - 1) hk).1 ⟨by omega,by rw[ek]; exact hf⟩
 have:=zcu (ix:=ixP ids p) hki (by rw[zd0]; omega)
 omega
theorem zfh:setX ids (ixP ids p)=p:=by
 have hR:=zps hr h1 h2
 have hl:=zd0 ids p
 have hlen:(bitX (ixP ids p)).length=p.length:=by
  unfold bitX
  rw[zcI hR _ (jE _),jZ]
  refine Nat.le_antisymm (zsL fun x hx=>?_) ?_
  ·obtain⟨k,hk,rfl⟩:=kO hx
   rw[hl] at hk
   refine ((zgs h1 h2 hk).2 ?_).1
   rw[hZ,kF (by omega)]; rfl
  rcases jat p.length with e | e
  ·omega
  have l2:=zdM (zb9 h1 (show p.length - 1<p.length by omega)).1
  have hf:(p.getD (p.length - 1) []).getD 0 0∈p.getD (p.length - 1) []:=by rw[hZ (i:=0),kF l2.2]; exact kS l2.2
  obtain⟨k,hk,ek⟩:=zk4 h1 (show p.length - 1<p.length by omega) hf
  have hix:=(zgs h1 h2 (m:=p.length - 1) hk).1 ⟨by omega,by rw[ek]; exact hf⟩
  have:=zcu (ix:=ixP ids p) (k:=(ixP ids p).length) (show k<_ by omega) (jE _)
  rw[jZ] at this
  omega
 unfold setX
 refine List.ext_getElem (by rw[kW,hlen]) fun m g1 g2=>?_
 rw[List.getElem_map]
 rw[kW] at g1
 have hb:=zmB hR (ixP ids p).length (jE _) m g1
 have e1:(bitX (ixP ids p))[m]=(bitX (ixP ids p)).getD m 0:=by rw[hZ,kF g1]; rfl
 have e2:p[m]=p.getD m []:=by rw[hZ,kF g2]; rfl
 rw[e1,e2]
 have key:∀ k,k<ids.length->(ids.getD k 0∈memb ids ((bitX (ixP ids p)).getD m 0) ↔ ids.getD k 0∈p.getD m []):=fun k hk=>by
  rw[zcv (za6 hr) hk]
  unfold bitX
  rw[hb k,jP,k9,jaI,<- zgs h1 h2 hk]
  exact⟨fun h=>h.2.2,fun h=>⟨by omega,g2,h⟩⟩
 refine zqN (hr.sublist (zds ids _)) (zdM (zb9 h1 g2).1).1 fun x=>⟨fun hx=>?_,fun hx=>?_⟩
 ·obtain⟨k,hk,rfl⟩:=kO ((zds ids _).subset hx)
  have:=(key k hk).1
  rw[hZ (l:=ids),kF hk] at this
  exact this hx
 obtain⟨k,hk,rfl⟩:=zk4 h1 g2 hx
 exact (key k hk).2 hx
end
def tbX (q:List Int->Bool) (ids:List Int) (m:Nat):Bool:=decide (0<m) && q (memb ids m)
theorem znE (q:List Int->Bool) (ids:List Int):prt q ids []=(gwX (tbX q ids) ids.length []).map (setX ids):=by
 unfold gwX
 rw[zfr]
 have e1:(rgs ids.length (mst [])).map (([]:List Nat) ++ ·)=rgs ids.length 0:=by
  show (rgs ids.length 0).map (fun x=>[]++x)=_
  simp
 rw[e1]
 have hm:∀ ix∈rgs ids.length 0,Rg ix/\ix.length=ids.length:=fun ix hx=>zkJ _ [] zo6 ix hx
 show List.filter _ ((rgs ids.length 0).map (bld ids []))=_
 generalize rgs ids.length 0=L at hm
 have hb:∀ ix∈L,bld ids [] ix=setX ids ix:=fun ix hx=>zmA (hm ix hx).1 (hm ix hx).2 ids.length 0 (qF _)
 rw[qL hb,List.filter_map]
 congr 1
 refine List.filter_congr fun ix hx=>?_
 show (setX ids ix).all _=(bitX ix).all (tbX q ids)
 unfold setX
 rw[List.all_map,kR,jC,jC]
 refine forall_congr' fun m=>forall_congr' fun hmm=>?_
 unfold tbX
 rw[jG (zbH ix ix.length m hmm).1,qI]
 exact jbt
theorem zo5:∀ (iy ix:List Nat),Rg (ix++iy)->iy∈rgs iy.length (mst ix)
 | [],ix,_=>kI.2 rfl
 | k :: iy,ix,h=>by
  have hk:=h ix.length (by simp)
  rw[hZ,jK (jE _),kE,List.take_append_of_le_length (jE _),jZ] at hk
  have hk:k<=mst ix:=hk
  have:=zo5 iy (ix ++ [k]) (by rw[List.append_assoc]; exact h)
  rw[zdq] at this
  show k :: iy∈rgs (iy.length+1) (mst ix)
  rw[ziq]
  exact List.mem_flatMap.2 ⟨k,kJ.2 (by omega),kK.2 ⟨iy,this,rfl⟩⟩
theorem zpv {p:Nat->Bool} {n:Nat} {ix:List Nat}:ix∈gwX p n [] ↔ Rg ix/\ix.length=n/\(bitX ix).all p=true:=by
 constructor
 ·intro h
  exact⟨(zpu h).1,(zpu h).2,(kX.1 h).2⟩
 rintro⟨h1,rfl,h3⟩
 refine kX.2 ⟨kK.2 ⟨ix,?_,rfl⟩,h3⟩
 exact zo5 ix [] h1
section
variable {ids:List Int} (hr:ids.Pairwise (· < ·)) {ix:List Nat} (hR:Rg ix) (hl:ix.length=ids.length)
include hR
theorem zoF:(bitX ix).length=mst ix:=by
 have:=zcI hR ix.length (jE _)
 rwa [jZ] at this
theorem zo7:∀ k,k<=ix.length -> ∀ v,v<mst (ix.take k) -> ∃ j,j<k/\ix.getD j 0=v
 | 0,_,v,h=>by have h:v<0:=h; omega
 | k+1,hk,v,h=>by
  rw[zfD (by omega)] at h
  have hc:=hR k (by omega)
  by_cases e:v<mst (ix.take k)
  ·obtain⟨j,h1,h2⟩:=zo7 k (by omega) v e
   exact⟨j,by omega,h2⟩
  exact⟨k,by omega,by omega⟩
include hr hl
theorem zgp {k m:Nat} (hk:k<ids.length):(m<(setX ids ix).length/\ids.getD k 0∈(setX ids ix).getD m []) ↔ ix.getD k 0=m:=by
 have hlen:(setX ids ix).length=(bitX ix).length:=kW _
 have key:m<(bitX ix).length->(ids.getD k 0∈(setX ids ix).getD m [] ↔ ix.getD k 0=m):=fun hm=>by
  unfold setX
  rw[zfQ hm,zcv (za6 hr) hk]
  unfold bitX
  rw[zmB hR ix.length (jE _) m hm k,jP,k9,jaI]
  exact⟨fun h=>h.2,fun h=>⟨by omega,h⟩⟩
 constructor
 ·rintro⟨hm,hx⟩
  exact (key (by omega)).1 hx
 intro e
 have hm:m<(bitX ix).length:=by
  rw[zoF hR,<- e]
  have:=zcu (ix:=ix) (k:=ix.length) (show k<ix.length by omega) (jE _)
  rwa [jZ] at this
 exact⟨by omega,(key hm).2 e⟩
theorem zp8 {m:Nat} (hm:m<(setX ids ix).length):∃ b,0<b/\b<2 ^ ids.length/\(setX ids ix).getD m []=memb ids b:=by
 have hlen:(setX ids ix).length=(bitX ix).length:=kW _
 have hb:=zbH ix ix.length ((bitX ix).getD m 0) (by
  show (bitX ix).getD m 0∈bitX ix
  rw[hZ,kF (by omega)]; exact kS (by omega))
 refine⟨(bitX ix).getD m 0,hb.1,by rw[<- hl]; exact hb.2,?_⟩
 unfold setX
 rw[zfQ (by omega)]
theorem zkC {m:Nat} (hm:m<(setX ids ix).length):((setX ids ix).getD m []).Pairwise (· < ·)/\0<((setX ids ix).getD m []).length /\ ∀ x∈(setX ids ix).getD m [],∃ k,k<ids.length/\ids.getD k 0=x:=by
 obtain⟨b,b1,b2,e⟩:=zp8 hr hR hl hm
 rw[e]
 have hs:=zds ids b
 refine⟨hr.sublist hs,jaZ.2 (zlt b1 b2),fun x hx=>?_⟩
 obtain⟨k,hk,rfl⟩:=kO (hs.subset hx)
 exact⟨k,hk,by rw[hZ,kF hk]; rfl⟩
theorem zsg:plcB ids (setX ids ix)=true/\fndB ids (setX ids ix)=true:=by
 have lt_setB:∀ {s:List Int},s.Pairwise (· < ·)->0<s.length->setB s=true:=fun {s} h1 h2=>by
  unfold setB risB
  rw[jP]
  refine⟨jC.2 fun j hj=>jG ?_,jG h2⟩
  have hj:=kJ.1 hj
  rw[hZ,hZ,kF (by omega),kF (by omega)]
  exact kM.1 h1 j (j+1) (by omega) (by omega) (by omega)
 constructor
 ·refine jC.2 fun m hm=>?_
  have hm:=kJ.1 hm
  obtain⟨s1,s2,s3⟩:=zkC hr hR hl hm
  unfold plc1
  rw[jP,jP,jP]
  refine⟨⟨⟨lt_setB s1 s2,jC.2 fun x hx=>kD.2 ?_⟩,?_⟩,jC.2 fun x hx=>jG (zbu.2 fun j hj hxj=>?_)⟩
  ·obtain⟨k,hk,rfl⟩:=s3 x hx
   rw[hZ,kF hk]; exact kS hk
  ·unfold fstB
   by_cases e:m=0
   ·rw[jG e,qN]
   rw[jH e,jao]
   refine jG ?_
   have hf:((setX ids ix).getD m []).getD 0 0∈(setX ids ix).getD m []:=by rw[hZ (i:=0),kF s2]; exact kS s2
   obtain⟨k,hk,ek⟩:=s3 _ hf
   have hix:=(zgp hr hR hl (m:=m) hk).1 ⟨hm,by rw[ek]; exact hf⟩
   have hrk:=hR k (by omega)
   obtain⟨j,hj,ej⟩:=zo7 hR k (by omega) (m - 1) (by omega)
   obtain⟨hm',hxj⟩:=(zgp hr hR hl (m:=m - 1) (show j<ids.length by omega)).2 ej
   obtain⟨t1,t2,_⟩:=zkC hr hR hl hm'
   obtain⟨i,hi,ei⟩:=kO hxj
   have f1:((setX ids ix).getD (m - 1) []).getD 0 0<=ids.getD j 0:=by
    rw[<- ei,hZ (i:=0),kF t2]
    show ((setX ids ix).getD (m - 1) [])[0]<=((setX ids ix).getD (m - 1) [])[i]
    by_cases e0:i=0
    ·subst e0; exact ja0 _
    exact jaC (kM.1 t1 0 i t2 hi (by omega))
   have f2:ids.getD j 0<ids.getD k 0:=by
    rw[hZ,hZ,kF (by omega),kF hk]
    exact kM.1 hr j k (by omega) hk hj
   omega
  obtain⟨k,hk,rfl⟩:=s3 x hx
  have a:=(zgp hr hR hl (m:=m) hk).1 ⟨hm,hx⟩
  have b:=(zgp hr hR hl (m:=j) hk).1 ⟨by omega,hxj⟩
  omega
 refine jC.2 fun x hx=>jG (Int.not_lt.1 fun hn=>?_)
 obtain⟨k,hk,rfl⟩:=kO hx
 have:=(zgp hr hR hl hk).2 rfl
 refine zbu.1 hn _ this.1 ?_
 have h2:=this.2
 rwa [hZ (l:=ids),kF hk] at h2
end
theorem zqz {ids:List Int} (hr:ids.Pairwise (· < ·)) (q:List Int->Bool) (p:List (List Int)):p∈prt q ids [] ↔ divB ids p=true/\p.all q=true:=by
 rw[znE,kK,zmd hr,jP]
 constructor
 ·rintro⟨ix,hx,rfl⟩
  obtain⟨h1,h2,h3⟩:=zpv.1 hx
  refine⟨zsg hr h1 h2,?_⟩
  unfold setX
  rw[List.all_map,jC]
  intro m hm
  have:=jC.1 h3 m hm
  unfold tbX at this
  rw[jP] at this
  exact this.2
 rintro⟨⟨h1,h2⟩,h3⟩
 refine⟨ixP ids p,zpv.2 ⟨zps hr h1 h2,zd0 ids p,jC.2 fun m hm=>?_⟩,zfh hr h1 h2⟩
 unfold tbX
 rw[jG (zbH _ _ m hm).1,qI]
 refine jC.1 h3 _ ?_
 rw[<- zfh hr h1 h2]
 exact kK.2 ⟨m,hm,rfl⟩
def posB (d:Day) (s:List Int):Bool:=decide (0<(plsD d s).length)
def cprR (d:Day) (p:List (List Int)):Int:=if dayE d≠0 then dayE d else if (divB (sigL d.R) p && p.all (posB d))=true then 0 else 8
theorem zoo {ids:List Int} (hr:ids.Pairwise (· < ·)) {p:List (List Int)} (hp:divB ids p=true) {s:List Int} (hs:s∈p):∃ b,0<b/\b<2 ^ ids.length/\s=memb ids b:=by
 rw[zmd hr,jP] at hp
 obtain⟨h1,h2⟩:=hp
 have e:=zfh hr h1 h2
 rw[<- e] at hs
 obtain⟨b,hb,rfl⟩:=kK.1 hs
 have:=zbH _ _ b hb
 rw[zd0] at this
 exact⟨b,this.1,this.2,rfl⟩
theorem zrh {d:Day} (h:dayE d=0) (p:List (List Int)):p∈parts d ↔ cprR d p=0:=by
 have ok:=za5 h
 have h7:=sig7 ok
 have key:divB (sigL d.R) p=true->(p.all fun s=>fitK d (ksD d) (bitS (sigL d.R) s))=p.all (posB d):=fun hp=>by
  rw[kR,jC,jC]
  refine forall_congr' fun s=>forall_congr' fun hs=>?_
  obtain⟨b,b1,b2,rfl⟩:=zoo ok.lt hp hs
  rw[zmC ok.nod h7 b2,zrb h b1 b2,zfU h b1 b2]
  exact jbt
 unfold cprR
 rw[kG (fun hh=>hh h),show parts d=prt (fun s=>fitK d (ksD d) (bitS (sigL d.R) s)) (sigL d.R) [] from rfl,zqz ok.lt]
 constructor
 ·rintro⟨h1,h2⟩
  rw[kH (by rw[h1,<- key h1,h2]; rfl)]
 intro hh
 by_cases hc:(divB (sigL d.R) p && p.all (posB d))=true
 ·rw[jP] at hc
  exact⟨hc.1,by rw[key hc.1]; exact hc.2⟩
 rw[kG hc] at hh
 cases hh
structure Jns where
  F:List Fit
  M:List Mis
abbrev Jns.v (j:Jns):V1:=.agg [lFt j.F,lMs j.M]
end Go.Pg
