/- Lemmas, joined by program. -/
import Derived.Test.YtcmghlfakcppkaaGreatGD
import Derived.WideKeyRuns
set_option maxHeartbeats 4000000
set_option linter.all false
set_option maxRecDepth 100000
namespace Go.Pg
open Go.Proofs Go.RowKit Go.Sort Go.Shelf
section
variable (ids:List Int) (pv:D) (ok:List Int->Bool)
theorem zoF (hn:ids.length<=7) (i:Nat) (hi:i<ids.length) (ss:List (List Int)) (n:Nat) (hs:ss.length<=i) (hl:∀ s∈ss,s.length<=i) (hsub:Sub (allP ids ok) n (prt ok (ids.drop i) ss))
  (ih:∀ (ss:List (List Int)) (n:Nat),ss.length<=i+1->(∀ s∈ss,s.length<=i+1)->Sub (allP ids ok) n (prt ok (ids.drop (i+1)) ss)->SpecY PP 188 ((allP ids ok).map enP) n (prt ok (ids.drop (i+1)) ss).length (putArgs ids pv (i+1)) (putObs ids pv ss) (putObs ids pv ss) [4,3,5] [B true] [B false]) :
  SpecY PP 188 ((allP ids ok).map enP) n (prt ok (ids.drop i) ss).length (putArgs ids pv i) (putObs ids pv ss) (putObs ids pv ss) [4,3,5] [B true] [B false]:=by
 have ed:ids.drop i=ids.getD i 0 :: ids.drop (i+1):=by rw[kU hi,hX,hZ hi]; rfl
 rw[ed] at hsub ⊢
 rw[zkX] at hsub ⊢
 refine zgR [] Tryz.func188 rfl (by kernel_rfl) (putArgs ids pv i) [7] rfl [(2,4),(4,3),(5,5)] rfl rfl rfl (zg0 ids pv _ ss) (by decide) (fun _=>rfl) fun l γ=>?_
 refine sNo (by simp; omega) ?_
 refine lOf (σ:=Nat) (fun q=>([(G,.gho (some (n+(prtK ok (ids.getD i 0) (ids.drop (i+1)) ss q).length))),(0,.d (I i)),(1,.d (capB [lI ids])),(2,.pbox 4 (γ 4)),(3,.d (posD pv)),(4,.pbox 3 (γ 3)),(5,.pbox 5 (γ 5)),(38,.d (I ss.length)),(39,.d (I q))],
   [(4,.box [.own 100]),(100,.row 22 1 ss.length (rowII ss)),(3,.box [.yl l]),(5,.box [.clo 188 (putCaps ids pv)])])) (fun q=>q<=ss.length) (fun q=>ss.length - q) 0
  ⟨rfl,⟨obX rfl,obR rfl (dE _),obX rfl,obX rfl,trivial⟩,wq rfl⟩ (jF _) fun q hq=>?_
 have hq:q<=ss.length:=hq
 apply bY <;> intro h2
 ·have h2:q<ss.length:=by have:=dT h2; omega
  have eq:((q:Nat):Int).toNat=q:=wD q
  have hm:ss.getD q []∈ss:=by rw[hX,hZ h2]; exact kR h2
  have hml:=hl _ hm
  refine⟨⟨by omega,by omega⟩,⟨by omega,?_⟩⟩
  refine oL [2,4,5,6,7,8,1000,1001,6003,9,10,5011] (fNo ?_)
  refine⟨⟨rfl,by omega,by omega⟩,?_⟩
  refine⟨rfl,rfl,?_⟩
  refine⟨rfl,rfl,?_⟩
  refine⟨⟨_,_,_,_,_,_,rfl,rfl,rfl,rfl,?_⟩⟩
  rw[zan]
  refine⟨_,_,_,_,_,none,rfl,zk0 (ss.getD (q:Int).toNat []) (by rw[eq]; omega),fun m j _ _=>rfl,?_⟩
  refine⟨⟨.inr rfl,by unfold maxLen; rw[eq]; omega,by show ((ss.getD (q:Int).toNat []).length+1) * 8<=140737488355328; rw[eq]; omega⟩,?_⟩
  refine⟨⟨by omega,by omega⟩,?_⟩
  refine FzOb.fz [49] ?_
  refine⟨by omega,?_⟩
  refine⟨i6,?_⟩
  have hset:(ss.set q (ss.getD q [] ++ [ids.getD i 0])).length<=i+1:=by rw[wH]; omega
  have hsl:∀ s∈ss.set q (ss.getD q [] ++ [ids.getD i 0]),s.length<=i+1:=fun s hs=>by
   rcases jbe hs with hs | rfl
   ·have:=hl s hs; omega
   rw[jR,qK]; omega
  have hsub':Sub (allP ids ok) (n+(prtK ok (ids.getD i 0) (ids.drop (i+1)) ss q).length) (prt ok (ids.drop (i+1)) (ss.set q (ss.getD q [] ++ [ids.getD i 0]))):=by
   refine (hsub.pre (L2:=prtK ok (ids.getD i 0) (ids.drop (i+1)) ss q++prt ok (ids.drop (i+1)) (ss.set q (ss.getD q [] ++ [ids.getD i 0]))) ?_).snd
   rw[<- zdk]
   exact List.IsPrefix.trans (zg3 ok _ _ ss h2) (List.prefix_append _ _)
  refine CallSt.cy [(0,.d (I i)),(1,.d (capB [lI ids])),(2,.pbox 4 (γ 4)),(3,.d (posD pv)),(4,.pbox 3 (γ 3)),(5,.pbox 5 (γ 5)),(11,.d (I q)),(12,.d (lI (ss.getD q []))),(38,.d (I ss.length)),(39,.d (I q)),(57,.clo 188 (putCaps ids pv)),(59,.d (I ((i+1:Nat):Int)))] []
   (ih (ss.set q (ss.getD q [] ++ [ids.getD i 0])) _ hset hsl hsub') rfl rfl ⟨rfl,⟨obX rfl,obR rfl ?_,obX rfl,obX rfl,trivial⟩,avQ rfl,avQ rfl,avQ rfl,avQ rfl,avQ rfl,avQ rfl,avQ rfl,?_,avQ rfl,avQ rfl,avQ rfl,avQ rfl,trivial⟩ rfl rfl rfl rfl ?_ ?_
  ·refine zoi h2 eq ?_
   refine⟨by rw[eq,jR]; rfl,.inr ⟨rfl,fun u hu v hv=>?_⟩⟩
   show D.eqv (appRow _ (rowI (ss.getD (q:Int).toNat [])) _ u v) (I ((ss.getD q [] ++ [ids.getD i 0]).getD u 0))
   rw[eq]
   unfold appRow
   by_cases hh:u<(ss.getD q []).length
   ·rw[kG hh,hX (l:=ss.getD q [] ++ [ids.getD i 0]),jJ hh,<- hX]
    exact dE _
   have hu:u<(ss.getD (q:Int).toNat []).length+1:=hu
   rw[eq] at hu
   have e:u=(ss.getD q []).length:=by omega
   obtain rfl:v=0:=jak.1 hv
   rw[kF hh,hX (l:=ss.getD q [] ++ [ids.getD i 0]),jK (by omega),e,kE]
   show D.eqv (I (ids.getD i 0)) (I (ids.getD i 0))
   exact dE _
  ·show D.eqv (lI (ss.getD (q:Int).toNat [])) (lI (ss.getD q []))
   rw[eq]; exact dE _
  ·refine sF ?_
   have ls:(ss.set q (ss.getD q [] ++ [ids.getD i 0])).length=ss.length:=wH
   refine⟨⟨by omega,by rw[ls]; omega⟩,⟨by rw[ls,eq]; exact h2,?_⟩⟩
   refine⟨i6,?_⟩
   refine⟨q+1,⟨rfl,⟨obX rfl,obR rfl ?_,obX rfl,obX rfl,trivial⟩,avG rfl ?_,avQ rfl,avQ rfl,avQ rfl,avQ rfl,avQ rfl,avQ rfl,avQ rfl,avQ rfl,trivial⟩,h2,msr h2⟩
   ·have h3:q<(ss.set q (ss.getD q [] ++ [ids.getD i 0])).length:=by rw[ls]; exact h2
    have h4:=zoi (ss:=ss.set q (ss.getD q [] ++ [ids.getD i 0])) (s':=ss.getD q []) h3 eq (dE _)
    have h5:(ss.set q (ss.getD q [] ++ [ids.getD i 0])).set q (ss.getD q [])=ss:=by
     rw[List.set_set,hX,hZ h2]
     exact List.set_getElem_self h2
    rw[h5] at h4
    exact h4
   rw[zdk,jR,jaL]
  refine sT ?_
  exact .inr ⟨rfl,trivial,avQ rfl,avQ rfl,trivial⟩
 have h2:q=ss.length:=by have:=dF h2; omega
 subst h2
 refine oN 9 ?_
 refine⟨⟨rfl,by omega,by omega⟩,?_⟩
 refine⟨⟨.inr rfl,by unfold maxLen; omega,by show (ss.length+1) * 24<=140737488355328; omega⟩,?_⟩
 refine⟨i6,?_⟩
 refine CallSt.cy [(0,.d (I i)),(1,.d (capB [lI ids])),(2,.pbox 4 (γ 4)),(3,.d (posD pv)),(4,.pbox 3 (γ 3)),(5,.pbox 5 (γ 5)),(75,.clo 188 (putCaps ids pv)),(77,.d (I ((i+1:Nat):Int)))] []
  (ih (ss ++ [[ids.getD i 0]]) _ (by rw[jR,qK]; omega) (fun s hs=>by
   rcases kQ.1 hs with hs | hs
   ·have:=hl s hs; omega
   obtain rfl:=kH.1 hs; rw[qK]; omega) hsub.snd) rfl rfl ⟨rfl,⟨obX rfl,obR rfl ?_,obX rfl,obX rfl,trivial⟩,avQ rfl,avQ rfl,avQ rfl,avQ rfl,avQ rfl,avQ rfl,avQ rfl,avQ rfl,trivial⟩ rfl rfl rfl rfl ?_ ?_
 ·refine ziM rfl ⟨rfl,.inr ⟨rfl,fun u hu v hv=>?_⟩⟩
  obtain rfl:v=0:=jak.1 hv
  obtain rfl:u=0:=jak.1 hu
  show D.eqv (I (ids.getD i 0)) (I (ids.getD i 0))
  exact dE _
 ·refine sF ?_
  have ll:(ss ++ [[ids.getD i 0]]).length=ss.length+1:=by rw[jR,qK]
  refine⟨i6,?_⟩
  refine⟨⟨by rw[ll]; omega,by rw[ll]; omega⟩,?_⟩
  refine .inl ⟨rfl,⟨obX rfl,obR rfl ?_,obX rfl,obX rfl,trivial⟩,avG rfl ?_,avQ rfl,avQ rfl,avQ rfl,avQ rfl,trivial⟩
  ·refine⟨by rw[ll]; omega,.inr ⟨rfl,fun u hu v hv=>?_⟩⟩
   rw[ll] at hu
   have hu:u<ss.length:=by omega
   show D.eqv (lI ((ss ++ [[ids.getD i 0]]).getD u [])) (lI (ss.getD u []))
   rw[hX (l:=ss ++ [[ids.getD i 0]]),jJ hu,<- hX]
   exact dE _
  rw[jR,jaL]
 refine sT ?_
 exact .inr ⟨rfl,trivial,avQ rfl,avQ rfl,trivial⟩
end
section
variable (ids:List Int) (pv:D) (ok:List Int->Bool)
theorem zoH (hn:ids.length<=7) (hok:PosC pv ok):∀ (k i:Nat) (ss:List (List Int)) (n:Nat),i+k=ids.length->ss.length<=i->(∀ s∈ss,s.length<=i)->Sub (allP ids ok) n (prt ok (ids.drop i) ss) ->
  SpecY PP 188 ((allP ids ok).map enP) n (prt ok (ids.drop i) ss).length (putArgs ids pv i) (putObs ids pv ss) (putObs ids pv ss) [4,3,5] [B true] [B false]
 | 0,i,ss,n,hi,hs,hl,hsub=>by
  obtain rfl:i=ids.length:=by omega
  rw[ja2] at hsub ⊢
  exact zoG ids pv ok hn hok ss n (by omega) (fun s h=>by have:=hl s h; omega) hsub
 | k+1,i,ss,n,hi,hs,hl,hsub=>zoF ids pv ok hn i (by omega) ss n hs hl hsub fun ss n hs hl hsub=>zoH hn hok k (i+1) ss n (by omega) hs hl hsub
def prtCap (j:Nat):D:=getD' [capB [lI ids],posD pv] j
theorem zeD (hn:ids.length<=7) (hok:PosC pv ok):SeqC PP 187 2 (prtCap ids pv) enP (allP ids ok):=by
 refine zex Tryz.func187 rfl (by kernel_rfl) rfl rfl enP _ fun l=>?_
 refine CallSt.cy (cuts:=[]) [(7,.clo 188 (putCaps ids pv))] [] (zoH ids pv ok hn hok ids.length 0 [] 0 (qG _) (jE _) (fun s h=>by cases h) ⟨[],rfl,List.prefix_rfl⟩) rfl rfl
  ⟨rfl,⟨⟨⟨rfl,_,_,_,rfl⟩,trivial⟩,rfl,obX rfl,obX rfl,trivial⟩,wq rfl⟩ rfl rfl rfl rfl ?_ ?_
 ·exact .inl (jI (fun n=>AV.gho (some n)) (qG _))
 exact .inr rfl
theorem zfp (hp:(∃ g c,pv=cloB g [c]) \/ ∃ f m g,pv = .bnd f m g):Spec PP 113 [.d (lI ids),.d pv] [.d (cloB 187 [capB [lI ids],posD pv])]:=by
 rcases hp with⟨g0,c0,rfl⟩ | ⟨f0,m0,g0,rfl⟩
 all_goals
  refine sA Tryz.func113 ?_
  refine⟨⟨rfl,rfl,fun j hj=>?_⟩,trivial⟩
  match j,hj with
  | 0,_=>exact⟨_,rfl,rfl,_,_,rfl,rfl,rfl,fun j hj=>dE _⟩
  | 1,_=>exact⟨_,rfl,rfl,_,_,rfl,rfl,rfl,fun j hj=>dE _⟩
end
def bitA (ids s:List Int) (i:Nat):Nat:=(List.range i).foldl (fun b k=>if s.contains (ids.getD k 0)=true then onS b k else b) 0
theorem zdD (ids s:List Int) (i:Nat):bitA ids s (i+1)=if s.contains (ids.getD i 0)=true then onS (bitA ids s i) i else bitA ids s i:=by
 unfold bitA
 rw[qY,jam]; rfl
theorem zkc (ids s:List Int):∀ i,i<=7->bitA ids s i<128
 | 0,_=>by show 0<128; decide
 | i+1,h=>by
  have:=zkc ids s i (by omega)
  rw[zdD]
  split
  ·exact zoN this (by omega)
  exact this
def bitS (ids s:List Int):Nat:=bitA ids s ids.length
abbrev lkC (d:Day) (ks:List Nat):List D:=d.ds ++ [lI (sigL d.R),cmap d ks]
theorem zo1 (d:Day) (ks:List Nat) (hn:(sigL d.R).length<=7) (s:List Int) (hs:s.length<=1000000):Spec PP 114 [.d (lI s),.d (capB (lkC d ks))] [B (fitK d ks (bitS (sigL d.R) s))]:=by
 refine sA Tryz.func114 ?_
 refine lOf (σ:=Nat) (fun i=>([(0,.d (lI s)),(1,avOf (.d (capB (lkC d ks)))),(4,.d (I (bitA (sigL d.R) s i))),(8,.d (lI (sigL d.R))),(9,.d (I (sigL d.R).length)),(10,.d (I i))],[])) (fun i=>i<=(sigL d.R).length) (fun i=>(sigL d.R).length - i) 0
  ⟨rfl,trivial,wq rfl⟩ (jF _) fun i hi=>?_
 have hi:i<=(sigL d.R).length:=hi
 apply bY <;> intro h1
 ·have h1:i<(sigL d.R).length:=by have:=dT h1; omega
  have hb:=zkc (sigL d.R) s i (by omega)
  refine⟨⟨rfl,by omega,by omega⟩,?_⟩
  refine cP (zdY s ((sigL d.R).getD i 0) hs) rfl rfl ?_
  apply bY <;> intro h2
  ·have h2:s.contains ((sigL d.R).getD i 0)=true:=h2
   refine⟨by omega,?_⟩
   refine⟨i6,?_⟩
   refine⟨i+1,⟨rfl,trivial,avQ rfl,avQ rfl,?_,avQ rfl,avQ rfl,avQ rfl,trivial⟩,h1,msr h1⟩
   rw[zdD,kG h2]
   exact avQ (jI (fun n=>AV.d (.int .i64 n)) (bOn hb (by omega)))
  have h2:s.contains ((sigL d.R).getD i 0)=false:=h2
  refine⟨i6,?_⟩
  refine⟨i+1,⟨rfl,trivial,?_⟩,h1,msr h1⟩
  rw[zdD,kF (by rw[h2]; decide)]
  exact wq rfl
 have h1:i=(sigL d.R).length:=by have:=dF h1; omega
 subst h1
 refine cP (zd8 d ks (bitS (sigL d.R) s)) rfl rfl ?_
 exact r1B rfl rfl
abbrev allCs (d:Day) (ks:List Nat):List D:=[capB [lI (sigL d.R)],posD (cloB 114 [capB (lkC d ks)])]
theorem j_all (d:Day) (ks:List Nat):Spec PP 75 [lkV d ks] [.d (cloB 187 (allCs d ks))]:=by
 refine sA Tryz.func75 ?_
 refine fEq [1] (zfp (sigL d.R) (cloB 114 [capB (lkC d ks)]) (.inl ⟨_,_,rfl⟩)) rfl ⟨dE _,⟨rfl,rfl,fun j hj=>by obtain rfl:j=0:=jak.1 hj; exact dE _⟩,trivial⟩ rfl ?_
 exact⟨dE _,trivial⟩
abbrev parts (d:Day):List (List (List Int)):=prt (fun s=>fitK d (ksD d) (bitS (sigL d.R) s)) (sigL d.R) []
theorem zlj {d:Day} (h:DayOk d):SeqC PP 187 2 (prtCap (sigL d.R) (cloB 114 [capB (lkC d (ksD d))])) enP (parts d):=
 zeD (sigL d.R) _ _ (sig7 h) (.clo _ _ rfl fun s hs=>zo1 d (ksD d) (sig7 h) s (by omega))
theorem zgh {α:Type} {ok:List α->Bool}:∀ {r:List α} {ss:List (List α)} {B:Nat} {x:List (List α)},x∈prt ok r ss->(∀ s∈ss,s.length<=B)->x.length<=ss.length+r.length /\ ∀ s∈x,s.length<=B+r.length+1
 | [],ss,B,x,h,hb=>by
  unfold prt at h
  split at h
  ·obtain rfl:=kH.1 h
   exact⟨jE _,fun s hs=>by have:=hb s hs; simp; omega⟩
  ·cases h
 | a :: r,ss,B,x,h,hb=>by
  unfold prt at h
  rcases kQ.1 h with h | h
  ·obtain⟨k,hk,h⟩:=List.mem_flatMap.1 h
   have hk:=kK.1 hk
   obtain⟨h1,h2⟩:=zgh (B:=B+1) h fun s hs=>by
    rcases jbe hs with hs | rfl
    ·have:=hb s hs; omega
    have hm:ss.getD k []∈ss:=by rw[hX,hZ hk]; exact kR hk
    have:=hb _ hm
    rw[jR,qK]; omega
   rw[wH] at h1
   exact⟨by simp; omega,fun s hs=>by have:=h2 s hs; simp; omega⟩
  obtain⟨h1,h2⟩:=zgh (B:=B+1) h fun s hs=>by
   rcases kQ.1 hs with hs | hs
   ·have:=hb s hs; omega
   obtain rfl:=kH.1 hs; simp
  rw[jR] at h1
  exact⟨by simp at h1 ⊢; omega,fun s hs=>by have:=h2 s hs; simp; omega⟩
theorem zm0 {α:Type} (ok:List α->Bool) (r:List α) (h:r.length<=7):(prt ok r []).length<=877:=by
 rw[zeC]
 refine jM (jac _ _) ?_
 rw[kN]
 have:∀ n,n<8->(rgs n 0).length<=877:=by decide +kernel
 exact this _ (by omega)
theorem zce {d:Day} (h:DayOk d):(parts d).length<=877:=zm0 _ _ (sig7 h)
theorem zcd {d:Day} (h:DayOk d) {x:List (List Int)} (hx:x∈parts d):x.length<=7 /\ ∀ s∈x,s.length<=8:=by
 have:=sig7 h
 obtain⟨h1,h2⟩:=zgh (B:=0) hx (fun s hs=>by cases hs)
 exact⟨by simp at h1; omega,fun s hs=>by have:=h2 s hs; omega⟩
def bst0 (out:List (List (List Int))) (p:List (List Int)):List (List (List Int)):=if decide (0<out.length) && decide (p.length<(out.getD 0 []).length) then [] else out
def bst1 (out:List (List (List Int))) (p:List (List Int)):List (List (List Int)):=if decide ((bst0 out p).length=0) || decide (p.length=((bst0 out p).getD 0 []).length) then bst0 out p ++ [p] else bst0 out p
def bstL (l:List (List (List Int))):List (List (List Int)):=l.foldl bst1 []
theorem zcr (l:List (List (List Int))) (p:List (List Int)):bstL (l ++ [p])=bst1 (bstL l) p:=by unfold bstL; rw[jam]; rfl
theorem zlI (o:List (List (List Int))) (p:List (List Int)):(bst0 o p).length<=o.length:=by
 unfold bst0
 split
 ·exact jF _
 exact jE _
theorem zlH (o:List (List (List Int))) (p:List (List Int)):(bst1 o p).length<=o.length+1:=by
 have:=zlI o p
 unfold bst1
 split
 ·rw[jR]; simp; omega
 omega
theorem zhy:∀ (l o:List (List (List Int))),(l.foldl bst1 o).length<=o.length+l.length
 | [],o=>jE _
 | p :: l,o=>by
  have h1:=zhy l (bst1 o p)
  have h2:=zlH o p
  rw[jaU,jaP]
  omega
theorem zda (l:List (List (List Int))):(bstL l).length<=l.length:=by
 have:=zhy l []
 unfold bstL
 simpa using this
abbrev rowPP (l:List (List (List Int))):Nat->Nat->D:=fun i _=>lII (l.getD i [])
theorem zl1 {l:List (List (List Int))} {p:List (List Int)} {g:Nat->Nat->D} (hg:D.eqv (g 0 0) (lII p)):D.eqv (.slc 1 (l.length+1) (appRow l.length (rowPP l) g)) (.slc 1 (l ++ [p]).length (rowPP (l ++ [p]))):=by
 refine⟨by simp,.inr ⟨rfl,fun i hi j hj=>?_⟩⟩
 show D.eqv (appRow l.length (rowPP l) g i j) (lII ((l ++ [p]).getD i []))
 obtain rfl:j=0:=by omega
 unfold appRow
 by_cases h:i<l.length
 ·rw[kG h,hX (l:=l ++ [p]),jJ h,<- hX]
  exact dE _
 have e:i=l.length:=by omega
 subst e
 rw[kF h,kE,hX,jK (jE _),kE]
 exact hg
theorem nz_no {n:Nat} (h:0<n):((n:Int)==0)=false:=by simp; omega
theorem zoQ {n:Nat} (h:n=0):((n:Int)==0)=true:=by subst h; rfl
def obBst (pre:List (List (List Int))):List (Nat × Ob):=[(3,.box [.own 34]),(34,.row 43 1 (bstL pre).length (rowPP (bstL pre)))]
theorem zoI (g:FuncId) (c1 c2:D) (xs:List (List (List Int))) (hx:xs.length<=1000) (hseq:SeqC PP g 2 (getD' [c1,c2]) enP xs):Spec PP 74 [.d (cloB g [c1,c2])] [.d (lPP (bstL xs))]:=by
 refine sA Tryz.func74 ?_
 refine CodeOb.rangeAt hseq rfl (fun _=>rfl) (by decide) [(3,.box 3 0)] [(3,0)] obBst rfl (fun _=>rfl) ?_ (Iv:=fun _=>True) trivial (fun v pre x hx' _=>?_) (fun _=>?_)
 ·exact⟨rfl,⟨obN rfl rfl rfl,obZ rfl rfl,trivial⟩,wq rfl⟩
 ·have hpl:pre.length<1000:=by
   have:=hx'.length_le
   rw[jR] at this; simp at this; omega
  have hlen:=zda pre
  have push:∀ o:List (List (List Int)),o.length<=1000->bst1 (bstL pre) x=o ++ [x]->bst1 (bstL pre) x=o ++ [x]:=fun _ _ h=>h
  apply bY <;> intro h1
  ·have h1:0<(bstL pre).length:=by have:=dT h1; omega
   refine⟨⟨by omega,by omega⟩,⟨by omega,?_⟩⟩
   repeat first | apply sT | apply sF
   apply bY <;> intro h2
   ·have h2:x.length<((bstL pre).getD 0 []).length:=by have:(x.length:Int)<((bstL pre).getD 0 []).length:=dT h2; omega
    have e0:bst0 (bstL pre) x=[]:=by unfold bst0; rw[kG (by rw[jG h1,jG h2]; rfl)]
    have e1:bst1 (bstL pre) x=[] ++ [x]:=by unfold bst1; rw[e0]; rfl
    repeat first | apply sT | apply sF
    refine⟨⟨.inr rfl,by unfold maxLen; omega,by show (0+1) * 24<=140737488355328; omega⟩,?_⟩
    refine⟨trivial,rfl,⟨obO rfl,obR rfl ?_,trivial⟩,wq rfl⟩
    rw[zcr,e1]
    refine⟨rfl,.inr ⟨rfl,fun u hu w hw=>?_⟩⟩
    obtain rfl:w=0:=jak.1 hw
    obtain rfl:u=0:=jak.1 hu
    exact dE _
   have h2:¬ x.length<((bstL pre).getD 0 []).length:=by have:¬ (x.length:Int)<((bstL pre).getD 0 []).length:=dF h2; omega
   have e0:bst0 (bstL pre) x=bstL pre:=by unfold bst0; rw[kF (by rw[jH h2,jaY]; decide)]
   refine sNo (nz_no h1) ?_
   refine⟨⟨by omega,by omega⟩,⟨by omega,?_⟩⟩
   repeat first | apply sT | apply sF
   apply bY <;> intro h3
   ·have h3:x.length=((bstL pre).getD 0 []).length:=by
     have:(x.length:Int)=((bstL pre).getD 0 []).length:=by simpa using h3
     omega
    have e1:bst1 (bstL pre) x=bstL pre ++ [x]:=by unfold bst1; rw[e0,kG (by rw[jG h3,qF])]
    refine⟨⟨.inr rfl,by unfold maxLen; omega,by show ((bstL pre).length+1) * 24<=140737488355328; omega⟩,?_⟩
    refine⟨trivial,rfl,⟨obO rfl,obR rfl ?_,trivial⟩,wq rfl⟩
    rw[zcr,e1]
    exact zl1 (dE _)
   have h3:¬ x.length=((bstL pre).getD 0 []).length:=fun e=>by
    have:¬ (x.length:Int)=((bstL pre).getD 0 []).length:=by simpa using h3
    exact this (by rw[e])
   have e1:bst1 (bstL pre) x=bstL pre:=by unfold bst1; rw[e0,kF (by rw[jH h3,jH (by omega)]; decide)]
   refine⟨trivial,rfl,⟨obO rfl,obR rfl ?_,trivial⟩,wq rfl⟩
   rw[zcr,e1]
   exact dE _
  have h1:(bstL pre).length=0:=by have:=dF h1; omega
  have e0:bst0 (bstL pre) x=bstL pre:=by unfold bst0; rw[kF (by rw[jH (by omega),jal]; decide)]
  have e1:bst1 (bstL pre) x=bstL pre ++ [x]:=by unfold bst1; rw[e0,kG (by rw[jG h1,qL])]
  repeat first | apply sT | apply sF
  refine sYe (zoQ h1) ?_
  repeat first | apply sT | apply sF
  refine⟨⟨.inr rfl,by unfold maxLen; omega,by show ((bstL pre).length+1) * 24<=140737488355328; omega⟩,?_⟩
  refine⟨trivial,rfl,⟨obO rfl,obR rfl ?_,trivial⟩,wq rfl⟩
  rw[zcr,e1]
  exact zl1 (dE _)
 refine⟨⟨_,_,_,_,rfl,?_⟩,trivial⟩
 exact dE _
theorem zhz {o:List (List (List Int))} {p q:List (List Int)} (h:q∈bst0 o p):q∈o:=by
 unfold bst0 at h
 split at h
 ·cases h
 exact h
theorem bst1_mem {o:List (List (List Int))} {p q:List (List Int)} (h:q∈bst1 o p):q∈o \/ q=p:=by
 unfold bst1 at h
 split at h
 ·rcases kQ.1 h with h | h
  ·exact .inl (zhz h)
  exact .inr (kH.1 h)
 exact .inl (zhz h)
theorem bstF_mem {q:List (List Int)}:∀ {l o:List (List (List Int))},q∈l.foldl bst1 o->q∈o \/ q∈l
 | [],o,h=>.inl h
 | p :: l,o,h=>by
  rcases bstF_mem (l:=l) h with h | h
  ·rcases bst1_mem h with h | rfl
   ·exact .inl h
   exact .inr (wG ..)
  exact .inr (jaa _ h)
theorem zcs {q:List (List Int)} {l:List (List (List Int))} (h:q∈bstL l):q∈l:=(bstF_mem h).resolve_left fun h=>by cases h
abbrev bsts (d:Day):List (List (List Int)):=bstL (parts d)
def bsR (d:Day):List (List (List Int)) × Int:=if (bsts d).length=0 then ([],9) else (bsts d,0)
theorem zeQ {d:Day} (h:DayOk d):Spec PP 31 [d.v] [.d (lPP (bsR d).1),.d (.int .i64 (bsR d).2)]:=by
 refine sA Tryz.func31 ?_
 refine cR (zma h) rfl rfl ?_
 refine cR (j_all d (ksD d)) rfl rfl ?_
 refine cR (zoI 187 _ _ (parts d) (by have:=zce h; omega) (zlj h)) rfl rfl ?_
 unfold bsR
 apply bY <;> intro h1
 ·have h1:(bsts d).length=0:=by
   have:((bsts d).length:Int)=0:=by simpa using h1
   omega
  rw[kG h1]
  exact⟨⟨_,_,_,_,rfl,rfl,.inl rfl⟩,rtI rfl rfl,trivial⟩
 have h1:¬ (bsts d).length=0:=fun e=>by
  have:¬ ((bsts d).length:Int)=0:=by simpa using h1
  exact this (by rw[e]; rfl)
 rw[kF h1]
 exact⟨dE _,rtI rfl rfl,trivial⟩
def fewR (d:Day):Int × Int:=if dayE d≠0 then (0,dayE d) else if (bsts d).length=0 then (0,9) else (((bsts d).getD 0 []).length,0)
theorem zhi (d:Day) (hn:d.R.length<=1000000):Spec PP 16 [d.v] [N (fewR d).1,.d (.int .i64 (fewR d).2)]:=by
 refine sA Tryz.func16 ?_
 refine cP (zb4 d hn) rfl rfl ?_
 unfold fewR
 apply bY <;> intro h0
 ·rw[kG (by simpa using h0)]
  exact⟨rtI rfl rfl,rtI rfl rfl,trivial⟩
 have h0:dayE d=0:=by simpa using h0
 rw[kF (fun hh=>hh h0)]
 refine cR (zeQ (zcS h0)) rfl rfl ?_
 by_cases h1:(bsts d).length=0
 ·have e:bsR d=([],9):=by unfold bsR; rw[kG h1]
  rw[e,kG h1]
  refine sT ?_
  exact⟨rtI rfl rfl,rtI rfl rfl,trivial⟩
 have e:bsR d=(bsts d,0):=by unfold bsR; rw[kF h1]
 rw[e,kF h1]
 refine sF ?_
 refine⟨⟨rfl,by omega,by show (0:Int)<((bsts d).length:Int); omega⟩,?_⟩
 exact⟨rtI rfl rfl,rtI rfl rfl,trivial⟩
def samR (d:Day) (a b:Int):Vdt × Int:=if parE d a b≠0 then (⟨0,[],[]⟩,parE d a b) else if (bsts d).length=0 then (⟨0,[],[]⟩,9) else (vdtR (bsts d) a b,0)
theorem zoE {d:Day} {a b:Int} (h:parE d a b=0):DayOk d:=by
 unfold parE at h
 split at h
 ·rename_i h1; exact absurd h h1
 rename_i h1; exact zcS (jL h1)
theorem zhh (d:Day) (a b:Int) (hn:d.R.length<=1000000):Spec PP 12 [d.v,N a,N b] [(samR d a b).1.v,.d (.int .i64 (samR d a b).2)]:=by
 refine sA Tryz.func12 ?_
 refine cP (zo0 d a b hn) rfl rfl ?_
 unfold samR
 apply bY <;> intro h0
 ·rw[kG (by simpa using h0)]
  exact⟨rtC (a:=6) rfl rfl rfl rfl rfl rfl ⟨⟨rfl,rfl⟩,rfl,rfl,trivial⟩,rtI rfl rfl,trivial⟩
 have h0:parE d a b=0:=by simpa using h0
 have h:=zoE h0
 rw[kF (fun hh=>hh h0)]
 refine cR (zeQ h) rfl rfl ?_
 by_cases h1:(bsts d).length=0
 ·have e:bsR d=([],9):=by unfold bsR; rw[kG h1]
  rw[e,kG h1]
  refine sT ?_
  exact⟨rtC (a:=6) rfl rfl rfl rfl rfl rfl ⟨⟨rfl,rfl⟩,rfl,rfl,trivial⟩,rtI rfl rfl,trivial⟩
 have e:bsR d=(bsts d,0):=by unfold bsR; rw[kF h1]
 rw[e,kF h1]
 refine sF ?_
 refine cR (zfx (bsts d) a b (by have:(bsts d).length<=(parts d).length:=zda (parts d); have:=zce h; omega) fun p hp=>by
  have:=zcd h (zcs hp)
  exact⟨by omega,fun s hs=>by have:=this.2 s hs; omega⟩) rfl rfl ?_
 exact⟨rtC (a:=6) rfl rfl rfl rfl rfl rfl (zab _),rtI rfl rfl,trivial⟩
def fitT (T:Nat->List Place) (ks:List Nat) (m:Nat):Bool:=ks.contains m && decide (0<(T m).length)
def partT (T:Nat->List Place) (n:Nat) (ks:List Nat) (set:Nat):Bool:=(List.range n).all fun i=>(offS set i==set) || (offS set i==0) || fitT T ks (offS set i)
def growT (T:Nat->List Place) (n:Nat) (ks:List Nat) (set:Nat):Bool:=(List.range n).any fun i=>(onS set i != set) && fitT T ks (onS set i)
def keysT (T:Nat->List Place) (n:Nat):Nat->List Nat
 | 0=>[]
 | m+1=>if m≠0/\partT T n (keysT T n m) m=true then keysT T n m ++ [m] else keysT T n m
section
variable {d:Day} {T:Nat->List Place} (h:∀ m,celD d m=T m) {ids:List Int} (hi:sigL d.R=ids)
include h
theorem zjJ:fitK d=fitT T:=by
 funext ks m
 unfold fitK fitT
 rw[h]
include hi
theorem zl3 (ks:List Nat) (m:Nat):partK d ks m=partT T ids.length ks m:=by
 unfold partK partT parK
 rw[zjJ h,hi]
theorem zo6 (ks:List Nat) (m:Nat):growK d ks m=growT T ids.length ks m:=by
 unfold growK growT groK
 rw[zjJ h,hi]
theorem zhe:∀ m,keysD d m=keysT T ids.length m
 | 0=>rfl
 | m+1=>by
  unfold keysD keysT
  rw[zhe m,zl3 h hi]
theorem ziV:parts d=prt (fun s=>fitT T (keysT T ids.length (2 ^ ids.length)) (bitS ids s)) ids []:=by
 unfold parts ksD
 rw[zjJ h,zhe h hi,hi]
end
theorem p3:parts exD=[[[1,2],[3]],[[1],[2],[3]]]:=by
 rw[ziV cel3 sig3]
 decide +kernel
theorem p47:parts exD4=[[[1],[2],[3]]]:=by
 rw[ziV cel4 sig4]
 decide +kernel
theorem dE3:dayE exD=0:=by decide +kernel
theorem dE4:dayE exD4=0:=by decide +kernel
theorem zn8:fewR exD=(2,0):=by
 unfold fewR bsts
 rw[kF (fun hh=>hh dE3),p3]
 decide +kernel
theorem zn7:fewR exD4=(3,0):=by
 unfold fewR bsts
 rw[kF (fun hh=>hh dE4),p47]
 decide +kernel
theorem par3 (a b:Int) (h:partB [a,b] [1,2,3]=true) (hn:a≠b):parE exD a b=0:=by
 unfold parE
 rw[kF (fun hh=>hh dE3),show sigL exD.R=[1,2,3] from sig3,kF (by rw[h]; decide),kF hn]
theorem par4 (a b:Int) (h:partB [a,b] [1,2,3]=true) (hn:a≠b):parE exD4 a b=0:=by
 unfold parE
 rw[kF (fun hh=>hh dE4),show sigL exD4.R=[1,2,3] from sig4,kF (by rw[h]; decide),kF hn]
theorem zfd:(samR exD 1 2).1.Ans=2/\(samR exD 1 2).2=0:=by
 unfold samR bsts
 rw[kF (fun hh=>hh (par3 1 2 (by decide +kernel) (by decide))),p3]
 decide +kernel
theorem zfc:(samR exD 1 3).1.Ans=1/\(samR exD 1 3).2=0:=by
 unfold samR bsts
 rw[kF (fun hh=>hh (par3 1 3 (by decide +kernel) (by decide))),p3]
 decide +kernel
theorem zfb:(samR exD4 1 2).1.Ans=1/\(samR exD4 1 2).2=0:=by
 unfold samR bsts
 rw[kF (fun hh=>hh (par4 1 2 (by decide +kernel) (by decide))),p47]
 decide +kernel
theorem ask3 (ids:List Int) (h1:setB ids=true) (h2:partB ids [1,2,3]=true):askE exD ids=0:=by
 unfold askE
 rw[kF (fun hh=>hh dE3),kF (by rw[h1]; decide),show sigL exD.R=[1,2,3] from sig3,kF (by rw[h2]; decide)]
theorem zkp:celR exD [1,3]=([],0):=by
 unfold celR
 rw[kF (fun hh=>hh (ask3 [1,3] (by decide +kernel) (by decide +kernel))),c5]
theorem zik:(tabR exD).1.length=2/\(tabR exD).2.1.length=2/\(tabR exD).2.2=0:=by
 have e:tabR exD=(srtF (tabA (greB exD (ksD exD)) (fitF exD) (2 ^ (sigL exD.R).length)),srtM (tabA (leaB exD (ksD exD)) (misF exD) (2 ^ (sigL exD.R).length)),0):=by unfold tabR; rw[kF (fun hh=>hh dE3)]
 have g:∀ m,greB exD (ksD exD) m=(fitT T3 (keysT T3 3 8) m && !growT T3 3 (keysT T3 3 8) m):=fun m=>by
  unfold greB ksD
  rw[zjJ cel3,zo6 cel3 sig3,zhe cel3 sig3,show sigL exD.R=[1,2,3] from sig3]; rfl
 have l:∀ m,leaB exD (ksD exD) m=(!fitT T3 (keysT T3 3 8) m && partT T3 3 (keysT T3 3 8) m):=fun m=>by
  unfold leaB ksD
  rw[zjJ cel3,zl3 cel3 sig3,zhe cel3 sig3,show sigL exD.R=[1,2,3] from sig3]; rfl
 have hl:∀ {α:Type} (p:Nat->Bool) (f:Nat->α) (n:Nat),(tabA p f n).length=(tabA p id n).length:=fun p f n=>by rw[zb7 p f,kN]
 rw[e]
 refine⟨?_,?_,rfl⟩
 ·show (srtF _).length=2
  unfold srtF
  rw[qE,hl,show sigL exD.R=[1,2,3] from sig3,show greB exD (ksD exD)=_ from funext g]
  decide +kernel
 show (srtM _).length=2
 unfold srtM
 rw[qE,hl,show sigL exD.R=[1,2,3] from sig3,show leaB exD (ksD exD)=_ from funext l]
 decide +kernel
def SpecA (P:Program) (f:FuncId) (args:List V1) (obs':List (Nat × Ob)) (cs:List Cap):Prop:=
 Ent P f /\ ∀ (w:World) (ok:Nat->Prop) (vs:List Value),(∀ b,ok b->b<w.heap.size)->All2 (Rep1 w ok) args vs ->
  Calls P f vs.toArray w fun en w'=>∃ v γ',en = .returned v/\FrM w w' γ' []/\OwnS w' (okM w w' ok γ' γ' [] obs') γ' obs' /\
   (∀ i o b,look obs' i=some o->blk (γ' i)=some b->w.heap.size<=b)/\M w' (okM w w' ok γ' γ' [] obs') γ' (.aggc cs) v
def retA (a i:Nat) (obs':List (Nat × Ob)):KK:=fun e s=>match e with
 | .normal=>Weak s [(a,.box i 0)] obs'
 | .ret=>Weak s [(a,.box i 0)] obs'
 | _=>False
theorem zkC {P : Program} {T : TT} {E : Env} (hdr : E.dr = false) (hT : ∀ t i, T t = some i -> TI.of P t = some i) (hE : ∀ t, E.eq t = true -> EqFact P t) (hm : P.follows .mixedOrders = true)
  {f : FuncId} {fn : Func} {c : Code} (hf : P.funcs[f]? = some fn) (hb : fn.body = some c) (hn : (fn.name == "runtime.NumGoroutine") = false) (hN : codeN fn.ntmps c = true)
  {args : List V1} {obs' : List (Nat × Ob)} {cs : List Cap} (u i t : Nat) {ti : TI} (hts : fn.results.toList = [ResultVar.cell u t]) (ht : T t = some ti) (hld : loadE (St.of [(u, .box i 0)] obs') ti (.box i 0) fun z => z = .aggc cs) (hsz : args.length <= fn.ntmps) (hng : fn.ntmps <= G)
  (h : awp P T E c (St.of (argSlots 0 args) []) (retA u i obs')) : SpecA P f args obs' cs :=
 ⟨⟨fn, hf, hn, by rw [hb]; rfl⟩, fun w ok vs hok hm2 => zhX hT hE hm hf hb hN (cx := cx0 E.dr w ok fn.ntmps) id rfl rfl rfl (fun _ _ => id) (zeB hok hm2 hsz hng) h
  (fun x h1 h2 s h => by cases x <;> first | exact h1 rfl | exact h2 rfl | exact h) fun x s a w' hx hk hR _ => by
  have k2 : Weak s [(u, .box i 0)] obs' := by rcases hx with rfl | rfl <;> exact hk
  obtain ⟨γ', hg⟩ := hR.weak k2
  have hs0 := hg.slots u
  have hsl : (St.of [(u, .box i 0)] obs').sl u = .box i 0 := by
   show (look [(u, AV.box i 0)] u).getD .any = _
   simp only [look, zat]; rfl
  rw [hsl] at hs0
  have hl0 : ∀ b, ¬ LentB γ' [] b := fun b ⟨j, o, h1, _⟩ => by cases h1
  have hok2 : ∀ b, okOf (cx0 E.dr w ok fn.ntmps) (St.of [(u, .box i 0)] obs') γ' w' b -> okM w w' ok γ' γ' [] obs' b := fun b hb => by
   rcases hb with hb | ⟨h1, h2, h3⟩
   ·exact .inl hb
   exact .inr ⟨.inl (h1.elim id False.elim), h2, fun ⟨j, p, g1, g2⟩ => h3 j p g1 g2⟩
  obtain ⟨z, v, g1, g2, _, rfl⟩ := zb3 hg (hT t ti ht) hs0 hld
  obtain ⟨b, hb1, hx1⟩ := id hs0
  have hv : (do loadVar t (← asAddr (a.tmps.getD u undef))).run P w' = .ok v w' := by
   rw [hx1] at g1 ⊢
   have g3 : (loadVar t ⟨b, 0, none⟩).run P w' = .ok v w' := by simpa [Instr.loadAt, Instr.sureAddr] using g1
   simpa [asAddr] using g3
  have hrun := zaX (P := P) (fn := fn) (a := a) (w := w') (vs := [v]) (by
   rw [hts, jbf]
   simp only [Sem.run_bind] at hv ⊢
   rw [hv]
   simp)
  refine ⟨_, hrun, v, γ', rfl, ⟨hg.below.os, hg.below.tape, hg.below.output, hg.below.size, fun k hk _ => hg.below.block k hk id⟩, ⟨fun i o hi => ?_, hg.refs, hg.sep, fun i o b hi hb hok' => ?_⟩, fun i o b hi hb => (zax hg hi hb).1.elim id False.elim, ?_⟩
  ·exact (hg.objs i o hi).reO rfl (fun _ _ _ _ _ _ => rfl) (fun _ _ => trivial) hok2
  ·rcases hok' with h1 | ⟨_, _, h3⟩
   ·exact zfZ hg (zax hg hi hb).1 h1
   exact h3 ⟨i, o, hi, hb⟩
  exact M.keep (fun b hb => ⟨hok2 b hb, rfl⟩) (fun _ _ => rfl) g2⟩
section
variable {s:St} {o:Oper} {fo:Operand} {f:FuncId} {K:St->Prop} {E:Env}
theorem CallSt.obA (sl:List (Nat × AV)) (rest:List (Nat × Ob)) {obs':List (Nat × Ob)} {cs:List Cap} (hdr:E.dr=false) {args:Array Operand} {at':Array TypeId} (hop:o.op = .call { callee:=.value fo,args,argTypes:=at' }) {xs:List V1} (h:SpecA PP f xs obs' cs)
  (hw:Weak s sl rest) (hx:toV1c (St.of sl rest) fo args.toList=some (f,xs)) (hno:noOwn (St.of sl rest) args.toList=true) (hi:∀ j∈(AV.aggc cs).refs,(look obs' j).isSome=true) (hc:goodM sl [] obs' rest []=true)
  (hk:K ((St.of sl (obs'++rest)).putO o.dst (.aggc cs))):CallSt E PP s o fo args.toList K:=by
 obtain⟨ex,h1,h2⟩:=zaC hx
 rw[zae]
 refine .inr (.inr (.inl ⟨_,⟨fun cx a w hD hd hR=>?_⟩,hk⟩))
 obtain⟨γ,hg⟩:=hR.weak hw
 obtain⟨caps,hf,hcm⟩:=zaS h1 (ev_m hg fo).1
 have hm:=(zbg hg h2 ((zbr hg args.toList).append hcm)).2 (zcf hno (zbf h1))
 refine .enter (zaw hop hf h.1) ?_
 refine (h.2 w _ _ (fun b hb=>zai hg hb) hm).mono fun en w' ⟨v,γ2,e0,hfr,ho,hn,hres⟩=>?_
 have hl0:∀ (γ:Nat->Value) b,¬ LentB γ [] b:=fun γ b ⟨j,o,h1,_⟩=>by cases h1
 have hM0:∀ b,okM w w' (okOf cx (St.of sl ([]++rest)) γ w) γ2 γ2 [] obs' b ↔ okM w w' (okOf cx (St.of sl ([]++rest)) γ w) γ γ2 [] obs' b:=fun b=>
  ⟨fun hb=>hb.imp id fun hb=>⟨hb.1.imp id fun h=>absurd h (hl0 _ _),hb.2⟩,fun hb=>hb.imp id fun hb=>⟨hb.1.imp id fun h=>absurd h (hl0 _ _),hb.2⟩⟩
 obtain⟨γ',hg',hγ,hM⟩:=RG.lendM (obs:=[]) (pins:=[]) (γ2:=γ2) hg (fun e=>by have:=hD e; rw[hdr] at this; cases this) ⟨hfr.os,hfr.tape,hfr.output,hfr.size,fun k hk _=>hfr.block k hk (hl0 _ _)⟩ (fun i hi=>by cases hi)
  ⟨fun i o hi=>(ho.objs i o hi).reO rfl (fun _ _ _ _ _ _=>rfl) (fun _ _=>trivial) fun b hb=>(hM0 b).1 hb,ho.refs,ho.sep,fun i o b hi hb hk=>ho.out i o b hi hb ((hM0 b).2 hk)⟩ (fun i o b hi hb=>.inl (hn i o b hi hb)) hc
 refine⟨_,e0,γ',hg'.putO hd (M.keep (fun b hb=>⟨hM b ((hM0 b).1 hb),rfl⟩) (fun j hj=>hγ j (hi j hj)) hres) fun j hj=>?_⟩
 show (look (obs'++rest) j).isSome=true
 rw[zao]
 have:=hi j hj
 cases e:look obs' j with
 | some x=>rfl
 | none=>rw[e] at this; cases this
theorem CallSt.lendW (ids:List Nat) {args:Array Operand} {at':Array TypeId} (hop:o.op = .call { callee:=.value fo,args,argTypes:=at' }) {xs ys res res':List V1} (h:SpecG E.dr PP f ys res) (hx:toV1c (s.freezes ids) fo args.toList=some (f,xs)) (he:eqV1s xs ys)
  (hw:∀ w ok v,ResRep w ok res v->ResRep w (fun _=>False) res' v) (hk:K (s.putO o.dst (resAV res'))):CallSt E PP s o fo args.toList K:=by
 obtain⟨ex,h1,h2⟩:=zaC hx
 rw[zae]
 refine .inr (.inr (.inl ⟨_,⟨fun cx a w hD hd hR=>?_⟩,hk⟩))
 obtain⟨γ,hg⟩:=hR
 obtain⟨γ',h'⟩:=R.freezes ids ⟨γ,hg⟩
 obtain⟨cvs,hcx,hcm⟩:=zaS h1 (ev_m h' fo).1
 have hm:=(zbg h' h2 ((zbr h' args.toList).append hcm)).1
 refine .enter (zaw hop hcx h.1) ?_
 refine ((h.eqv he).2 w _ _ (fun b hb=>hb) hm).mono fun en w' ⟨v,e,hb,hres⟩=>⟨v,e,γ,?_⟩
 exact (hg.grow hb.1 fun e=>hb.2 (hD e)).putO hd (zaO (.inl fun b hb=>hb.elim) (hw _ _ _ hres)) (fun j hj=>by rw[zav] at hj; cases hj)
end
theorem zeA {w:World} {ok:Nat->Prop} {k n:Nat} {f g:Nat->Nat->D} {v:Value} (h:Rep w ok (.slc k n f) v):Rep w (fun _=>False) (.slc 0 n g) v:=by
 rcases h with⟨h,e⟩ | ⟨a,cap,e,h1,h2,_⟩
 ·exact .inl ⟨h,e⟩
 exact .inr ⟨a,cap,e,h1,h2,fun i _ j hj=>absurd hj (qD _)⟩
abbrev lenD (n:Nat):D:=.slc 0 n fun _ _=>.nil
theorem zgN {w:World} {ok:Nat->Prop} {x x':V1} {y:D} {v:Value} (hy:y.flat=true) (hx:∀ u,Rep1 w ok x u->Rep1 w (fun _=>False) x' u) (h:ResRep w ok [x,.d y] v):ResRep w (fun _=>False) [x',.d y] v:=by
 obtain⟨vs,e,h⟩:=h
 cases h with
 | cons a b=>
 cases b with
 | cons c d=>
 cases d
 exact⟨_,e,.cons (hx _ a) (.cons (Rep1.flat (x:=.d y) hy c) .nil)⟩
theorem zkD (ids : List Nat) {f : FuncId} {fn : Func} {c : Code} (hf : PP.funcs[f]? = some fn) (hb : fn.body = some c) (hq : ((fn.name == "runtime.NumGoroutine") || !(codeN fn.ntmps c && Nat.ble fn.ntmps 4294967296)) = false)
  {args : List V1} {obs' : List (Nat × Ob)} {cs : List Cap} (u i t : Nat) {ti : TI} (hts : fn.results.toList = [ResultVar.cell u t]) (ht : TTab t = some ti) (hld : loadE (St.of [(u, .box i 0)] obs') ti (.box i 0) fun z => z = .aggc cs) (hsz : Nat.ble args.length fn.ntmps = true)
  (h : awp PP TTab (EC ids) c (St.of (argSlots 0 args) []) (retA u i obs')) : SpecA PP f args obs' cs := by
 simp only [qH, qJ, jP] at hq
 exact zkC (E := EC ids) rfl hT hE hM hf hb hq.1 hq.2.1 u i t hts ht hld (jD hsz) (jD hq.2.2) h
abbrev exP:List D:=[I 9,I 9,lI exS.c.M.G,lT exS.c.T,lZ exS.c.Z,lC exS.k.C,lK exS.k.K,I 0,I 60]
abbrev exOb:List (Nat × Ob):=[(0,.box (exP.map AV.d ++ [.own 25])),(25,.row 90 8 3 (rowRp exR))]
abbrev exCs:List Cap:=exP.map Cap.dat ++ [.own 25]
theorem zig:SpecA PP 24 [] exOb exCs:=by
 refine zkD [6] Tryz.func24 rfl (by kernel_rfl) 0 0 37 rfl rfl rfl rfl ?_
 refine⟨⟨by decide,rfl,by decide,by decide⟩,?_⟩
 refine kAt [(0,.box 0 0),(1,.box 1 0)] [(0,.box (List.replicate 10 .any)),(1,.box (exP.map AV.d ++ [.own 25])),(25,.row 90 8 3 (rowRp exR))] ⟨rfl,⟨zby rfl rfl,?_,obR rfl ⟨rfl,.inr ⟨rfl,fun i hi j hj=>?_⟩⟩,trivial⟩,wq rfl⟩ ?_
 ·refine⟨⟨rfl,rfl⟩,⟨rfl,rfl⟩,⟨rfl,.inr ⟨rfl,fun i hi j hj=>?_⟩⟩,⟨rfl,_,_,_,_,rfl,rfl,.inr ⟨rfl,fun i hi j hj=>?_⟩⟩,rfl,⟨rfl,_,_,_,_,rfl,rfl,.inr ⟨rfl,fun i hi j hj=>?_⟩⟩,rfl,⟨rfl,rfl⟩,⟨rfl,rfl⟩,rfl,trivial⟩
  ·have hj:j<1:=hj
   obtain rfl:j=0:=by omega
   show D.eqv (I 0) (I ((List.replicate 81 (0:Int)).getD i 0))
   have:(List.replicate 81 (0:Int)).getD i 0=0:=by
    rw[hX,List.getElem?_replicate]
    split <;> rfl
   rw[this]
   exact⟨rfl,rfl⟩
  ·have hi:i<2:=hi
   have hj:j<4:=hj
   obtain rfl | rfl:i=0 \/ i=1:=by omega
   all_goals match j,hj with
   | 0,_=>exact⟨rfl,rfl⟩
   | 1,_=>exact⟨rfl,rfl⟩
   | 2,_=>exact⟨rfl,rfl⟩
   | 3,_=>exact⟨rfl,rfl⟩
  have hi:i<2:=hi
  have hj:j<8:=hj
  obtain rfl | rfl:i=0 \/ i=1:=by omega
  all_goals match j,hj with
  | 0,_=>exact⟨rfl,rfl⟩
  | 1,_=>exact⟨rfl,rfl⟩
  | 2,_=>exact⟨rfl,rfl⟩
  | 3,_=>exact⟨rfl,rfl⟩
  | 4,_=>exact⟨rfl,rfl⟩
  | 5,_=>exact⟨rfl,rfl⟩
  | 6,_=>exact⟨rfl,rfl⟩
  | 7,_=>exact⟨rfl,rfl⟩
 ·have hi:i<3:=hi
  have hj:j<8:=hj
  obtain rfl | rfl | rfl:i=0 \/ i=1 \/ i=2:=by omega
  all_goals match j,hj with
  | 0,_=>exact⟨rfl,rfl⟩
  | 1,_=>exact⟨rfl,rfl⟩
  | 2,_=>exact⟨rfl,rfl⟩
  | 3,_=>exact⟨rfl,rfl⟩
  | 4,_=>exact⟨rfl,rfl⟩
  | 5,_=>exact⟨rfl,rfl⟩
  | 6,_=>exact⟨rfl,rfl⟩
  | 7,_=>exact⟨rfl,rfl⟩
 exact⟨rfl,⟨obX rfl,obR rfl (dE _),trivial⟩,wq rfl⟩
theorem zk3 (s:Svc) (P:Nat->Bool) (hv:validM s.c.M=true):SpecO PP 130 [s.v,.agg (bD P)] 60 2 (plsL s.c.M P).length (rowP (plsL s.c.M P)):=by
 have hl:=zcY hv
 refine zcZ Tryz.func130 rfl (by kernel_rfl) rfl ?_
 refine cR (zeL s.c.M) rfl rfl ?_
 refine CodeOb.rangeAt (zc9 s.c.M hv) rfl (fun _=>rfl) (by decide) [(2,.box 2 0),(3,.box 3 0),(5,.box 5 0)] [(5,0)] (fun pre=>obPls s P pre.length) rfl (fun _=>rfl) ?_ (Iv:=fun _=>True) trivial (fun v pre x hx _=>?_) (fun _=>?_)
 ·exact⟨rfl,⟨obX rfl,obX rfl,obN rfl rfl rfl,obZ rfl rfl,trivial⟩,wq rfl⟩
 ·obtain⟨rfl,hk⟩:=zgS hx
  have hn:=zb8 hv (k:=pre.length)
  have hp:=znf P pre.length (by omega)
  rw[<- hn] at hp
  have hlen:=zg5 s.c.M P pre.length
  refine cP hp rfl rfl ?_
  apply bY <;> intro h1
  ·refine⟨⟨.inr rfl,by unfold maxLen; omega,by show ((plsK s.c.M P pre.length).length+1) * 16<=140737488355328; omega⟩,?_⟩
   refine⟨trivial,rfl,⟨obX rfl,obX rfl,obO rfl,obR rfl ?_,trivial⟩,wq rfl⟩
   rw[jR]
   show D.eqv _ (.slc 2 (plsK s.c.M P (pre.length+1)).length (rowP (plsK s.c.M P (pre.length+1))))
   rw[zg4 h1]
   exact zou (at2 rfl rfl)
  refine⟨trivial,rfl,⟨obX rfl,obX rfl,obO rfl,obR rfl ?_,trivial⟩,wq rfl⟩
  rw[jR]
  show D.eqv _ (.slc 2 (plsK s.c.M P (pre.length+1)).length (rowP (plsK s.c.M P (pre.length+1))))
  rw[ziQ h1]; exact dE _
 rw[zcy]
 exact⟨rfl,rfl,rfl,fun i hi j hj=>dE _⟩
theorem zhq (l:List Place) (m j:Nat):(rowP l m j).flat=true:=by
 show ((l.getD m default).at j).flat=true
 unfold Place.at
 split <;> rfl
theorem SpecTO.eqv {dr:Bool} {P:Program} {f:FuncId} {xs ys:List V1} {e k n:Nat} {g:Nat->Nat->D} {res:List V1} (h:SpecTO dr P f ys e k n g res) (he:eqV1s xs ys):SpecTO dr P f xs e k n g res:=
 ⟨h.1,fun w ok vs hok hv=>h.2 w ok vs hok (za6 he hv)⟩
def retTO (t0 i:Nat) (ts:List Nat) (res:List V1) (e k n:Nat) (g:Nat->Nat->D):KK:=fun x s=>match x with
 | .normal=>Weak s ((t0,.own i) :: retSl ts res) [(i,.row e k n g)]
 | .ret=>Weak s ((t0,.own i) :: retSl ts res) [(i,.row e k n g)]
 | _=>False
theorem ziw {P : Program} {T : TT} {E : Env} (hT : ∀ t i, T t = some i -> TI.of P t = some i) (hE : ∀ t, E.eq t = true -> EqFact P t) (hm : P.follows .mixedOrders = true)
  {f : FuncId} {fn : Func} {c : Code} (hf : P.funcs[f]? = some fn) (hb : fn.body = some c) (hn : (fn.name == "runtime.NumGoroutine") = false) (hN : codeN fn.ntmps c = true)
  {args : List V1} (t0 i t1 : Nat) (ts : List Nat) (hts : fn.results.toList = (t0 :: t1 :: ts).map ResultVar.tmp) {res : List V1} (hlr : (t1 :: ts).length = res.length) (hpn : (t0 :: t1 :: ts).Nodup) (hfl : res.all V1.flat = true)
  {e k n : Nat} {g : Nat -> Nat -> D} (hsz : args.length <= fn.ntmps) (hng : fn.ntmps <= G) (h : awp P T E c (St.of (argSlots 0 args) []) (retTO t0 i (t1 :: ts) res e k n g)) : SpecTO E.dr P f args e k n g res :=
 ⟨⟨fn, hf, hn, by rw [hb]; rfl⟩, fun w ok vs hok hm2 => zhX hT hE hm hf hb hN (cx := cx0 E.dr w ok fn.ntmps) id rfl rfl rfl (fun _ _ => id) (zeB hok hm2 hsz hng) h
  (fun x h1 h2 s h => by cases x <;> first | exact h1 rfl | exact h2 rfl | exact h) fun x s a w' hx hk hR _ => by
  have k2 : Weak s ((t0, .own i) :: retSl (t1 :: ts) res) [(i, .row e k n g)] := by rcases hx with rfl | rfl <;> exact hk
  obtain ⟨γ', hg⟩ := hR.weak k2
  have hsl : ∀ t v, look ((t0, AV.own i) :: retSl (t1 :: ts) res) t = some v -> (St.of ((t0, .own i) :: retSl (t1 :: ts) res) [(i, .row e k n g)]).sl t = v := fun t v e => by
   show (look ((t0, AV.own i) :: retSl (t1 :: ts) res) t).getD .any = _
   rw [e]; rfl
  have hs0 := hg.slots t0
  rw [hsl t0 (.own i) (by simp only [look, zat]; rfl)] at hs0
  have hval : a.tmps.getD t0 undef = γ' i := hs0
  have ho : (St.of ((t0, .own i) :: retSl (t1 :: ts) res) [(i, .row e k n g)]).ob i = some (.row e k n g) := by
   show look [(i, Ob.row e k n g)] i = _
   simp only [look, zat]; rfl
  obtain ⟨xs, h1, h0, h2, h3⟩ := hg.objs i _ ho
  have hnd : (([(t0, AV.own i)] ++ retSl (t1 :: ts) res).map Prod.fst).Nodup := by rw [jT, zcm hlr]; exact hpn
  have hres := zez hg hlr fun t x hx => hsl t _ (zbz (l := [(t0, AV.own i)]) hx hnd)
  have hrun := zaX (P := P) (fn := fn) (a := a) (w := w') (vs := (t0 :: t1 :: ts).map fun t => a.tmps.getD t undef) (by rw [hts]; exact zey _)
  have h1' : w'.ownsRow w.heap.size e k (γ' i) n xs := ⟨h1.1, by
   rcases h1.2 with h4 | ⟨g', cap, cur, h4, h5, h6⟩
   ·exact .inl h4
   exact .inr ⟨g', cap, cur, h4, (h0 g' (by rw [h4]; rfl)).elim id False.elim, h6⟩⟩
  refine ⟨_, hrun, γ' i, (t1 :: ts).map (fun t => a.tmps.getD t undef), ?_, ⟨bel0 hg.below, hg.below.drawn⟩, ⟨xs, h1', h2, fun m hm j hj => ?_⟩, fun ok' => ?_⟩
  ·rw [<- hval]; rfl
  ·obtain ⟨u, hu, hr⟩ := h3 m hm j hj
   exact ⟨u, hu, Rep.keep (fun b hb => ⟨hb.imp id fun hb => ⟨hb.1.elim id False.elim, hb.2.1, hb.2.2 i _ ho⟩, rfl⟩) hr⟩
  exact hres.imp fun x u hx hr => Rep1.flat (jC.1 hfl x hx) hr⟩
theorem zfg {f : FuncId} {fn : Func} {c : Code} (hf : PP.funcs[f]? = some fn) (hb : fn.body = some c) (hq : ((fn.name == "runtime.NumGoroutine") || !(codeN fn.ntmps c && Nat.ble fn.ntmps 4294967296)) = false)
  {args : List V1} (t0 i t1 : Nat) (ts : List Nat) {res : List V1} (hts : fn.results.toList = (t0 :: t1 :: ts).map ResultVar.tmp) (hlr : (t1 :: ts).length = res.length) (hpn : (t0 :: t1 :: ts).Nodup) (hfl : res.all V1.flat = true) {e k n : Nat} {g : Nat -> Nat -> D} (hsz : Nat.ble args.length fn.ntmps = true)
  (h : awp PP TTab (EC []) c (St.of (argSlots 0 args) []) (retTO t0 i (t1 :: ts) res e k n g)) : SpecTO false PP f args e k n g res := by
 simp only [qH, qJ, jP] at hq
 exact ziw (E := EC []) hT hE hM hf hb hq.1 hq.2.1 t0 i t1 ts hts hlr hpn hfl (jD hsz) (jD hq.2.2) h
section
variable {s:St} {o:Oper} {fo:Operand} {args:List Operand} {f:FuncId} {K:St->Prop} {E:Env}
theorem CallSt.ownT {xs ys res:List V1} {d e k n:Nat} {g:Nat->Nat->D} (h:SpecTO E.dr PP f ys e k n g res) (hx:toV1c s fo args=some (f,xs)) (he:eqV1s xs ys) (hd:o.dst=some d) (hg:∀ m j,m<n->j<k->(g m j).flat=true)
  (hk:K (Go.Pg.mk s d (.row e k n g) (.tupr d res))):CallSt E PP s o fo args K:=by
 obtain⟨ex,h1,h2⟩:=zaC hx
 rw[zae]; exact .inr (.inl ⟨[],f,ex,d,h1,hd,by rw[zan]; exact⟨xs,e,k,n,g,some res,h2,h.eqv he,hg,hk⟩⟩)
end
theorem zjq (s:Svc) (b:Brn) (l:List Rpt) (h0:givE s b l=0):SpecTO false PP 87 [s.v,b.v,.d (lR l)] 60 2 (plcR s b l).1.length (rowP (plcR s b l).1) [.d (.int .i64 0)]:=by
 have e:allR s b l=(l.map (alwP s b),0):=by unfold allR; rw[kF (fun hh=>hh h0)]
 have e1:plcR s b l=(plsL s.c.M (metP (l.map (alwP s b))),0):=by unfold plcR; rw[kF (fun hh=>hh h0)]
 have ok:=zhm h0
 have hn:=ok.n
 rw[e1]
 refine zfg Tryz.func87 rfl (by kernel_rfl) 6 23 7 [] rfl rfl (by decide) rfl rfl ?_
 have ha:=znj s b l
 rw[e] at ha
 refine cR ha rfl rfl ?_
 refine sF ?_
 refine oL [0,1,2,6003,4,5] (fNo ?_)
 refine oP (zl7 (l.map (alwP s b)) (by rw[kN]; omega)) rfl rfl ?_
 refine⟨⟨_,_,_,_,_,_,rfl,rfl,rfl,rfl,?_⟩⟩
 rw[zan]
 refine⟨_,_,_,_,_,none,rfl,zk3 s (metP (l.map (alwP s b))) ok.s.c.m,fun m j _ _=>zhq _ m j,?_⟩
 exact⟨rfl,⟨obR rfl (dE _),trivial⟩,wq rfl⟩
theorem zjt {d:Day} (h:DayOk d) (ids:List Int) (hi:ids.length<=1000000) (h1:(brnD d ids).To - (brnD d ids).From<=d.Long) (h0:givE d.s (brnD d ids) (lstD d ids)=0) :
  SpecO PP 45 [d.v,.d (lI ids)] 60 2 (plsD d ids).length (rowP (plsD d ids)):=by
 have hn:=h.n
 have e:plsD d ids=(plcR d.s (brnD d ids) (lstD d ids)).1:=by unfold plsD; rw[kG h1]
 rw[e]
 refine zcZ Tryz.func45 rfl (by kernel_rfl) rfl ?_
 refine cP (zjw d ids (by omega) hi) rfl rfl ?_
 refine cP (zgo d (brnD d ids) (zgC h ids)) rfl rfl ?_
 apply bY <;> intro h2
 ·have h2:¬ (brnD d ids).To - (brnD d ids).From<=d.Long:=by simpa using h2
  exact absurd h1 h2
 refine oL [0,1,2,3,4,5,6006,7,8,9,10,11] (fNo ?_)
 refine oRo (zjv d ids (by omega) hi) rfl rfl ?_
 refine⟨⟨_,_,_,_,_,_,rfl,rfl,rfl,rfl,?_⟩⟩
 rw[zan]
 refine⟨_,_,_,_,_,some _,rfl,zjq d.s (brnD d ids) (lstD d ids) h0,fun m j _ _=>zhq _ m j,?_⟩
 exact⟨rfl,rfl,rfl,fun i hi j hj=>dE _⟩
theorem znt (d:Day) (ids:List Int) (hn:d.R.length<=1000000) (hi:ids.length<=1000000) (h0:askE d ids=0) (h1:(brnD d ids).To - (brnD d ids).From<=d.Long) (hg:givE d.s (brnD d ids) (lstD d ids)=0) :
  SpecTO false PP 25 [d.v,.d (lI ids)] 60 2 (plsD d ids).length (rowP (plsD d ids)) [.d (.int .i64 0)]:=by
 refine zfg Tryz.func25 rfl (by kernel_rfl) 4 15 5 [] rfl rfl (by decide) rfl rfl ?_
 have ha:=zjx d ids hn hi
 rw[h0] at ha
 refine cP ha rfl rfl ?_
 refine sF ?_
 refine CallSt.own (zjt (zmq h0) ids hi h1 hg) rfl rfl (fun m j _ _=>zhq _ m j) ?_
 exact⟨rfl,⟨obR rfl (dE _),trivial⟩,wq rfl⟩
theorem giv12:givE exS (brnD exD [1,2]) (lstD exD [1,2])=0:=by
 have e1:brnD exD [1,2]=⟨100,110,0⟩:=by decide +kernel
 have e2:lstD exD [1,2]=[xq1,xq2]:=by decide +kernel
 rw[e1,e2]
 refine zo7 _ (by decide +kernel) _ (by decide) (fun r hr=>?_) (by decide +kernel)
 rcases kX.1 hr with rfl | hr
 ·exact rx1
 rcases kX.1 hr with rfl | hr
 ·exact rx2
 cases hr
theorem zpo:SpecTO false PP 25 [exD.v,.d (lI [1,2])] 60 2 1 (rowP [⟨4,4⟩]) [.d (.int .i64 0)]:=by
 have h:=znt exD [1,2] (by decide) (by decide) (ask3 [1,2] (by decide +kernel) (by decide +kernel)) (by decide +kernel) giv12
 rw[c3] at h
 exact h
theorem zoA:Spec PP 26 [exD.v,.d (lI [1,3])] [B false,.d (.int .i64 0)]:=by
 have h:=zhU exD [1,3] (by decide) (by decide)
 rw[zkp] at h
 exact h
theorem few3:Spec PP 16 [exD.v] [N 2,.d (.int .i64 0)]:=by
 have h:=zhi exD (by decide)
 rw[zn8] at h
 exact h
theorem few4:Spec PP 16 [exD4.v] [N 3,.d (.int .i64 0)]:=by
 have h:=zhi exD4 (by decide)
 rw[zn7] at h
 exact h
abbrev vdL (a:Int) (m n:Nat):V1:=.agg [I a,lenD m,lenD n]
theorem zih {w:World} {ok:Nat->Prop} (x:Vdt) {a:Int} (ha:x.Ans=a):∀ u,Rep1 w ok x.v u->Rep1 w (fun _=>False) (vdL a x.T.length x.A.length) u:=fun u ⟨us,e,h⟩=>by
 subst ha
 refine⟨us,e,?_⟩
 cases h with
 | cons h1 h=>
 cases h with
 | cons h2 h=>
 cases h with
 | cons h3 h=>
 cases h
 exact .cons (Rep.flat rfl h1) (.cons (zeA h2) (.cons (zeA h3) .nil))
theorem zod {w:World} {ok:Nat->Prop} {l:List Fit} {m:List Mis}:∀ u,Rep1 w ok (.agg [lFt l,lMs m]) u->Rep1 w (fun _=>False) (.agg [lenD l.length,lenD m.length]) u:=fun u ⟨us,e,h⟩=>by
 refine⟨us,e,?_⟩
 cases h with
 | cons h1 h=>
 cases h with
 | cons h2 h=>
 cases h
 exact .cons (zeA h1) (.cons (zeA h2) .nil)
theorem zjr {f:Nat->Nat->D} {a b:Int} (h0:D.eqv (f 0 0) (I a)) (h1:D.eqv (f 1 0) (I b)):D.eqv (.slc 1 2 f) (lI [a,b]):=⟨rfl,.inr ⟨rfl,fun i hi j hj=>by
 match i,hi,j,hj with
 | 0,_,0,_=>exact h0
 | 1,_,0,_=>exact h1⟩⟩
theorem zol:Spec PP 12 [exD.v,N 1,N 2] [(samR exD 1 2).1.v,.d (.int .i64 0)]:=by
 have h:=zhh exD 1 2 (by decide)
 rw[zfd.2] at h
 exact h
theorem zok:Spec PP 12 [exD.v,N 1,N 3] [(samR exD 1 3).1.v,.d (.int .i64 0)]:=by
 have h:=zhh exD 1 3 (by decide)
 rw[zfc.2] at h
 exact h
theorem zmM:Spec PP 12 [exD4.v,N 1,N 2] [(samR exD4 1 2).1.v,.d (.int .i64 0)]:=by
 have h:=zhh exD4 1 2 (by decide)
 rw[zfb.2] at h
 exact h
theorem tab3:Spec PP 27 [exD.v] [.agg [lFt (tabR exD).1,lMs (tabR exD).2.1],.d (.int .i64 0)]:=by
 have h:=zns exD (by decide)
 rw[zik.2.2] at h
 exact h
theorem zmF {w:World} {ok:Nat->Prop}:∀ u,Rep1 w ok (.agg [lFt (tabR exD).1,lMs (tabR exD).2.1]) u->Rep1 w (fun _=>False) (.agg [lenD 2,lenD 2]) u:=fun u h=>by
 have:=zod u h
 rw[zik.1,zik.2.1] at this
 exact this
theorem zow {n:Nat} {g:Nat->Nat->D} (hn:n=4) (hg:∀ j,j<8->D.eqv (g 0 j) (xq4.at j)):D.eqv (.slc 8 n (appRow 3 (rowRp exR) g)) (lR exD4.R):=by
 subst hn
 refine⟨rfl,.inr ⟨rfl,fun i hi j hj=>?_⟩⟩
 match i,hi with
 | 0,_=>exact dE (xq1.at j)
 | 1,_=>exact dE (xq2.at j)
 | 2,_=>exact dE (xq3.at j)
 | 3,_=>exact hg j hj
theorem x4:∀ j,j<8->D.eqv (rowOf 8 xq4.ds 0 j) (xq4.at j):=fun j hj=>by
 match j,hj with
 | 0,_=>exact⟨rfl,rfl⟩
 | 1,_=>exact⟨rfl,rfl⟩
 | 2,_=>exact⟨rfl,rfl⟩
 | 3,_=>exact⟨rfl,rfl⟩
 | 4,_=>exact⟨rfl,rfl⟩
 | 5,_=>exact⟨rfl,rfl⟩
 | 6,_=>exact⟨rfl,rfl⟩
 | 7,_=>exact⟨rfl,rfl⟩
theorem zmy:Spec PP 6 [] [B true]:=by
 refine sA Tryz.func6 ?_
 refine CallSt.obA [(0,.d (.bool false))] [] rfl rfl zig ⟨rfl,trivial,wq rfl⟩ rfl rfl (fun j hj=>by
  have hj:j ∈ [25]:=hj
  obtain rfl:=kH.1 hj
  rfl) rfl ?_
 refine CallSt.ownT zpo rfl ⟨zab _,zjr ⟨rfl,rfl⟩ ⟨rfl,rfl⟩,trivial⟩ rfl (fun m j _ _=>zhq _ m j) ?_
 refine pEq zoA rfl ⟨zab _,zjr ⟨rfl,rfl⟩ ⟨rfl,rfl⟩,trivial⟩ rfl ?_
 refine pEq few3 rfl ⟨zab _,trivial⟩ rfl ?_
 refine CallSt.lendW [] rfl zol rfl ⟨zab _,⟨rfl,rfl⟩,⟨rfl,rfl⟩,trivial⟩ (fun w ok v h=>zgN (y:=.int .i64 0) rfl (zih _ zfd.1) h) ?_
 refine CallSt.lendW [] rfl zok rfl ⟨zab _,⟨rfl,rfl⟩,⟨rfl,rfl⟩,trivial⟩ (fun w ok v h=>zgN (y:=.int .i64 0) rfl (zih _ zfc.1) h) ?_
 refine CallSt.lendW [] rfl tab3 rfl ⟨zab _,trivial⟩ (fun w ok v h=>zgN (y:=.int .i64 0) rfl zmF h) ?_
 repeat first | apply sT | apply sF
 refine⟨⟨.inr rfl,by unfold maxLen; omega,by show (3+1) * 64<=140737488355328; omega⟩,?_⟩
 refine CallSt.lendW [] rfl zmM rfl ⟨⟨dE _,dE _,dE _,dE _,dE _,dE _,dE _,dE _,dE _,?_,trivial⟩,⟨rfl,rfl⟩,⟨rfl,rfl⟩,trivial⟩ (fun w ok v h=>zgN (y:=.int .i64 0) rfl (zih _ zfb.1) h) ?_
 ·exact zow rfl x4
 refine pEq few4 rfl ⟨⟨dE _,dE _,dE _,dE _,dE _,dE _,dE _,dE _,dE _,?_,trivial⟩,trivial⟩ rfl ?_
 ·exact zow rfl x4
 refine⟨⟨by decide,by decide⟩,?_⟩
 refine⟨by decide,?_⟩
 repeat first | apply sT | apply sF
 exact r1B rfl rfl
end Go.Pg
namespace Go.Pg
open Go.Proofs Go.RowKit Go.MapKept
end Go.Pg
namespace Go.Pg
open Go.Proofs Go.RowKit Go.Sort Go.Shelf
theorem zeI (ids:List Int) (m:Nat):(memb ids m).Sublist ids:=by
 have e:(List.range ids.length).map (ids.getD · 0)=ids:=by
  apply List.ext_getElem (by simp)
  intro i h1 h2
  rw[List.getElem_map,List.getElem_range,hX,hZ h2]; rfl
 have:(memb ids m).Sublist ((List.range ids.length).map (ids.getD · 0)):=List.Sublist.map _ (List.filter_sublist ..)
 rwa [e] at this
theorem DayOk.lt {d:Day} (h:DayOk d):(sigL d.R).Pairwise (· < ·):=by
 refine List.Pairwise.imp₂ (fun a b h1 h2=>?_) (zgT d.R) h.nod
 have h1:=kO h1
 have h2:a≠b:=h2
 omega
theorem zmp {n m i:Nat} (hm:m<2 ^ n) (h:m.testBit i=true):i<n:=by
 rcases jau i n with h1 | h1
 ·exact h1
 rw[jaG (jN hm (jaO (by decide) h1))] at h; cases h
theorem zka (m i j:Nat):(onS m i).testBit j=(m.testBit j || decide (i=j)):=by
 unfold onS
 rw[Nat.testBit_or,Nat.testBit_two_pow]
theorem zm3 {m:Nat} (h:0<m):∃ i,m.testBit i=true:=by
 refine jL fun hc=>?_
 have:m=0:=by
  apply Nat.eq_of_testBit_eq
  intro i
  rw[Nat.zero_testBit]
  cases e:m.testBit i with
  | false=>rfl
  | true=>exact absurd ⟨i,e⟩ hc
 omega
theorem znd {ids:List Int} {m:Nat} (h0:0<m) (hm:m<2 ^ ids.length):memb ids m ≠ []:=by
 obtain⟨i,hi⟩:=zm3 h0
 have hl:=zmp hm hi
 intro e
 have:ids.getD i 0∈memb ids m:=kJ.2 ⟨i,jap.2 ⟨kK.2 hl,hi⟩,rfl⟩
 rw[e] at this
 cases this
theorem zdn {ids:List Int} {m j:Nat} (hm:m<2 ^ j):∀ n,j<=n->membA ids m n=membA ids m j
 | 0,h=>by obtain rfl:j=0:=Nat.le_zero.1 h; rfl
 | n+1,h=>by
  by_cases e:j=n+1
  ·rw[e]
  have:m.testBit n=false:=by
   cases q:m.testBit n with
   | false=>rfl
   | true=>have:=zmp hm q; omega
  rw[zc5 this]
  exact zdn hm n (by omega)
theorem zl4 {x i:Nat} (h:x<2 ^ i):x+2 ^ i=onS x i:=by
 have:=Nat.two_pow_add_eq_or_of_lt h 1
 unfold onS
 rw[Nat.mul_one] at this
 rw[Nat.add_comm,this,Nat.or_comm]
theorem zd7 {ids:List Int} {a b:Nat}:∀ {n:Nat},(∀ j,j<n->a.testBit j=b.testBit j)->membA ids a n=membA ids b n
 | 0,_=>rfl
 | n+1,h=>by
  have ih:=zd7 (ids:=ids) (n:=n) fun j hj=>h j (by omega)
  have hn:=h n (by omega)
  cases e:a.testBit n with
  | true=>rw[zch e,zch (by rw[<- hn]; exact e),ih]
  | false=>rw[zc5 e,zc5 (by rw[<- hn]; exact e),ih]
theorem zhb {ids:List Int} {x i:Nat} (hx:x<2 ^ i) (hi:i<ids.length):memb ids (x+2 ^ i)=memb ids x ++ [ids.getD i 0]:=by
 have h1:x+2 ^ i<2 ^ (i+1):=by rw[Nat.pow_succ]; omega
 unfold memb
 rw[zdn h1 ids.length hi,zdn hx ids.length (by omega),zl4 hx,zch (by rw[zka]; simp)]
 congr 1
 refine zd7 fun j hj=>?_
 rw[zka,jH (by omega),jax]
theorem zjc (ids:List Int):memb ids 0=[]:=by
 unfold memb membA
 rw[List.filter_eq_nil_iff.2 (fun i _=>by simp)]
 rfl
theorem zeT {l:List Nat} {f:Nat->List Int} {q:Nat} (h:q<l.length):(l.map f).getD q []=f (l.getD q 0):=by
 rw[hX,jU,hX,hZ h]; rfl
theorem snocInd {α:Type} {motive:List α->Prop} (h0:motive []) (h1:∀ l x,motive l->motive (l ++ [x])) (l:List α):motive l:=by
 rw[<- List.reverse_reverse l]
 induction l.reverse with
 | nil=>exact h0
 | cons x r ih=>rw[List.reverse_cons]; exact h1 _ _ ih
theorem zj9 {ids:List Int} {ix:List Nat} (hr:Rg ix) (hl:ix.length=ids.length):∀ k i,i+k=ids.length->bld (ids.drop i) ((bitK ix i).map (memb ids)) (ix.drop i)=setX ids ix
 | 0,i,h=>by
  have e:i=ids.length:=by omega
  subst e
  rw[ja2,<- hl,ja2]
  rfl
 | k+1,i,h=>by
  have hi:i<ids.length:=by omega
  have hi2:i<ix.length:=by omega
  have d1:ids.drop i=ids.getD i 0 :: ids.drop (i+1):=by rw[kU hi,hX,hZ hi]; rfl
  have d2:ix.drop i=ix.getD i 0 :: ix.drop (i+1):=by rw[kU hi2,hX,hZ hi2]; rfl
  have hk:=hr i hi2
  have hlen:=zcu hr i (by omega)
  rw[d1,d2,<- zj9 hr hl k (i+1) (by omega),zct]
  show bld (ids.drop (i+1)) (if _ then _ else _) (ix.drop (i+1))=_
  congr 1
  rw[kN]
  unfold bit1
  by_cases h1:ix.getD i 0<(bitK ix i).length
  ·rw[kG h1,kG h1,List.map_set]
   have hx:(bitK ix i).getD (ix.getD i 0) 0<2 ^ i:=(zbI ix i _ (by rw[hX,hZ h1]; exact kR h1)).2
   rw[zhb hx hi]
   congr 2
   exact zeT h1
  rw[kF h1,kF h1,jT]
  have:=zhb (ids:=ids) (x:=0) (Nat.two_pow_pos i) hi
  rw[qG,zjc] at this
  show _=_ ++ [memb ids (2 ^ i)]
  rw[this]; rfl
theorem zmx (a b:List Int) (hn:a.length<=1000000):Spec PP 11 [.d (lI a),.d (lI b)] [B (decide (a=b))]:=by
 refine sA Tryz.func11 ?_
 apply bY <;> intro h0
 ·have h0:¬ a.length=b.length:=fun e=>by
   have:¬ (a.length:Int)=b.length:=by simpa using h0
   exact this (by rw[e])
  refine r1B rfl ?_
  exact (jH fun e=>h0 (by rw[e])).symm
 have h0:a.length=b.length:=by
  have:(a.length:Int)=b.length:=by simpa using h0
  omega
 refine lOf (σ:=Nat) (fun i=>([(0,.d (lI a)),(1,.d (lI b)),(5,.d (I i))],[])) (fun i=>i<=a.length /\ ∀ j,j<i->a.getD j 0=b.getD j 0) (fun i=>a.length - i) 0
  ⟨rfl,trivial,wq rfl⟩ z0L fun i hi=>?_
 obtain⟨hi,ha⟩:=hi
 apply bY <;> intro h1
 ·have h1:i<a.length:=by have:=dT h1; omega
  refine oN 9 ?_
  refine⟨⟨rfl,by omega,by omega⟩,?_⟩
  refine⟨⟨rfl,by omega,by omega⟩,?_⟩
  apply bY <;> intro h3
  ·have h3:a.getD i 0≠b.getD i 0:=by simpa using h3
   refine r1B rfl ?_
   exact (jH fun e=>h3 (by rw[e])).symm
  have h3:a.getD i 0=b.getD i 0:=by simpa using h3
  refine⟨i6,?_⟩
  refine⟨i+1,⟨rfl,trivial,wq rfl⟩,⟨h1,fun j hj=>?_⟩,msr h1⟩
  by_cases e:j=i
  ·subst e; exact h3
  exact ha j (by omega)
 have h1:i=a.length:=by have:=dF h1; omega
 subst h1
 refine r1B rfl ?_
 symm
 refine jG ?_
 apply List.ext_getElem h0
 intro j hj hj'
 have:=ha j hj
 rw[hX,hX,hZ hj,hZ hj'] at this
 exact this
theorem zcg {ix:List Nat} {i:Nat}:∀ {k:Nat},i<k->k<=ix.length->ix.getD i 0<mst (ix.take k)
 | 0,h,_=>by omega
 | k+1,h,hk=>by
  rw[zeH (by omega)]
  by_cases e:i=k
  ·subst e; omega
  have:=zcg (ix:=ix) (i:=i) (k:=k) (by omega) (by omega); omega
theorem zkb {ix:List Nat} (hr:Rg ix):∀ k,k<=ix.length -> ∀ q,q<(bitK ix k).length -> ∀ i,((bitK ix k).getD q 0).testBit i=(decide (i<k) && (ix.getD i 0==q))
 | 0,_,q,hq,i=>by cases hq
 | k+1,hk,q,hq,i=>by
  have ih:=zkb hr k (by omega)
  have hlen:=zcu hr k (by omega)
  have hc:=hr k (by omega)
  rw[zct] at hq ⊢
  unfold bit1 at hq ⊢
  have sp:(decide (i<k+1) && (ix.getD i 0==q))=((decide (i<k) && (ix.getD i 0==q)) || (decide (i=k) && (ix.getD k 0==q))):=by
   by_cases e:i=k
   ·subst e; simp
   rw[jH e,show decide (i<k+1)=decide (i<k) from wA.2 (by omega)]; simp
  rw[sp]
  by_cases h1:ix.getD k 0<(bitK ix k).length
  ·rw[kG h1] at hq ⊢
   rw[wH] at hq
   rw[zls h1]
   by_cases e:q=ix.getD k 0
   ·rw[kG e]
    have hx:(bitK ix k).getD (ix.getD k 0) 0<2 ^ k:=(zbI ix k _ (by rw[hX,hZ h1]; exact kR h1)).2
    rw[zl4 hx,zka,ih _ h1 i,<- e,beq_self_eq_true,jaj]
    congr 1
    exact wA.2 ⟨fun h=>h.symm,fun h=>h.symm⟩
   rw[kF e,ih q hq i,show (ix.getD k 0==q)=false from jao.2 (fun h=>e h.symm),jaY,jax]
  rw[kF h1] at hq ⊢
  rw[jR,qK] at hq
  by_cases e:q<(bitK ix k).length
  ·rw[hX,jJ e,<- hX,ih q e i,show (ix.getD k 0==q)=false from jao.2 (fun h=>by omega),jaY,jax]
  have eq:q=(bitK ix k).length:=by omega
  rw[hX,jK (by omega),eq,kE]
  show (2 ^ k).testBit i=_
  rw[Nat.testBit_two_pow,show (ix.getD k 0==(bitK ix k).length)=true from jae.2 (by omega),jaj]
  have:(decide (i<k) && (ix.getD i 0==(bitK ix k).length))=false:=by
   by_cases h:i<k
   ·have:=zcg (ix:=ix) h (by omega)
    rw[show (ix.getD i 0==(bitK ix k).length)=false from jao.2 (by omega),jaY]
   rw[jH h,jal]
  rw[this,ja8]
  exact wA.2 ⟨fun h=>h.symm,fun h=>h.symm⟩
def FI (p:List Nat->Bool) (l:List (List Nat)) (k:Nat) (v:Int):Prop:=(v = -1/\(l.drop k).find? p=none) \/ ∃ q:Nat,v=(q:Int)/\q<l.length/\(l.drop k).find? p=some (l.getD q [])
theorem FI.no {p:List Nat->Bool} {l:List (List Nat)} {m:Nat} {v:Int} (hm:m<l.length) (h:p (l.getD m [])=false) (hf:FI p l (m+1) v):FI p l m v:=by
 have d1:l.drop m=l.getD m [] :: l.drop (m+1):=by rw[kU hm,hX,hZ hm]; rfl
 rcases hf with⟨e,h2⟩ | ⟨q,e,hq,h2⟩
 ·exact .inl ⟨e,by rw[d1,List.find?_cons,h]; exact h2⟩
 exact .inr ⟨q,e,hq,by rw[d1,List.find?_cons,h]; exact h2⟩
def whr (p:List (List Int)) (x:Int):Nat->Int
 | 0=>-1
 | n+1=>if x∈p.getD n [] then (n:Int) else whr p x n
theorem zbl {p:List (List Int)} {x:Int}:∀ {n:Nat},whr p x n<0 ↔ ∀ m,m<n->x∉p.getD m []
 | 0=>⟨fun _ m h=>by omega,fun _=>by show (-1:Int)<0; decide⟩
 | n+1=>by
  have ih:=zbl (p:=p) (x:=x) (n:=n)
  unfold whr
  by_cases h:x∈p.getD n []
  ·rw[kG h]
   exact⟨fun hh=>by omega,fun hh=>absurd h (hh n (Nat.lt_succ_self _))⟩
  rw[kF h,ih]
  refine⟨fun hh m hm=>?_,fun hh m hm=>hh m (by omega)⟩
  by_cases e:m=n
  ·rw[e]; exact h
  exact hh m (by omega)
theorem zem {p:List (List Int)} {x:Int}:∀ {n m:Nat},whr p x n=(m:Int)->m<n/\x∈p.getD m []
 | 0,m,h=>by
  have h:(-1:Int)=(m:Int):=h
  omega
 | n+1,m,h=>by
  unfold whr at h
  split at h
  ·rename_i h1
   have:n=m:=by omega
   subst this
   exact⟨Nat.lt_succ_self _,h1⟩
  have:=zem h
  exact⟨by omega,this.2⟩
def fstB (p:List (List Int)) (i:Nat):Bool:=decide (i=0) || decide ((p.getD (i - 1) []).getD 0 0<(p.getD i []).getD 0 0)
def plc1 (ids:List Int) (p:List (List Int)) (i:Nat):Bool:=setB (p.getD i []) && partB (p.getD i []) ids && fstB p i && (p.getD i []).all fun x=>decide (whr p x i<0)
def plcB (ids:List Int) (p:List (List Int)):Bool:=(List.range p.length).all (plc1 ids p)
def fndB (ids:List Int) (p:List (List Int)):Bool:=ids.all fun x=>decide (0<=whr p x p.length)
def divB (ids:List Int) (p:List (List Int)):Bool:=((List.range p.length).all fun i=>setB (p.getD i []) && fstB p i) && decide ((p.flatten.mergeSort fun x y=>decide (x<=y))=ids)
theorem zdW {s:List Int} (h:setB s=true):s.Pairwise (· < ·)/\0<s.length:=by
 unfold setB at h
 rw[jP] at h
 refine⟨?_,kO h.2⟩
 have hr:=h.1
 unfold risB at hr
 rw[jC] at hr
 have step:∀ j,j+1<s.length->s.getD j 0<s.getD (j+1) 0:=fun j hj=>kO (hr j (kK.2 (by omega)))
 have far:∀ k j,j+k+1<s.length->s.getD j 0<s.getD (j+k+1) 0:=by
  intro k
  induction k with
  | zero=>intro j hj; exact step j hj
  | succ k ih=>
  intro j hj
  have h1:=ih j (by omega)
  have h2:=step (j+k+1) (by omega)
  show s.getD j 0<s.getD (j+k+1+1) 0
  omega
 refine kI.2 fun i j hi hj hij=>?_
 have:=far (j - i - 1) i (by omega)
 rw[show i+(j - i - 1)+1=j by omega] at this
 rw[hX,hX,hZ hi,hZ hj] at this
 exact this
theorem zaQ {s:List Int} (h:s.Pairwise (· < ·)):s.Nodup:=h.imp fun {a b} hab=>by
 show a≠b
 omega
theorem zje {s:List Int} (h:s.Pairwise (· < ·)):Srt s:=h.imp fun {a b} hab=>jG (jav hab)
theorem zeG {a b:List Int} (ha:a.Nodup) (hb:b.Nodup) (h:∀ x,x∈a ↔ x∈b):a.Perm b:=by
 rw[List.perm_iff_count]
 intro x
 rw[List.Nodup.count ha,List.Nodup.count hb]
 by_cases e:x∈a
 ·rw[kG e,kG ((h x).1 e)]
 rw[kF e,kF fun hh=>e ((h x).2 hh)]
theorem zgj {a b:List Int} (ha:a.Pairwise (· < ·)) (hb:b.Pairwise (· < ·)) (h:∀ x,x∈a ↔ x∈b):a=b:=
 zdf (zje ha) (zje hb) (zeG (zaQ ha) (zaQ hb) h)
theorem zbe {p:List (List Int)} {x:Int}:x∈p.flatten ↔ ∃ m,m<p.length/\x∈p.getD m []:=by
 rw[List.mem_flatten]
 constructor
 ·rintro⟨s,hs,hx⟩
  obtain⟨m,hm,rfl⟩:=kM hs
  exact⟨m,hm,by rw[hX,hZ hm]; exact hx⟩
 rintro⟨m,hm,hx⟩
 rw[hX,hZ hm] at hx
 exact⟨_,kR hm,hx⟩
theorem znE {ids:List Int} (hr:ids.Pairwise (· < ·)) (p:List (List Int)):divB ids p=(plcB ids p && fndB ids p):=by
 rw[kY]
 unfold divB plcB fndB
 rw[jP,jP,jC,jC,jC,kV]
 have gm:∀ i,i<p.length -> ∃ hi:i<p.length,p.getD i []=p[i]:=fun i hi=>⟨hi,by rw[hX,hZ hi]; rfl⟩
 constructor
 ·rintro⟨h1,h2⟩
  have hp:p.flatten.Perm ids:=by rw[<- h2]; exact (jaQ _ _).symm
  have hn:p.flatten.Nodup:=hp.nodup_iff.2 (zaQ hr)
  have hd:=(List.pairwise_flatten.1 hn).2
  refine⟨fun i hi=>?_,fun x hx=>jG ?_⟩
  ·have h3:=h1 i hi
   rw[kK] at hi
   rw[jP] at h3
   unfold plc1
   rw[jP,jP,jP]
   refine⟨⟨⟨h3.1,jC.2 fun x hx=>kD.2 (hp.mem_iff.1 (zbe.2 ⟨i,hi,hx⟩))⟩,h3.2⟩,jC.2 fun x hx=>jG (zbl.2 fun m hm hxm=>?_)⟩
   obtain⟨_,e1⟩:=gm i hi
   obtain⟨hm',e2⟩:=gm m (by omega)
   rw[e1] at hx
   rw[e2] at hxm
   exact kI.1 hd m i hm' hi hm x hxm x hx rfl
  obtain⟨m,hm,hxm⟩:=zbe.1 (hp.mem_iff.2 hx)
  refine Int.not_lt.1 fun h=>zbl.1 h m hm hxm
 rintro⟨h1,h2⟩
 have h3:∀ i,i<p.length->setB (p.getD i [])=true/\partB (p.getD i []) ids=true/\fstB p i=true /\ ∀ x∈p.getD i [],whr p x i<0:=fun i hi=>by
  have:=h1 i (kK.2 hi)
  unfold plc1 at this
  rw[jP,jP,jP,jC] at this
  exact⟨this.1.1.1,this.1.1.2,this.1.2,fun x hx=>kO (this.2 x hx)⟩
 refine⟨fun i hi=>?_,?_⟩
 ·have:=h3 i (kK.1 hi)
  rw[jP]; exact⟨this.1,this.2.2.1⟩
 have hn:p.flatten.Nodup:=by
  refine List.pairwise_flatten.2 ⟨fun s hs=>?_,kI.2 fun i j hi hj hij x hx y hy e=>?_⟩
  ·obtain⟨m,hm,rfl⟩:=kM hs
   obtain⟨_,e⟩:=gm m hm
   rw[<- e]
   exact zaQ (zdW (h3 m hm).1).1
  subst e
  obtain⟨_,e1⟩:=gm i hi
  obtain⟨_,e2⟩:=gm j hj
  rw[<- e1] at hx
  rw[<- e2] at hy
  exact zbl.1 ((h3 j hj).2.2.2 x hy) i hij hx
 have hp:p.flatten.Perm ids:=zeG hn (zaQ hr) fun x=>by
  rw[zbe]
  constructor
  ·rintro⟨m,hm,hx⟩
   have:=(h3 m hm).2.1
   exact kD.1 (jC.1 this x hx)
  intro hx
  have:=kO (h2 x hx)
  obtain⟨m,hm⟩:=Int.eq_ofNat_of_zero_le this
  exact⟨m,zem hm⟩
 refine zdf ?_ (zje hr) ((jaQ _ _).trans hp)
 exact List.pairwise_mergeSort (le:=fun x y=>decide (x<=y)) (fun a b c h1 h2=>by
  have h1:=kO h1
  have h2:=kO h2
  exact jG (by omega)) (fun a b=>by
  rw[jX,kV,kV]
  omega) _
def ixP (ids:List Int) (p:List (List Int)):List Nat:=ids.map fun x=>(whr p x p.length).toNat
theorem zeR (ids:List Int) (p:List (List Int)):(ixP ids p).length=ids.length:=kN _
theorem znu {ids:List Int} {p:List (List Int)} {k:Nat} (h:k<ids.length):(ixP ids p).getD k 0=(whr p (ids.getD k 0) p.length).toNat:=by
 unfold ixP
 rw[hX,jU,hZ h,hX,hZ h]; rfl
theorem zoR {n:Nat}:∀ {ix:List Nat},(∀ x∈ix,x<n)->mst ix<=n:=by
 intro ix
 induction ix using snocInd with
 | h0=>intro _; exact jF _
 | h1 l x ih=>
 intro h
 have h1:=ih fun y hy=>h y (jaA _ hy)
 have h2:=h x (by simp)
 rw[zc2]; omega
section
variable {ids:List Int} {p:List (List Int)} (hr:ids.Pairwise (· < ·)) (h1:plcB ids p=true) (h2:fndB ids p=true)
include h1
theorem zbZ {i:Nat} (hi:i<p.length):setB (p.getD i [])=true/\partB (p.getD i []) ids=true/\fstB p i=true /\ ∀ x∈p.getD i [],whr p x i<0:=by
 unfold plcB at h1
 have:=jC.1 h1 i (kK.2 hi)
 unfold plc1 at this
 rw[jP,jP,jP,jC] at this
 exact⟨this.1.1.1,this.1.1.2,this.1.2,fun x hx=>kO (this.2 x hx)⟩
theorem zm4 {x:Int} {m:Nat} (hm:m<p.length) (hx:x∈p.getD m []):whr p x p.length=(m:Int):=by
 have h3:¬ whr p x p.length<0:=fun h=>zbl.1 h m hm hx
 obtain⟨k,hk⟩:=Int.eq_ofNat_of_zero_le (Int.not_lt.1 h3)
 obtain⟨k1,k2⟩:=zem hk
 rw[hk]
 by_cases e:k=m
 ·rw[e]
 rcases Nat.lt_or_gt_of_ne e with e | e
 ·exact absurd k2 (zbl.1 ((zbZ h1 hm).2.2.2 x hx) k e)
 exact absurd hx (zbl.1 ((zbZ h1 k1).2.2.2 x k2) m e)
theorem ziR {x:Int} {m:Nat} (hm:m<p.length) (hx:x∈p.getD m []):∃ k,k<ids.length/\ids.getD k 0=x:=by
 have:=kD.1 (jC.1 (zbZ h1 hm).2.1 x hx)
 obtain⟨k,hk,rfl⟩:=kM this
 exact⟨k,hk,by rw[hX,hZ hk]; rfl⟩
include h2
theorem zfn {k m:Nat} (hk:k<ids.length):(m<p.length/\ids.getD k 0∈p.getD m []) ↔ (ixP ids p).getD k 0=m:=by
 rw[znu hk]
 constructor
 ·rintro⟨hm,hx⟩
  rw[zm4 h1 hm hx]; rfl
 intro e
 have hx:ids.getD k 0∈ids:=by rw[hX,hZ hk]; exact kR hk
 have:=kO (jC.1 h2 _ hx)
 have e2:whr p (ids.getD k 0) p.length=(m:Int):=by omega
 exact zem e2
include hr
theorem zo3 {i k:Nat} (hi:i<ids.length) (hk:k<ids.length) (h:ids.getD k 0<ids.getD i 0):k<i:=by
 refine Nat.lt_of_not_le fun hh=>?_
 by_cases e:i=k
 ·subst e; omega
 have:=kI.1 hr i k hi hk (by omega)
 rw[hX,hX,hZ hi,hZ hk] at h
 simp at h
 omega
theorem zmb:Rg (ixP ids p):=fun i hi=>by
 rw[zeR] at hi
 obtain⟨hm,hx⟩:=(zfn h1 h2 hi).2 (rfl:(ixP ids p).getD i 0=_)
 generalize (ixP ids p).getD i 0=m at hm hx
 rcases wF m with e | e
 ·omega
 have s1:=zbZ h1 hm
 have s2:=zbZ h1 (show m - 1<p.length by omega)
 have f1:(p.getD (m - 1) []).getD 0 0<(p.getD m []).getD 0 0:=by
  have:=s1.2.2.1
  unfold fstB at this
  rw[jH (by omega:¬ m=0),ja8] at this
  exact kO this
 have l1:=zdW s1.1
 have l2:=zdW s2.1
 have f2:(p.getD m []).getD 0 0<=ids.getD i 0:=by
  obtain⟨j,hj,ej⟩:=kM hx
  rw[<- ej,hX,hZ l1.2]
  show (p.getD m [])[0]<=(p.getD m [])[j]
  by_cases e0:j=0
  ·subst e0; exact Int.le_refl _
  exact jav (kI.1 l1.1 0 j l1.2 hj (by omega))
 have hf:(p.getD (m - 1) []).getD 0 0∈p.getD (m - 1) []:=by rw[hX (i:=0),hZ l2.2]; exact kR l2.2
 obtain⟨k,hk,ek⟩:=ziR h1 (show m - 1<p.length by omega) hf
 have hki:=zo3 hr h1 h2 hi hk (by rw[ek]; omega)
 have hix:=(zfn h1 h2 (m:=m - 1) hk).1 ⟨by omega,by rw[ek]; exact hf⟩
 have:=zcg (ix:=ixP ids p) hki (by rw[zeR]; omega)
 omega
theorem zgU:setX ids (ixP ids p)=p:=by
 have hR:=zmb hr h1 h2
 have hl:=zeR ids p
 have hlen:(bitX (ixP ids p)).length=p.length:=by
  unfold bitX
  rw[zcu hR _ (jE _),jZ]
  refine Nat.le_antisymm (zoR fun x hx=>?_) ?_
  ·obtain⟨k,hk,rfl⟩:=kM hx
   rw[hl] at hk
   refine ((zfn h1 h2 hk).2 ?_).1
   rw[hX,hZ (by omega)]; rfl
  rcases wF p.length with e | e
  ·omega
  have l2:=zdW (zbZ h1 (show p.length - 1<p.length by omega)).1
  have hf:(p.getD (p.length - 1) []).getD 0 0∈p.getD (p.length - 1) []:=by rw[hX (i:=0),hZ l2.2]; exact kR l2.2
  obtain⟨k,hk,ek⟩:=ziR h1 (show p.length - 1<p.length by omega) hf
  have hix:=(zfn h1 h2 (m:=p.length - 1) hk).1 ⟨by omega,by rw[ek]; exact hf⟩
  have:=zcg (ix:=ixP ids p) (k:=(ixP ids p).length) (show k<_ by omega) (jE _)
  rw[jZ] at this
  omega
 unfold setX
 refine List.ext_getElem (by rw[kN,hlen]) fun m g1 g2=>?_
 rw[List.getElem_map]
 rw[kN] at g1
 have hb:=zkb hR (ixP ids p).length (jE _) m g1
 have e1:(bitX (ixP ids p))[m]=(bitX (ixP ids p)).getD m 0:=by rw[hX,hZ g1]; rfl
 have e2:p[m]=p.getD m []:=by rw[hX,hZ g2]; rfl
 rw[e1,e2]
 have key:∀ k,k<ids.length->(ids.getD k 0∈memb ids ((bitX (ixP ids p)).getD m 0) ↔ ids.getD k 0∈p.getD m []):=fun k hk=>by
  rw[zc4 (zaQ hr) hk]
  unfold bitX
  rw[hb k,jP,kV,jae,<- zfn h1 h2 hk]
  exact⟨fun h=>h.2.2,fun h=>⟨by omega,g2,h⟩⟩
 refine zgj (hr.sublist (zeI ids _)) (zdW (zbZ h1 g2).1).1 fun x=>⟨fun hx=>?_,fun hx=>?_⟩
 ·obtain⟨k,hk,rfl⟩:=kM ((zeI ids _).subset hx)
  have:=(key k hk).1
  rw[hX (l:=ids),hZ hk] at this
  exact this hx
 obtain⟨k,hk,rfl⟩:=ziR h1 g2 hx
 exact (key k hk).2 hx
end
def tbX (q:List Int->Bool) (ids:List Int) (m:Nat):Bool:=decide (0<m) && q (memb ids m)
theorem zkZ (q:List Int->Bool) (ids:List Int):prt q ids []=(gwX (tbX q ids) ids.length []).map (setX ids):=by
 unfold gwX
 rw[zeC]
 have e1:(rgs ids.length (mst [])).map (([]:List Nat) ++ ·)=rgs ids.length 0:=by
  show (rgs ids.length 0).map (fun x=>[]++x)=_
  simp
 rw[e1]
 have hm:∀ ix∈rgs ids.length 0,Rg ix/\ix.length=ids.length:=fun ix hx=>ziI _ [] zlZ ix hx
 show List.filter _ ((rgs ids.length 0).map (bld ids []))=_
 generalize rgs ids.length 0=L at hm
 have hb:∀ ix∈L,bld ids [] ix=setX ids ix:=fun ix hx=>zj9 (hm ix hx).1 (hm ix hx).2 ids.length 0 (qG _)
 rw[qB hb,List.filter_map]
 congr 1
 refine List.filter_congr fun ix hx=>?_
 show (setX ids ix).all _=(bitX ix).all (tbX q ids)
 unfold setX
 rw[List.all_map,kY,jC,jC]
 refine forall_congr' fun m=>forall_congr' fun hmm=>?_
 unfold tbX
 rw[jG (zbI ix ix.length m hmm).1,wI]
 exact jbk
theorem zlY:∀ (iy ix:List Nat),Rg (ix++iy)->iy∈rgs iy.length (mst ix)
 | [],ix,_=>kH.2 rfl
 | k :: iy,ix,h=>by
  have hk:=h ix.length (by simp)
  rw[hX,jK (jE _),kE,List.take_append_of_le_length (jE _),jZ] at hk
  have hk:k<=mst ix:=hk
  have:=zlY iy (ix ++ [k]) (by rw[List.append_assoc]; exact h)
  rw[zc2] at this
  show k :: iy∈rgs (iy.length+1) (mst ix)
  rw[zgV]
  exact List.mem_flatMap.2 ⟨k,kK.2 (by omega),kJ.2 ⟨iy,this,rfl⟩⟩
theorem zme {p:Nat->Bool} {n:Nat} {ix:List Nat}:ix∈gwX p n [] ↔ Rg ix/\ix.length=n/\(bitX ix).all p=true:=by
 constructor
 ·intro h
  exact⟨(zmd h).1,(zmd h).2,(jap.1 h).2⟩
 rintro⟨h1,rfl,h3⟩
 refine jap.2 ⟨kJ.2 ⟨ix,?_,rfl⟩,h3⟩
 exact zlY ix [] h1
section
variable {ids:List Int} (hr:ids.Pairwise (· < ·)) {ix:List Nat} (hR:Rg ix) (hl:ix.length=ids.length)
include hR
theorem zlK:(bitX ix).length=mst ix:=by
 have:=zcu hR ix.length (jE _)
 rwa [jZ] at this
theorem zl0:∀ k,k<=ix.length -> ∀ v,v<mst (ix.take k) -> ∃ j,j<k/\ix.getD j 0=v
 | 0,_,v,h=>by have h:v<0:=h; omega
 | k+1,hk,v,h=>by
  rw[zeH (by omega)] at h
  have hc:=hR k (by omega)
  by_cases e:v<mst (ix.take k)
  ·obtain⟨j,h1,h2⟩:=zl0 k (by omega) v e
   exact⟨j,by omega,h2⟩
  exact⟨k,by omega,by omega⟩
include hr hl
theorem zfl {k m:Nat} (hk:k<ids.length):(m<(setX ids ix).length/\ids.getD k 0∈(setX ids ix).getD m []) ↔ ix.getD k 0=m:=by
 have hlen:(setX ids ix).length=(bitX ix).length:=kN _
 have key:m<(bitX ix).length->(ids.getD k 0∈(setX ids ix).getD m [] ↔ ix.getD k 0=m):=fun hm=>by
  unfold setX
  rw[zeT hm,zc4 (zaQ hr) hk]
  unfold bitX
  rw[zkb hR ix.length (jE _) m hm k,jP,kV,jae]
  exact⟨fun h=>h.2,fun h=>⟨by omega,h⟩⟩
 constructor
 ·rintro⟨hm,hx⟩
  exact (key (by omega)).1 hx
 intro e
 have hm:m<(bitX ix).length:=by
  rw[zlK hR,<- e]
  have:=zcg (ix:=ix) (k:=ix.length) (show k<ix.length by omega) (jE _)
  rwa [jZ] at this
 exact⟨by omega,(key hm).2 e⟩
theorem zmK {m:Nat} (hm:m<(setX ids ix).length):∃ b,0<b/\b<2 ^ ids.length/\(setX ids ix).getD m []=memb ids b:=by
 have hlen:(setX ids ix).length=(bitX ix).length:=kN _
 have hb:=zbI ix ix.length ((bitX ix).getD m 0) (by
  show (bitX ix).getD m 0∈bitX ix
  rw[hX,hZ (by omega)]; exact kR (by omega))
 refine⟨(bitX ix).getD m 0,hb.1,by rw[<- hl]; exact hb.2,?_⟩
 unfold setX
 rw[zeT (by omega)]
theorem ziz {m:Nat} (hm:m<(setX ids ix).length):((setX ids ix).getD m []).Pairwise (· < ·)/\0<((setX ids ix).getD m []).length /\ ∀ x∈(setX ids ix).getD m [],∃ k,k<ids.length/\ids.getD k 0=x:=by
 obtain⟨b,b1,b2,e⟩:=zmK hr hR hl hm
 rw[e]
 have hs:=zeI ids b
 refine⟨hr.sublist hs,List.length_pos_iff.2 (znd b1 b2),fun x hx=>?_⟩
 obtain⟨k,hk,rfl⟩:=kM (hs.subset hx)
 exact⟨k,hk,by rw[hX,hZ hk]; rfl⟩
theorem zos:plcB ids (setX ids ix)=true/\fndB ids (setX ids ix)=true:=by
 have lt_setB:∀ {s:List Int},s.Pairwise (· < ·)->0<s.length->setB s=true:=fun {s} h1 h2=>by
  unfold setB risB
  rw[jP]
  refine⟨jC.2 fun j hj=>jG ?_,jG h2⟩
  have hj:=kK.1 hj
  rw[hX,hX,hZ (by omega),hZ (by omega)]
  exact kI.1 h1 j (j+1) (by omega) (by omega) (by omega)
 constructor
 ·refine jC.2 fun m hm=>?_
  have hm:=kK.1 hm
  obtain⟨s1,s2,s3⟩:=ziz hr hR hl hm
  unfold plc1
  rw[jP,jP,jP]
  refine⟨⟨⟨lt_setB s1 s2,jC.2 fun x hx=>kD.2 ?_⟩,?_⟩,jC.2 fun x hx=>jG (zbl.2 fun j hj hxj=>?_)⟩
  ·obtain⟨k,hk,rfl⟩:=s3 x hx
   rw[hX,hZ hk]; exact kR hk
  ·unfold fstB
   by_cases e:m=0
   ·rw[jG e,qL]
   rw[jH e,ja8]
   refine jG ?_
   have hf:((setX ids ix).getD m []).getD 0 0∈(setX ids ix).getD m []:=by rw[hX (i:=0),hZ s2]; exact kR s2
   obtain⟨k,hk,ek⟩:=s3 _ hf
   have hix:=(zfl hr hR hl (m:=m) hk).1 ⟨hm,by rw[ek]; exact hf⟩
   have hrk:=hR k (by omega)
   obtain⟨j,hj,ej⟩:=zl0 hR k (by omega) (m - 1) (by omega)
   obtain⟨hm',hxj⟩:=(zfl hr hR hl (m:=m - 1) (show j<ids.length by omega)).2 ej
   obtain⟨t1,t2,_⟩:=ziz hr hR hl hm'
   obtain⟨i,hi,ei⟩:=kM hxj
   have f1:((setX ids ix).getD (m - 1) []).getD 0 0<=ids.getD j 0:=by
    rw[<- ei,hX (i:=0),hZ t2]
    show ((setX ids ix).getD (m - 1) [])[0]<=((setX ids ix).getD (m - 1) [])[i]
    by_cases e0:i=0
    ·subst e0; exact Int.le_refl _
    exact jav (kI.1 t1 0 i t2 hi (by omega))
   have f2:ids.getD j 0<ids.getD k 0:=by
    rw[hX,hX,hZ (by omega),hZ hk]
    exact kI.1 hr j k (by omega) hk hj
   omega
  obtain⟨k,hk,rfl⟩:=s3 x hx
  have a:=(zfl hr hR hl (m:=m) hk).1 ⟨hm,hx⟩
  have b:=(zfl hr hR hl (m:=j) hk).1 ⟨by omega,hxj⟩
  omega
 refine jC.2 fun x hx=>jG (Int.not_lt.1 fun hn=>?_)
 obtain⟨k,hk,rfl⟩:=kM hx
 have:=(zfl hr hR hl hk).2 rfl
 refine zbl.1 hn _ this.1 ?_
 have h2:=this.2
 rwa [hX (l:=ids),hZ hk] at h2
end
theorem zm1 {ids:List Int} (hr:ids.Pairwise (· < ·)) (q:List Int->Bool) (p:List (List Int)):p∈prt q ids [] ↔ divB ids p=true/\p.all q=true:=by
 rw[zkZ,kJ,znE hr,jP]
 constructor
 ·rintro⟨ix,hx,rfl⟩
  obtain⟨h1,h2,h3⟩:=zme.1 hx
  refine⟨zos hr h1 h2,?_⟩
  unfold setX
  rw[List.all_map,jC]
  intro m hm
  have:=jC.1 h3 m hm
  unfold tbX at this
  rw[jP] at this
  exact this.2
 rintro⟨⟨h1,h2⟩,h3⟩
 refine⟨ixP ids p,zme.2 ⟨zmb hr h1 h2,zeR ids p,jC.2 fun m hm=>?_⟩,zgU hr h1 h2⟩
 unfold tbX
 rw[jG (zbI _ _ m hm).1,wI]
 refine jC.1 h3 _ ?_
 rw[<- zgU hr h1 h2]
 exact kJ.2 ⟨m,hm,rfl⟩
structure Jns where
  F:List Fit
  M:List Mis
abbrev Jns.v (j:Jns):V1:=.agg [lFt j.F,lMs j.M]
end Go.Pg
