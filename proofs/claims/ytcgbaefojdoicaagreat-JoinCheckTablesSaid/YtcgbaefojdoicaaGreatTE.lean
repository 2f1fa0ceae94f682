/- Lemmas, joined by program. -/
import Derived.Test.YtcgbaefojdoicaaGreatTD
import Derived.WideKeyRuns
set_option maxHeartbeats 4000000
set_option linter.all false
set_option maxRecDepth 100000
namespace Go.Pg
open Go.Proofs Go.RowKit Go.Sort Go.Shelf
section
variable (ids:List Int) (pv:D) (ok:List Int->Bool)
theorem zsh (hn:ids.length<=7) (i:Nat) (hi:i<ids.length) (ss:List (List Int)) (n:Nat) (hs:ss.length<=i) (hl:∀ s∈ss,s.length<=i) (hsub:Sub (allP ids ok) n (prt ok (ids.drop i) ss))
  (ih:∀ (ss:List (List Int)) (n:Nat),ss.length<=i+1->(∀ s∈ss,s.length<=i+1)->Sub (allP ids ok) n (prt ok (ids.drop (i+1)) ss)->SpecY PP 108 ((allP ids ok).map enP) n (prt ok (ids.drop (i+1)) ss).length (putArgs ids pv (i+1)) (putObs ids pv ss) (putObs ids pv ss) [4,3,5] [B true] [B false]) :
  SpecY PP 108 ((allP ids ok).map enP) n (prt ok (ids.drop i) ss).length (putArgs ids pv i) (putObs ids pv ss) (putObs ids pv ss) [4,3,5] [B true] [B false]:=by
 have ed:ids.drop i=ids.getD i 0 :: ids.drop (i+1):=by rw[qK hi,hZ,kH hi]; rfl
 rw[ed] at hsub ⊢
 rw[znp] at hsub ⊢
 refine zis [] Tryz.func108 rfl (by kernel_rfl) (putArgs ids pv i) [7] rfl [(2,4),(4,3),(5,5)] rfl rfl rfl (ziD ids pv _ ss) (by decide) (fun _=>rfl) fun l γ=>?_
 refine sNo (by simp; omega) ?_
 refine lOf (σ:=Nat) (fun q=>([(G,.gho (some (n+(prtK ok (ids.getD i 0) (ids.drop (i+1)) ss q).length))),(0,.d (I i)),(1,.d (capB [lI ids])),(2,.pbox 4 (γ 4)),(3,.d (posD pv)),(4,.pbox 3 (γ 3)),(5,.pbox 5 (γ 5)),(38,.d (I ss.length)),(39,.d (I q))],
   [(4,.box [.own 100]),(100,.row 22 1 ss.length (rowII ss)),(3,.box [.yl l]),(5,.box [.clo 108 (putCaps ids pv)])])) (fun q=>q<=ss.length) (fun q=>ss.length - q) 0
  ⟨rfl,⟨obX rfl,obR rfl (dE _),obX rfl,obX rfl,trivial⟩,wq rfl⟩ (jF _) fun q hq=>?_
 have hq:q<=ss.length:=hq
 apply bY <;> intro h2
 ·have h2:q<ss.length:=by have:=dT h2; omega
  have eq:((q:Nat):Int).toNat=q:=jaq q
  have hm:ss.getD q []∈ss:=by rw[hZ,kH h2]; exact kW h2
  have hml:=hl _ hm
  refine⟨⟨by omega,by omega⟩,⟨by omega,?_⟩⟩
  refine oL [2,4,5,6,7,8,1000,1001,6003,9,10,5011] (fNo ?_)
  refine⟨⟨rfl,by omega,by omega⟩,?_⟩
  refine⟨rfl,rfl,?_⟩
  refine⟨rfl,rfl,?_⟩
  refine⟨⟨_,_,_,_,_,_,rfl,rfl,rfl,rfl,?_⟩⟩
  rw[zaq]
  refine⟨_,_,_,_,_,none,rfl,znq (ss.getD (q:Int).toNat []) (by rw[eq]; omega),fun m j _ _=>rfl,?_⟩
  refine⟨⟨.inr rfl,by unfold maxLen; rw[eq]; omega,by show ((ss.getD (q:Int).toNat []).length+1) * 8<=140737488355328; rw[eq]; omega⟩,?_⟩
  refine⟨⟨by omega,by omega⟩,?_⟩
  refine FzOb.fz [49] ?_
  refine⟨by omega,?_⟩
  refine⟨i6,?_⟩
  have hset:(ss.set q (ss.getD q [] ++ [ids.getD i 0])).length<=i+1:=by rw[jag]; omega
  have hsl:∀ s∈ss.set q (ss.getD q [] ++ [ids.getD i 0]),s.length<=i+1:=fun s hs=>by
   rcases jbu hs with hs | rfl
   ·have:=hl s hs; omega
   rw[jR,qW]; omega
  have hsub':Sub (allP ids ok) (n+(prtK ok (ids.getD i 0) (ids.drop (i+1)) ss q).length) (prt ok (ids.drop (i+1)) (ss.set q (ss.getD q [] ++ [ids.getD i 0]))):=by
   refine (hsub.pre (L2:=prtK ok (ids.getD i 0) (ids.drop (i+1)) ss q++prt ok (ids.drop (i+1)) (ss.set q (ss.getD q [] ++ [ids.getD i 0]))) ?_).snd
   rw[<- zdL]
   exact List.IsPrefix.trans (ziH ok _ _ ss h2) (List.prefix_append _ _)
  refine CallSt.cy [(0,.d (I i)),(1,.d (capB [lI ids])),(2,.pbox 4 (γ 4)),(3,.d (posD pv)),(4,.pbox 3 (γ 3)),(5,.pbox 5 (γ 5)),(11,.d (I q)),(12,.d (lI (ss.getD q []))),(38,.d (I ss.length)),(39,.d (I q)),(57,.clo 108 (putCaps ids pv)),(59,.d (I ((i+1:Nat):Int)))] []
   (ih (ss.set q (ss.getD q [] ++ [ids.getD i 0])) _ hset hsl hsub') rfl rfl ⟨rfl,⟨obX rfl,obR rfl ?_,obX rfl,obX rfl,trivial⟩,avQ rfl,avQ rfl,avQ rfl,avQ rfl,avQ rfl,avQ rfl,avQ rfl,?_,avQ rfl,avQ rfl,avQ rfl,avQ rfl,trivial⟩ rfl rfl rfl rfl ?_ ?_
  ·refine zrO h2 eq ?_
   refine⟨by rw[eq,jR]; rfl,.inr ⟨rfl,fun u hu v hv=>?_⟩⟩
   show D.eqv (appRow _ (rowI (ss.getD (q:Int).toNat [])) _ u v) (I ((ss.getD q [] ++ [ids.getD i 0]).getD u 0))
   rw[eq]
   unfold appRow
   by_cases hh:u<(ss.getD q []).length
   ·rw[kI hh,hZ (l:=ss.getD q [] ++ [ids.getD i 0]),jJ hh,<- hZ]
    exact dE _
   have hu:u<(ss.getD (q:Int).toNat []).length+1:=hu
   rw[eq] at hu
   have e:u=(ss.getD q []).length:=by omega
   obtain rfl:v=0:=wE.1 hv
   rw[kG hh,hZ (l:=ss.getD q [] ++ [ids.getD i 0]),jK (by omega),e,kE]
   show D.eqv (I (ids.getD i 0)) (I (ids.getD i 0))
   exact dE _
  ·show D.eqv (lI (ss.getD (q:Int).toNat [])) (lI (ss.getD q []))
   rw[eq]; exact dE _
  ·refine sF ?_
   have ls:(ss.set q (ss.getD q [] ++ [ids.getD i 0])).length=ss.length:=jag
   refine⟨⟨by omega,by rw[ls]; omega⟩,⟨by rw[ls,eq]; exact h2,?_⟩⟩
   refine⟨i6,?_⟩
   refine⟨q+1,⟨rfl,⟨obX rfl,obR rfl ?_,obX rfl,obX rfl,trivial⟩,avG rfl ?_,avQ rfl,avQ rfl,avQ rfl,avQ rfl,avQ rfl,avQ rfl,avQ rfl,avQ rfl,trivial⟩,h2,msr h2⟩
   ·have h3:q<(ss.set q (ss.getD q [] ++ [ids.getD i 0])).length:=by rw[ls]; exact h2
    have h4:=zrO (ss:=ss.set q (ss.getD q [] ++ [ids.getD i 0])) (s':=ss.getD q []) h3 eq (dE _)
    have h5:(ss.set q (ss.getD q [] ++ [ids.getD i 0])).set q (ss.getD q [])=ss:=by
     rw[List.set_set,hZ,kH h2]
     exact List.set_getElem_self h2
    rw[h5] at h4
    exact h4
   rw[zdL,jR,ja2]
  refine sT ?_
  exact .inr ⟨rfl,trivial,avQ rfl,avQ rfl,trivial⟩
 have h2:q=ss.length:=by have:=dF h2; omega
 subst h2
 refine oN 9 ?_
 refine⟨⟨rfl,by omega,by omega⟩,?_⟩
 refine⟨⟨.inr rfl,by unfold maxLen; omega,by show (ss.length+1) * 24<=140737488355328; omega⟩,?_⟩
 refine⟨i6,?_⟩
 refine CallSt.cy [(0,.d (I i)),(1,.d (capB [lI ids])),(2,.pbox 4 (γ 4)),(3,.d (posD pv)),(4,.pbox 3 (γ 3)),(5,.pbox 5 (γ 5)),(75,.clo 108 (putCaps ids pv)),(77,.d (I ((i+1:Nat):Int)))] []
  (ih (ss ++ [[ids.getD i 0]]) _ (by rw[jR,qW]; omega) (fun s hs=>by
   rcases qD.1 hs with hs | hs
   ·have:=hl s hs; omega
   obtain rfl:=kT.1 hs; rw[qW]; omega) hsub.snd) rfl rfl ⟨rfl,⟨obX rfl,obR rfl ?_,obX rfl,obX rfl,trivial⟩,avQ rfl,avQ rfl,avQ rfl,avQ rfl,avQ rfl,avQ rfl,avQ rfl,avQ rfl,trivial⟩ rfl rfl rfl rfl ?_ ?_
 ·refine zoW rfl ⟨rfl,.inr ⟨rfl,fun u hu v hv=>?_⟩⟩
  obtain rfl:v=0:=wE.1 hv
  obtain rfl:u=0:=wE.1 hu
  show D.eqv (I (ids.getD i 0)) (I (ids.getD i 0))
  exact dE _
 ·refine sF ?_
  have ll:(ss ++ [[ids.getD i 0]]).length=ss.length+1:=by rw[jR,qW]
  refine⟨i6,?_⟩
  refine⟨⟨by rw[ll]; omega,by rw[ll]; omega⟩,?_⟩
  refine .inl ⟨rfl,⟨obX rfl,obR rfl ?_,obX rfl,obX rfl,trivial⟩,avG rfl ?_,avQ rfl,avQ rfl,avQ rfl,avQ rfl,trivial⟩
  ·refine⟨by rw[ll]; omega,.inr ⟨rfl,fun u hu v hv=>?_⟩⟩
   rw[ll] at hu
   have hu:u<ss.length:=by omega
   show D.eqv (lI ((ss ++ [[ids.getD i 0]]).getD u [])) (lI (ss.getD u []))
   rw[hZ (l:=ss ++ [[ids.getD i 0]]),jJ hu,<- hZ]
   exact dE _
  rw[jR,ja2]
 refine sT ?_
 exact .inr ⟨rfl,trivial,avQ rfl,avQ rfl,trivial⟩
end
section
variable (ids:List Int) (pv:D) (ok:List Int->Bool)
theorem zsj (hn:ids.length<=7) (hok:PosC pv ok):∀ (k i:Nat) (ss:List (List Int)) (n:Nat),i+k=ids.length->ss.length<=i->(∀ s∈ss,s.length<=i)->Sub (allP ids ok) n (prt ok (ids.drop i) ss) ->
  SpecY PP 108 ((allP ids ok).map enP) n (prt ok (ids.drop i) ss).length (putArgs ids pv i) (putObs ids pv ss) (putObs ids pv ss) [4,3,5] [B true] [B false]
 | 0,i,ss,n,hi,hs,hl,hsub=>by
  obtain rfl:i=ids.length:=by omega
  rw[List.drop_length] at hsub ⊢
  exact zsi ids pv ok hn hok ss n (by omega) (fun s h=>by have:=hl s h; omega) hsub
 | k+1,i,ss,n,hi,hs,hl,hsub=>zsh ids pv ok hn i (by omega) ss n hs hl hsub fun ss n hs hl hsub=>zsj hn hok k (i+1) ss n (by omega) hs hl hsub
def prtCap (j:Nat):D:=getD' [capB [lI ids],posD pv] j
theorem zfB (hn:ids.length<=7) (hok:PosC pv ok):SeqC PP 107 2 (prtCap ids pv) enP (allP ids ok):=by
 refine zfk Tryz.func107 rfl (by kernel_rfl) rfl rfl enP _ fun l=>?_
 refine CallSt.cy (cuts:=[]) [(7,.clo 108 (putCaps ids pv))] [] (zsj ids pv ok hn hok ids.length 0 [] 0 (qF _) (jE _) (fun s h=>by cases h) ⟨[],rfl,List.prefix_rfl⟩) rfl rfl
  ⟨rfl,⟨⟨⟨rfl,_,_,_,rfl⟩,trivial⟩,rfl,obX rfl,obX rfl,trivial⟩,wq rfl⟩ rfl rfl rfl rfl ?_ ?_
 ·exact .inl (jI (fun n=>AV.gho (some n)) (qF _))
 exact .inr rfl
theorem zgz (hp:(∃ g c,pv=cloB g [c]) \/ ∃ f m g,pv = .bnd f m g):Spec PP 45 [.d (lI ids),.d pv] [.d (cloB 107 [capB [lI ids],posD pv])]:=by
 rcases hp with⟨g0,c0,rfl⟩ | ⟨f0,m0,g0,rfl⟩
 all_goals
  refine sA Tryz.func45 ?_
  refine⟨⟨rfl,rfl,fun j hj=>?_⟩,trivial⟩
  match j,hj with
  | 0,_=>exact⟨_,rfl,rfl,_,_,rfl,rfl,rfl,fun j hj=>dE _⟩
  | 1,_=>exact⟨_,rfl,rfl,_,_,rfl,rfl,rfl,fun j hj=>dE _⟩
end
def bitA (ids s:List Int) (i:Nat):Nat:=(List.range i).foldl (fun b k=>if s.contains (ids.getD k 0)=true then onS b k else b) 0
theorem zcE (ids s:List Int) (i:Nat):bitA ids s (i+1)=if s.contains (ids.getD i 0)=true then onS (bitA ids s i) i else bitA ids s i:=by
 unfold bitA
 rw[wD,jaS]; rfl
theorem zms (ids s:List Int):∀ i,i<=7->bitA ids s i<128
 | 0,_=>by show 0<128; decide
 | i+1,h=>by
  have:=zms ids s i (by omega)
  rw[zcE]
  split
  ·exact zsr this (by omega)
  exact this
def bitS (ids s:List Int):Nat:=bitA ids s ids.length
abbrev lkC (d:Day) (ks:List Nat):List D:=d.ds ++ [lI (sigL d.R),cmap d ks]
theorem zsG (d:Day) (ks:List Nat) (hn:(sigL d.R).length<=7) (s:List Int) (hs:s.length<=1000000):Spec PP 132 [.d (lI s),.d (capB (lkC d ks))] [B (fitK d ks (bitS (sigL d.R) s))]:=by
 refine sA Tryz.func132 ?_
 refine lOf (σ:=Nat) (fun i=>([(0,.d (lI s)),(1,avOf (.d (capB (lkC d ks)))),(4,.d (I (bitA (sigL d.R) s i))),(8,.d (lI (sigL d.R))),(9,.d (I (sigL d.R).length)),(10,.d (I i))],[])) (fun i=>i<=(sigL d.R).length) (fun i=>(sigL d.R).length - i) 0
  ⟨rfl,trivial,wq rfl⟩ (jF _) fun i hi=>?_
 have hi:i<=(sigL d.R).length:=hi
 apply bY <;> intro h1
 ·have h1:i<(sigL d.R).length:=by have:=dT h1; omega
  have hb:=zms (sigL d.R) s i (by omega)
  refine⟨⟨rfl,by omega,by omega⟩,?_⟩
  refine cP (zeG s ((sigL d.R).getD i 0) hs) rfl rfl ?_
  apply bY <;> intro h2
  ·have h2:s.contains ((sigL d.R).getD i 0)=true:=h2
   refine⟨by omega,?_⟩
   refine⟨i6,?_⟩
   refine⟨i+1,⟨rfl,trivial,avQ rfl,avQ rfl,?_,avQ rfl,avQ rfl,avQ rfl,trivial⟩,h1,msr h1⟩
   rw[zcE,kI h2]
   exact avQ (jI (fun n=>AV.d (.int .i64 n)) (bOn hb (by omega)))
  have h2:s.contains ((sigL d.R).getD i 0)=false:=h2
  refine⟨i6,?_⟩
  refine⟨i+1,⟨rfl,trivial,?_⟩,h1,msr h1⟩
  rw[zcE,kG (by rw[h2]; decide)]
  exact wq rfl
 have h1:i=(sigL d.R).length:=by have:=dF h1; omega
 subst h1
 refine cP (zeW d ks (bitS (sigL d.R) s)) rfl rfl ?_
 exact r1B rfl rfl
abbrev allCs (d:Day) (ks:List Nat):List D:=[capB [lI (sigL d.R)],posD (cloB 132 [capB (lkC d ks)])]
theorem j_all (d:Day) (ks:List Nat):Spec PP 72 [lkV d ks] [.d (cloB 107 (allCs d ks))]:=by
 refine sA Tryz.func72 ?_
 refine fEq [1] (zgz (sigL d.R) (cloB 132 [capB (lkC d ks)]) (.inl ⟨_,_,rfl⟩)) rfl ⟨dE _,⟨rfl,rfl,fun j hj=>by obtain rfl:j=0:=wE.1 hj; exact dE _⟩,trivial⟩ rfl ?_
 exact⟨dE _,trivial⟩
abbrev parts (d:Day):List (List (List Int)):=prt (fun s=>fitK d (ksD d) (bitS (sigL d.R) s)) (sigL d.R) []
theorem znQ {d:Day} (h:DayOk d):SeqC PP 107 2 (prtCap (sigL d.R) (cloB 132 [capB (lkC d (ksD d))])) enP (parts d):=
 zfB (sigL d.R) _ _ (sig7 h) (.clo _ _ rfl fun s hs=>zsG d (ksD d) (sig7 h) s (by omega))
theorem zhI {α:Type} {ok:List α->Bool}:∀ {r:List α} {ss:List (List α)} {B:Nat} {x:List (List α)},x∈prt ok r ss->(∀ s∈ss,s.length<=B)->x.length<=ss.length+r.length /\ ∀ s∈x,s.length<=B+r.length+1
 | [],ss,B,x,h,hb=>by
  unfold prt at h
  split at h
  ·obtain rfl:=kT.1 h
   exact⟨jE _,fun s hs=>by have:=hb s hs; simp; omega⟩
  ·cases h
 | a :: r,ss,B,x,h,hb=>by
  unfold prt at h
  rcases qD.1 h with h | h
  ·obtain⟨k,hk,h⟩:=List.mem_flatMap.1 h
   have hk:=kJ.1 hk
   obtain⟨h1,h2⟩:=zhI (B:=B+1) h fun s hs=>by
    rcases jbu hs with hs | rfl
    ·have:=hb s hs; omega
    have hm:ss.getD k []∈ss:=by rw[hZ,kH hk]; exact kW hk
    have:=hb _ hm
    rw[jR,qW]; omega
   rw[jag] at h1
   exact⟨by simp; omega,fun s hs=>by have:=h2 s hs; simp; omega⟩
  obtain⟨h1,h2⟩:=zhI (B:=B+1) h fun s hs=>by
   rcases qD.1 hs with hs | hs
   ·have:=hb s hs; omega
   obtain rfl:=kT.1 hs; simp
  rw[jR] at h1
  exact⟨by simp at h1 ⊢; omega,fun s hs=>by have:=h2 s hs; simp; omega⟩
theorem zqo {α:Type} (ok:List α->Bool) (r:List α) (h:r.length<=7):(prt ok r []).length<=877:=by
 rw[zhH]
 refine jM (wG _ _) ?_
 rw[qE]
 have:∀ n,n<8->(rgs n 0).length<=877:=by decide +kernel
 exact this _ (by omega)
theorem zgw {d:Day} (h:DayOk d):(parts d).length<=877:=zqo _ _ (sig7 h)
theorem zk7 {d:Day} (h:DayOk d) {x:List (List Int)} (hx:x∈parts d):x.length<=7 /\ ∀ s∈x,s.length<=8:=by
 have:=sig7 h
 obtain⟨h1,h2⟩:=zhI (B:=0) hx (fun s hs=>by cases hs)
 exact⟨by simp at h1; omega,fun s hs=>by have:=h2 s hs; omega⟩
def bst0 (out:List (List (List Int))) (p:List (List Int)):List (List (List Int)):=if decide (0<out.length) && decide (p.length<(out.getD 0 []).length) then [] else out
def bst1 (out:List (List (List Int))) (p:List (List Int)):List (List (List Int)):=if decide ((bst0 out p).length=0) || decide (p.length=((bst0 out p).getD 0 []).length) then bst0 out p ++ [p] else bst0 out p
def bstL (l:List (List (List Int))):List (List (List Int)):=l.foldl bst1 []
theorem zcC (l:List (List (List Int))) (p:List (List Int)):bstL (l ++ [p])=bst1 (bstL l) p:=by unfold bstL; rw[jaS]; rfl
theorem zoo (o:List (List (List Int))) (p:List (List Int)):(bst0 o p).length<=o.length:=by
 unfold bst0
 split
 ·exact jF _
 exact jE _
theorem zon (o:List (List (List Int))) (p:List (List Int)):(bst1 o p).length<=o.length+1:=by
 have:=zoo o p
 unfold bst1
 split
 ·rw[jR]; simp; omega
 omega
theorem zju:∀ (l o:List (List (List Int))),(l.foldl bst1 o).length<=o.length+l.length
 | [],o=>jE _
 | p :: l,o=>by
  have h1:=zju l (bst1 o p)
  have h2:=zon o p
  rw[jaF,List.length_cons]
  omega
theorem zjt (l:List (List (List Int))):(bstL l).length<=l.length:=by
 have:=zju l []
 unfold bstL
 simpa using this
abbrev rowPP (l:List (List (List Int))):Nat->Nat->D:=fun i _=>lII (l.getD i [])
theorem zoV {l:List (List (List Int))} {p:List (List Int)} {g:Nat->Nat->D} (hg:D.eqv (g 0 0) (lII p)):D.eqv (.slc 1 (l.length+1) (appRow l.length (rowPP l) g)) (.slc 1 (l ++ [p]).length (rowPP (l ++ [p]))):=by
 refine⟨by simp,.inr ⟨rfl,fun i hi j hj=>?_⟩⟩
 show D.eqv (appRow l.length (rowPP l) g i j) (lII ((l ++ [p]).getD i []))
 obtain rfl:j=0:=by omega
 unfold appRow
 by_cases h:i<l.length
 ·rw[kI h,hZ (l:=l ++ [p]),jJ h,<- hZ]
  exact dE _
 have e:i=l.length:=by omega
 subst e
 rw[kG h,kE,hZ,jK (jE _),kE]
 exact hg
theorem nz_no {n:Nat} (h:0<n):((n:Int)==0)=false:=by simp; omega
theorem zst {n:Nat} (h:n=0):((n:Int)==0)=true:=by subst h; rfl
def obBst (pre:List (List (List Int))):List (Nat × Ob):=[(3,.box [.own 34]),(34,.row 48 1 (bstL pre).length (rowPP (bstL pre)))]
theorem zsk (g:FuncId) (c1 c2:D) (xs:List (List (List Int))) (hx:xs.length<=1000) (hseq:SeqC PP g 2 (getD' [c1,c2]) enP xs):Spec PP 44 [.d (cloB g [c1,c2])] [.d (lPP (bstL xs))]:=by
 refine sA Tryz.func44 ?_
 refine CodeOb.rangeAt hseq rfl (fun _=>rfl) (by decide) [(3,.box 3 0)] [(3,0)] obBst rfl (fun _=>rfl) ?_ (Iv:=fun _=>True) trivial (fun v pre x hx' _=>?_) (fun _=>?_)
 ·exact⟨rfl,⟨obN rfl rfl rfl,obZ rfl rfl,trivial⟩,wq rfl⟩
 ·have hpl:pre.length<1000:=by
   have:=hx'.length_le
   rw[jR] at this; simp at this; omega
  have hlen:=zjt pre
  have push:∀ o:List (List (List Int)),o.length<=1000->bst1 (bstL pre) x=o ++ [x]->bst1 (bstL pre) x=o ++ [x]:=fun _ _ h=>h
  apply bY <;> intro h1
  ·have h1:0<(bstL pre).length:=by have:=dT h1; omega
   refine⟨⟨by omega,by omega⟩,⟨by omega,?_⟩⟩
   repeat first | apply sT | apply sF
   apply bY <;> intro h2
   ·have h2:x.length<((bstL pre).getD 0 []).length:=by have:(x.length:Int)<((bstL pre).getD 0 []).length:=dT h2; omega
    have e0:bst0 (bstL pre) x=[]:=by unfold bst0; rw[kI (by rw[jG h1,jG h2]; rfl)]
    have e1:bst1 (bstL pre) x=[] ++ [x]:=by unfold bst1; rw[e0]; rfl
    repeat first | apply sT | apply sF
    refine⟨⟨.inr rfl,by unfold maxLen; omega,by show (0+1) * 24<=140737488355328; omega⟩,?_⟩
    refine⟨trivial,rfl,⟨obO rfl,obR rfl ?_,trivial⟩,wq rfl⟩
    rw[zcC,e1]
    refine⟨rfl,.inr ⟨rfl,fun u hu w hw=>?_⟩⟩
    obtain rfl:w=0:=wE.1 hw
    obtain rfl:u=0:=wE.1 hu
    exact dE _
   have h2:¬ x.length<((bstL pre).getD 0 []).length:=by have:¬ (x.length:Int)<((bstL pre).getD 0 []).length:=dF h2; omega
   have e0:bst0 (bstL pre) x=bstL pre:=by unfold bst0; rw[kG (by rw[jH h2,kU]; decide)]
   refine sNo (nz_no h1) ?_
   refine⟨⟨by omega,by omega⟩,⟨by omega,?_⟩⟩
   repeat first | apply sT | apply sF
   apply bY <;> intro h3
   ·have h3:x.length=((bstL pre).getD 0 []).length:=by
     have:(x.length:Int)=((bstL pre).getD 0 []).length:=by simpa using h3
     omega
    have e1:bst1 (bstL pre) x=bstL pre ++ [x]:=by unfold bst1; rw[e0,kI (by rw[jG h3,kV])]
    refine⟨⟨.inr rfl,by unfold maxLen; omega,by show ((bstL pre).length+1) * 24<=140737488355328; omega⟩,?_⟩
    refine⟨trivial,rfl,⟨obO rfl,obR rfl ?_,trivial⟩,wq rfl⟩
    rw[zcC,e1]
    exact zoV (dE _)
   have h3:¬ x.length=((bstL pre).getD 0 []).length:=fun e=>by
    have:¬ (x.length:Int)=((bstL pre).getD 0 []).length:=by simpa using h3
    exact this (by rw[e])
   have e1:bst1 (bstL pre) x=bstL pre:=by unfold bst1; rw[e0,kG (by rw[jH h3,jH (by omega)]; decide)]
   refine⟨trivial,rfl,⟨obO rfl,obR rfl ?_,trivial⟩,wq rfl⟩
   rw[zcC,e1]
   exact dE _
  have h1:(bstL pre).length=0:=by have:=dF h1; omega
  have e0:bst0 (bstL pre) x=bstL pre:=by unfold bst0; rw[kG (by rw[jH (by omega),kP]; decide)]
  have e1:bst1 (bstL pre) x=bstL pre ++ [x]:=by unfold bst1; rw[e0,kI (by rw[jG h1,qP])]
  repeat first | apply sT | apply sF
  refine sYe (zst h1) ?_
  repeat first | apply sT | apply sF
  refine⟨⟨.inr rfl,by unfold maxLen; omega,by show ((bstL pre).length+1) * 24<=140737488355328; omega⟩,?_⟩
  refine⟨trivial,rfl,⟨obO rfl,obR rfl ?_,trivial⟩,wq rfl⟩
  rw[zcC,e1]
  exact zoV (dE _)
 refine⟨⟨_,_,_,_,rfl,?_⟩,trivial⟩
 exact dE _
theorem zjv {o:List (List (List Int))} {p q:List (List Int)} (h:q∈bst0 o p):q∈o:=by
 unfold bst0 at h
 split at h
 ·cases h
 exact h
theorem bst1_mem {o:List (List (List Int))} {p q:List (List Int)} (h:q∈bst1 o p):q∈o \/ q=p:=by
 unfold bst1 at h
 split at h
 ·rcases qD.1 h with h | h
  ·exact .inl (zjv h)
  exact .inr (kT.1 h)
 exact .inl (zjv h)
theorem bstF_mem {q:List (List Int)}:∀ {l o:List (List (List Int))},q∈l.foldl bst1 o->q∈o \/ q∈l
 | [],o,h=>.inl h
 | p :: l,o,h=>by
  rcases bstF_mem (l:=l) h with h | h
  ·rcases bst1_mem h with h | rfl
   ·exact .inl h
   exact .inr (jaw ..)
  exact .inr (jaA _ h)
theorem zom {q:List (List Int)} {l:List (List (List Int))} (h:q∈bstL l):q∈l:=(bstF_mem h).resolve_left fun h=>by cases h
abbrev bsts (d:Day):List (List (List Int)):=bstL (parts d)
def bsR (d:Day):List (List (List Int)) × Int:=if (bsts d).length=0 then ([],9) else (bsts d,0)
theorem zlQ {d:Day} (h:DayOk d):Spec PP 74 [d.v] [.d (lPP (bsR d).1),.d (.int .i64 (bsR d).2)]:=by
 refine sA Tryz.func74 ?_
 refine cR (zpa h) rfl rfl ?_
 refine cR (j_all d (ksD d)) rfl rfl ?_
 refine cR (zsk 107 _ _ (parts d) (by have:=zgw h; omega) (znQ h)) rfl rfl ?_
 unfold bsR
 apply bY <;> intro h1
 ·have h1:(bsts d).length=0:=by
   have:((bsts d).length:Int)=0:=by simpa using h1
   omega
  rw[kI h1]
  exact⟨⟨_,_,_,_,rfl,rfl,.inl rfl⟩,rtI rfl rfl,trivial⟩
 have h1:¬ (bsts d).length=0:=fun e=>by
  have:¬ ((bsts d).length:Int)=0:=by simpa using h1
  exact this (by rw[e]; rfl)
 rw[kG h1]
 exact⟨dE _,rtI rfl rfl,trivial⟩
def fewR (d:Day):Int × Int:=if dayE d≠0 then (0,dayE d) else if (bsts d).length=0 then (0,9) else (((bsts d).getD 0 []).length,0)
theorem zi3 (d:Day) (hn:d.R.length<=1000000):Spec PP 25 [d.v] [N (fewR d).1,.d (.int .i64 (fewR d).2)]:=by
 refine sA Tryz.func25 ?_
 refine cP (zdZ d hn) rfl rfl ?_
 unfold fewR
 apply bY <;> intro h0
 ·rw[kI (by simpa using h0)]
  exact⟨rtI rfl rfl,rtI rfl rfl,trivial⟩
 have h0:dayE d=0:=by simpa using h0
 rw[kG (fun hh=>hh h0)]
 refine cR (zlQ (zaZ h0)) rfl rfl ?_
 by_cases h1:(bsts d).length=0
 ·have e:bsR d=([],9):=by unfold bsR; rw[kI h1]
  rw[e,kI h1]
  refine sT ?_
  exact⟨rtI rfl rfl,rtI rfl rfl,trivial⟩
 have e:bsR d=(bsts d,0):=by unfold bsR; rw[kG h1]
 rw[e,kG h1]
 refine sF ?_
 refine⟨⟨rfl,by omega,by show (0:Int)<((bsts d).length:Int); omega⟩,?_⟩
 exact⟨rtI rfl rfl,rtI rfl rfl,trivial⟩
def samR (d:Day) (a b:Int):Vdt × Int:=if parE d a b≠0 then (⟨0,[],[]⟩,parE d a b) else if (bsts d).length=0 then (⟨0,[],[]⟩,9) else (vdtR (bsts d) a b,0)
theorem zsg {d:Day} {a b:Int} (h:parE d a b=0):DayOk d:=by
 unfold parE at h
 split at h
 ·rename_i h1; exact absurd h h1
 rename_i h1; exact zaZ (jL h1)
theorem zlS (d:Day) (a b:Int) (hn:d.R.length<=1000000):Spec PP 35 [d.v,N a,N b] [(samR d a b).1.v,.d (.int .i64 (samR d a b).2)]:=by
 refine sA Tryz.func35 ?_
 refine cP (zsD d a b hn) rfl rfl ?_
 unfold samR
 apply bY <;> intro h0
 ·rw[kI (by simpa using h0)]
  exact⟨rtC (a:=6) rfl rfl rfl rfl rfl rfl ⟨⟨rfl,rfl⟩,rfl,rfl,trivial⟩,rtI rfl rfl,trivial⟩
 have h0:parE d a b=0:=by simpa using h0
 have h:=zsg h0
 rw[kG (fun hh=>hh h0)]
 refine cR (zlQ h) rfl rfl ?_
 by_cases h1:(bsts d).length=0
 ·have e:bsR d=([],9):=by unfold bsR; rw[kI h1]
  rw[e,kI h1]
  refine sT ?_
  exact⟨rtC (a:=6) rfl rfl rfl rfl rfl rfl ⟨⟨rfl,rfl⟩,rfl,rfl,trivial⟩,rtI rfl rfl,trivial⟩
 have e:bsR d=(bsts d,0):=by unfold bsR; rw[kG h1]
 rw[e,kG h1]
 refine sF ?_
 refine cR (zlN (bsts d) a b (by have:(bsts d).length<=(parts d).length:=zjt (parts d); have:=zgw h; omega) fun p hp=>by
  have:=zk7 h (zom hp)
  exact⟨by omega,fun s hs=>by have:=this.2 s hs; omega⟩) rfl rfl ?_
 exact⟨rtC (a:=6) rfl rfl rfl rfl rfl rfl (zaa _),rtI rfl rfl,trivial⟩
def fitT (T:Nat->List Place) (ks:List Nat) (m:Nat):Bool:=ks.contains m && decide (0<(T m).length)
def partT (T:Nat->List Place) (n:Nat) (ks:List Nat) (set:Nat):Bool:=(List.range n).all fun i=>(offS set i==set) || (offS set i==0) || fitT T ks (offS set i)
def growT (T:Nat->List Place) (n:Nat) (ks:List Nat) (set:Nat):Bool:=(List.range n).any fun i=>(onS set i != set) && fitT T ks (onS set i)
def keysT (T:Nat->List Place) (n:Nat):Nat->List Nat
 | 0=>[]
 | m+1=>if m≠0/\partT T n (keysT T n m) m=true then keysT T n m ++ [m] else keysT T n m
section
variable {d:Day} {T:Nat->List Place} (h:∀ m,celD d m=T m) {ids:List Int} (hi:sigL d.R=ids)
include h
theorem zl3:fitK d=fitT T:=by
 funext ks m
 unfold fitK fitT
 rw[h]
include hi
theorem zo0 (ks:List Nat) (m:Nat):partK d ks m=partT T ids.length ks m:=by
 unfold partK partT parK
 rw[zl3 h,hi]
theorem zsM (ks:List Nat) (m:Nat):growK d ks m=growT T ids.length ks m:=by
 unfold growK growT groK
 rw[zl3 h,hi]
theorem zi0:∀ m,keysD d m=keysT T ids.length m
 | 0=>rfl
 | m+1=>by
  unfold keysD keysT
  rw[zi0 m,zo0 h hi]
theorem zk8:parts d=prt (fun s=>fitT T (keysT T ids.length (2 ^ ids.length)) (bitS ids s)) ids []:=by
 unfold parts ksD
 rw[zl3 h,zi0 h hi,hi]
end
theorem p3:parts exD=[[[1,2],[3]],[[1],[2],[3]]]:=by
 rw[zk8 cel3 sig3]
 decide +kernel
theorem p4:parts exD4=[[[1],[2],[3]]]:=by
 rw[zk8 cel4 sig4]
 decide +kernel
theorem dE3:dayE exD=0:=by decide +kernel
theorem dE4:dayE exD4=0:=by decide +kernel
theorem zrz:fewR exD=(2,0):=by
 unfold fewR bsts
 rw[kG (fun hh=>hh dE3),p3]
 decide +kernel
theorem zry:fewR exD4=(3,0):=by
 unfold fewR bsts
 rw[kG (fun hh=>hh dE4),p4]
 decide +kernel
theorem par3 (a b:Int) (h:partB [a,b] [1,2,3]=true) (hn:a≠b):parE exD a b=0:=by
 unfold parE
 rw[kG (fun hh=>hh dE3),show sigL exD.R=[1,2,3] from sig3,kG (by rw[h]; decide),kG hn]
theorem par4 (a b:Int) (h:partB [a,b] [1,2,3]=true) (hn:a≠b):parE exD4 a b=0:=by
 unfold parE
 rw[kG (fun hh=>hh dE4),show sigL exD4.R=[1,2,3] from sig4,kG (by rw[h]; decide),kG hn]
theorem zgj:(samR exD 1 2).1.Ans=2/\(samR exD 1 2).2=0:=by
 unfold samR bsts
 rw[kG (fun hh=>hh (par3 1 2 (by decide +kernel) (by decide))),p3]
 decide +kernel
theorem zgi:(samR exD 1 3).1.Ans=1/\(samR exD 1 3).2=0:=by
 unfold samR bsts
 rw[kG (fun hh=>hh (par3 1 3 (by decide +kernel) (by decide))),p3]
 decide +kernel
theorem zgh:(samR exD4 1 2).1.Ans=1/\(samR exD4 1 2).2=0:=by
 unfold samR bsts
 rw[kG (fun hh=>hh (par4 1 2 (by decide +kernel) (by decide))),p4]
 decide +kernel
theorem ask3 (ids:List Int) (h1:setB ids=true) (h2:partB ids [1,2,3]=true):askE exD ids=0:=by
 unfold askE
 rw[kG (fun hh=>hh dE3),kG (by rw[h1]; decide),show sigL exD.R=[1,2,3] from sig3,kG (by rw[h2]; decide)]
theorem zmH:celR exD [1,3]=([],0):=by
 unfold celR
 rw[kG (fun hh=>hh (ask3 [1,3] (by decide +kernel) (by decide +kernel))),c5]
theorem zkr:(tabR exD).1.length=2/\(tabR exD).2.1.length=2/\(tabR exD).2.2=0:=by
 have e:tabR exD=(srtF (tabA (greB exD (ksD exD)) (fitF exD) (2 ^ (sigL exD.R).length)),srtM (tabA (leaB exD (ksD exD)) (misF exD) (2 ^ (sigL exD.R).length)),0):=by unfold tabR; rw[kG (fun hh=>hh dE3)]
 have g:∀ m,greB exD (ksD exD) m=(fitT T3 (keysT T3 3 8) m && !growT T3 3 (keysT T3 3 8) m):=fun m=>by
  unfold greB ksD
  rw[zl3 cel3,zsM cel3 sig3,zi0 cel3 sig3,show sigL exD.R=[1,2,3] from sig3]; rfl
 have l:∀ m,leaB exD (ksD exD) m=(!fitT T3 (keysT T3 3 8) m && partT T3 3 (keysT T3 3 8) m):=fun m=>by
  unfold leaB ksD
  rw[zl3 cel3,zo0 cel3 sig3,zi0 cel3 sig3,show sigL exD.R=[1,2,3] from sig3]; rfl
 have hl:∀ {α:Type} (p:Nat->Bool) (f:Nat->α) (n:Nat),(tabA p f n).length=(tabA p id n).length:=fun p f n=>by rw[zbC p f,qE]
 rw[e]
 refine⟨?_,?_,rfl⟩
 ·show (srtF _).length=2
  unfold srtF
  rw[qG,hl,show sigL exD.R=[1,2,3] from sig3,show greB exD (ksD exD)=_ from funext g]
  decide +kernel
 show (srtM _).length=2
 unfold srtM
 rw[qG,hl,show sigL exD.R=[1,2,3] from sig3,show leaB exD (ksD exD)=_ from funext l]
 decide +kernel
def SpecA (P:Program) (f:FuncId) (args:List V1) (obs':List (Nat × Ob)) (cs:List Cap):Prop:=
 Ent P f /\ ∀ (w:World) (ok:Nat->Prop) (vs:List Value),(∀ b,ok b->b<w.heap.size)->All2 (Rep1 w ok) args vs ->
  Calls P f vs.toArray w fun en w'=>∃ v γ',en = .returned v/\FrM w w' γ' []/\OwnS w' (okM w w' ok γ' γ' [] obs') γ' obs' /\
   (∀ i o b,look obs' i=some o->blk (γ' i)=some b->w.heap.size<=b)/\M w' (okM w w' ok γ' γ' [] obs') γ' (.aggc cs) v
def retA (a i:Nat) (obs':List (Nat × Ob)):KK:=fun e s=>match e with
 | .normal=>Weak s [(a,.box i 0)] obs'
 | .ret=>Weak s [(a,.box i 0)] obs'
 | _=>False
theorem zmW {P : Program} {T : TT} {E : Env} (hdr : E.dr = false) (hT : ∀ t i, T t = some i -> TI.of P t = some i) (hE : ∀ t, E.eq t = true -> EqFact P t) (hm : P.follows .mixedOrders = true)
  {f : FuncId} {fn : Func} {c : Code} (hf : P.funcs[f]? = some fn) (hb : fn.body = some c) (hn : (fn.name == "runtime.NumGoroutine") = false) (hN : codeN fn.ntmps c = true)
  {args : List V1} {obs' : List (Nat × Ob)} {cs : List Cap} (u i t : Nat) {ti : TI} (hts : fn.results.toList = [ResultVar.cell u t]) (ht : T t = some ti) (hld : loadE (St.of [(u, .box i 0)] obs') ti (.box i 0) fun z => z = .aggc cs) (hsz : args.length <= fn.ntmps) (hng : fn.ntmps <= G)
  (h : awp P T E c (St.of (argSlots 0 args) []) (retA u i obs')) : SpecA P f args obs' cs :=
 ⟨⟨fn, hf, hn, by rw [hb]; rfl⟩, fun w ok vs hok hm2 => zj4 hT hE hm hf hb hN (cx := cx0 E.dr w ok fn.ntmps) id rfl rfl rfl (fun _ _ => id) (zfo hok hm2 hsz hng) h
  (fun x h1 h2 s h => by cases x <;> first | exact h1 rfl | exact h2 rfl | exact h) fun x s a w' hx hk hR _ => by
  have k2 : Weak s [(u, .box i 0)] obs' := by rcases hx with rfl | rfl <;> exact hk
  obtain ⟨γ', hg⟩ := hR.weak k2
  have hs0 := hg.slots u
  have hsl : (St.of [(u, .box i 0)] obs').sl u = .box i 0 := by
   show (look [(u, AV.box i 0)] u).getD .any = _
   simp only [look, zax]; rfl
  rw [hsl] at hs0
  have hl0 : ∀ b, ¬ LentB γ' [] b := fun b ⟨j, o, h1, _⟩ => by cases h1
  have hok2 : ∀ b, okOf (cx0 E.dr w ok fn.ntmps) (St.of [(u, .box i 0)] obs') γ' w' b -> okM w w' ok γ' γ' [] obs' b := fun b hb => by
   rcases hb with hb | ⟨h1, h2, h3⟩
   ·exact .inl hb
   exact .inr ⟨.inl (h1.elim id False.elim), h2, fun ⟨j, p, g1, g2⟩ => h3 j p g1 g2⟩
  obtain ⟨z, v, g1, g2, _, rfl⟩ := zcg hg (hT t ti ht) hs0 hld
  obtain ⟨b, hb1, hx1⟩ := id hs0
  have hv : (do loadVar t (← asAddr (a.tmps.getD u undef))).run P w' = .ok v w' := by
   rw [hx1] at g1 ⊢
   have g3 : (loadVar t ⟨b, 0, none⟩).run P w' = .ok v w' := by simpa [Instr.loadAt, Instr.sureAddr] using g1
   simpa [asAddr] using g3
  have hrun := za4 (P := P) (fn := fn) (a := a) (w := w') (vs := [v]) (by
   rw [hts, jbv]
   simp only [Sem.run_bind] at hv ⊢
   rw [hv]
   simp)
  refine ⟨_, hrun, v, γ', rfl, ⟨hg.below.os, hg.below.tape, hg.below.output, hg.below.size, fun k hk _ => hg.below.block k hk id⟩, ⟨fun i o hi => ?_, hg.refs, hg.sep, fun i o b hi hb hok' => ?_⟩, fun i o b hi hb => (zaB hg hi hb).1.elim id False.elim, ?_⟩
  ·exact (hg.objs i o hi).reO rfl (fun _ _ _ _ _ _ => rfl) (fun _ _ => trivial) hok2
  ·rcases hok' with h1 | ⟨_, _, h3⟩
   ·exact zhc hg (zaB hg hi hb).1 h1
   exact h3 ⟨i, o, hi, hb⟩
  exact M.keep (fun b hb => ⟨hok2 b hb, rfl⟩) (fun _ _ => rfl) g2⟩
section
variable {s:St} {o:Oper} {fo:Operand} {f:FuncId} {K:St->Prop} {E:Env}
theorem CallSt.obA (sl:List (Nat × AV)) (rest:List (Nat × Ob)) {obs':List (Nat × Ob)} {cs:List Cap} (hdr:E.dr=false) {args:Array Operand} {at':Array TypeId} (hop:o.op = .call { callee:=.value fo,args,argTypes:=at' }) {xs:List V1} (h:SpecA PP f xs obs' cs)
  (hw:Weak s sl rest) (hx:toV1c (St.of sl rest) fo args.toList=some (f,xs)) (hno:noOwn (St.of sl rest) args.toList=true) (hi:∀ j∈(AV.aggc cs).refs,(look obs' j).isSome=true) (hc:goodM sl [] obs' rest []=true)
  (hk:K ((St.of sl (obs'++rest)).putO o.dst (.aggc cs))):CallSt E PP s o fo args.toList K:=by
 obtain⟨ex,h1,h2⟩:=zaz hx
 rw[zag]
 refine .inr (.inr (.inl ⟨_,⟨fun cx a w hD hd hR=>?_⟩,hk⟩))
 obtain⟨γ,hg⟩:=hR.weak hw
 obtain⟨caps,hf,hcm⟩:=zaP h1 (ev_m hg fo).1
 have hm:=(zbg hg h2 ((zby hg args.toList).append hcm)).2 (zct hno (zbt h1))
 refine .enter (zaw hop hf h.1) ?_
 refine (h.2 w _ _ (fun b hb=>zam hg hb) hm).mono fun en w' ⟨v,γ2,e0,hfr,ho,hn,hres⟩=>?_
 have hl0:∀ (γ:Nat->Value) b,¬ LentB γ [] b:=fun γ b ⟨j,o,h1,_⟩=>by cases h1
 have hM0:∀ b,okM w w' (okOf cx (St.of sl ([]++rest)) γ w) γ2 γ2 [] obs' b ↔ okM w w' (okOf cx (St.of sl ([]++rest)) γ w) γ γ2 [] obs' b:=fun b=>
  ⟨fun hb=>hb.imp id fun hb=>⟨hb.1.imp id fun h=>absurd h (hl0 _ _),hb.2⟩,fun hb=>hb.imp id fun hb=>⟨hb.1.imp id fun h=>absurd h (hl0 _ _),hb.2⟩⟩
 obtain⟨γ',hg',hγ,hM⟩:=RG.lendM (obs:=[]) (pins:=[]) (γ2:=γ2) hg (fun e=>by have:=hD e; rw[hdr] at this; cases this) ⟨hfr.os,hfr.tape,hfr.output,hfr.size,fun k hk _=>hfr.block k hk (hl0 _ _)⟩ (fun i hi=>by cases hi)
  ⟨fun i o hi=>(ho.objs i o hi).reO rfl (fun _ _ _ _ _ _=>rfl) (fun _ _=>trivial) fun b hb=>(hM0 b).1 hb,ho.refs,ho.sep,fun i o b hi hb hk=>ho.out i o b hi hb ((hM0 b).2 hk)⟩ (fun i o b hi hb=>.inl (hn i o b hi hb)) hc
 refine⟨_,e0,γ',hg'.putO hd (M.keep (fun b hb=>⟨hM b ((hM0 b).1 hb),rfl⟩) (fun j hj=>hγ j (hi j hj)) hres) fun j hj=>?_⟩
 show (look (obs'++rest) j).isSome=true
 rw[zas]
 have:=hi j hj
 cases e:look obs' j with
 | some x=>rfl
 | none=>rw[e] at this; cases this
theorem CallSt.lendW (ids:List Nat) {args:Array Operand} {at':Array TypeId} (hop:o.op = .call { callee:=.value fo,args,argTypes:=at' }) {xs ys res res':List V1} (h:SpecG E.dr PP f ys res) (hx:toV1c (s.freezes ids) fo args.toList=some (f,xs)) (he:eqV1s xs ys)
  (hw:∀ w ok v,ResRep w ok res v->ResRep w (fun _=>False) res' v) (hk:K (s.putO o.dst (resAV res'))):CallSt E PP s o fo args.toList K:=by
 obtain⟨ex,h1,h2⟩:=zaz hx
 rw[zag]
 refine .inr (.inr (.inl ⟨_,⟨fun cx a w hD hd hR=>?_⟩,hk⟩))
 obtain⟨γ,hg⟩:=hR
 obtain⟨γ',h'⟩:=R.freezes ids ⟨γ,hg⟩
 obtain⟨cvs,hcx,hcm⟩:=zaP h1 (ev_m h' fo).1
 have hm:=(zbg h' h2 ((zby h' args.toList).append hcm)).1
 refine .enter (zaw hop hcx h.1) ?_
 refine ((h.eqv he).2 w _ _ (fun b hb=>hb) hm).mono fun en w' ⟨v,e,hb,hres⟩=>⟨v,e,γ,?_⟩
 exact (hg.grow hb.1 fun e=>hb.2 (hD e)).putO hd (zaO (.inl fun b hb=>hb.elim) (hw _ _ _ hres)) (fun j hj=>by rw[zau] at hj; cases hj)
end
theorem zfn {w:World} {ok:Nat->Prop} {k n:Nat} {f g:Nat->Nat->D} {v:Value} (h:Rep w ok (.slc k n f) v):Rep w (fun _=>False) (.slc 0 n g) v:=by
 rcases h with⟨h,e⟩ | ⟨a,cap,e,h1,h2,_⟩
 ·exact .inl ⟨h,e⟩
 exact .inr ⟨a,cap,e,h1,h2,fun i _ j hj=>absurd hj (qI _)⟩
abbrev lenD (n:Nat):D:=.slc 0 n fun _ _=>.nil
theorem zil {w:World} {ok:Nat->Prop} {x x':V1} {y:D} {v:Value} (hy:y.flat=true) (hx:∀ u,Rep1 w ok x u->Rep1 w (fun _=>False) x' u) (h:ResRep w ok [x,.d y] v):ResRep w (fun _=>False) [x',.d y] v:=by
 obtain⟨vs,e,h⟩:=h
 cases h with
 | cons a b=>
 cases b with
 | cons c d=>
 cases d
 exact⟨_,e,.cons (hx _ a) (.cons (Rep1.flat (x:=.d y) hy c) .nil)⟩
theorem zmX (ids : List Nat) {f : FuncId} {fn : Func} {c : Code} (hf : PP.funcs[f]? = some fn) (hb : fn.body = some c) (hq : ((fn.name == "runtime.NumGoroutine") || !(codeN fn.ntmps c && Nat.ble fn.ntmps 4294967296)) = false)
  {args : List V1} {obs' : List (Nat × Ob)} {cs : List Cap} (u i t : Nat) {ti : TI} (hts : fn.results.toList = [ResultVar.cell u t]) (ht : TTab t = some ti) (hld : loadE (St.of [(u, .box i 0)] obs') ti (.box i 0) fun z => z = .aggc cs) (hsz : Nat.ble args.length fn.ntmps = true)
  (h : awp PP TTab (EC ids) c (St.of (argSlots 0 args) []) (retA u i obs')) : SpecA PP f args obs' cs := by
 simp only [qU, qR, jP] at hq
 exact zmW (E := EC ids) rfl hT hE hM hf hb hq.1 hq.2.1 u i t hts ht hld (jD hsz) (jD hq.2.2) h
abbrev exP:List D:=[I 9,I 9,lI exS.c.M.G,lT exS.c.T,lZ exS.c.Z,lC exS.k.C,lK exS.k.K,I 0,I 60]
abbrev exOb:List (Nat × Ob):=[(0,.box (exP.map AV.d ++ [.own 25])),(25,.row 93 8 3 (rowRp exR))]
abbrev exCs:List Cap:=exP.map Cap.dat ++ [.own 25]
theorem zkm:SpecA PP 36 [] exOb exCs:=by
 refine zmX [6] Tryz.func36 rfl (by kernel_rfl) 0 0 37 rfl rfl rfl rfl ?_
 refine⟨⟨by decide,rfl,by decide,by decide⟩,?_⟩
 refine kAt [(0,.box 0 0),(1,.box 1 0)] [(0,.box (List.replicate 10 .any)),(1,.box (exP.map AV.d ++ [.own 25])),(25,.row 93 8 3 (rowRp exR))] ⟨rfl,⟨zan rfl rfl,?_,obR rfl ⟨rfl,.inr ⟨rfl,fun i hi j hj=>?_⟩⟩,trivial⟩,wq rfl⟩ ?_
 ·refine⟨⟨rfl,rfl⟩,⟨rfl,rfl⟩,⟨rfl,.inr ⟨rfl,fun i hi j hj=>?_⟩⟩,⟨rfl,_,_,_,_,rfl,rfl,.inr ⟨rfl,fun i hi j hj=>?_⟩⟩,rfl,⟨rfl,_,_,_,_,rfl,rfl,.inr ⟨rfl,fun i hi j hj=>?_⟩⟩,rfl,⟨rfl,rfl⟩,⟨rfl,rfl⟩,rfl,trivial⟩
  ·have hj:j<1:=hj
   obtain rfl:j=0:=by omega
   show D.eqv (I 0) (I ((List.replicate 81 (0:Int)).getD i 0))
   have:(List.replicate 81 (0:Int)).getD i 0=0:=by
    rw[hZ,List.getElem?_replicate]
    split <;> rfl
   rw[this]
   exact⟨rfl,rfl⟩
  ·have hi:i<2:=hi
   have hj:j<4:=hj
   obtain rfl | rfl:i=0 \/ i=1:=by omega
   all_goals match j,hj with
   | 0,_=>exact⟨rfl,rfl⟩
   | 1,_=>exact⟨rfl,rfl⟩
   | 2,_=>exact⟨rfl,rfl⟩
   | 3,_=>exact⟨rfl,rfl⟩
  have hi:i<2:=hi
  have hj:j<8:=hj
  obtain rfl | rfl:i=0 \/ i=1:=by omega
  all_goals match j,hj with
  | 0,_=>exact⟨rfl,rfl⟩
  | 1,_=>exact⟨rfl,rfl⟩
  | 2,_=>exact⟨rfl,rfl⟩
  | 3,_=>exact⟨rfl,rfl⟩
  | 4,_=>exact⟨rfl,rfl⟩
  | 5,_=>exact⟨rfl,rfl⟩
  | 6,_=>exact⟨rfl,rfl⟩
  | 7,_=>exact⟨rfl,rfl⟩
 ·have hi:i<3:=hi
  have hj:j<8:=hj
  obtain rfl | rfl | rfl:i=0 \/ i=1 \/ i=2:=by omega
  all_goals match j,hj with
  | 0,_=>exact⟨rfl,rfl⟩
  | 1,_=>exact⟨rfl,rfl⟩
  | 2,_=>exact⟨rfl,rfl⟩
  | 3,_=>exact⟨rfl,rfl⟩
  | 4,_=>exact⟨rfl,rfl⟩
  | 5,_=>exact⟨rfl,rfl⟩
  | 6,_=>exact⟨rfl,rfl⟩
  | 7,_=>exact⟨rfl,rfl⟩
 exact⟨rfl,⟨obX rfl,obR rfl (dE _),trivial⟩,wq rfl⟩
theorem znv (s:Svc) (P:Nat->Bool) (hv:validM s.c.M=true):SpecO PP 172 [s.v,.agg (bD P)] 75 2 (plsL s.c.M P).length (rowP (plsL s.c.M P)):=by
 have hl:=zb2 hv
 refine zdi Tryz.func172 rfl (by kernel_rfl) rfl ?_
 refine cR (zdV s.c.M) rfl rfl ?_
 refine CodeOb.rangeAt (zcv s.c.M hv) rfl (fun _=>rfl) (by decide) [(2,.box 2 0),(3,.box 3 0),(5,.box 5 0)] [(5,0)] (fun pre=>obPls s P pre.length) rfl (fun _=>rfl) ?_ (Iv:=fun _=>True) trivial (fun v pre x hx _=>?_) (fun _=>?_)
 ·exact⟨rfl,⟨obX rfl,obX rfl,obN rfl rfl rfl,obZ rfl rfl,trivial⟩,wq rfl⟩
 ·obtain⟨rfl,hk⟩:=zgm hx
  have hn:=zbP hv (k:=pre.length)
  have hp:=znI P pre.length (by omega)
  rw[<- hn] at hp
  have hlen:=zfy s.c.M P pre.length
  refine cP hp rfl rfl ?_
  apply bY <;> intro h1
  ·refine⟨⟨.inr rfl,by unfold maxLen; omega,by show ((plsK s.c.M P pre.length).length+1) * 16<=140737488355328; omega⟩,?_⟩
   refine⟨trivial,rfl,⟨obX rfl,obX rfl,obO rfl,obR rfl ?_,trivial⟩,wq rfl⟩
   rw[jR]
   show D.eqv _ (.slc 2 (plsK s.c.M P (pre.length+1)).length (rowP (plsK s.c.M P (pre.length+1))))
   rw[zfx h1]
   exact zno (at2 rfl rfl)
  refine⟨trivial,rfl,⟨obX rfl,obX rfl,obO rfl,obR rfl ?_,trivial⟩,wq rfl⟩
  rw[jR]
  show D.eqv _ (.slc 2 (plsK s.c.M P (pre.length+1)).length (rowP (plsK s.c.M P (pre.length+1))))
  rw[zhK h1]; exact dE _
 rw[zcc]
 exact⟨rfl,rfl,rfl,fun i hi j hj=>dE _⟩
theorem zjf (l:List Place) (m j:Nat):(rowP l m j).flat=true:=by
 show ((l.getD m default).at j).flat=true
 unfold Place.at
 split <;> rfl
theorem SpecTO.eqv {dr:Bool} {P:Program} {f:FuncId} {xs ys:List V1} {e k n:Nat} {g:Nat->Nat->D} {res:List V1} (h:SpecTO dr P f ys e k n g res) (he:eqV1s xs ys):SpecTO dr P f xs e k n g res:=
 ⟨h.1,fun w ok vs hok hv=>h.2 w ok vs hok (zbj he hv)⟩
def retTO (t0 i:Nat) (ts:List Nat) (res:List V1) (e k n:Nat) (g:Nat->Nat->D):KK:=fun x s=>match x with
 | .normal=>Weak s ((t0,.own i) :: retSl ts res) [(i,.row e k n g)]
 | .ret=>Weak s ((t0,.own i) :: retSl ts res) [(i,.row e k n g)]
 | _=>False
theorem zkD {P : Program} {T : TT} {E : Env} (hT : ∀ t i, T t = some i -> TI.of P t = some i) (hE : ∀ t, E.eq t = true -> EqFact P t) (hm : P.follows .mixedOrders = true)
  {f : FuncId} {fn : Func} {c : Code} (hf : P.funcs[f]? = some fn) (hb : fn.body = some c) (hn : (fn.name == "runtime.NumGoroutine") = false) (hN : codeN fn.ntmps c = true)
  {args : List V1} (t0 i t1 : Nat) (ts : List Nat) (hts : fn.results.toList = (t0 :: t1 :: ts).map ResultVar.tmp) {res : List V1} (hlr : (t1 :: ts).length = res.length) (hpn : (t0 :: t1 :: ts).Nodup) (hfl : res.all V1.flat = true)
  {e k n : Nat} {g : Nat -> Nat -> D} (hsz : args.length <= fn.ntmps) (hng : fn.ntmps <= G) (h : awp P T E c (St.of (argSlots 0 args) []) (retTO t0 i (t1 :: ts) res e k n g)) : SpecTO E.dr P f args e k n g res :=
 ⟨⟨fn, hf, hn, by rw [hb]; rfl⟩, fun w ok vs hok hm2 => zj4 hT hE hm hf hb hN (cx := cx0 E.dr w ok fn.ntmps) id rfl rfl rfl (fun _ _ => id) (zfo hok hm2 hsz hng) h
  (fun x h1 h2 s h => by cases x <;> first | exact h1 rfl | exact h2 rfl | exact h) fun x s a w' hx hk hR _ => by
  have k2 : Weak s ((t0, .own i) :: retSl (t1 :: ts) res) [(i, .row e k n g)] := by rcases hx with rfl | rfl <;> exact hk
  obtain ⟨γ', hg⟩ := hR.weak k2
  have hsl : ∀ t v, look ((t0, AV.own i) :: retSl (t1 :: ts) res) t = some v -> (St.of ((t0, .own i) :: retSl (t1 :: ts) res) [(i, .row e k n g)]).sl t = v := fun t v e => by
   show (look ((t0, AV.own i) :: retSl (t1 :: ts) res) t).getD .any = _
   rw [e]; rfl
  have hs0 := hg.slots t0
  rw [hsl t0 (.own i) (by simp only [look, zax]; rfl)] at hs0
  have hval : a.tmps.getD t0 undef = γ' i := hs0
  have ho : (St.of ((t0, .own i) :: retSl (t1 :: ts) res) [(i, .row e k n g)]).ob i = some (.row e k n g) := by
   show look [(i, Ob.row e k n g)] i = _
   simp only [look, zax]; rfl
  obtain ⟨xs, h1, h0, h2, h3⟩ := hg.objs i _ ho
  have hnd : (([(t0, AV.own i)] ++ retSl (t1 :: ts) res).map Prod.fst).Nodup := by rw [jT, zcz hlr]; exact hpn
  have hres := zfm hg hlr fun t x hx => hsl t _ (zbS (l := [(t0, AV.own i)]) hx hnd)
  have hrun := za4 (P := P) (fn := fn) (a := a) (w := w') (vs := (t0 :: t1 :: ts).map fun t => a.tmps.getD t undef) (by rw [hts]; exact zfl _)
  have h1' : w'.ownsRow w.heap.size e k (γ' i) n xs := ⟨h1.1, by
   rcases h1.2 with h4 | ⟨g', cap, cur, h4, h5, h6⟩
   ·exact .inl h4
   exact .inr ⟨g', cap, cur, h4, (h0 g' (by rw [h4]; rfl)).elim id False.elim, h6⟩⟩
  refine ⟨_, hrun, γ' i, (t1 :: ts).map (fun t => a.tmps.getD t undef), ?_, ⟨bel0 hg.below, hg.below.drawn⟩, ⟨xs, h1', h2, fun m hm j hj => ?_⟩, fun ok' => ?_⟩
  ·rw [<- hval]; rfl
  ·obtain ⟨u, hu, hr⟩ := h3 m hm j hj
   exact ⟨u, hu, Rep.keep (fun b hb => ⟨hb.imp id fun hb => ⟨hb.1.elim id False.elim, hb.2.1, hb.2.2 i _ ho⟩, rfl⟩) hr⟩
  exact hres.imp fun x u hx hr => Rep1.flat (jC.1 hfl x hx) hr⟩
theorem zgl {f : FuncId} {fn : Func} {c : Code} (hf : PP.funcs[f]? = some fn) (hb : fn.body = some c) (hq : ((fn.name == "runtime.NumGoroutine") || !(codeN fn.ntmps c && Nat.ble fn.ntmps 4294967296)) = false)
  {args : List V1} (t0 i t1 : Nat) (ts : List Nat) {res : List V1} (hts : fn.results.toList = (t0 :: t1 :: ts).map ResultVar.tmp) (hlr : (t1 :: ts).length = res.length) (hpn : (t0 :: t1 :: ts).Nodup) (hfl : res.all V1.flat = true) {e k n : Nat} {g : Nat -> Nat -> D} (hsz : Nat.ble args.length fn.ntmps = true)
  (h : awp PP TTab (EC []) c (St.of (argSlots 0 args) []) (retTO t0 i (t1 :: ts) res e k n g)) : SpecTO false PP f args e k n g res := by
 simp only [qU, qR, jP] at hq
 exact zkD (E := EC []) hT hE hM hf hb hq.1 hq.2.1 t0 i t1 ts hts hlr hpn hfl (jD hsz) (jD hq.2.2) h
section
variable {s:St} {o:Oper} {fo:Operand} {args:List Operand} {f:FuncId} {K:St->Prop} {E:Env}
theorem CallSt.ownT {xs ys res:List V1} {d e k n:Nat} {g:Nat->Nat->D} (h:SpecTO E.dr PP f ys e k n g res) (hx:toV1c s fo args=some (f,xs)) (he:eqV1s xs ys) (hd:o.dst=some d) (hg:∀ m j,m<n->j<k->(g m j).flat=true)
  (hk:K (Go.Pg.mk s d (.row e k n g) (.tupr d res))):CallSt E PP s o fo args K:=by
 obtain⟨ex,h1,h2⟩:=zaz hx
 rw[zag]; exact .inr (.inl ⟨[],f,ex,d,h1,hd,by rw[zaq]; exact⟨xs,e,k,n,g,some res,h2,h.eqv he,hg,hk⟩⟩)
end
theorem zlK (s:Svc) (b:Brn) (l:List Rpt) (h0:givE s b l=0):SpecTO false PP 120 [s.v,b.v,.d (lR l)] 75 2 (plcR s b l).1.length (rowP (plcR s b l).1) [.d (.int .i64 0)]:=by
 have e:allR s b l=(l.map (alwP s b),0):=by unfold allR; rw[kG (fun hh=>hh h0)]
 have e1:plcR s b l=(plsL s.c.M (metP (l.map (alwP s b))),0):=by unfold plcR; rw[kG (fun hh=>hh h0)]
 have ok:=zda h0
 have hn:=ok.n
 rw[e1]
 refine zgl Tryz.func120 rfl (by kernel_rfl) 6 23 7 [] rfl rfl (by decide) rfl rfl ?_
 have ha:=znL s b l
 rw[e] at ha
 refine cR ha rfl rfl ?_
 refine sF ?_
 refine oL [0,1,2,6003,4,5] (fNo ?_)
 refine oP (zo8 (l.map (alwP s b)) (by rw[qE]; omega)) rfl rfl ?_
 refine⟨⟨_,_,_,_,_,_,rfl,rfl,rfl,rfl,?_⟩⟩
 rw[zaq]
 refine⟨_,_,_,_,_,none,rfl,znv s (metP (l.map (alwP s b))) ok.s.c.m,fun m j _ _=>zjf _ m j,?_⟩
 exact⟨rfl,⟨obR rfl (dE _),trivial⟩,wq rfl⟩
theorem zlO {d:Day} (h:DayOk d) (ids:List Int) (hi:ids.length<=1000000) (h1:(brnD d ids).To - (brnD d ids).From<=d.Long) (h0:givE d.s (brnD d ids) (lstD d ids)=0) :
  SpecO PP 56 [d.v,.d (lI ids)] 75 2 (plsD d ids).length (rowP (plsD d ids)):=by
 have hn:=h.n
 have e:plsD d ids=(plcR d.s (brnD d ids) (lstD d ids)).1:=by unfold plsD; rw[kI h1]
 rw[e]
 refine zdi Tryz.func56 rfl (by kernel_rfl) rfl ?_
 refine cP (zgJ d ids (by omega) hi) rfl rfl ?_
 refine cP (zdX d (brnD d ids) (zei h ids)) rfl rfl ?_
 apply bY <;> intro h2
 ·have h2:¬ (brnD d ids).To - (brnD d ids).From<=d.Long:=by simpa using h2
  exact absurd h1 h2
 refine oL [0,1,2,3,4,5,6006,7,8,9,10,11] (fNo ?_)
 refine oRo (zgI d ids (by omega) hi) rfl rfl ?_
 refine⟨⟨_,_,_,_,_,_,rfl,rfl,rfl,rfl,?_⟩⟩
 rw[zaq]
 refine⟨_,_,_,_,_,some _,rfl,zlK d.s (brnD d ids) (lstD d ids) h0,fun m j _ _=>zjf _ m j,?_⟩
 exact⟨rfl,rfl,rfl,fun i hi j hj=>dE _⟩
theorem zqO (d:Day) (ids:List Int) (hn:d.R.length<=1000000) (hi:ids.length<=1000000) (h0:askE d ids=0) (h1:(brnD d ids).To - (brnD d ids).From<=d.Long) (hg:givE d.s (brnD d ids) (lstD d ids)=0) :
  SpecTO false PP 37 [d.v,.d (lI ids)] 75 2 (plsD d ids).length (rowP (plsD d ids)) [.d (.int .i64 0)]:=by
 refine zgl Tryz.func37 rfl (by kernel_rfl) 4 15 5 [] rfl rfl (by decide) rfl rfl ?_
 have ha:=zlR d ids hn hi
 rw[h0] at ha
 refine cP ha rfl rfl ?_
 refine sF ?_
 refine CallSt.own (zlO (zpo h0) ids hi h1 hg) rfl rfl (fun m j _ _=>zjf _ m j) ?_
 exact⟨rfl,⟨obR rfl (dE _),trivial⟩,wq rfl⟩
theorem giv12:givE exS (brnD exD [1,2]) (lstD exD [1,2])=0:=by
 have e1:brnD exD [1,2]=⟨100,110,0⟩:=by decide +kernel
 have e2:lstD exD [1,2]=[xq1,xq2]:=by decide +kernel
 rw[e1,e2]
 refine zsO _ (by decide +kernel) _ (by decide) (fun r hr=>?_) (by decide +kernel)
 rcases kZ.1 hr with rfl | hr
 ·exact rx1
 rcases kZ.1 hr with rfl | hr
 ·exact rx2
 cases hr
theorem ztc:SpecTO false PP 37 [exD.v,.d (lI [1,2])] 75 2 1 (rowP [⟨4,4⟩]) [.d (.int .i64 0)]:=by
 have h:=zqO exD [1,2] (by decide) (by decide) (ask3 [1,2] (by decide +kernel) (by decide +kernel)) (by decide +kernel) giv12
 rw[c3] at h
 exact h
theorem zsb:Spec PP 33 [exD.v,.d (lI [1,3])] [B false,.d (.int .i64 0)]:=by
 have h:=zj0 exD [1,3] (by decide) (by decide)
 rw[zmH] at h
 exact h
theorem few3:Spec PP 25 [exD.v] [N 2,.d (.int .i64 0)]:=by
 have h:=zi3 exD (by decide)
 rw[zrz] at h
 exact h
theorem few4:Spec PP 25 [exD4.v] [N 3,.d (.int .i64 0)]:=by
 have h:=zi3 exD4 (by decide)
 rw[zry] at h
 exact h
abbrev vdL (a:Int) (m n:Nat):V1:=.agg [I a,lenD m,lenD n]
theorem zkn {w:World} {ok:Nat->Prop} (x:Vdt) {a:Int} (ha:x.Ans=a):∀ u,Rep1 w ok x.v u->Rep1 w (fun _=>False) (vdL a x.T.length x.A.length) u:=fun u ⟨us,e,h⟩=>by
 subst ha
 refine⟨us,e,?_⟩
 cases h with
 | cons h1 h=>
 cases h with
 | cons h2 h=>
 cases h with
 | cons h3 h=>
 cases h
 exact .cons (Rep.flat rfl h1) (.cons (zfn h2) (.cons (zfn h3) .nil))
theorem zrH {w:World} {ok:Nat->Prop} {l:List Fit} {m:List Mis}:∀ u,Rep1 w ok (.agg [lFt l,lMs m]) u->Rep1 w (fun _=>False) (.agg [lenD l.length,lenD m.length]) u:=fun u ⟨us,e,h⟩=>by
 refine⟨us,e,?_⟩
 cases h with
 | cons h1 h=>
 cases h with
 | cons h2 h=>
 cases h
 exact .cons (zfn h1) (.cons (zfn h2) .nil)
theorem zlL {f:Nat->Nat->D} {a b:Int} (h0:D.eqv (f 0 0) (I a)) (h1:D.eqv (f 1 0) (I b)):D.eqv (.slc 1 2 f) (lI [a,b]):=⟨rfl,.inr ⟨rfl,fun i hi j hj=>by
 match i,hi,j,hj with
 | 0,_,0,_=>exact h0
 | 1,_,0,_=>exact h1⟩⟩
theorem zrR:Spec PP 35 [exD.v,N 1,N 2] [(samR exD 1 2).1.v,.d (.int .i64 0)]:=by
 have h:=zlS exD 1 2 (by decide)
 rw[zgj.2] at h
 exact h
theorem zrQ:Spec PP 35 [exD.v,N 1,N 3] [(samR exD 1 3).1.v,.d (.int .i64 0)]:=by
 have h:=zlS exD 1 3 (by decide)
 rw[zgi.2] at h
 exact h
theorem zpU:Spec PP 35 [exD4.v,N 1,N 2] [(samR exD4 1 2).1.v,.d (.int .i64 0)]:=by
 have h:=zlS exD4 1 2 (by decide)
 rw[zgh.2] at h
 exact h
theorem tab3:Spec PP 30 [exD.v] [.agg [lFt (tabR exD).1,lMs (tabR exD).2.1],.d (.int .i64 0)]:=by
 have h:=zqN exD (by decide)
 rw[zkr.2.2] at h
 exact h
theorem zpL {w:World} {ok:Nat->Prop}:∀ u,Rep1 w ok (.agg [lFt (tabR exD).1,lMs (tabR exD).2.1]) u->Rep1 w (fun _=>False) (.agg [lenD 2,lenD 2]) u:=fun u h=>by
 have:=zrH u h
 rw[zkr.1,zkr.2.1] at this
 exact this
theorem zr7 {n:Nat} {g:Nat->Nat->D} (hn:n=4) (hg:∀ j,j<8->D.eqv (g 0 j) (xq4.at j)):D.eqv (.slc 8 n (appRow 3 (rowRp exR) g)) (lR exD4.R):=by
 subst hn
 refine⟨rfl,.inr ⟨rfl,fun i hi j hj=>?_⟩⟩
 match i,hi with
 | 0,_=>exact dE (xq1.at j)
 | 1,_=>exact dE (xq2.at j)
 | 2,_=>exact dE (xq3.at j)
 | 3,_=>exact hg j hj
theorem x4:∀ j,j<8->D.eqv (rowOf 8 xq4.ds 0 j) (xq4.at j):=fun j hj=>by
 match j,hj with
 | 0,_=>exact⟨rfl,rfl⟩
 | 1,_=>exact⟨rfl,rfl⟩
 | 2,_=>exact⟨rfl,rfl⟩
 | 3,_=>exact⟨rfl,rfl⟩
 | 4,_=>exact⟨rfl,rfl⟩
 | 5,_=>exact⟨rfl,rfl⟩
 | 6,_=>exact⟨rfl,rfl⟩
 | 7,_=>exact⟨rfl,rfl⟩
theorem zpA:Spec PP 9 [] [B true]:=by
 refine sA Tryz.func9 ?_
 refine CallSt.obA [(0,.d (.bool false))] [] rfl rfl zkm ⟨rfl,trivial,wq rfl⟩ rfl rfl (fun j hj=>by
  have hj:j ∈ [25]:=hj
  obtain rfl:=kT.1 hj
  rfl) rfl ?_
 refine CallSt.ownT ztc rfl ⟨zaa _,zlL ⟨rfl,rfl⟩ ⟨rfl,rfl⟩,trivial⟩ rfl (fun m j _ _=>zjf _ m j) ?_
 refine pEq zsb rfl ⟨zaa _,zlL ⟨rfl,rfl⟩ ⟨rfl,rfl⟩,trivial⟩ rfl ?_
 refine pEq few3 rfl ⟨zaa _,trivial⟩ rfl ?_
 refine CallSt.lendW [] rfl zrR rfl ⟨zaa _,⟨rfl,rfl⟩,⟨rfl,rfl⟩,trivial⟩ (fun w ok v h=>zil (y:=.int .i64 0) rfl (zkn _ zgj.1) h) ?_
 refine CallSt.lendW [] rfl zrQ rfl ⟨zaa _,⟨rfl,rfl⟩,⟨rfl,rfl⟩,trivial⟩ (fun w ok v h=>zil (y:=.int .i64 0) rfl (zkn _ zgi.1) h) ?_
 refine CallSt.lendW [] rfl tab3 rfl ⟨zaa _,trivial⟩ (fun w ok v h=>zil (y:=.int .i64 0) rfl zpL h) ?_
 repeat first | apply sT | apply sF
 refine⟨⟨.inr rfl,by unfold maxLen; omega,by show (3+1) * 64<=140737488355328; omega⟩,?_⟩
 refine CallSt.lendW [] rfl zpU rfl ⟨⟨dE _,dE _,dE _,dE _,dE _,dE _,dE _,dE _,dE _,?_,trivial⟩,⟨rfl,rfl⟩,⟨rfl,rfl⟩,trivial⟩ (fun w ok v h=>zil (y:=.int .i64 0) rfl (zkn _ zgh.1) h) ?_
 ·exact zr7 rfl x4
 refine pEq few4 rfl ⟨⟨dE _,dE _,dE _,dE _,dE _,dE _,dE _,dE _,dE _,?_,trivial⟩,trivial⟩ rfl ?_
 ·exact zr7 rfl x4
 refine⟨⟨by decide,by decide⟩,?_⟩
 refine⟨by decide,?_⟩
 repeat first | apply sT | apply sF
 exact r1B rfl rfl
end Go.Pg
namespace Go.Pg
open Go.Proofs Go.RowKit Go.MapKept
end Go.Pg
namespace Go.Pg
open Go.Proofs Go.RowKit Go.Sort Go.Shelf
theorem zdo (ids:List Int) (m:Nat):(memb ids m).Sublist ids:=by
 have e:(List.range ids.length).map (ids.getD · 0)=ids:=by
  apply List.ext_getElem (by simp)
  intro i h1 h2
  rw[List.getElem_map,List.getElem_range,hZ,kH h2]; rfl
 have:(memb ids m).Sublist ((List.range ids.length).map (ids.getD · 0)):=List.Sublist.map _ (jbn ..)
 rwa [e] at this
theorem DayOk.lt {d:Day} (h:DayOk d):(sigL d.R).Pairwise (· < ·):=by
 refine List.Pairwise.imp₂ (fun a b h1 h2=>?_) (zit d.R) h.nod
 have h1:=qB h1
 have h2:a≠b:=h2
 omega
theorem zot {d:Day} (h:dayE d=0) {m:Nat} (hne:memb (sigL d.R) m ≠ []):askE d (memb (sigL d.R) m)=0:=by
 have ok:=zaZ h
 have hsub:=zdo (sigL d.R) m
 have hp:=ok.lt.sublist hsub
 have hr:setB (memb (sigL d.R) m)=true:=by
  unfold setB risB
  rw[jP]
  refine⟨jC.2 fun j hj=>jG ?_,jG (List.length_pos_iff.2 hne)⟩
  have hj:=kJ.1 hj
  have h1:j<(memb (sigL d.R) m).length:=by omega
  have h2:j+1<(memb (sigL d.R) m).length:=by omega
  rw[hZ,hZ,kH h1,kH h2]
  exact qQ.1 hp j (j+1) h1 h2 (by omega)
 have hq:partB (memb (sigL d.R) m) (sigL d.R)=true:=jC.2 fun x hx=>kD.2 (hsub.subset hx)
 unfold askE
 rw[kG (fun hh=>hh h),kG (by rw[hr]; decide),kG (by rw[hq]; decide)]
theorem znB (ids:List Int) (a b:Nat) {x:Int} (h:(memb ids (a &&& b)).contains x=true):(memb ids a).contains x=true:=by
 have h:=kD.1 h
 unfold memb membA at h
 obtain⟨i,hi,e⟩:=kK.1 h
 rw[qV,jbm,jP] at hi
 exact kD.2 (kK.2 ⟨i,qV.2 ⟨hi.1,hi.2.1⟩,e⟩)
theorem zbE {k m:Nat}:k &&& m=k ↔ ∀ i,k.testBit i=true->m.testBit i=true:=by
 constructor
 ·intro h i hi
  rw[<- h,jbm,jP] at hi
  exact hi.2
 intro h
 apply jaz
 intro i
 rw[jbm]
 cases e:k.testBit i with
 | false=>rfl
 | true=>rw[h i e]; rfl
theorem zg7 {n m i:Nat} (hm:m<2 ^ n) (h:m.testBit i=true):i<n:=by
 rcases jau i n with h1 | h1
 ·exact h1
 rw[jaW (jN hm (qT (by decide) h1))] at h; cases h
theorem zf8 {n m i j:Nat} (hn:n<=7) (hm:m<2 ^ n) (hi:i<n):(offS m i).testBit j=(m.testBit j && decide (j≠i)):=by
 unfold offS
 rw[jbm]
 cases e:m.testBit j with
 | false=>rfl
 | true=>
 have hj:=zg7 hm e
 have:=allL (n:=7) (m:=7) (P:=fun i j=>(127 - 2 ^ i).testBit j==decide (j≠i)) (by decide +kernel) (show i<7 by omega) (show j<7 by omega)
 rw[eq_of_beq this]
theorem zg6 (m i j:Nat):(onS m i).testBit j=(m.testBit j || decide (i=j)):=by
 unfold onS
 rw[Nat.testBit_or,Nat.testBit_two_pow]
theorem zll (m i:Nat):offS m i<=m:=Nat.and_le_left
theorem zsp {n m i:Nat} (hm:m<2 ^ n) (hi:i<n):onS m i<2 ^ n:=Nat.or_lt_two_pow hm (Nat.pow_lt_pow_right (by decide) hi)
theorem zo1 {k m:Nat} (hs:k &&& m=k) (hne:k≠m):∃ i,m.testBit i=true/\k.testBit i=false:=by
 refine jL fun hc=>hne ?_
 apply jaz
 intro i
 cases e:m.testBit i with
 | true=>
  cases e':k.testBit i with
  | true=>rfl
  | false=>exact absurd ⟨i,e,e'⟩ hc
 | false=>
 cases e':k.testBit i with
 | false=>rfl
 | true=>rw[zbE.1 hs i e'] at e; cases e
theorem zqp {m:Nat} (h:0<m):∃ i,m.testBit i=true:=by
 refine jL fun hc=>?_
 have:m=0:=by
  apply jaz
  intro i
  rw[Nat.zero_testBit]
  cases e:m.testBit i with
  | false=>rfl
  | true=>exact absurd ⟨i,e⟩ hc
 omega
theorem zqB {ids:List Int} {m:Nat} (h0:0<m) (hm:m<2 ^ ids.length):memb ids m ≠ []:=by
 obtain⟨i,hi⟩:=zqp h0
 have hl:=zg7 hm hi
 intro e
 have:ids.getD i 0∈memb ids m:=kK.2 ⟨i,qV.2 ⟨kJ.2 hl,hi⟩,rfl⟩
 rw[e] at this
 cases this
theorem zcF {d:Day} (h:dayE d=0) {m:Nat} (h0:0<m) (hm:m<2 ^ (sigL d.R).length):(d.R.any fun r=>(memb (sigL d.R) m).contains r.ID)=true:=zrl (zot h (zqB h0 hm))
theorem zhX {d:Day} (h:dayE d=0) {m:Nat} (h0:0<m) (hm:m<2 ^ (sigL d.R).length):fitX d m=decide (0<(celD d m).length):=by
 unfold fitX
 rw[jG h0,kL,zkx (zaZ h) (zcF h h0 hm)]
theorem zfU {d:Day} (h:dayE d=0) {k m:Nat} (h0:0<k) (hs:k &&& m=k) (hm:m<2 ^ (sigL d.R).length) (hp:fitX d m=true):fitX d k=true:=by
 have hk:k<=m:=by rw[<- hs]; exact Nat.and_le_right
 rw[zhX h (by omega) hm] at hp
 rw[zhX h h0 (by omega)]
 obtain⟨q,hq⟩:=List.exists_mem_of_length_pos (qB hp)
 refine jG (List.length_pos_of_mem (a:=q) ?_)
 refine zk5 (zaZ h) (A:=memb (sigL d.R) m) (B:=memb (sigL d.R) k) (fun x hx=>?_) (zcF h h0 (by omega)) hq
 rw[<- hs,Nat.and_comm] at hx
 exact znB _ m k hx
theorem zjg {d:Day} (h:dayE d=0):∀ M,M<=2 ^ (sigL d.R).length -> ∀ m,0<m->m<M->fitK d (keysD d M) m=fitX d m
 | 0,_,m,_,hm=>by omega
 | M+1,hM,m,h0,hm=>by
  have ih:=zjg h M (by omega)
  have h7:=sig7 (zaZ h)
  by_cases e:m=M
  ·subst e
   have hpart:fitX d m=true->partK d (keysD d m) m=true:=fun hp=>by
    unfold partK
    rw[jC]
    intro i hi
    have hi:=kJ.1 hi
    unfold parK
    by_cases e1:offS m i=m
    ·simp[e1]
    by_cases e2:offS m i=0
    ·simp[e2]
    have hlt:offS m i<m:=by have:=zll m i; omega
    have:=ih (offS m i) (by omega) hlt
    rw[this,zfU h (by omega) (k:=offS m i) (m:=m) (by
     rw[zbE]; intro j hj
     rw[zf8 h7 (show m<_ by omega) hi,jP] at hj; exact hj.1) (by omega) hp]
    simp
   have hnot:(keysD d m).contains m=false:=by
    rw[kX]; intro hc
    have:=zdv d m m (kD.1 hc); omega
   rw[zhX h h0 (by omega)] at *
   unfold keysD
   split
   ·rename_i hk
    unfold fitK
    rw[show (keysD d m ++ [m]).contains m=true from kD.2 (by simp),kL]
   rename_i hk
   unfold fitK
   rw[hnot,kP]
   cases e3:decide (0<(celD d m).length) with
   | false=>rfl
   | true=>exact absurd ⟨by omega,hpart e3⟩ hk
  have hm':m<M:=by omega
  rw[<- ih m h0 hm']
  unfold fitK
  congr 1
  conv=>lhs; unfold keysD
  split
  ·rw[kN,kD,kD,qD,kT]
   exact⟨fun hh=>hh.elim id fun e'=>absurd e' e,.inl⟩
  rfl
theorem zcV {d:Day} (h:dayE d=0) {m:Nat} (h0:0<m) (hm:m<2 ^ (sigL d.R).length):fitK d (ksD d) m=fitX d m:=zjg h _ (jE _) m h0 hm
theorem ziX {p:Nat->Bool} {m n:Nat}:lonK p m n=true ↔ ∀ o,0<o->o<n->o≠m->badX p m o=false:=by
 unfold lonK
 rw[jC]
 constructor
 ·intro h o h0 h1 h2
  have:=h o (kJ.2 h1)
  rw[jH (by omega),jH h2,wB,wB] at this
  simpa using this
 intro h o h1
 have h1:=kJ.1 h1
 by_cases h0:o=0
 ·simp[h0]
 by_cases h2:o=m
 ·simp[h2]
 rw[h o (by omega) h1 h2]; simp
theorem zsN {d:Day} (h:dayE d=0) {m:Nat} (h0:0<m) (hm:m<2 ^ (sigL d.R).length):greB d (ksD d) m=greX (fitX d) (2 ^ (sigL d.R).length) m:=by
 have h7:=sig7 (zaZ h)
 unfold greB greX
 rw[zcV h h0 hm]
 cases hp:fitX d m with
 | false=>rw[kP,kU]
 | true=>
 rw[kL,wL,kN,ziX,jY]
 unfold growK
 rw[jan]
 constructor
 ·intro hg o h1 h2 h3
  unfold badX
  rw[hp,jal,kP,kP,jat,kL]
  rw[kX]
  intro hb
  rw[jP,kA] at hb
  obtain⟨i,hi1,hi2⟩:=zo1 hb.2 (fun e=>h3 e.symm)
  have hil:=zg7 h2 hi1
  refine hg i (kJ.2 hil) ?_
  have hon:onS m i≠m:=fun e=>by
   have:=zg6 m i i
   rw[e,hi2] at this
   simp at this
  unfold groK
  rw[jP,bne_iff_ne]
  refine⟨hon,?_⟩
  have ho:=zsp hm hil
  have hpos:0<onS m i:=by
   have:m<=onS m i:=Nat.left_le_or
   omega
  rw[zcV h hpos ho]
  refine zfU h hpos ?_ h2 hb.1
  rw[zbE]
  intro j hj
  rw[zg6,jX,kA] at hj
  rcases hj with hj | rfl
  ·exact zbE.1 hb.2 j hj
  exact hi1
 intro hl i hi hg
 have hi:=kJ.1 hi
 unfold groK at hg
 rw[jP,bne_iff_ne] at hg
 have ho:=zsp hm hi
 have hpos:0<onS m i:=by
  have:m<=onS m i:=Nat.left_le_or
  omega
 rw[zcV h hpos ho] at hg
 have:=hl (onS m i) hpos ho hg.1
 unfold badX at this
 rw[hp,hg.2,jG (zbE.2 fun j hj=>by rw[zg6,hj]; rfl)] at this
 cases this
theorem zsC {d:Day} (h:dayE d=0) {m:Nat} (h0:0<m) (hm:m<2 ^ (sigL d.R).length):leaB d (ksD d) m=leaX (fitX d) (2 ^ (sigL d.R).length) m:=by
 have h7:=sig7 (zaZ h)
 unfold leaB leaX
 rw[zcV h h0 hm]
 cases hp:fitX d m with
 | true=>rw[jal,kP,kU]
 | false=>
 rw[Bool.not_false,kL,wL,kN,ziX]
 unfold partK
 rw[jC]
 constructor
 ·intro hg o h1 h2 h3
  unfold badX
  rw[hp,kP,kP,wB,Bool.not_false,kL]
  rw[kX]
  intro hb
  rw[jP,kA] at hb
  obtain⟨i,hi1,hi2⟩:=zo1 hb.2 h3
  have hil:=zg7 hm hi1
  have hg:=hg i (kJ.2 hil)
  have hsub:o &&& offS m i=o:=zbE.2 fun j hj=>by
   rw[zf8 h7 hm hil,zbE.1 hb.2 j hj,kL]
   refine jG fun e=>?_
   subst e
   rw[hi2] at hj; cases hj
  have hle:=zll m i
  have hpos:0<offS m i:=by
   have:o<=offS m i:=by rw[<- hsub]; exact Nat.and_le_right
   omega
  have hne:offS m i≠m:=fun e=>by
   have:=zf8 (j:=i) h7 hm hil
   rw[e,hi1] at this
   simp at this
  unfold parK at hg
  rw[zcV h hpos (by omega)] at hg
  have hfo:fitX d (offS m i)=true:=by
   simp only[jX,jaE] at hg
   rcases hg with (hg | hg) | hg
   ·exact absurd hg hne
   ·omega
   exact hg
  have:=zfU h h1 hsub (by omega) hfo
  rw[this] at hb
  cases hb.1
 intro hl i hi
 have hi:=kJ.1 hi
 unfold parK
 by_cases e1:offS m i=m
 ·simp[e1]
 by_cases e2:offS m i=0
 ·simp[e2]
 have hle:=zll m i
 have:=hl (offS m i) (by omega) (by omega) e1
 unfold badX at this
 have hsb:offS m i &&& m=offS m i:=zbE.2 fun j hj=>by rw[zf8 h7 hm hi,jP] at hj; exact hj.1
 rw[hp,jG hsb] at this
 rw[zcV h (by omega) (by omega)]
 have hf:fitX d (offS m i)=true:=by simpa using this
 simp[hf]
theorem zcJ {α:Type} {p q:Nat->Bool} {f:Nat->α}:∀ {n:Nat},(∀ m,0<m->m<n->p m=q m)->tabA p f n=tabA q f n
 | 0,_=>rfl
 | n+1,h=>by
  unfold tabA
  rw[zcJ fun m h0 h1=>h m h0 (by omega)]
  by_cases e:n=0
  ·subst e; rfl
  rw[h n (by omega) (by omega)]
theorem zcK {α:Type} {p:Nat->Bool} {f g:Nat->α}:∀ {n:Nat},(∀ m,0<m->m<n->f m=g m)->tabA p f n=tabA p g n
 | 0,_=>rfl
 | n+1,h=>by
  unfold tabA
  rw[zcK fun m h0 h1=>h m h0 (by omega)]
  by_cases e:n=0
  ·subst e; simp
  rw[h n (by omega) (by omega)]
theorem zpN {d:Day} (h:dayE d=0):srtF (tabA (greB d (ksD d)) (fitF d) (2 ^ (sigL d.R).length))=(tabF d).map (fitM d):=by
 have e1:tabA (greB d (ksD d)) (fitF d) (2 ^ (sigL d.R).length)=((tabA (greX (fitX d) (2 ^ (sigL d.R).length)) id (2 ^ (sigL d.R).length)).map (memb (sigL d.R))).map (fitM d):=by
  rw[zcJ (q:=greX (fitX d) (2 ^ (sigL d.R).length)) fun m h0 h1=>zsN h h0 h1,zcK (g:=fun m=>fitM d (memb (sigL d.R) m)) fun m h0 h1=>?_,zbC _ (fun m=>fitM d (memb (sigL d.R) m)),jaZ]
  ·rfl
  show (⟨_,(celD d m).getD 0 default⟩:Fit)=⟨_,(tldL d (memb (sigL d.R) m)).getD 0 default⟩
  rw[zkx (zaZ h) (zcF h h0 h1)]
 rw[e1]
 unfold srtF tabF ordX
 exact (List.map_mergeSort (f:=fitM d) (r:=leL) (s:=fun x y=>!decide (cmpL y.IDs x.IDs<0)) fun a _ b _=>rfl).symm
theorem zpM {d:Day} (h:dayE d=0):srtM (tabA (leaB d (ksD d)) (misF d) (2 ^ (sigL d.R).length))=(tabM d).map (misM d):=by
 have e1:tabA (leaB d (ksD d)) (misF d) (2 ^ (sigL d.R).length)=((tabA (leaX (fitX d) (2 ^ (sigL d.R).length)) id (2 ^ (sigL d.R).length)).map (memb (sigL d.R))).map (misM d):=by
  rw[zcJ (q:=leaX (fitX d) (2 ^ (sigL d.R).length)) fun m h0 h1=>zsC h h0 h1,zcK (g:=fun m=>misM d (memb (sigL d.R) m)) fun m h0 h1=>?_,zbC _ (fun m=>misM d (memb (sigL d.R) m)),jaZ]
  ·rfl
  show (⟨_,misR d (memb (sigL d.R) m)⟩:Mis)=⟨_,tldR d (memb (sigL d.R) m)⟩
  rw[zpE (zaZ h) (zcF h h0 h1)]
 rw[e1]
 unfold srtM tabM ordX
 exact (List.map_mergeSort (f:=misM d) (r:=leL) (s:=fun x y=>!decide (cmpL y.IDs x.IDs<0)) fun a _ b _=>rfl).symm
theorem zrJ (d:Day):tabX d=tabR d:=by
 by_cases h:dayE d=0
 ·unfold tabX tabR
  rw[kG (fun hh=>hh h),kG (fun hh=>hh h),zpN h,zpM h]
 unfold tabX tabR
 rw[kI h,kI h]
theorem zsq {x i:Nat} (h:x<2 ^ i):x+2 ^ i=onS x i:=by
 have:=Nat.two_pow_add_eq_or_of_lt h 1
 unfold onS
 rw[Nat.mul_one] at this
 rw[Nat.add_comm,this,Nat.or_comm]
theorem zlr (ids:List Int):memb ids 0=[]:=by
 unfold memb membA
 rw[List.filter_eq_nil_iff.2 (fun i _=>by simp)]
 rfl
theorem zoL {s:List Int} (h:setB s=true):s.Pairwise (· < ·)/\0<s.length:=by
 unfold setB at h
 rw[jP] at h
 refine⟨?_,qB h.2⟩
 have hr:=h.1
 unfold risB at hr
 rw[jC] at hr
 have step:∀ j,j+1<s.length->s.getD j 0<s.getD (j+1) 0:=fun j hj=>qB (hr j (kJ.2 (by omega)))
 have far:∀ k j,j+k+1<s.length->s.getD j 0<s.getD (j+k+1) 0:=by
  intro k
  induction k with
  | zero=>intro j hj; exact step j hj
  | succ k ih=>
  intro j hj
  have h1:=ih j (by omega)
  have h2:=step (j+k+1) (by omega)
  show s.getD j 0<s.getD (j+k+1+1) 0
  omega
 refine qQ.2 fun i j hi hj hij=>?_
 have:=far (j - i - 1) i (by omega)
 rw[show i+(j - i - 1)+1=j by omega] at this
 rw[hZ,hZ,kH hi,kH hj] at this
 exact this
theorem zba {s:List Int} (h:s.Pairwise (· < ·)):s.Nodup:=h.imp fun {a b} hab=>by
 show a≠b
 omega
theorem zo3 {s:List Int} (h:s.Pairwise (· < ·)):Srt s:=h.imp fun {a b} hab=>jG (ja0 hab)
theorem znx {a b:List Int} (ha:a.Nodup) (hb:b.Nodup) (h:∀ x,x∈a ↔ x∈b):a.Perm b:=by
 rw[List.perm_iff_count]
 intro x
 rw[List.Nodup.count ha,List.Nodup.count hb]
 by_cases e:x∈a
 ·rw[kI e,kI ((h x).1 e)]
 rw[kG e,kG fun hh=>e ((h x).2 hh)]
theorem zqE {a b:List Int} (ha:a.Pairwise (· < ·)) (hb:b.Pairwise (· < ·)) (h:∀ x,x∈a ↔ x∈b):a=b:=
 zgn (zo3 ha) (zo3 hb) (znx (zba ha) (zba hb) h)
theorem zdk {w:World} {ok:Nat->Prop}:∀ {xs ys:List D} {vs:List Value},All2 (Rep w ok) xs vs->eqvs xs ys->All2 (Rep w ok) ys vs
 | [],[],_,h,_=>h
 | _ :: _,_ :: _,_,.cons h r,⟨e,es⟩=>.cons (Rep.eqv h e) (zdk r es)
abbrev shI (k:Nat):Sh:=.sl k fun j=>shSl.getD' (List.replicate k (.int .i64)) j
theorem zrN {k j:Nat} (h:j<k):shSl.getD' (List.replicate k (.int .i64)) j = .int .i64:=by
 induction k generalizing j with
 | zero=>omega
 | succ k ih=>
 cases j with
 | zero=>rfl
 | succ j=>exact ih (j:=j) (by omega)
theorem fitI {α:Type} [Inhabited α] {k:Nat} {at_:α->Nat->D} {x:D} (mkα:(Nat->Int)->α) (hk:∀ g:Nat->Int,∀ j,j<k->at_ (mkα g) j=I (g j)) (h:Fits (shI k) x):∃ l:List α,D.eqv x (.slc k l.length fun i=>at_ (l.getD i default)):=by
 obtain⟨l,_,_,e⟩:=fitsL (at_:=at_) mkα (fun j hj=>zrN hj) hk h
 exact⟨l,e⟩
abbrev shDay:List Sh:=[.int .i64,.int .i64,shI 1,shI 4,shI 3,shI 8,shI 7,.int .i64,.int .i64,shI 8]
theorem rep_Day {w:World} {ok:Nat->Prop} {xs:List D} {v:Value} (hr:Rep1 w ok (.agg xs) v) (h:All2 Fits shDay xs):∃ d:Day,Rep1 w ok d.v v:=by
 obtain⟨vs,e,hv⟩:=hr
 cases h with | cons h0 h=>
 cases h with | cons h1 h=>
 cases h with | cons h2 h=>
 cases h with | cons h3 h=>
 cases h with | cons h4 h=>
 cases h with | cons h5 h=>
 cases h with | cons h6 h=>
 cases h with | cons h7 h=>
 cases h with | cons h8 h=>
 cases h with | cons h9 h=>
 cases h
 obtain⟨n0,-,rfl⟩:=h0
 obtain⟨n1,-,rfl⟩:=h1
 obtain⟨n7,-,rfl⟩:=h7
 obtain⟨n8,-,rfl⟩:=h8
 obtain⟨l2,e2⟩:=fitI (α:=Int) (at_:=fun a _=>I a) (fun g=>g 0) (fun g j hj=>by
  match j,hj with
  | 0,_=>rfl) h2
 obtain⟨l3,e3⟩:=fitI (α:=Twr) (at_:=Twr.at) (fun g=>⟨g 0,⟨g 1,g 2⟩,g 3⟩) (fun g j hj=>by
  match j,hj with
  | 0,_=>rfl
  | 1,_=>rfl
  | 2,_=>rfl
  | 3,_=>rfl) h3
 obtain⟨l4,e4⟩:=fitI (α:=Hz) (at_:=Hz.at) (fun g=>⟨g 0,g 1,g 2⟩) (fun g j hj=>by
  match j,hj with
  | 0,_=>rfl
  | 1,_=>rfl
  | 2,_=>rfl) h4
 obtain⟨l5,e5⟩:=fitI (α:=Cir) (at_:=Cir.at) (fun g=>⟨g 0,⟨g 1,g 2⟩,g 3,g 4,g 5,g 6,g 7⟩) (fun g j hj=>by
  match j,hj with
  | 0,_=>rfl
  | 1,_=>rfl
  | 2,_=>rfl
  | 3,_=>rfl
  | 4,_=>rfl
  | 5,_=>rfl
  | 6,_=>rfl
  | 7,_=>rfl) h5
 obtain⟨l6,e6⟩:=fitI (α:=Chk) (at_:=Chk.at) (fun g=>⟨g 0,g 1,g 2,⟨g 3,g 4⟩,g 5,g 6⟩) (fun g j hj=>by
  match j,hj with
  | 0,_=>rfl
  | 1,_=>rfl
  | 2,_=>rfl
  | 3,_=>rfl
  | 4,_=>rfl
  | 5,_=>rfl
  | 6,_=>rfl) h6
 obtain⟨l9,e9⟩:=fitI (α:=Rpt) (at_:=Rpt.at) (fun g=>⟨g 0,g 1,g 2,g 3,g 4,g 5,g 6,g 7⟩) (fun g j hj=>by
  match j,hj with
  | 0,_=>rfl
  | 1,_=>rfl
  | 2,_=>rfl
  | 3,_=>rfl
  | 4,_=>rfl
  | 5,_=>rfl
  | 6,_=>rfl
  | 7,_=>rfl) h9
 exact⟨⟨⟨⟨⟨n0,n1,l2⟩,l3,l4⟩,⟨l5,l6⟩⟩,n7,n8,l9⟩,vs,e,zdk hv ⟨⟨rfl,rfl⟩,⟨rfl,rfl⟩,e2,e3,e4,e5,e6,⟨rfl,rfl⟩,⟨rfl,rfl⟩,e9,trivial⟩⟩
theorem rep_lI {w:World} {ok:Nat->Prop} {x:D} {v:Value} (hr:Rep1 w ok (.d x) v) (h:All2 Fits [shI 1] [x]):∃ l:List Int,Rep1 w ok (.d (lI l)) v:=by
 cases h with
 | cons h _=>
 obtain⟨l,e⟩:=fitI (α:=Int) (at_:=fun a _=>I a) (fun g=>g 0) (fun g j hj=>by
  match j,hj with
  | 0,_=>rfl) h
 exact⟨l,Rep.eqv hr e⟩
end Go.Pg
