/- Texts joined and shortened by program. -/
import Derived.Test.YtcgbaefojdoicaaGreatRA
import Derived.Test.YtcgbaefojdoicaaGreatR9
import Derived.Test.YtcgbaefojdoicaaGreatR8
import Derived.KernelRfl
import Derived.Shelf.SlSortCmp.NoneTotal
import Derived.Test.YtcgbaefojdoicaaGreatChecked
set_option maxHeartbeats 4000000
set_option linter.all false
set_option maxRecDepth 100000
namespace Go.Pg
open Go.Proofs Go.RowKit Go.Sort Go.Shelf
theorem zpd {d:Day} {ids:List Int} (h:askE d ids=0):DayOk d:=by
 unfold askE at h
 split at h
 ·rename_i h1; exact absurd h h1
 rename_i h1; exact zb6 (jL h1)
def celR (d:Day) (ids:List Int):List Place × Int:=if askE d ids≠0 then ([],askE d ids) else (plsD d ids,0)
theorem zsE (d:Day) (ids:List Int) (hn:d.R.length<=1000000) (hi:ids.length<=1000000):Spec PP 37 [d.v,.d (lI ids)] [.d (lP (celR d ids).1),.d (.int .i64 (celR d ids).2)]:=by
 refine sA Tryz.func37 ?_
 refine cP (zlp d ids hn hi) rfl rfl ?_
 unfold celR
 apply bY <;> intro h0
 ·rw[kH (by simpa using h0)]
  exact⟨⟨_,_,_,_,rfl,rfl,.inl rfl⟩,rtI rfl rfl,trivial⟩
 have h0:askE d ids=0:=by simpa using h0
 rw[kG (fun hh=>hh h0)]
 refine CallSt.ro (zix (zpd h0) ids hi) rfl rfl ?_
 exact⟨dE _,rtI rfl rfl,trivial⟩
theorem zju (d:Day) (ids:List Int) (hn:d.R.length<=1000000) (hi:ids.length<=1000000):Spec PP 33 [d.v,.d (lI ids)] [B (decide (0<(celR d ids).1.length)),.d (.int .i64 (celR d ids).2)]:=by
 refine sA Tryz.func33 ?_
 refine CallSt.ro (zsE d ids hn hi) rfl rfl ?_
 exact⟨rtB rfl (kZ.2 (by omega)),rtI rfl rfl,trivial⟩
def parE (d:Day) (a b:Int):Int:=if dayE d≠0 then dayE d else if partB [a,b] (sigL d.R)=false then 5 else if a=b then 1 else 0
theorem zsC (d:Day) (a b:Int) (hn:d.R.length<=1000000):Spec PP 63 [d.v,N a,N b] [.d (.int .i64 (parE d a b))]:=by
 refine sA Tryz.func63 ?_
 refine cP (zfy d hn) rfl rfl ?_
 unfold parE
 apply bY <;> intro h0
 ·rw[kH (by simpa using h0)]
  exact r1I rfl rfl
 have h0:dayE d=0:=by simpa using h0
 rw[kG (fun hh=>hh h0)]
 have hs:(sigL d.R).length<=1000000:=by rw[zbh]; exact jM (zbV _) hn
 refine CallSt.ro (zbv d hn) rfl rfl ?_
 refine CallSt.fzE [15] (zo0 [a,b] (sigL d.R) (by simp) hs) rfl ⟨⟨rfl,.inr ⟨rfl,fun i hi j hj=>?_⟩⟩,dE _,trivial⟩ rfl ?_
 ·match i,hi,j,hj with
  | 0,_,0,_=>exact⟨rfl,rfl⟩
  | 1,_,0,_=>exact⟨rfl,rfl⟩
 apply bY <;> intro h1
 ·rw[kH (by simpa using h1)]
  exact r1I rfl rfl
 rw[kG (by simpa using h1)]
 apply bY <;> intro h2
 ·rw[kH (by simpa using h2)]
  exact r1I rfl rfl
 rw[kG (by simpa using h2)]
 exact r1I rfl rfl
abbrev lPP (l:List (List (List Int))):D:=.slc 1 l.length fun i _=>lII (l.getD i [])
def bthB (a b:Int) (s:List Int):Bool:=s.contains a && s.contains b
def togB (a b:Int) (p:List (List Int)):Bool:=p.any (bthB a b)
theorem zhj (a b:Int) (s:List Int) (hs:s.length<=1000000):Spec PP 129 [.d (lI s),.d (capB [I a]),.d (capB [I b])] [B (bthB a b s)]:=by
 refine sA Tryz.func129 ?_
 refine cP (zdx s a hs) rfl rfl ?_
 apply bY <;> intro h1
 ·have h1:s.contains a=true:=h1
  refine cP (zdx s b hs) rfl rfl ?_
  repeat first | apply sT | apply sF
  exact r1B rfl (by unfold bthB; rw[h1,qS])
 have h1:s.contains a=false:=h1
 repeat first | apply sT | apply sF
 exact r1B rfl (by unfold bthB; rw[h1,qN])
theorem zjt (p:List (List Int)) (a b:Int) (hp:p.length<=1000000) (hs:∀ s∈p,s.length<=1000000):Spec PP 65 [.d (lII p),N a,N b] [B (togB a b p)]:=by
 refine sA Tryz.func65 ?_
 refine CallSt.fzE [4,5] (zmQ p 129 (capB [I a]) (capB [I b]) (bthB a b) hp fun i hi=>zhj a b _ (hs _ ?_)) rfl ⟨dE _,⟨rfl,rfl,capB2 _ _ rfl rfl⟩,trivial⟩ rfl ?_
 ·rw[hZ,kF hi]; exact kQ hi
 exact r1B rfl rfl
structure Vdt where
  Ans:Int
  T:List (List Int)
  A:List (List Int)
  deriving Inhabited
abbrev Vdt.v (x:Vdt):V1:=.agg [I x.Ans,lII x.T,lII x.A]
def fstP (p:List (List Int)->Bool) (l:List (List (List Int))):List (List Int):=(l.find? p).getD []
def vdtR (l:List (List (List Int))) (a b:Int):Vdt:=
 ⟨if l.any (togB a b)=true then (if (l.any fun p=>!togB a b p)=true then 3 else 2) else 1,fstP (togB a b) l,fstP (fun p=>!togB a b p) l⟩
theorem zgt (p:List (List Int)->Bool) {l:List (List (List Int))} {i:Nat} (h:i<l.length):fstP p (l.take (i+1))=if (l.take i).any p=true then fstP p (l.take i) else if p (l.getD i [])=true then l.getD i [] else []:=by
 unfold fstP
 rw[zaE h [],List.find?_append]
 cases hf:(l.take i).find? p with
 | some x=>
  rw[kH (kJ.2 ⟨x,List.mem_of_find?_eq_some hf,List.find?_some hf⟩)]; rfl
 | none=>
 rw[kG fun ha=>by
  obtain⟨x,h1,h2⟩:=kJ.1 ha
  exact List.find?_eq_none.1 hf x h1 h2]
 rw[List.find?_cons]
 cases p (l.getD i []) <;> rfl
theorem zi4 (p:List (List Int)->Bool) {l:List (List (List Int))} {i:Nat} (h:i<l.length):(l.take (i+1)).any p=((l.take i).any p || p (l.getD i [])):=by
 rw[zaE h [],List.any_append]; simp
theorem zqS {p:List (List Int)->Bool} {l:List (List (List Int))} (h:l.any p=false):fstP p l=[]:=by
 unfold fstP
 rw[List.find?_eq_none.2 fun x hx hp=>by have:=jaz.1 h x hx; exact this hp]; rfl
theorem zbp {p:List (List Int)->Bool} {l:List (List (List Int))} {i:Nat} (h:i<l.length) (h2:(l.take i).any p=true \/ p (l.getD i [])=false):fstP p (l.take (i+1))=fstP p (l.take i):=by
 rw[zgt p h]
 by_cases h3:(l.take i).any p=true
 ·rw[kH h3]
 rw[kG h3,kG (by rw[h2.resolve_left h3]; decide),zqS (by simpa using h3)]
theorem ziH {p:List (List Int)->Bool} {l:List (List (List Int))} {i:Nat} (h:i<l.length) (h2:(l.take i).any p=false) (h3:p (l.getD i [])=true):fstP p (l.take (i+1))=l.getD i []:=by
 rw[zgt p h,kG (by rw[h2]; decide),kH h3]
theorem zlj (l:List (List (List Int))) (a b:Int) (hl:l.length<=1000000) (hp:∀ p∈l,p.length<=1000000 /\ ∀ s∈p,s.length<=1000000):Spec PP 67 [.d (lPP l),N a,N b] [(vdtR l a b).v]:=by
 refine sA Tryz.func67 ?_
 refine LoopOb.of (σ:=Nat) (fun i=>([(1,.d (I a)),(2,.d (I b)),(6,.box 6 0),(7,.box 7 0),(8,.d (.bool ((l.take i).any (togB a b)))),(9,.d (.bool ((l.take i).any fun p=>!togB a b p))),(12,.d (lPP l)),(13,.d (I l.length)),(14,.d (I i))],
   [(6,.box (List.replicate 3 .any)),(7,.box ([I 0,lII (fstP (togB a b) (l.take i)),lII (fstP (fun p=>!togB a b p) (l.take i))].map AV.d))])) (fun i=>i<=l.length) (fun i=>l.length - i) 0
  ⟨rfl,⟨zaJ rfl rfl,⟨dE _,rfl,rfl,trivial⟩,trivial⟩,wq rfl⟩ (jF _) fun i hi=>?_
 have hi:i<=l.length:=hi
 apply bY <;> intro h1
 ·have h1:i<l.length:=by have:=dT h1; omega
  have hm:l.getD i []∈l:=by rw[hZ,kF h1]; exact kQ h1
  obtain⟨g1,g2⟩:=hp _ hm
  have a1:=zi4 (togB a b) h1
  have a2:=zi4 (fun p=>!togB a b p) h1
  refine⟨⟨rfl,by omega,by omega⟩,?_⟩
  refine cP (zjt (l.getD i []) a b g1 g2) rfl rfl ?_
  apply bY <;> intro h2
  ·have h2:togB a b (l.getD i [])=true:=h2
   have h2':(!togB a b (l.getD i []))=false:=by rw[h2]; rfl
   rw[h2,kO] at a1
   rw[h2',jaf] at a2
   apply bY <;> intro h3
   ·have h3:(l.take i).any (togB a b)=false:=by simpa using h3
    refine⟨i6,?_⟩
    refine⟨i+1,⟨rfl,⟨zaJ rfl rfl,?_,trivial⟩,?_⟩,h1,msr h1⟩
    ·rw[ziH (p:=togB a b) h1 h3 h2,zbp (p:=fun p=>!togB a b p) h1 (.inr h2')]; exact⟨dE _,dE _,dE _,trivial⟩
    rw[a1,a2]; exact wq rfl
   have h3:(l.take i).any (togB a b)=true:=by simpa using h3
   refine⟨i6,?_⟩
   refine⟨i+1,⟨rfl,⟨zaJ rfl rfl,?_,trivial⟩,?_⟩,h1,msr h1⟩
   ·rw[zbp (p:=togB a b) h1 (.inl h3),zbp (p:=fun p=>!togB a b p) h1 (.inr h2')]; exact⟨dE _,dE _,dE _,trivial⟩
   rw[a1.trans h3.symm,a2]; exact wq rfl
  have h2:togB a b (l.getD i [])=false:=h2
  have h2':(!togB a b (l.getD i []))=true:=by rw[h2]; rfl
  rw[h2,jaf] at a1
  rw[h2',kO] at a2
  apply bY <;> intro h3
  ·have h3:((l.take i).any fun p=>!togB a b p)=false:=by simpa using h3
   refine⟨i6,?_⟩
   refine⟨i+1,⟨rfl,⟨zaJ rfl rfl,?_,trivial⟩,?_⟩,h1,msr h1⟩
   ·rw[zbp (p:=togB a b) h1 (.inr h2),ziH (p:=fun p=>!togB a b p) h1 h3 h2']; exact⟨dE _,dE _,dE _,trivial⟩
   rw[a1,a2]; exact wq rfl
  have h3:((l.take i).any fun p=>!togB a b p)=true:=by simpa using h3
  refine⟨i6,?_⟩
  refine⟨i+1,⟨rfl,⟨zaJ rfl rfl,?_,trivial⟩,?_⟩,h1,msr h1⟩
  ·rw[zbp (p:=togB a b) h1 (.inr h2),zbp (p:=fun p=>!togB a b p) h1 (.inl h3)]; exact⟨dE _,dE _,dE _,trivial⟩
  rw[a1,a2.trans h3.symm]; exact wq rfl
 have h1:i=l.length:=by have:=dF h1; omega
 subst h1
 rw[jZ]
 unfold vdtR
 apply bY <;> intro h2
 ·have h2:l.any (togB a b)=true:=h2
  rw[kH h2]
  repeat first | apply sT | apply sF
  apply bY <;> intro h3
  ·have h3:(l.any fun p=>!togB a b p)=true:=h3
   rw[kH h3]
   exact⟨rtC (a:=6) rfl rfl rfl rfl rfl rfl (zaa _),trivial⟩
  have h3:(l.any fun p=>!togB a b p)=false:=h3
  rw[kG (by rw[h3]; decide)]
  refine Split.yes h2 ?_
  exact⟨rtC (a:=6) rfl rfl rfl rfl rfl rfl (zaa _),trivial⟩
 have h2:l.any (togB a b)=false:=h2
 rw[kG (by rw[h2]; decide)]
 repeat first | apply sT | apply sF
 refine Split.no h2 ?_
 exact⟨rtC (a:=6) rfl rfl rfl rfl rfl rfl (zaa _),trivial⟩
section
variable (ids:List Int) (pv:D) (ok:List Int->Bool)
theorem zsh (hn:ids.length<=7) (hok:PosC pv ok):∀ (k i:Nat) (ss:List (List Int)) (n:Nat),i+k=ids.length->ss.length<=i->(∀ s∈ss,s.length<=i)->Sub (allP ids ok) n (prt ok (ids.drop i) ss) ->
  SpecY PP 108 ((allP ids ok).map enP) n (prt ok (ids.drop i) ss).length (putArgs ids pv i) (putObs ids pv ss) (putObs ids pv ss) [4,3,5] [B true] [B false]
 | 0,i,ss,n,hi,hs,hl,hsub=>by
  obtain rfl:i=ids.length:=by omega
  rw[jaQ] at hsub ⊢
  exact zsg ids pv ok hn hok ss n (by omega) (fun s h=>by have:=hl s h; omega) hsub
 | k+1,i,ss,n,hi,hs,hl,hsub=>zsf ids pv ok hn i (by omega) ss n hs hl hsub fun ss n hs hl hsub=>zsh hn hok k (i+1) ss n (by omega) hs hl hsub
def prtCap (j:Nat):D:=getD' [capB [lI ids],posD pv] j
theorem zfj (hn:ids.length<=7) (hok:PosC pv ok):SeqC PP 107 2 (prtCap ids pv) enP (allP ids ok):=by
 refine ze2 Tryz.func107 rfl (by kernel_rfl) rfl rfl enP _ fun l=>?_
 refine CallSt.cy (cuts:=[]) [(7,.clo 108 (putCaps ids pv))] [] (zsh ids pv ok hn hok ids.length 0 [] 0 (kU _) (jE _) (fun s h=>by cases h) ⟨[],rfl,List.prefix_rfl⟩) rfl rfl
  ⟨rfl,⟨⟨⟨rfl,_,_,_,rfl⟩,trivial⟩,rfl,obX rfl,obX rfl,trivial⟩,wq rfl⟩ rfl rfl rfl rfl ?_ ?_
 ·exact .inl (jI (fun n=>AV.gho (some n)) (kU _))
 exact .inr rfl
theorem zgd (hp:(∃ g c,pv=cloB g [c]) \/ ∃ f m g,pv = .bnd f m g):Spec PP 45 [.d (lI ids),.d pv] [.d (cloB 107 [capB [lI ids],posD pv])]:=by
 rcases hp with⟨g0,c0,rfl⟩ | ⟨f0,m0,g0,rfl⟩
 all_goals
  refine sA Tryz.func45 ?_
  refine⟨⟨rfl,rfl,fun j hj=>?_⟩,trivial⟩
  match j,hj with
  | 0,_=>exact⟨_,rfl,rfl,_,_,rfl,rfl,rfl,fun j hj=>dE _⟩
  | 1,_=>exact⟨_,rfl,rfl,_,_,rfl,rfl,rfl,fun j hj=>dE _⟩
end
def bitA (ids s:List Int) (i:Nat):Nat:=(List.range i).foldl (fun b k=>if s.contains (ids.getD k 0)=true then onS b k else b) 0
theorem zcy (ids s:List Int) (i:Nat):bitA ids s (i+1)=if s.contains (ids.getD i 0)=true then onS (bitA ids s i) i else bitA ids s i:=by
 unfold bitA
 rw[qP,jab]; rfl
theorem zma (ids s:List Int):∀ i,i<=7->bitA ids s i<128
 | 0,_=>by show 0<128; decide
 | i+1,h=>by
  have:=zma ids s i (by omega)
  rw[zcy]
  split
  ·exact zsp this (by omega)
  exact this
def bitS (ids s:List Int):Nat:=bitA ids s ids.length
abbrev lkC (d:Day) (ks:List Nat):List D:=d.ds ++ [lI (sigL d.R),cmap d ks]
theorem zsD (d:Day) (ks:List Nat) (hn:(sigL d.R).length<=7) (s:List Int) (hs:s.length<=1000000):Spec PP 132 [.d (lI s),.d (capB (lkC d ks))] [B (fitK d ks (bitS (sigL d.R) s))]:=by
 refine sA Tryz.func132 ?_
 refine LoopOb.of (σ:=Nat) (fun i=>([(0,.d (lI s)),(1,avOf (.d (capB (lkC d ks)))),(4,.d (I (bitA (sigL d.R) s i))),(8,.d (lI (sigL d.R))),(9,.d (I (sigL d.R).length)),(10,.d (I i))],[])) (fun i=>i<=(sigL d.R).length) (fun i=>(sigL d.R).length - i) 0
  ⟨rfl,trivial,wq rfl⟩ (jF _) fun i hi=>?_
 have hi:i<=(sigL d.R).length:=hi
 apply bY <;> intro h1
 ·have h1:i<(sigL d.R).length:=by have:=dT h1; omega
  have hb:=zma (sigL d.R) s i (by omega)
  refine⟨⟨rfl,by omega,by omega⟩,?_⟩
  refine cP (zdx s ((sigL d.R).getD i 0) hs) rfl rfl ?_
  apply bY <;> intro h2
  ·have h2:s.contains ((sigL d.R).getD i 0)=true:=h2
   refine⟨by omega,?_⟩
   refine⟨i6,?_⟩
   refine⟨i+1,⟨rfl,trivial,avQ rfl,avQ rfl,?_,avQ rfl,avQ rfl,avQ rfl,trivial⟩,h1,msr h1⟩
   rw[zcy,kH h2]
   exact avQ (jI (fun n=>AV.d (.int .i64 n)) (bOn hb (by omega)))
  have h2:s.contains ((sigL d.R).getD i 0)=false:=h2
  refine⟨i6,?_⟩
  refine⟨i+1,⟨rfl,trivial,?_⟩,h1,msr h1⟩
  rw[zcy,kG (by rw[h2]; decide)]
  exact wq rfl
 have h1:i=(sigL d.R).length:=by have:=dF h1; omega
 subst h1
 refine cP (zeA d ks (bitS (sigL d.R) s)) rfl rfl ?_
 exact r1B rfl rfl
abbrev allCs (d:Day) (ks:List Nat):List D:=[capB [lI (sigL d.R)],posD (cloB 132 [capB (lkC d ks)])]
theorem j_all (d:Day) (ks:List Nat):Spec PP 72 [lkV d ks] [.d (cloB 107 (allCs d ks))]:=by
 refine sA Tryz.func72 ?_
 refine CallSt.fzE [1] (zgd (sigL d.R) (cloB 132 [capB (lkC d ks)]) (.inl ⟨_,_,rfl⟩)) rfl ⟨dE _,⟨rfl,rfl,fun j hj=>by obtain rfl:j=0:=jag.1 hj; exact dE _⟩,trivial⟩ rfl ?_
 exact⟨dE _,trivial⟩
abbrev parts (d:Day):List (List (List Int)):=prt (fun s=>fitK d (ksD d) (bitS (sigL d.R) s)) (sigL d.R) []
theorem znH {d:Day} (h:DayOk d):SeqC PP 107 2 (prtCap (sigL d.R) (cloB 132 [capB (lkC d (ksD d))])) enP (parts d):=
 zfj (sigL d.R) _ _ (sig7 h) (.clo _ _ rfl fun s hs=>zsD d (ksD d) (sig7 h) s (by omega))
theorem zhb {α:Type} {ok:List α->Bool}:∀ {r:List α} {ss:List (List α)} {B:Nat} {x:List (List α)},x∈prt ok r ss->(∀ s∈ss,s.length<=B)->x.length<=ss.length+r.length /\ ∀ s∈x,s.length<=B+r.length+1
 | [],ss,B,x,h,hb=>by
  unfold prt at h
  split at h
  ·obtain rfl:=kL.1 h
   exact⟨jE _,fun s hs=>by have:=hb s hs; simp; omega⟩
  ·cases h
 | a :: r,ss,B,x,h,hb=>by
  unfold prt at h
  rcases qE.1 h with h | h
  ·obtain⟨k,hk,h⟩:=List.mem_flatMap.1 h
   have hk:=kK.1 hk
   obtain⟨h1,h2⟩:=zhb (B:=B+1) h fun s hs=>by
    rcases jbw hs with hs | rfl
    ·have:=hb s hs; omega
    have hm:ss.getD k []∈ss:=by rw[hZ,kF hk]; exact kQ hk
    have:=hb _ hm
    rw[jR,qZ]; omega
   rw[jaU] at h1
   exact⟨by simp; omega,fun s hs=>by have:=h2 s hs; simp; omega⟩
  obtain⟨h1,h2⟩:=zhb (B:=B+1) h fun s hs=>by
   rcases qE.1 hs with hs | hs
   ·have:=hb s hs; omega
   obtain rfl:=kL.1 hs; simp
  rw[jR] at h1
  exact⟨by simp at h1 ⊢; omega,fun s hs=>by have:=h2 s hs; simp; omega⟩
theorem zqg {α:Type} (ok:List α->Bool) (r:List α) (h:r.length<=7):(prt ok r []).length<=877:=by
 rw[zfd]
 refine jM (kX _ _) ?_
 rw[kS]
 have:∀ n,n<8->(rgs n 0).length<=877:=by decide +kernel
 exact this _ (by omega)
theorem zgb {d:Day} (h:DayOk d):(parts d).length<=877:=zqg _ _ (sig7 h)
theorem zkF {d:Day} (h:DayOk d) {x:List (List Int)} (hx:x∈parts d):x.length<=7 /\ ∀ s∈x,s.length<=8:=by
 have:=sig7 h
 obtain⟨h1,h2⟩:=zhb (B:=0) hx (fun s hs=>by cases hs)
 exact⟨by simp at h1; omega,fun s hs=>by have:=h2 s hs; omega⟩
def bst0 (out:List (List (List Int))) (p:List (List Int)):List (List (List Int)):=if decide (0<out.length) && decide (p.length<(out.getD 0 []).length) then [] else out
def bst1 (out:List (List (List Int))) (p:List (List Int)):List (List (List Int)):=if decide ((bst0 out p).length=0) || decide (p.length=((bst0 out p).getD 0 []).length) then bst0 out p ++ [p] else bst0 out p
def bstL (l:List (List (List Int))):List (List (List Int)):=l.foldl bst1 []
theorem zbQ (l:List (List (List Int))) (p:List (List Int)):bstL (l ++ [p])=bst1 (bstL l) p:=by unfold bstL; rw[jab]; rfl
theorem zog (o:List (List (List Int))) (p:List (List Int)):(bst0 o p).length<=o.length:=by
 unfold bst0
 split
 ·exact jF _
 exact jE _
theorem zof (o:List (List (List Int))) (p:List (List Int)):(bst1 o p).length<=o.length+1:=by
 have:=zog o p
 unfold bst1
 split
 ·rw[jR]; simp; omega
 omega
theorem ziW:∀ (l o:List (List (List Int))),(l.foldl bst1 o).length<=o.length+l.length
 | [],o=>jE _
 | p :: l,o=>by
  have h1:=ziW l (bst1 o p)
  have h2:=zof o p
  rw[jaB,jbh]
  omega
theorem ziV (l:List (List (List Int))):(bstL l).length<=l.length:=by
 have:=ziW l []
 unfold bstL
 simpa using this
abbrev rowPP (l:List (List (List Int))):Nat->Nat->D:=fun i _=>lII (l.getD i [])
theorem zoM {l:List (List (List Int))} {p:List (List Int)} {g:Nat->Nat->D} (hg:D.eqv (g 0 0) (lII p)):D.eqv (.slc 1 (l.length+1) (appRow l.length (rowPP l) g)) (.slc 1 (l ++ [p]).length (rowPP (l ++ [p]))):=by
 refine⟨by simp,.inr ⟨rfl,fun i hi j hj=>?_⟩⟩
 show D.eqv (appRow l.length (rowPP l) g i j) (lII ((l ++ [p]).getD i []))
 obtain rfl:j=0:=by omega
 unfold appRow
 by_cases h:i<l.length
 ·rw[kH h,hZ (l:=l ++ [p]),jJ h,<- hZ]
  exact dE _
 have e:i=l.length:=by omega
 subst e
 rw[kG h,kE,hZ,jK (jE _),kE]
 exact hg
theorem nz_no {n:Nat} (h:0<n):((n:Int)==0)=false:=by simp; omega
theorem zss {n:Nat} (h:n=0):((n:Int)==0)=true:=by subst h; rfl
def obBst (pre:List (List (List Int))):List (Nat × Ob):=[(3,.box [.own 34]),(34,.row 48 1 (bstL pre).length (rowPP (bstL pre)))]
theorem zsi (g:FuncId) (c1 c2:D) (xs:List (List (List Int))) (hx:xs.length<=1000) (hseq:SeqC PP g 2 (getD' [c1,c2]) enP xs):Spec PP 44 [.d (cloB g [c1,c2])] [.d (lPP (bstL xs))]:=by
 refine sA Tryz.func44 ?_
 refine CodeOb.rangeAt hseq rfl (fun _=>rfl) (by decide) [(3,.box 3 0)] [(3,0)] obBst rfl (fun _=>rfl) ?_ (Iv:=fun _=>True) trivial (fun v pre x hx' _=>?_) (fun _=>?_)
 ·exact⟨rfl,⟨obN rfl rfl rfl,obZ rfl rfl,trivial⟩,wq rfl⟩
 ·have hpl:pre.length<1000:=by
   have:=hx'.length_le
   rw[jR] at this; simp at this; omega
  have hlen:=ziV pre
  have push:∀ o:List (List (List Int)),o.length<=1000->bst1 (bstL pre) x=o ++ [x]->bst1 (bstL pre) x=o ++ [x]:=fun _ _ h=>h
  apply bY <;> intro h1
  ·have h1:0<(bstL pre).length:=by have:=dT h1; omega
   refine⟨⟨by omega,by omega⟩,⟨by omega,?_⟩⟩
   repeat first | apply sT | apply sF
   apply bY <;> intro h2
   ·have h2:x.length<((bstL pre).getD 0 []).length:=by have:(x.length:Int)<((bstL pre).getD 0 []).length:=dT h2; omega
    have e0:bst0 (bstL pre) x=[]:=by unfold bst0; rw[kH (by rw[jG h1,jG h2]; rfl)]
    have e1:bst1 (bstL pre) x=[] ++ [x]:=by unfold bst1; rw[e0]; rfl
    repeat first | apply sT | apply sF
    refine⟨⟨.inr rfl,by unfold maxLen; omega,by show (0+1) * 24<=140737488355328; omega⟩,?_⟩
    refine⟨trivial,rfl,⟨obO rfl,obR rfl ?_,trivial⟩,wq rfl⟩
    rw[zbQ,e1]
    refine⟨rfl,.inr ⟨rfl,fun u hu w hw=>?_⟩⟩
    obtain rfl:w=0:=jag.1 hw
    obtain rfl:u=0:=jag.1 hu
    exact dE _
   have h2:¬ x.length<((bstL pre).getD 0 []).length:=by have:¬ (x.length:Int)<((bstL pre).getD 0 []).length:=dF h2; omega
   have e0:bst0 (bstL pre) x=bstL pre:=by unfold bst0; rw[kG (by rw[jH h2,kN]; decide)]
   refine Split.no (nz_no h1) ?_
   refine⟨⟨by omega,by omega⟩,⟨by omega,?_⟩⟩
   repeat first | apply sT | apply sF
   apply bY <;> intro h3
   ·have h3:x.length=((bstL pre).getD 0 []).length:=by
     have:(x.length:Int)=((bstL pre).getD 0 []).length:=by simpa using h3
     omega
    have e1:bst1 (bstL pre) x=bstL pre ++ [x]:=by unfold bst1; rw[e0,kH (by rw[jG h3,kO])]
    refine⟨⟨.inr rfl,by unfold maxLen; omega,by show ((bstL pre).length+1) * 24<=140737488355328; omega⟩,?_⟩
    refine⟨trivial,rfl,⟨obO rfl,obR rfl ?_,trivial⟩,wq rfl⟩
    rw[zbQ,e1]
    exact zoM (dE _)
   have h3:¬ x.length=((bstL pre).getD 0 []).length:=fun e=>by
    have:¬ (x.length:Int)=((bstL pre).getD 0 []).length:=by simpa using h3
    exact this (by rw[e])
   have e1:bst1 (bstL pre) x=bstL pre:=by unfold bst1; rw[e0,kG (by rw[jH h3,jH (by omega)]; decide)]
   refine⟨trivial,rfl,⟨obO rfl,obR rfl ?_,trivial⟩,wq rfl⟩
   rw[zbQ,e1]
   exact dE _
  have h1:(bstL pre).length=0:=by have:=dF h1; omega
  have e0:bst0 (bstL pre) x=bstL pre:=by unfold bst0; rw[kG (by rw[jH (by omega),qN]; decide)]
  have e1:bst1 (bstL pre) x=bstL pre ++ [x]:=by unfold bst1; rw[e0,kH (by rw[jG h1,qR])]
  repeat first | apply sT | apply sF
  refine Split.yes (zss h1) ?_
  repeat first | apply sT | apply sF
  refine⟨⟨.inr rfl,by unfold maxLen; omega,by show ((bstL pre).length+1) * 24<=140737488355328; omega⟩,?_⟩
  refine⟨trivial,rfl,⟨obO rfl,obR rfl ?_,trivial⟩,wq rfl⟩
  rw[zbQ,e1]
  exact zoM (dE _)
 refine⟨⟨_,_,_,_,rfl,?_⟩,trivial⟩
 exact dE _
theorem ziX {o:List (List (List Int))} {p q:List (List Int)} (h:q∈bst0 o p):q∈o:=by
 unfold bst0 at h
 split at h
 ·cases h
 exact h
theorem bst1_mem {o:List (List (List Int))} {p q:List (List Int)} (h:q∈bst1 o p):q∈o \/ q=p:=by
 unfold bst1 at h
 split at h
 ·rcases qE.1 h with h | h
  ·exact .inl (ziX h)
  exact .inr (kL.1 h)
 exact .inl (ziX h)
theorem bstF_mem {q:List (List Int)}:∀ {l o:List (List (List Int))},q∈l.foldl bst1 o->q∈o \/ q∈l
 | [],o,h=>.inl h
 | p :: l,o,h=>by
  rcases bstF_mem (l:=l) h with h | h
  ·rcases bst1_mem h with h | rfl
   ·exact .inl h
   exact .inr (qV ..)
  exact .inr (qT _ h)
theorem zod {q:List (List Int)} {l:List (List (List Int))} (h:q∈bstL l):q∈l:=(bstF_mem h).resolve_left fun h=>by cases h
abbrev bsts (d:Day):List (List (List Int)):=bstL (parts d)
def bsR (d:Day):List (List (List Int)) × Int:=if (bsts d).length=0 then ([],9) else (bsts d,0)
theorem zlo {d:Day} (h:DayOk d):Spec PP 74 [d.v] [.d (lPP (bsR d).1),.d (.int .i64 (bsR d).2)]:=by
 refine sA Tryz.func74 ?_
 refine CallSt.ro (zo1 h) rfl rfl ?_
 refine CallSt.ro (j_all d (ksD d)) rfl rfl ?_
 refine CallSt.ro (zsi 107 _ _ (parts d) (by have:=zgb h; omega) (znH h)) rfl rfl ?_
 unfold bsR
 apply bY <;> intro h1
 ·have h1:(bsts d).length=0:=by
   have:((bsts d).length:Int)=0:=by simpa using h1
   omega
  rw[kH h1]
  exact⟨⟨_,_,_,_,rfl,rfl,.inl rfl⟩,rtI rfl rfl,trivial⟩
 have h1:¬ (bsts d).length=0:=fun e=>by
  have:¬ ((bsts d).length:Int)=0:=by simpa using h1
  exact this (by rw[e]; rfl)
 rw[kG h1]
 exact⟨dE _,rtI rfl rfl,trivial⟩
def fewR (d:Day):Int × Int:=if dayE d≠0 then (0,dayE d) else if (bsts d).length=0 then (0,9) else (((bsts d).getD 0 []).length,0)
theorem ziy (d:Day) (hn:d.R.length<=1000000):Spec PP 25 [d.v] [N (fewR d).1,.d (.int .i64 (fewR d).2)]:=by
 refine sA Tryz.func25 ?_
 refine cP (zfy d hn) rfl rfl ?_
 unfold fewR
 apply bY <;> intro h0
 ·rw[kH (by simpa using h0)]
  exact⟨rtI rfl rfl,rtI rfl rfl,trivial⟩
 have h0:dayE d=0:=by simpa using h0
 rw[kG (fun hh=>hh h0)]
 refine CallSt.ro (zlo (zb6 h0)) rfl rfl ?_
 by_cases h1:(bsts d).length=0
 ·have e:bsR d=([],9):=by unfold bsR; rw[kH h1]
  rw[e,kH h1]
  refine sT ?_
  exact⟨rtI rfl rfl,rtI rfl rfl,trivial⟩
 have e:bsR d=(bsts d,0):=by unfold bsR; rw[kG h1]
 rw[e,kG h1]
 refine sF ?_
 refine⟨⟨rfl,by omega,by show (0:Int)<((bsts d).length:Int); omega⟩,?_⟩
 exact⟨rtI rfl rfl,rtI rfl rfl,trivial⟩
def samR (d:Day) (a b:Int):Vdt × Int:=if parE d a b≠0 then (⟨0,[],[]⟩,parE d a b) else if (bsts d).length=0 then (⟨0,[],[]⟩,9) else (vdtR (bsts d) a b,0)
theorem zse {d:Day} {a b:Int} (h:parE d a b=0):DayOk d:=by
 unfold parE at h
 split at h
 ·rename_i h1; exact absurd h h1
 rename_i h1; exact zb6 (jL h1)
theorem zgm (d:Day) (a b:Int) (hn:d.R.length<=1000000):Spec PP 35 [d.v,N a,N b] [(samR d a b).1.v,.d (.int .i64 (samR d a b).2)]:=by
 refine sA Tryz.func35 ?_
 refine cP (zsC d a b hn) rfl rfl ?_
 unfold samR
 apply bY <;> intro h0
 ·rw[kH (by simpa using h0)]
  exact⟨rtC (a:=6) rfl rfl rfl rfl rfl rfl ⟨⟨rfl,rfl⟩,rfl,rfl,trivial⟩,rtI rfl rfl,trivial⟩
 have h0:parE d a b=0:=by simpa using h0
 have h:=zse h0
 rw[kG (fun hh=>hh h0)]
 refine CallSt.ro (zlo h) rfl rfl ?_
 by_cases h1:(bsts d).length=0
 ·have e:bsR d=([],9):=by unfold bsR; rw[kH h1]
  rw[e,kH h1]
  refine sT ?_
  exact⟨rtC (a:=6) rfl rfl rfl rfl rfl rfl ⟨⟨rfl,rfl⟩,rfl,rfl,trivial⟩,rtI rfl rfl,trivial⟩
 have e:bsR d=(bsts d,0):=by unfold bsR; rw[kG h1]
 rw[e,kG h1]
 refine sF ?_
 refine CallSt.ro (zlj (bsts d) a b (by have:(bsts d).length<=(parts d).length:=ziV (parts d); have:=zgb h; omega) fun p hp=>by
  have:=zkF h (zod hp)
  exact⟨by omega,fun s hs=>by have:=this.2 s hs; omega⟩) rfl rfl ?_
 exact⟨rtC (a:=6) rfl rfl rfl rfl rfl rfl (zaa _),rtI rfl rfl,trivial⟩
def fltP (k:Int) (l:List (List (List Int))):List (List (List Int)):=l.filter fun p=>((p.length:Int)==k)
theorem zlF (k:Int) (l:List (List (List Int))) (p:List (List Int)):fltP k (l ++ [p])=if ((p.length:Int)==k)=true then fltP k l ++ [p] else fltP k l:=by
 unfold fltP
 rw[kM]
 by_cases h:((p.length:Int)==k)=true
 ·rw[kH h,qA (by exact h)]; rfl
 rw[kG h,qB (by exact h)]; simp
end Go.Pg
namespace Go.Pg
open Go.RowKit Go.Proofs Go.Shelf Go.Sort Go.Lib
def SpecW (P:Program) (f:FuncId) (pre post:List V1) (e k n:Nat) (g g':Nat->Nat->D) (res:List V1):Prop:=
 Ent P f /\ ∀ (w:World) (ok:Nat->Prop) (vs us:List Value) (v:Value) (xs:List Value),(∀ b,ok b->b<w.heap.size)->All2 (Rep1 w ok) pre vs->All2 (Rep1 w ok) post us->RowAt w ok e k n g v xs ->
  Calls P f (vs++v :: us).toArray w fun en w'=>∃ r,en = .returned r/\w.grownBy w' (blk v)/\ResRep w' (fun _=>False) res r /\
   ∃ xs',w'.ownsRow 0 e k v n xs'/\(∀ u∈xs',u.oneCell'=true) /\ ∀ m,m<n -> ∀ j,j<k -> ∃ u,xs'[m * k+j]?=some u/\Rep w' ok (g' m j) u
section
variable {s:St} {o:Oper} {fo:Operand} {f:FuncId} {K:St->Prop}
theorem CallSt.rwW {E:Env} (hdr:E.dr=false) {args:Array Operand} {at':Array TypeId} (hop:o.op = .call { callee:=.value fo,args,argTypes:=at' }) {pre post res:List V1} {i e k n:Nat} {g g':Nat->Nat->D} (h:SpecW PP f pre post e k n g g' res)
  (ha:RowArgs s fo args.toList f pre i post) (hi:s.ob i=some (.row e k n g)) (hk:K ((s.setOb i (some (.row e k n g'))).putO o.dst (resAV res))):CallSt E PP s o fo args.toList K:=by
 rw[zaf]
 refine .inr (.inr (.inl ⟨_,⟨fun cx a w hD hd hR=>?_⟩,hk⟩))
 obtain⟨γ,hg⟩:=hR
 obtain⟨caps,vs,us,xs,h1,h2,h3,h4,h5⟩:=zbG hg ha hi
 refine .enter (zau hop h1 h.1) ?_
 rw[h2]
 refine (h.2 w _ vs us _ xs (fun b hb=>zaj hg hb) h3 h4 h5).mono fun en w' ⟨r,he,hgr,hres,ys,y1,y2,y3⟩=>⟨r,he,γ,?_⟩
 refine (hg.change (i:=i) (o':=.row e k n g') hi hgr (fun e=>by have:=hD e; rw[hdr] at this; cases this) (fun ok hok=>⟨ys,y1,fun b hb=>(zav hg hi hb).1,y2,fun m hm j hj=>?_⟩) (fun cs e=>by cases e)).putO hd (zaS (.inl fun b hb=>hb.elim) hres) (fun j hj=>by rw[zax] at hj; cases hj)
 obtain⟨u,hu,hr⟩:=y3 m hm j hj
 exact⟨u,hu,Rep.keep0 (w:=w') (fun b hb=>⟨(hok b hb).1,zdM rfl⟩) hr⟩
end
theorem SpecW.congr {P:Program} {f:FuncId} {pre post res:List V1} {e k n:Nat} {g0 g g1 g':Nat->Nat->D} (h:SpecW P f pre post e k n g0 g1 res) (he:∀ m,m<n -> ∀ j,j<k->g m j=g0 m j) (he':∀ m,m<n -> ∀ j,j<k->g' m j=g1 m j):SpecW P f pre post e k n g g' res:=
 ⟨h.1,fun w ok vs us v xs h1 h2 h3 hr=>(h.2 w ok vs us v xs h1 h2 h3 ⟨hr.own,hr.one,fun m hm j hj=>by rw[<- he m hm j hj]; exact hr.rep m hm j hj,hr.sep⟩).mono fun en w' ⟨r,e1,e2,e3,xs',e4,e5,e6⟩=>⟨r,e1,e2,e3,xs',e4,e5,fun m hm j hj=>by rw[he' m hm j hj]; exact e6 m hm j hj⟩⟩
section
variable {α:Type} [Inhabited α] {k:Nat} (enc:α->List Value) (hl:∀ x,(enc x).length=k) (h1:∀ x,∀ v∈enc x,v.oneCell'=true)
include hl in
theorem zow (d:Array α) {t:Nat} (h:t<d.size * k):(enc d[t / k]!)[t % k]?=some (flatK enc k d)[t]!:=by
 have hk:0<k:=by
  rcases jaG k with h0 | h0
  ·subst h0; simp at h
  exact h0
 rw[get_flatK _ _ _ _ h]
 have:t % k<(enc d[t / k]!).length:=by rw[hl]; exact jas t hk
 rw[List.getElem!_eq_getElem?_getD,kF this]; rfl
include hl in
theorem zpr {w:World} {e g:Nat} {cur:Array Value} {l:List α} {xs:List Value} (hh:w.heap[g]?=some (.cells cur e (0,0))) (ht:cur.toList.take (l.length * k)=xs)
  (hr:∀ m,m<l.length -> ∀ j,j<k->xs[m * k+j]?=(enc (l.getD m default))[j]?):HoldsK enc k w g 0 l.toArray:=by
 intro t ht'
 rw[size_flatK] at ht'
 have ht2:=ht'
 simp only[jaM] at ht'
 have hk:0<k:=by
  rcases jaG k with h0 | h0
  ·subst h0; simp at ht'
  exact h0
 have hm:t / k<l.length:=jaK (by rwa [qQ] at ht')
 have hu:=hr (t / k) hm (t % k) (jas t hk)
 have e1:t / k * k+t % k=t:=by rw[qQ]; exact jbm t k
 have hf:=zow enc hl l.toArray ht2
 rw[zbs l hm] at hf
 rw[e1,<- ht,jS,kH ht',hf] at hu
 rw[kU]
 refine⟨?_,?_⟩
 ·simp only[World.cell?,hh,id_eq]
  have:cur[t]?=some (flatK enc k l.toArray)[t]!:=by simpa using hu
  simp[this]
 simp[World.frozen?,hh]
include hl h1 in
theorem zrs {w:World} {e g cap:Nat} {cur:Array Value} (m:Nat) (l:List α) (os:Array Obj) (hh:w.heap[g]?=some (.cells cur e (0,0))) (hlc:l.length<=cap) (hcap:cap<=maxLen) (hcs:cur.size=cap * k) :
  w.grownBy (sortWorldK enc k w g 0 m l.toArray os) (some g) /\ ∃ xs',(sortWorldK enc k w g 0 m l.toArray os).ownsRow 0 e k (.slice (some ⟨g,0,none⟩) l.length cap) l.length xs'/\(∀ u∈xs',u.oneCell'=true) /\
   ∀ m',m'<l.length -> ∀ j,j<k->xs'[m' * k+j]?=(enc (l.getD m' default))[j]?:=by
 have hg:g<w.heap.size:=(jB.1 hh).1
 have hheap:∀ i,i<w.heap.size->(sortWorldK enc k w g 0 m l.toArray os).heap[i]?=if i=g then some (.cells (putCells id 0 (flatK enc k l.toArray) cur) e (0,0)) else w.heap[i]?:=fun i hi=>by
  simp only[sortWorldK,grow,putRowK,putRow,mapBlock,ahead]
  rw[jaE (by simpa using hi),jbe]
  by_cases e':g=i
  ·subst e'; simp[hh,onCells]
  rw[kG e',kG (fun e''=>e' e''.symm)]; rfl
 refine⟨⟨rfl,rfl,rfl,by simp[sortWorldK,grow,putRowK,putRow,mapBlock,ahead],fun i hi hne=>?_⟩,?_⟩
 ·rw[hheap i hi,kG fun e'=>hne (by rw[e'])]
 have hF:=size_flatK enc k l.toArray
 simp only[jaM] at hF
 have hle:l.length * k<=cap * k:=jW k hlc
 have hget:∀ t,t<l.length * k->(putCells id 0 (flatK enc k l.toArray) cur).toList[t]?=(enc (l.getD (t / k) default))[t % k]?:=fun t ht=>by
  have hk:0<k:=by
   rcases jaG k with h0 | h0
   ·subst h0; simp at ht
   exact h0
  have hm:t / k<l.length:=jaK (by rwa [qQ] at ht)
  have hlt:t<cur.size:=by omega
  rw[jaV,putCells,Array.getElem?_mapIdx,wF hlt]
  simp only[qD,jF,true_and,kU,hF,kH ht,Nat.sub_zero,id_eq]
  rw[<- zow enc hl l.toArray (by simpa using ht),zbs l hm]
 have hsz:(putCells id 0 (flatK enc k l.toArray) cur).size=cap * k:=by simp[putCells,hcs]
 have hsz':(putCells id 0 (flatK enc k l.toArray) cur).toList.length=cap * k:=(kB).trans hsz
 refine⟨(putCells id 0 (flatK enc k l.toArray) cur).toList.take (l.length * k),⟨by rw[jQ,hsz']; exact Nat.min_eq_left hle,.inr ⟨g,cap,_,rfl,jF _,by rw[hheap g hg,kH rfl],hlc,hcap,hsz,rfl⟩⟩,fun u hu=>?_,fun m' hm' j hj=>?_⟩
 ·obtain⟨t,ht⟩:=jax hu
  rw[jS] at ht
  split at ht
  ·rename_i hlt; rw[hget t hlt] at ht; exact h1 _ _ (qG ht)
  cases ht
 have hlt:m' * k+j<l.length * k:=by
  have:(m'+1) * k<=l.length * k:=jW k hm'
  rw[kY] at this; omega
 rw[jS,kH hlt,hget _ hlt]
 have e1:(m' * k+j) / k=m':=by rw[qQ,Nat.mul_add_div (by omega),jbf hj]; simp
 have e2:(m' * k+j) % k=j:=by rw[qQ,ja6,jat hj]
 rw[e1,e2]
end
structure Dats (α:Type) (k:Nat) where
  lst:α->List D
  len:∀ x,(lst x).length=k
  at_:α->Nat->D
  hat:∀ x j,j<k->(lst x)[j]?=some (at_ x j)
def Dats.row {α:Type} [Inhabited α] {k:Nat} (A:Dats α k) (l:List α):Nat->Nat->D:=fun i=>A.at_ (l.getD i default)
theorem zel {P:Program} {ρ:Ren} (S:SlLaysF0.n6 P ρ) (hent:Ent P (ρ.f 6)) {k:Nat} (aE:∀ w,(isAgg (ρ.t 24)).run P w = .ok true w) (zE:∀ w,(Go.sizeOf (ρ.t 24)).run P w = .ok k w)
  {α:Type} [Inhabited α] (A:Dats α k) (L:List α) (cf:α->α->Int) (hO:SWO (ltOf cf)) (hT:∀ i j,i<L.length->j<L.length->ltOf cf (L.getD i default) (L.getD j default)=false->ltOf cf (L.getD j default) (L.getD i default)=false->i=j)
  (g:FuncId) (hc:∀ x∈L,∀ y∈L,SpecD P g [.agg (A.lst x),.agg (A.lst y)] [.d (.int .i64 (cf x y))]) (e:TypeId) (hn:L.length<=1000000) :
  SpecW P (ρ.f 6) [] [.d (.fn g)] e k L.length (A.row L) (A.row (L.mergeSort fun x y=>!(ltOf cf) y x)) []:=by
 refine⟨hent,fun w ok vs us v xs hok h1 h2 hr=>?_⟩
 cases h1
 cases h2 with
 | cons h2 h3=>
 cases h3
 rename_i fv
 have hfv:fv = .func (.func g) #[] #[]:=h2
 subst hfv
 by_cases h0:L=[]
 ·subst h0
  obtain⟨p,cap,rfl⟩:∃ p cap,v = .slice p 0 cap:=by
   rcases hr.own.2 with⟨h3,_⟩ | ⟨q,cap,cur,h3,_⟩
   ·exact⟨_,_,h3⟩
   exact⟨_,_,h3⟩
  refine (AnyF.slices_SortFunc_none S p cap _ w).mono ?_
  rintro en w' ⟨rfl,rfl⟩
  exact⟨_,rfl,⟨rfl,rfl,rfl,jE _,fun _ _ _=>rfl⟩,⟨[],rfl,.nil⟩,xs,hr.own,hr.one,fun m hm=>absurd hm (qK _)⟩
 have hpos:0<L.length:=ja1.2 h0
 haveI:Inhabited (Fin L.length):=⟨⟨0,hpos⟩⟩
 rcases hr.own.2 with⟨_,h4⟩ | ⟨q,cap,cur,rfl,_,hh,hnc,hcap,hcs,htk⟩
 ·exact absurd (jbF.1 h4) h0
 have hxl:xs.length=L.length * k:=hr.own.1
 let enc:Fin L.length->List Value:=fun i=>(xs.drop (i.1 * k)).take k
 have enc_get:∀ (i:Fin L.length) j,j<k->(enc i)[j]?=xs[i.1 * k+j]?:=fun i j hj=>by
  show ((xs.drop (i.1 * k)).take k)[j]?=_
  rw[jS,kH hj,qW]
 have enc_len:∀ i,(enc i).length=k:=fun i=>by
  show ((xs.drop (i.1 * k)).take k).length=k
  rw[jQ,jak,hxl]
  have:(i.1+1) * k<=L.length * k:=jW k i.2
  rw[kY] at this; omega
 have enc_one:∀ i,∀ v∈enc i,v.oneCell'=true:=fun i v hv=>hr.one v (jbi (jaj hv))
 have fr:∀ m,∀ hm:m<L.length,(List.finRange L.length).getD m default=⟨m,hm⟩:=fun m hm=>by
  rw[hZ,kF (by simpa using hm)]; simp
 have hH:HoldsK enc k w q 0 (List.finRange L.length).toArray:=zpr enc enc_len (xs:=xs) hh (by rw[jbj]; exact htk) fun m hm j hj=>by
  rw[jbj] at hm
  rw[fr m hm,enc_get _ j hj]
 have hq:q<w.heap.size:=(jB.1 hh).1
 let cf':Fin L.length->Fin L.length->Int:=fun i j=>cf (L.getD i.1 default) (L.getD j.1 default)
 have hmem:∀ i:Fin L.length,L.getD i.1 default∈L:=fun i=>by
  rw[hZ,kF i.2]; exact kQ i.2
 have hlt:∀ i j,ltOf cf' i j=ltOf cf (L.getD i.1 default) (L.getD j.1 default):=fun _ _=>rfl
 have hent':∀ args w,(callFunc g args).run P w = .ok (.enter g args) w:=fun args w=>zaA (hc _ (hmem ⟨0,hpos⟩) _ (hmem ⟨0,hpos⟩)).1 args w
 have hcmp:CmpLays P g #[] enc k cf' q 0 (List.finRange L.length).toArray.size w:=fun m os dk hdk x y=>by
  have hdl:dk.toList.length=L.length:=by rw[kB,hdk]; simp
  have hgr:w.grownBy (sortWorldK enc k w q 0 m dk os) (some q):=by
   have:=(zrs enc enc_len enc_one (cap:=cap) m dk.toList os hh (by rw[hdl]; exact hnc) hcap hcs).1
   simpa using this
  refine ((hc _ (hmem x) _ (hmem y)).2 _ ok [.agg (enc x).toArray,.agg (enc y).toArray] (fun b hb=>jN (hok b hb) hgr.size) ?_).mono ?_
  ·have one:∀ z:Fin L.length,Rep1 (sortWorldK enc k w q 0 m dk os) ok (.agg (A.lst (L.getD z.1 default))) (.agg (enc z).toArray):=fun z=>by
    refine⟨enc z,rfl,All2.of_get (by rw[A.len,enc_len]) fun j a b ha hb=>?_⟩
    have hj:j<k:=by rw[<- enc_len z]; exact (kC.1 hb).1
    rw[A.hat _ j hj] at ha
    cases ha
    rw[enc_get z j hj] at hb
    obtain⟨u,hu,hrep⟩:=hr.rep z.1 z.2 j hj
    rw[hb] at hu; cases hu
    exact Rep.keep0 (fun b hb=>⟨hb,zdM (hgr.block b (hok b hb) fun e=>hr.sep b e.symm hb)⟩) hrep
   exact .cons (one x) (.cons (one y) .nil)
  rintro en w' ⟨v,rfl,⟨hb,hd⟩,hres⟩
  have hv:v = .int .i64 (cf' x y):=hres
  exact⟨by rw[hv],zcs hb (hd rfl)⟩
 have hrun:=AnyQ.slices_SortFunc_total S k aE zE enc enc_len enc_one cf' ⟨fun i=>hO.1 _,fun i j l=>hO.2 _ _ _,fun i j l=>hO.3 _ _ _⟩ g #[] q 0 cap (List.finRange L.length).toArray w hent' hcmp hH hq (by simp; omega) (fun i j a b=>Fin.ext (hT i.1 j.1 i.2 j.2 a b))
 simp only[jaM,jbj] at hrun
 refine hrun.mono ?_
 rintro en w' ⟨rfl,m,os,rfl⟩
 have hlen:((List.finRange L.length).mergeSort fun x y=>!(ltOf cf') y x).length=L.length:=by rw[qM,jbj]
 obtain⟨p1,xs',p2,p3,p4⟩:=zrs enc enc_len enc_one (cap:=cap) m ((List.finRange L.length).mergeSort fun x y=>!(ltOf cf') y x) os hh (by rw[hlen]; exact hnc) hcap hcs
 rw[hlen] at p2 p4
 have hmap:((List.finRange L.length).mergeSort fun x y=>!(ltOf cf') y x).map (fun i=>L.getD i.1 default)=L.mergeSort fun x y=>!(ltOf cf) y x:=by
  rw[List.map_mergeSort (f:=fun i:Fin L.length=>L.getD i.1 default) (r:=fun x y=>!(ltOf cf') y x) (s:=fun x y=>!(ltOf cf) y x) (fun a _ b _=>rfl)]
  congr 1
  apply List.ext_getElem?
  intro i
  by_cases hi:i<L.length
  ·rw[jU,kF (by simpa using hi),kF hi]
   simp[hZ,hi]
  rw[wI (by simpa using hi),wI (by omega)]
 refine⟨_,rfl,p1,⟨[],rfl,.nil⟩,xs',p2,p3,fun m' hm' j hj=>?_⟩
 have hx:(L.mergeSort fun x y=>!(ltOf cf) y x).getD m' default=L.getD (((List.finRange L.length).mergeSort fun x y=>!(ltOf cf') y x).getD m' default).1 default:=by
  rw[<- hmap,hZ,jU,kF (by rw[hlen]; exact hm'),hZ (l:=List.mergeSort _ _),kF (by rw[hlen]; exact hm')]
  rfl
 have q4:=p4 m' hm' j hj
 generalize ((List.finRange L.length).mergeSort fun x y=>!(ltOf cf') y x).getD m' default=i at hx q4
 obtain⟨u,hu,hrep⟩:=hr.rep i.1 i.2 j hj
 refine⟨u,by rw[q4,enc_get i j hj,hu],?_⟩
 show Rep _ ok (A.at_ ((L.mergeSort fun x y=>!(ltOf cf) y x).getD m' default) j) u
 rw[hx]
 exact Rep.keep0 (fun b hb=>⟨hb,zdM (p1.block b (hok b hb) fun e=>hr.sep b e.symm hb)⟩) hrep
end Go.Pg
namespace Go.Proofs
open Go.Shelf Go.RowKit Go.Lib Go.Sort
def Tryz.sortFt_ren:Go.Shelf.Ren:=⟨fun | 6=>93 | 15=>105 | 14=>147 | 28=>165 | 29=>166 | 20=>199 | 21=>200 | 22=>201 | 23=>202 | 24=>203 | 25=>204 | 26=>205 | 27=>206 | 46=>258 | 47=>217 | 48=>218 | 49=>259 | 50=>260 | 57=>300 | n=>n,fun | 22=>49 | 24=>101 | 25=>163 | 3=>3 | 39=>179 | 0=>0 | 53=>226 | 55=>228 | 4=>4 | 46=>220 | 45=>219 | 50=>151 | 5=>5 | 9=>9 | 66=>271 | 70=>275 | 76=>319 | 77=>320 | n=>n,fun | n=>n⟩
theorem Tryz.sortFt:Go.Proofs.SlLaysF0.n6 Tryz.prog Tryz.sortFt_ren:={
  mixed:=by kernel_rfl,
  f6:=⟨Tryz.f93.name,by decide,Tryz.func93.trans (jI some (by kernel_rfl))⟩,
  f14:=⟨Tryz.f147.name,by decide,Tryz.func147.trans (jI some (by kernel_rfl))⟩,
  f15:=Tryz.func105.trans (jI some (by kernel_rfl)),
  f20:=⟨Tryz.f199.name,by decide,Tryz.func199.trans (jI some (by kernel_rfl))⟩,
  f21:=⟨Tryz.f200.name,by decide,Tryz.func200.trans (jI some (by kernel_rfl))⟩,
  f22:=⟨Tryz.f201.name,by decide,Tryz.func201.trans (jI some (by kernel_rfl))⟩,
  f23:=⟨Tryz.f202.name,by decide,Tryz.func202.trans (jI some (by kernel_rfl))⟩,
  f24:=⟨Tryz.f203.name,by decide,Tryz.func203.trans (jI some (by kernel_rfl))⟩,
  f25:=⟨Tryz.f204.name,by decide,Tryz.func204.trans (jI some (by kernel_rfl))⟩,
  f26:=⟨Tryz.f205.name,by decide,Tryz.func205.trans (jI some (by kernel_rfl))⟩,
  f27:=⟨Tryz.f206.name,by decide,Tryz.func206.trans (jI some (by kernel_rfl))⟩,
  f28:=Tryz.func165.trans (jI some (by kernel_rfl)),
  f29:=Tryz.func166.trans (jI some (by kernel_rfl)),
  f46:=⟨Tryz.f258.name,by decide,Tryz.func258.trans (jI some (by kernel_rfl))⟩,
  f47:=Tryz.func217.trans (jI some (by kernel_rfl)),
  f48:=Tryz.func218.trans (jI some (by kernel_rfl)),
  f49:=⟨Tryz.f259.name,by decide,Tryz.func259.trans (jI some (by kernel_rfl))⟩,
  f50:=⟨Tryz.f260.name,by decide,Tryz.func260.trans (jI some (by kernel_rfl))⟩,
  f57:=⟨Tryz.f300.name,by decide,Tryz.func300.trans (jI some (by kernel_rfl))⟩,
  t0:=Tryz.underlying0,
  a0:=Tryz.isAgg0,
  z0:=Tryz.sizeOf0,
  v0:=Tryz.zeroValue0,
  t3:=Tryz.underlying3,
  a3:=Tryz.isAgg3,
  z3:=Tryz.sizeOf3,
  v3:=Tryz.zeroValue3,
  t4:=Tryz.underlying4,
  a4:=Tryz.isAgg4,
  z4:=Tryz.sizeOf4,
  v4:=Tryz.zeroValue4,
  t5:=Tryz.underlying5,
  a5:=Tryz.isAgg5,
  z5:=Tryz.sizeOf5,
  v5:=Tryz.zeroValue5,
  t9:=Tryz.underlying9,
  a9:=Tryz.isAgg9,
  z9:=Tryz.sizeOf9,
  v9:=Tryz.zeroValue9,
  t22:=Tryz.underlying49,
  a22:=Tryz.isAgg49,
  z22:=Tryz.sizeOf49,
  v22:=Tryz.zeroValue49,
  t25:=Tryz.underlying163,
  a25:=Tryz.isAgg163,
  z25:=Tryz.sizeOf163,
  v25:=Tryz.zeroValue163,
  t39:=Tryz.underlying179,
  a39:=Tryz.isAgg179,
  z39:=Tryz.sizeOf179,
  v39:=Tryz.zeroValue179,
  t45:=Tryz.underlying219,
  a45:=Tryz.isAgg219,
  z45:=Tryz.sizeOf219,
  v45:=Tryz.zeroValue219,
  t46:=Tryz.underlying220,
  a46:=Tryz.isAgg220,
  z46:=Tryz.sizeOf220,
  v46:=Tryz.zeroValue220,
  t50:=Tryz.underlying151,
  a50:=Tryz.isAgg151,
  z50:=Tryz.sizeOf151,
  v50:=Tryz.zeroValue151,
  t53:=Tryz.underlying226,
  a53:=Tryz.isAgg226,
  z53:=Tryz.sizeOf226,
  v53:=Tryz.zeroValue226,
  t55:=Tryz.underlying228,
  a55:=Tryz.isAgg228,
  z55:=Tryz.sizeOf228,
  v55:=Tryz.zeroValue228,
  t66:=Tryz.underlying271,
  a66:=Tryz.isAgg271,
  z66:=Tryz.sizeOf271,
  v66:=Tryz.zeroValue271,
  t70:=Tryz.underlying275,
  a70:=Tryz.isAgg275,
  z70:=Tryz.sizeOf275,
  v70:=Tryz.zeroValue275,
  t76:=Tryz.underlying319,
  a76:=Tryz.isAgg319,
  z76:=Tryz.sizeOf319,
  v76:=Tryz.zeroValue319,
  t77:=Tryz.underlying320,
  a77:=Tryz.isAgg320,
  z77:=Tryz.sizeOf320,
  v77:=Tryz.zeroValue320 }
def Tryz.sortMf_ren:Go.Shelf.Ren:=⟨fun | 6=>96 | 15=>105 | 14=>149 | 28=>165 | 29=>166 | 20=>208 | 21=>209 | 22=>210 | 23=>211 | 24=>212 | 25=>213 | 26=>214 | 27=>215 | 46=>261 | 47=>217 | 48=>218 | 49=>262 | 50=>263 | 57=>301 | n=>n,fun | 22=>50 | 24=>104 | 25=>165 | 3=>3 | 39=>179 | 0=>0 | 53=>226 | 55=>228 | 4=>4 | 46=>220 | 45=>219 | 50=>151 | 5=>5 | 9=>9 | 66=>271 | 70=>275 | 76=>319 | 77=>320 | n=>n,fun | n=>n⟩
theorem Tryz.sortMf:Go.Proofs.SlLaysF0.n6 Tryz.prog Tryz.sortMf_ren:={
  mixed:=by kernel_rfl,
  f6:=⟨Tryz.f96.name,by decide,Tryz.func96.trans (jI some (by kernel_rfl))⟩,
  f14:=⟨Tryz.f149.name,by decide,Tryz.func149.trans (jI some (by kernel_rfl))⟩,
  f15:=Tryz.func105.trans (jI some (by kernel_rfl)),
  f20:=⟨Tryz.f208.name,by decide,Tryz.func208.trans (jI some (by kernel_rfl))⟩,
  f21:=⟨Tryz.f209.name,by decide,Tryz.func209.trans (jI some (by kernel_rfl))⟩,
  f22:=⟨Tryz.f210.name,by decide,Tryz.func210.trans (jI some (by kernel_rfl))⟩,
  f23:=⟨Tryz.f211.name,by decide,Tryz.func211.trans (jI some (by kernel_rfl))⟩,
  f24:=⟨Tryz.f212.name,by decide,Tryz.func212.trans (jI some (by kernel_rfl))⟩,
  f25:=⟨Tryz.f213.name,by decide,Tryz.func213.trans (jI some (by kernel_rfl))⟩,
  f26:=⟨Tryz.f214.name,by decide,Tryz.func214.trans (jI some (by kernel_rfl))⟩,
  f27:=⟨Tryz.f215.name,by decide,Tryz.func215.trans (jI some (by kernel_rfl))⟩,
  f28:=Tryz.func165.trans (jI some (by kernel_rfl)),
  f29:=Tryz.func166.trans (jI some (by kernel_rfl)),
  f46:=⟨Tryz.f261.name,by decide,Tryz.func261.trans (jI some (by kernel_rfl))⟩,
  f47:=Tryz.func217.trans (jI some (by kernel_rfl)),
  f48:=Tryz.func218.trans (jI some (by kernel_rfl)),
  f49:=⟨Tryz.f262.name,by decide,Tryz.func262.trans (jI some (by kernel_rfl))⟩,
  f50:=⟨Tryz.f263.name,by decide,Tryz.func263.trans (jI some (by kernel_rfl))⟩,
  f57:=⟨Tryz.f301.name,by decide,Tryz.func301.trans (jI some (by kernel_rfl))⟩,
  t0:=Tryz.underlying0,
  a0:=Tryz.isAgg0,
  z0:=Tryz.sizeOf0,
  v0:=Tryz.zeroValue0,
  t3:=Tryz.underlying3,
  a3:=Tryz.isAgg3,
  z3:=Tryz.sizeOf3,
  v3:=Tryz.zeroValue3,
  t4:=Tryz.underlying4,
  a4:=Tryz.isAgg4,
  z4:=Tryz.sizeOf4,
  v4:=Tryz.zeroValue4,
  t5:=Tryz.underlying5,
  a5:=Tryz.isAgg5,
  z5:=Tryz.sizeOf5,
  v5:=Tryz.zeroValue5,
  t9:=Tryz.underlying9,
  a9:=Tryz.isAgg9,
  z9:=Tryz.sizeOf9,
  v9:=Tryz.zeroValue9,
  t22:=Tryz.underlying50,
  a22:=Tryz.isAgg50,
  z22:=Tryz.sizeOf50,
  v22:=Tryz.zeroValue50,
  t25:=Tryz.underlying165,
  a25:=Tryz.isAgg165,
  z25:=Tryz.sizeOf165,
  v25:=Tryz.zeroValue165,
  t39:=Tryz.underlying179,
  a39:=Tryz.isAgg179,
  z39:=Tryz.sizeOf179,
  v39:=Tryz.zeroValue179,
  t45:=Tryz.underlying219,
  a45:=Tryz.isAgg219,
  z45:=Tryz.sizeOf219,
  v45:=Tryz.zeroValue219,
  t46:=Tryz.underlying220,
  a46:=Tryz.isAgg220,
  z46:=Tryz.sizeOf220,
  v46:=Tryz.zeroValue220,
  t50:=Tryz.underlying151,
  a50:=Tryz.isAgg151,
  z50:=Tryz.sizeOf151,
  v50:=Tryz.zeroValue151,
  t53:=Tryz.underlying226,
  a53:=Tryz.isAgg226,
  z53:=Tryz.sizeOf226,
  v53:=Tryz.zeroValue226,
  t55:=Tryz.underlying228,
  a55:=Tryz.isAgg228,
  z55:=Tryz.sizeOf228,
  v55:=Tryz.zeroValue228,
  t66:=Tryz.underlying271,
  a66:=Tryz.isAgg271,
  z66:=Tryz.sizeOf271,
  v66:=Tryz.zeroValue271,
  t70:=Tryz.underlying275,
  a70:=Tryz.isAgg275,
  z70:=Tryz.sizeOf275,
  v70:=Tryz.zeroValue275,
  t76:=Tryz.underlying319,
  a76:=Tryz.isAgg319,
  z76:=Tryz.sizeOf319,
  v76:=Tryz.zeroValue319,
  t77:=Tryz.underlying320,
  a77:=Tryz.isAgg320,
  z77:=Tryz.sizeOf320,
  v77:=Tryz.zeroValue320 }
end Go.Proofs
namespace Go.Pg
open Go.Proofs Go.RowKit Go.Sort Go.Shelf
theorem ordC (a b:Int):(ord a b = -1/\a<b) \/ (ord a b=1/\b<a) \/ (ord a b=0/\a=b):=by
 unfold ord
 by_cases h1:a<b
 ·exact .inl ⟨kH h1,h1⟩
 by_cases h2:b<a
 ·exact .inr (.inl ⟨by rw[kG h1,kH h2],h2⟩)
 exact .inr (.inr ⟨by rw[kG h1,kG h2],by omega⟩)
def cmpL:List Int->List Int->Int
 | [],[]=>0
 | [],_ :: _=>-1
 | _ :: _,[]=>1
 | a :: r,b :: q=>if ord a b≠0 then ord a b else cmpL r q
theorem zgC:∀ a,cmpL a a=0
 | []=>rfl
 | a :: r=>by
  have:ord a a=0:=by rcases ordC a a with⟨_,h⟩ | ⟨_,h⟩ | ⟨h,_⟩ <;> omega
  rw[cmpL,kG (by rw[this]; simp),zgC r]
theorem cmpL_cases:∀ a b,(cmpL a b = -1/\cmpL b a=1) \/ (cmpL a b=1/\cmpL b a = -1) \/ (cmpL a b=0/\a=b)
 | [],[]=>.inr (.inr ⟨rfl,rfl⟩)
 | [],_ :: _=>.inl ⟨rfl,rfl⟩
 | _ :: _,[]=>.inr (.inl ⟨rfl,rfl⟩)
 | a :: r,b :: q=>by
  unfold cmpL
  rcases ordC a b with⟨e,h⟩ | ⟨e,h⟩ | ⟨e,h⟩ <;> rcases ordC b a with⟨e',h'⟩ | ⟨e',h'⟩ | ⟨e',h'⟩ <;> first | omega | skip
  subst h
  rw[kG (by rw[e]; simp),kG (by rw[e]; simp)]
  rcases cmpL_cases r q with h | h | ⟨h,e⟩
  ·exact .inl h
  ·exact .inr (.inl h)
  exact .inr (.inr ⟨h,by rw[e]⟩)
theorem zcQ:∀ a b c,cmpL a b = -1->cmpL b c = -1->cmpL a c = -1
 | [],[],_,h,_=>by cases h
 | [],_ :: _,[],_,h=>by cases h
 | [],_ :: _,_ :: _,_,_=>rfl
 | _ :: _,[],_,h,_=>by cases h
 | _ :: _,_ :: _,[],_,h=>by cases h
 | a :: r,b :: q,c :: p,h1,h2=>by
  unfold cmpL at h1 h2 ⊢
  rcases ordC a b with⟨e,h⟩ | ⟨e,h⟩ | ⟨e,h⟩ <;> rcases ordC b c with⟨e',h'⟩ | ⟨e',h'⟩ | ⟨e',h'⟩ <;> rcases ordC a c with⟨e2,h3⟩ | ⟨e2,h3⟩ | ⟨e2,h3⟩ <;> first | omega | skip
  all_goals rw[e] at h1; rw[e'] at h2; rw[e2]
  all_goals first | rfl | (simp at h1; done) | (simp at h2; done) | skip
  simp only[ne_eq,jaL,jaF] at h1 h2 ⊢
  exact zcQ r q p h1 h2
theorem swoL {α:Type} (key:α->List Int):SWO (ltOf fun x y:α=>cmpL (key x) (key y)):=by
 have lt:∀ x y:α,ltOf (fun x y:α=>cmpL (key x) (key y)) x y=decide (cmpL (key x) (key y)<0):=fun _ _=>rfl
 have iff:∀ a b,cmpL a b<0 ↔ cmpL a b = -1:=fun a b=>by rcases cmpL_cases a b with⟨h,_⟩ | ⟨h,_⟩ | ⟨h,_⟩ <;> omega
 refine⟨fun x=>?_,fun x y z h1 h2=>?_,fun x y z h1 h2=>?_⟩
 ·rw[lt,zgC]; rfl
 ·rw[lt,kA,iff] at *
  exact zcQ _ _ _ h1 h2
 rw[lt,jaO,iff] at *
 intro h3
 rcases cmpL_cases (key x) (key y) with⟨h,_⟩ | ⟨_,h⟩ | ⟨_,h⟩
 ·exact h1 h
 ·exact h2 (zcQ _ _ _ h h3)
 rw[h] at h3; exact h2 h3
theorem zgD {a b:List Int} (h1:decide (cmpL a b<0)=false) (h2:decide (cmpL b a<0)=false):a=b:=by
 rw[jaO] at h1 h2
 rcases cmpL_cases a b with⟨h,_⟩ | ⟨_,h⟩ | ⟨_,h⟩
 ·omega
 ·omega
 exact h
theorem zsX (a b:List Int) (ha:a.length<=1000000) (hb:b.length<=1000000):SpecD PP 148 [.d (lI a),.d (lI b)] [N (cmpL a b)]:=by
 refine zbt Tryz.func148 rfl (by kernel_rfl) rfl ?_
 refine LoopOb.of (σ:=Nat) (fun i=>([(0,.d (lI a)),(1,.d (lI b)),(9,.d (lI a)),(10,.d (I a.length)),(11,.d (I i))],[])) (fun i=>i<=a.length/\i<=b.length/\cmpL (a.drop i) (b.drop i)=cmpL a b) (fun i=>a.length - i) 0
  ⟨rfl,trivial,wq rfl⟩ ⟨jF _,jF _,rfl⟩ fun i hi=>?_
 obtain⟨hi,hj,he⟩:=hi
 apply bY <;> intro h1
 ·have h1:i<a.length:=by have:=dT h1; omega
  have da:a.drop i=a.getD i 0 :: a.drop (i+1):=by rw[kV h1,hZ,kF h1]; rfl
  refine⟨⟨rfl,by omega,by omega⟩,?_⟩
  apply bY <;> intro h2
  ·have h2:b.length<=i:=by have:(b.length:Int)<=i:=dT h2; omega
   have db:b.drop i=[]:=List.drop_eq_nil_iff.2 h2
   rw[da,db] at he
   exact r1I rfl he
  have h2:i<b.length:=by have:¬ (b.length:Int)<=i:=dF h2; omega
  have db:b.drop i=b.getD i 0 :: b.drop (i+1):=by rw[kV h2,hZ,kF h2]; rfl
  refine⟨⟨rfl,by omega,by omega⟩,?_⟩
  refine cP (zsY (a.getD i 0) (b.getD i 0)) rfl rfl ?_
  rw[da,db,cmpL] at he
  apply bY <;> intro h3
  ·have h3:ord (a.getD i 0) (b.getD i 0)≠0:=by simpa using h3
   rw[kH h3] at he
   exact r1I rfl he
  have h3:ord (a.getD i 0) (b.getD i 0)=0:=by simpa using h3
  rw[kG (by rw[h3]; simp)] at he
  refine⟨i6,?_⟩
  exact⟨i+1,⟨rfl,trivial,wq rfl⟩,⟨h1,h2,he⟩,msr h1⟩
 have h1:i=a.length:=by have:=dF h1; omega
 subst h1
 rw[jaQ] at he
 apply bY <;> intro h2
 ·have h2:a.length<b.length:=by have:(a.length:Int)<b.length:=dT h2; omega
  have db:b.drop a.length=b.getD a.length 0 :: b.drop (a.length+1):=by rw[kV h2,hZ,kF h2]; rfl
  rw[db] at he
  exact r1I rfl he
 have h2:b.length<=a.length:=by have:¬ (a.length:Int)<b.length:=dF h2; omega
 rw[List.drop_eq_nil_iff.2 h2] at he
 exact r1I rfl he
theorem zo6 (a b:List Int) (ha:a.length<=1000000) (hb:b.length<=1000000):SpecD PP 95 [.d (lI a),.d (lI b)] [N (cmpL a b)]:=by
 refine zbt Tryz.func95 rfl (by kernel_rfl) rfl ?_
 refine cP (zsX a b ha hb) rfl rfl ?_
 exact r1I rfl rfl
structure Fit where
  IDs:List Int
  At:Place
  deriving Inhabited
structure Mis where
  IDs:List Int
  R:List Rsn
  deriving Inhabited
def Fit.at (x:Fit):Nat->D
 | 0=>lI x.IDs
 | 1=>I x.At.X
 | _=>I x.At.Y
def Mis.at (x:Mis):Nat->D
 | 0=>lI x.IDs
 | _=>lRs x.R
abbrev Fit.v (x:Fit):V1:=.agg [lI x.IDs,I x.At.X,I x.At.Y]
abbrev Mis.v (x:Mis):V1:=.agg [lI x.IDs,lRs x.R]
abbrev lFt (l:List Fit):D:=.slc 3 l.length fun i=>(l.getD i default).at
abbrev lMs (l:List Mis):D:=.slc 2 l.length fun i=>(l.getD i default).at
def FtD:Dats Fit 3 where
  lst x:=[lI x.IDs,I x.At.X,I x.At.Y]
  len _:=rfl
  at_ x:=x.at
  hat x j hj:=by
    match j,hj with
    | 0,_=>rfl
    | 1,_=>rfl
    | 2,_=>rfl
def MsD:Dats Mis 2 where
  lst x:=[lI x.IDs,lRs x.R]
  len _:=rfl
  at_ x:=x.at
  hat x j hj:=by
    match j,hj with
    | 0,_=>rfl
    | 1,_=>rfl
theorem znJ (x y:Fit) (hx:x.IDs.length<=1000000) (hy:y.IDs.length<=1000000):SpecD PP 94 [x.v,y.v] [N (cmpL x.IDs y.IDs)]:=by
 refine zbt Tryz.func94 rfl (by kernel_rfl) rfl ?_
 refine cP (zo6 x.IDs y.IDs hx hy) rfl rfl ?_
 exact r1I rfl rfl
theorem znI (x y:Mis) (hx:x.IDs.length<=1000000) (hy:y.IDs.length<=1000000):SpecD PP 97 [x.v,y.v] [N (cmpL x.IDs y.IDs)]:=by
 refine zbt Tryz.func97 rfl (by kernel_rfl) rfl ?_
 refine cP (zo6 x.IDs y.IDs hx hy) rfl rfl ?_
 exact r1I rfl rfl
def srtF (l:List Fit):List Fit:=l.mergeSort fun x y=>!decide (cmpL y.IDs x.IDs<0)
def srtM (l:List Mis):List Mis:=l.mergeSort fun x y=>!decide (cmpL y.IDs x.IDs<0)
theorem aggFt:∀ w,(isAgg (Tryz.sortFt_ren.t 24)).run PP w = .ok true w:=fun _=>by kernel_rfl
theorem sizFt:∀ w,(Go.sizeOf (Tryz.sortFt_ren.t 24)).run PP w = .ok 3 w:=fun _=>by kernel_rfl
theorem aggMs:∀ w,(isAgg (Tryz.sortMf_ren.t 24)).run PP w = .ok true w:=fun _=>by kernel_rfl
theorem sizMs:∀ w,(Go.sizeOf (Tryz.sortMf_ren.t 24)).run PP w = .ok 2 w:=fun _=>by kernel_rfl
theorem zm4 (L:List Fit) (hn:L.length<=1000000) (hd:∀ i j,i<L.length->j<L.length->(L.getD i default).IDs=(L.getD j default).IDs->i=j) (hl:∀ x∈L,x.IDs.length<=1000000) :
  SpecW PP 93 [] [.d (.fn 94)] 101 3 L.length (FtD.row L) (FtD.row (srtF L)) []:=
 zel Tryz.sortFt ⟨_,Tryz.func93,by kernel_rfl,by kernel_rfl⟩ aggFt sizFt FtD L (fun x y=>cmpL x.IDs y.IDs) (swoL Fit.IDs) (fun i j hi hj h1 h2=>hd i j hi hj (zgD h1 h2)) 94 (fun x hx y hy=>znJ x y (hl x hx) (hl y hy)) 101 hn
theorem zm3 (L:List Mis) (hn:L.length<=1000000) (hd:∀ i j,i<L.length->j<L.length->(L.getD i default).IDs=(L.getD j default).IDs->i=j) (hl:∀ x∈L,x.IDs.length<=1000000) :
  SpecW PP 96 [] [.d (.fn 97)] 104 2 L.length (MsD.row L) (MsD.row (srtM L)) []:=
 zel Tryz.sortMf ⟨_,Tryz.func96,by kernel_rfl,by kernel_rfl⟩ aggMs sizMs MsD L (fun x y=>cmpL x.IDs y.IDs) (swoL Mis.IDs) (fun i j hi hj h1 h2=>hd i j hi hj (zgD h1 h2)) 97 (fun x hx y hy=>znI x y (hl x hx) (hl y hy)) 104 hn
def misR (d:Day) (ids:List Int):List Rsn:=if (brnD d ids).To - (brnD d ids).From<=d.Long then (rsnR d.s (brnD d ids) (lstD d ids)).1 else []
def greB (d:Day) (ks:List Nat) (m:Nat):Bool:=fitK d ks m && !growK d ks m
def leaB (d:Day) (ks:List Nat) (m:Nat):Bool:=!fitK d ks m && partK d ks m
abbrev fitF (d:Day) (m:Nat):Fit:=⟨memb (sigL d.R) m,(celD d m).getD 0 default⟩
abbrev misF (d:Day) (m:Nat):Mis:=⟨memb (sigL d.R) m,misR d (memb (sigL d.R) m)⟩
def tabA {α:Type} (p:Nat->Bool) (f:Nat->α):Nat->List α
 | 0=>[]
 | m+1=>if m≠0/\p m=true then tabA p f m ++ [f m] else tabA p f m
theorem zeU {α:Type} {p:Nat->Bool} {f:Nat->α} {m:Nat} (h0:1<=m) (h:p m=true):tabA p f (m+1)=tabA p f m ++ [f m]:=by rw[tabA,kH ⟨by omega,h⟩]
theorem zb8 {α:Type} {p:Nat->Bool} {f:Nat->α} {m:Nat} (h:p m=false):tabA p f (m+1)=tabA p f m:=by rw[tabA,kG fun hh=>by rw[h] at hh; cases hh.2]
theorem zeV {α:Type} (p:Nat->Bool) (f:Nat->α):∀ m,(tabA p f m).length<=m
 | 0=>jE _
 | m+1=>by
  have:=zeV p f m
  unfold tabA
  split
  ·rw[jR]; simp; omega
  omega
theorem zbT {α:Type} {p:Nat->Bool} {f:Nat->α}:∀ {m:Nat} {x:α},x∈tabA p f m -> ∃ k,0<k/\k<m/\p k=true/\x=f k
 | 0,x,h=>by cases h
 | m+1,x,h=>by
  unfold tabA at h
  split at h
  ·rename_i hm
   rcases qE.1 h with h | h
   ·obtain⟨k,h1,h2,h3⟩:=zbT h; exact⟨k,h1,by omega,h3⟩
   exact⟨m,by omega,by omega,hm.2,kL.1 h⟩
  obtain⟨k,h1,h2,h3⟩:=zbT h; exact⟨k,h1,by omega,h3⟩
theorem zci {α:Type} (p:Nat->Bool) (f:Nat->α):∀ m,tabA p f m=(tabA p id m).map f
 | 0=>rfl
 | m+1=>by
  unfold tabA
  split
  ·rw[zci p f m,jT]; rfl
  exact zci p f m
theorem zcB {p:Nat->Bool}:∀ m,(tabA p id m).Nodup
 | 0=>wK
 | m+1=>by
  unfold tabA
  split
  ·refine ja7.2 ⟨zcB m,by simp,fun a ha b hb=>?_⟩
   obtain⟨k,_,h2,_,h3⟩:=zbT ha
   simp at hb; subst hb; simp at h3; omega
  exact zcB m
theorem pushF {l:List Fit} {x:Fit} {g:Nat->Nat->D} (hg:∀ j,j<3->D.eqv (g 0 j) (x.at j)):D.eqv (.slc 3 (l.length+1) (appRow l.length (FtD.row l) g)) (.slc 3 (l ++ [x]).length (FtD.row (l ++ [x]))):=by
 refine⟨by simp,.inr ⟨rfl,fun i hi j hj=>?_⟩⟩
 show D.eqv (appRow l.length (FtD.row l) g i j) (((l ++ [x]).getD i default).at j)
 unfold appRow
 by_cases h:i<l.length
 ·rw[kH h,hZ,jJ h,<- hZ]
  exact dE _
 have e:i=l.length:=by omega
 subst e
 rw[kG h,kE,hZ,jK (jE _),kE]
 exact hg j hj
theorem zr4 {l:List Mis} {x:Mis} {g:Nat->Nat->D} (hg:∀ j,j<2->D.eqv (g 0 j) (x.at j)):D.eqv (.slc 2 (l.length+1) (appRow l.length (MsD.row l) g)) (.slc 2 (l ++ [x]).length (MsD.row (l ++ [x]))):=by
 refine⟨by simp,.inr ⟨rfl,fun i hi j hj=>?_⟩⟩
 show D.eqv (appRow l.length (MsD.row l) g i j) (((l ++ [x]).getD i default).at j)
 unfold appRow
 by_cases h:i<l.length
 ·rw[kH h,hZ,jJ h,<- hZ]
  exact dE _
 have e:i=l.length:=by omega
 subst e
 rw[kG h,kE,hZ,jK (jE _),kE]
 exact hg j hj
theorem zkV {α:Type} {l:List α} (h:l.Nodup) {i j:Nat} (hi:i<l.length) (hj:j<l.length) (e:l[i]=l[j]):i=j:=by
 have h:=jan.1 h
 rcases jbz i j with g | g | g
 ·exact absurd e (h i j hi hj g)
 ·exact g
 exact absurd e.symm (h j i hj hi g)
theorem zdh {ids:List Int} (hd:ids.Nodup) {m i:Nat} (hi:i<ids.length):ids.getD i 0∈memb ids m ↔ m.testBit i=true:=by
 unfold memb membA
 rw[kI]
 constructor
 ·rintro⟨j,hj,e⟩
  rw[kW,kK] at hj
  rw[hZ,hZ,kF hj.1,kF hi] at e
  have:j=i:=zkV hd hj.1 hi e
  subst this; exact hj.2
 intro h
 exact⟨i,kW.2 ⟨kK.2 hi,h⟩,rfl⟩
theorem znr {ids:List Int} (hd:ids.Nodup) {m k:Nat} (hm:m<2 ^ ids.length) (hk:k<2 ^ ids.length) (h:memb ids m=memb ids k):m=k:=by
 apply jaY
 intro i
 by_cases hi:i<ids.length
 ·rw[kP,<- zdh hd hi,<- zdh hd hi,h]
 have h2:2 ^ ids.length<=2 ^ i:=jai (by decide) (by omega)
 rw[jaS (by omega),jaS (by omega)]
theorem DayOk.nodR {d:Day} (h:DayOk d):(d.R.map Rpt.ID).Nodup:=by
 have:∀ i,i<=d.R.length->((d.R.take i).map Rpt.ID).Nodup:=by
  intro i
  induction i with
  | zero=>intro _; simp
  | succ i ih=>
  intro hi
  rw[zaE (by omega) default,jT]
  refine ja7.2 ⟨ih (by omega),by simp,fun a ha b hb=>?_⟩
  have:=h.tw i (by omega)
  rw[jaz] at this
  obtain⟨x,hx,rfl⟩:=kI.1 ha
  have h1:=this x hx
  simp at hb h1
  rw[hb]; exact h1
 have:=this d.R.length (jE _)
 rwa [jZ] at this
theorem DayOk.nod {d:Day} (h:DayOk d):(sigL d.R).Nodup:=by
 unfold sigL
 refine (ja0 _ _).nodup_iff.2 ?_
 unfold sigK
 exact List.Nodup.sublist (List.Sublist.map _ (jbn ..)) h.nodR
theorem zhR {α:Type} [Inhabited α] {d:Day} (h:DayOk d) (key:α->List Int) (p:Nat->Bool) (f:Nat->α) (hk:∀ m,key (f m)=memb (sigL d.R) m) {n:Nat} (hn:n<=2 ^ (sigL d.R).length) :
  ∀ i j,i<(tabA p f n).length->j<(tabA p f n).length->key ((tabA p f n).getD i default)=key ((tabA p f n).getD j default)->i=j:=by
 intro i j hi hj e
 have hl:(tabA p f n).length=(tabA p id n).length:=by rw[zci p f,kS]
 have g:∀ i,i<(tabA p f n).length -> ∃ hi:i<(tabA p id n).length,(tabA p f n).getD i default=f (tabA p id n)[i]:=fun i hi=>by
  have hi':i<(tabA p id n).length:=by rw[<- hl]; exact hi
  refine⟨hi',?_⟩
  rw[hZ,zci p f,jU,kF hi']; rfl
 obtain⟨hi',e1⟩:=g i hi
 obtain⟨hj',e2⟩:=g j hj
 rw[e1,e2,hk,hk] at e
 have lt:∀ i,∀ hi:i<(tabA p id n).length,(tabA p id n)[i]<2 ^ (sigL d.R).length:=fun i hi=>by
  obtain⟨k,_,h2,_,h3⟩:=zbT (kQ hi)
  rw[h3]; simp; omega
 have:=znr h.nod (lt i hi') (lt j hj') e
 exact zkV (zcB n) hi' hj' this
def tabR (d:Day):List Fit × List Mis × Int:=
 if dayE d≠0 then ([],[],dayE d) else (srtF (tabA (greB d (ksD d)) (fitF d) (2 ^ (sigL d.R).length)),srtM (tabA (leaB d (ksD d)) (misF d) (2 ^ (sigL d.R).length)),0)
theorem zqH (d:Day) (hn:d.R.length<=1000000):Spec PP 30 [d.v] [.agg [lFt (tabR d).1,lMs (tabR d).2.1],.d (.int .i64 (tabR d).2.2)]:=by
 refine zbU [20] Tryz.func30 rfl (by kernel_rfl) rfl ?_
 refine cP (zfy d hn) rfl rfl ?_
 apply bY <;> intro h0
 ·have e:tabR d=([],[],dayE d):=by unfold tabR; rw[kH (by simpa using h0)]
  rw[e]
  exact⟨rtC (a:=2) rfl rfl rfl rfl rfl rfl ⟨rfl,rfl,trivial⟩,rtI rfl rfl,trivial⟩
 have h0:dayE d=0:=by simpa using h0
 have h:=zb6 h0
 have hn:=h.n
 have h7:=sig7 h
 have e:tabR d=(srtF (tabA (greB d (ksD d)) (fitF d) (2 ^ (sigL d.R).length)),srtM (tabA (leaB d (ksD d)) (misF d) (2 ^ (sigL d.R).length)),0):=by unfold tabR; rw[kG (fun hh=>hh h0)]
 rw[e]
 refine CallSt.ro (zo1 h) rfl rfl ?_
 have hp:2 ^ (sigL d.R).length<=2 ^ 7:=jai (by decide) h7
 refine LoopOb.of (σ:=Nat) (fun m=>([(1,.box 1 0),(2,.box 2 0),(5,.box 5 0),(6,.box 6 0),(7,.d (I m))],[(1,.box (d.ds.map AV.d)),(2,.box (List.replicate 2 .any)),(5,.box ((d.ds ++ [lI (sigL d.R),cmap d (ksD d)]).map AV.d)),(6,.box [.own 52,.own 87]),
   (52,.row 101 3 (tabA (greB d (ksD d)) (fitF d) m).length (FtD.row (tabA (greB d (ksD d)) (fitF d) m))),(87,.row 104 2 (tabA (leaB d (ksD d)) (misF d) m).length (MsD.row (tabA (leaB d (ksD d)) (misF d) m)))]))
  (fun m=>1<=m/\m<=2 ^ (sigL d.R).length) (fun m=>2 ^ (sigL d.R).length - m) 1
  ⟨rfl,⟨obD d.ds rfl,zaJ rfl rfl,obD (d.ds ++ [lI (sigL d.R),cmap d (ksD d)]) rfl,⟨⟨rfl,_,_,_,rfl⟩,⟨rfl,_,_,_,rfl⟩,trivial⟩,rfl,rfl,trivial⟩,wq rfl⟩ ⟨jE _,Nat.one_le_two_pow⟩ fun m hm=>?_
 obtain⟨hm,hm2⟩:=hm
 have es:=bShl h7
 have l1:=zeV (greB d (ksD d)) (fitF d) m
 have l2:=zeV (leaB d (ksD d)) (misF d) m
 have hi:(memb (sigL d.R) m).length<=1000000:=jM (zbn _ _ _) (by omega)
 refine⟨by omega,?_⟩
 apply bY <;> intro h1
 ·have h1:m<2 ^ (sigL d.R).length:=by
   have h1:(m:Int)<((2 ^ (sigL d.R).length:Nat):Int):=by rw[<- es]; exact dT h1
   omega
  have hms:2 ^ (sigL d.R).length - (m+1)<2 ^ (sigL d.R).length - m:=by omega
  refine CallSt.ro (zgl (sigL d.R) m h7 (by omega)) rfl rfl ?_
  refine cP (zeA d (ksD d) m) rfl rfl ?_
  apply bY <;> intro h2
  ·have h2:fitK d (ksD d) m=true:=h2
   have e2:leaB d (ksD d) m=false:=by unfold leaB; rw[h2]; rfl
   refine cP (zqG d (ksD d) m h7 (by omega)) rfl rfl ?_
   repeat first | apply sT | apply sF
   apply bY <;> intro h3
   ·have h3:growK d (ksD d) m=false:=by simpa using h3
    have e1:greB d (ksD d) m=true:=by unfold greB; rw[h2,h3]; rfl
    have hf:(ksD d).contains m=true/\0<(celD d m).length:=by unfold fitK at h2; simpa using h2
    refine oL (List.range 14) (FzOb.no ?_)
    refine⟨⟨kInt,rfl⟩,lP (celD d m),?_,?_⟩
    ·have:=zoV d (ksD d) m
     rw[kH hf.1] at this
     exact this
    refine⟨⟨rfl,by omega,by omega⟩,?_⟩
    refine⟨⟨.inr rfl,by unfold maxLen; omega,by show ((tabA (greB d (ksD d)) (fitF d) m).length+1) * 40<=140737488355328; omega⟩,?_⟩
    refine⟨i6,?_⟩
    refine⟨m+1,⟨rfl,⟨obD d.ds rfl,zaJ rfl rfl,obD (d.ds ++ [lI (sigL d.R),cmap d (ksD d)]) rfl,obX rfl,obR rfl ?_,obR rfl ?_,trivial⟩,wq rfl⟩,⟨by omega,h1⟩,hms⟩
    ·rw[zeU hm e1]
     refine pushF fun j hj=>?_
     match j,hj with
     | 0,_=>exact dE _
     | 1,_=>exact dE _
     | 2,_=>exact dE _
    rw[zb8 e2]; exact dE _
   have h3:growK d (ksD d) m=true:=by simpa using h3
   have e1:greB d (ksD d) m=false:=by unfold greB; rw[h2,h3]; rfl
   refine cP (zeA d (ksD d) m) rfl rfl ?_
   refine Split.no (by rw[h2]; rfl) ?_
   repeat first | apply sT | apply sF
   refine⟨i6,?_⟩
   refine⟨m+1,⟨rfl,⟨obD d.ds rfl,zaJ rfl rfl,obD (d.ds ++ [lI (sigL d.R),cmap d (ksD d)]) rfl,obX rfl,obR rfl ?_,obR rfl ?_,trivial⟩,wq rfl⟩,⟨by omega,h1⟩,hms⟩
   ·rw[zb8 e1]; exact dE _
   rw[zb8 e2]; exact dE _
  have h2:fitK d (ksD d) m=false:=h2
  have e1:greB d (ksD d) m=false:=by unfold greB; rw[h2]; rfl
  repeat first | apply sT | apply sF
  refine cP (zeA d (ksD d) m) rfl rfl ?_
  refine Split.yes (by rw[h2]; rfl) ?_
  refine cP (zll d (ksD d) m h7 (by omega)) rfl rfl ?_
  repeat first | apply sT | apply sF
  apply bY <;> intro h3
  ·have h3:partK d (ksD d) m=true:=h3
   have e2:leaB d (ksD d) m=true:=by unfold leaB; rw[h2,h3]; rfl
   refine cP (zln d (memb (sigL d.R) m) (by omega) hi) rfl rfl ?_
   refine cP (zhk d (brnD d (memb (sigL d.R) m)) (zhB h _)) rfl rfl ?_
   apply bY <;> intro h4
   ·have h4:(brnD d (memb (sigL d.R) m)).To - (brnD d (memb (sigL d.R) m)).From<=d.Long:=by simpa using h4
    have er:misR d (memb (sigL d.R) m)=(rsnR d.s (brnD d (memb (sigL d.R) m)) (lstD d (memb (sigL d.R) m))).1:=by unfold misR; rw[kH h4]
    refine oL (List.range 12) (FzOb.no ?_)
    refine CallOb.ro (zlm d (memb (sigL d.R) m) (by omega) hi) rfl rfl ?_
    refine CallOb.ro (zld d.s (brnD d (memb (sigL d.R) m)) (lstD d (memb (sigL d.R) m))) rfl rfl ?_
    refine⟨⟨.inr rfl,by unfold maxLen; omega,by show ((tabA (leaB d (ksD d)) (misF d) m).length+1) * 48<=140737488355328; omega⟩,?_⟩
    refine⟨i6,?_⟩
    refine⟨m+1,⟨rfl,⟨obD d.ds rfl,zaJ rfl rfl,obD (d.ds ++ [lI (sigL d.R),cmap d (ksD d)]) rfl,obX rfl,obR rfl ?_,obR rfl ?_,trivial⟩,wq rfl⟩,⟨by omega,h1⟩,hms⟩
    ·rw[zb8 e1]; exact dE _
    rw[zeU hm e2]
    refine zr4 fun j hj=>?_
    match j,hj with
    | 0,_=>exact dE _
    | 1,_=>show D.eqv _ (lRs (misR d (memb (sigL d.R) m))); rw[er]; exact dE _
   have h4:¬ (brnD d (memb (sigL d.R) m)).To - (brnD d (memb (sigL d.R) m)).From<=d.Long:=by simpa using h4
   have er:misR d (memb (sigL d.R) m)=[]:=by unfold misR; rw[kG h4]
   refine⟨⟨.inr rfl,by unfold maxLen; omega,by show ((tabA (leaB d (ksD d)) (misF d) m).length+1) * 48<=140737488355328; omega⟩,?_⟩
   refine⟨i6,?_⟩
   refine⟨m+1,⟨rfl,⟨obD d.ds rfl,zaJ rfl rfl,obD (d.ds ++ [lI (sigL d.R),cmap d (ksD d)]) rfl,obX rfl,obR rfl ?_,obR rfl ?_,trivial⟩,wq rfl⟩,⟨by omega,h1⟩,hms⟩
   ·rw[zb8 e1]; exact dE _
   rw[zeU hm e2]
   refine zr4 fun j hj=>?_
   match j,hj with
   | 0,_=>exact dE _
   | 1,_=>show D.eqv _ (lRs (misR d (memb (sigL d.R) m))); rw[er]; rfl
  have h3:partK d (ksD d) m=false:=h3
  have e2:leaB d (ksD d) m=false:=by unfold leaB; rw[h3,kN]
  refine⟨i6,?_⟩
  refine⟨m+1,⟨rfl,⟨obD d.ds rfl,zaJ rfl rfl,obD (d.ds ++ [lI (sigL d.R),cmap d (ksD d)]) rfl,obX rfl,obR rfl ?_,obR rfl ?_,trivial⟩,wq rfl⟩,⟨by omega,h1⟩,hms⟩
  ·rw[zb8 e1]; exact dE _
  rw[zb8 e2]; exact dE _
 have h1:m=2 ^ (sigL d.R).length:=by
  have h1:¬ (m:Int)<((2 ^ (sigL d.R).length:Nat):Int):=by rw[<- es]; exact dF h1
  omega
 subst h1
 have hl:∀ m,(memb (sigL d.R) m).length<=1000000:=fun m=>jM (zbn _ _ _) (by omega)
 refine CallSt.rwW rfl rfl (zm4 (tabA (greB d (ksD d)) (fitF d) (2 ^ (sigL d.R).length)) (by omega) (zhR h Fit.IDs _ _ (fun _=>rfl) (jE _)) (fun x hx=>by
  obtain⟨k,_,_,_,rfl⟩:=zbT hx; exact hl k)) ⟨⟨[],.tmp 90,[.func 94],[],rfl,rfl,rfl,rfl,rfl,rfl,rfl⟩⟩ rfl ?_
 refine CallSt.rwW rfl rfl (zm3 (tabA (leaB d (ksD d)) (misF d) (2 ^ (sigL d.R).length)) (by omega) (zhR h Mis.IDs _ _ (fun _=>rfl) (jE _)) (fun x hx=>by
  obtain⟨k,_,_,_,rfl⟩:=zbT hx; exact hl k)) ⟨⟨[],.tmp 93,[.func 97],[],rfl,rfl,rfl,rfl,rfl,rfl,rfl⟩⟩ rfl ?_
 refine CutOb.at [(2,.box 2 0),(6,.box 6 0)] [(2,.box (List.replicate 2 .any)),(6,.box ([lFt (srtF (tabA (greB d (ksD d)) (fitF d) (2 ^ (sigL d.R).length))),lMs (srtM (tabA (leaB d (ksD d)) (misF d) (2 ^ (sigL d.R).length)))].map AV.d))]
  ⟨rfl,⟨zaJ rfl rfl,⟨⟨rfl,_,_,_,_,rfl,⟨(qM _).symm,.inr ⟨rfl,fun i _ j _=>dE _⟩⟩⟩,⟨rfl,_,_,_,_,rfl,⟨(qM _).symm,.inr ⟨rfl,fun i _ j _=>dE _⟩⟩⟩,trivial⟩,trivial⟩,wq rfl⟩ ?_
 exact⟨rtC (a:=2) rfl rfl rfl rfl rfl rfl (zaa _),rtI rfl rfl,trivial⟩
theorem zaB (n lo hi:Int):Spec PP 278 [N n,N lo,N hi] [B (within n lo hi)]:=by
 refine sA Tryz.func278 ?_
 apply bY <;> intro h1
 ·have h1:decide (lo<=n)=true:=h1
  refine sT ?_
  refine r1B rfl ?_
  unfold within; rw[h1]; rfl
 have h1:decide (lo<=n)=false:=h1
 refine sF ?_
 refine r1B rfl ?_
 unfold within; rw[h1]; rfl
theorem zg5 (n:Int) (hn:-1000000000000<=n/\n<=1000000000000):Spec PP 288 [N n] [N (n % 3600)]:=by
 have h1:=qX n (show (0:Int)<3600 by decide)
 have h2:=qX (-n) (show (0:Int)<3600 by decide)
 rw[jbr] at h2
 have e:=Int.tmod_eq_emod (a:=n) (b:=3600)
 refine sA Tryz.func288 ?_
 refine⟨by decide,?_⟩
 apply bY <;> intro h3
 ·have h3:n.tmod 3600<0:=dT h3
  refine⟨i6,?_⟩
  refine r1I rfl ?_
  show n.tmod 3600+3600=n % 3600
  rw[Int.tmod_eq_emod] at h3 ⊢
  split at h3
  ·omega
  rename_i h4
  rw[kG h4]
  show n % 3600 - 3600+3600=n % 3600
  omega
 have h3:¬ n.tmod 3600<0:=dF h3
 refine r1I rfl ?_
 show n.tmod 3600=n % 3600
 rw[Int.tmod_eq_emod] at h3 ⊢
 split at h3
 ·rename_i h4
  rw[kH h4]; omega
 rename_i h4
 have:=jbt n (show (0:Int)<3600 by decide)
 exact absurd h3 (by show ¬ ¬ (n % 3600 - 3600<0); omega)
theorem znb (p:Place):Spec PP 279 [p.v] [B (on p)]:=by
 refine sA Tryz.func279 ?_
 refine cP (zaB p.X 0 48) rfl rfl ?_
 refine cP (zaB p.Y 0 48) rfl rfl ?_
 apply bY <;> intro h1
 ·have h1:within p.X 0 48=true:=h1
  refine sT ?_
  refine r1B rfl ?_
  unfold on; rw[h1]; rfl
 have h1:within p.X 0 48=false:=h1
 refine sF ?_
 refine r1B rfl ?_
 unfold on; rw[h1]; rfl
theorem zcg {n d:Int} (hd:0<d) (h1:-(3600 * d)<=n) (h2:n<0):n+3600 * d=n % (3600 * d):=by
 rw[<- jbu,Int.emod_eq_of_lt (by omega) (by omega)]
theorem zcf {n d:Int} (h1:0<=n) (h2:n<3600 * d):n=n % (3600 * d):=(Int.emod_eq_of_lt h1 h2).symm
theorem zmf {x y:Int} (h:x≠0 \/ y≠0):-(3600 * (bearP x y).2)<=(bearP x y).1/\(bearP x y).1<3600 * (bearP x y).2:=by
 unfold bearP
 repeat' split
 all_goals (dsimp only; omega)
theorem zkx (x y:Int) (h:x≠0 \/ y≠0) (hx:-48<=x/\x<=48) (hy:-48<=y/\y<=48):Spec PP 313 [N x,N y] [.agg [I ((bearP x y).1 % (3600 * (bearP x y).2)),I (bearP x y).2]]:=by
 have hr:=zmf h
 have hp:=(zd4 h).2
 refine sA Tryz.func313 ?_
 refine⟨i6,⟨i6,?_⟩⟩
 apply bY <;> intro h1
 ·have h1:max y (-y)<=x:=dT h1
  have e:bearP x y=(450 * y,x):=by unfold bearP; rw[kH (by omega)]
  rw[e] at hr hp ⊢
  dsimp only at hr hp ⊢
  refine⟨i6,?_⟩
  apply bY <;> intro h2
  ·have h2:450 * y<0:=dT h2
   refine⟨i6,⟨i6,?_⟩⟩
   exact r1C rfl rfl rfl rfl rfl rfl (zbF (zcg hp hr.1 h2) rfl)
  have h2:¬ 450 * y<0:=dF h2
  exact r1C rfl rfl rfl rfl rfl rfl (zbF (zcf (by omega) hr.2) rfl)
 have h1:¬ max y (-y)<=x:=dF h1
 apply bY <;> intro h2
 ·have h2:max x (-x)<=y:=dT h2
  have e:bearP x y=(900 * y - 450 * x,y):=by unfold bearP; rw[kG (by omega),kH (by omega)]
  rw[e] at hr hp ⊢
  dsimp only at hr hp ⊢
  refine⟨i6,⟨i6,⟨i6,?_⟩⟩⟩
  apply bY <;> intro h3
  ·have h3:900 * y - 450 * x<0:=dT h3
   refine⟨i6,⟨i6,?_⟩⟩
   exact r1C rfl rfl rfl rfl rfl rfl (zbF (zcg hp hr.1 h3) rfl)
  have h3:¬ 900 * y - 450 * x<0:=dF h3
  exact r1C rfl rfl rfl rfl rfl rfl (zbF (zcf (by omega) hr.2) rfl)
 have h2:¬ max x (-x)<=y:=dF h2
 refine⟨i6,?_⟩
 apply bY <;> intro h3
 ·have h3:max y (-y) <= -x:=dT h3
  have ex:max x (-x) = -x:=by omega
  have e:bearP x y=(1800 * max x (-x) - 450 * y,max x (-x)):=by unfold bearP; rw[kG (by omega),kG (by omega),kH (by omega),ex]
  rw[e] at hr hp ⊢
  dsimp only at hr hp ⊢
  refine⟨i6,⟨i6,⟨i6,?_⟩⟩⟩
  apply bY <;> intro h4
  ·have h4:1800 * max x (-x) - 450 * y<0:=dT h4
   refine⟨i6,⟨i6,?_⟩⟩
   exact r1C rfl rfl rfl rfl rfl rfl (zbF (zcg hp hr.1 h4) rfl)
  have h4:¬ 1800 * max x (-x) - 450 * y<0:=dF h4
  exact r1C rfl rfl rfl rfl rfl rfl (zbF (zcf (by omega) hr.2) rfl)
 have h3:¬ max y (-y) <= -x:=dF h3
 have ey:max y (-y) = -y:=by omega
 have e:bearP x y=(2700 * max y (-y)+450 * x,max y (-y)):=by unfold bearP; rw[kG (by omega),kG (by omega),kG (by omega),ey]
 rw[e] at hr hp ⊢
 dsimp only at hr hp ⊢
 refine⟨i6,⟨i6,⟨i6,?_⟩⟩⟩
 apply bY <;> intro h4
 ·have h4:2700 * max y (-y)+450 * x<0:=dT h4
  refine⟨i6,⟨i6,?_⟩⟩
  exact r1C rfl rfl rfl rfl rfl rfl (zbF (zcg hp hr.1 h4) rfl)
 have h4:¬ 2700 * max y (-y)+450 * x<0:=dF h4
 exact r1C rfl rfl rfl rfl rfl rfl (zbF (zcf (by omega) hr.2) rfl)
def brgR (a b:Place):(Int × Int) × Bool:=if (on a && on b && !(a==b))=true then (bear a b,true) else ((0,0),false)
theorem zhC {a b:Place} (h:(on a && on b && !(a==b))=false):brgR a b=((0,0),false):=by unfold brgR; rw[kG (by rw[h]; decide)]
theorem zfK {a b:Place} (h1:on a=true) (h2:on b=true) (h3:a≠b):brgR a b=(bear a b,true):=by
 unfold brgR; rw[kH (by rw[h1,h2,jal.2 h3]; rfl)]
theorem zev (a b:Place):Spec PP 297 [a.v,b.v] [.agg [I (brgR a b).1.1,I (brgR a b).1.2],B (brgR a b).2]:=by
 refine sA Tryz.func297 ?_
 refine cP (znb a) rfl rfl ?_
 refine cP (znb b) rfl rfl ?_
 apply bY <;> intro h1
 ·have h1:on a=false:=by
   have:(!on a)=true:=h1
   simpa using this
  refine sT (sT ?_)
  rw[zhC (by rw[h1]; rfl)]
  exact⟨rtC (a:=4) rfl rfl rfl rfl rfl rfl (zaa _),rtB rfl rfl,trivial⟩
 have h1:on a=true:=by
  have:(!on a)=false:=h1
  simpa using this
 refine sF ?_
 apply bY <;> intro h2
 ·have h2:on b=false:=by
   have:(!on b)=true:=h2
   simpa using this
  refine sT ?_
  rw[zhC (by rw[h2,kN]; rfl)]
  exact⟨rtC (a:=4) rfl rfl rfl rfl rfl rfl (zaa _),rtB rfl rfl,trivial⟩
 have h2:on b=true:=by
  have:(!on b)=false:=h2
  simpa using this
 refine sF ?_
 apply bY <;> intro h3
 ·have h3:(a==b)=true:=by simpa using (eqPW a b).symm.trans h3
  rw[zhC (by rw[h3,jap,kN])]
  exact⟨rtC (a:=4) rfl rfl rfl rfl rfl rfl (zaa _),rtB rfl rfl,trivial⟩
 have h3:a≠b:=by
  simpa using (eqPW a b).symm.trans h3
 obtain⟨a1,a2⟩:=zbb.1 h1
 obtain⟨b1,b2⟩:=zbb.1 h2
 refine⟨i6,⟨i6,?_⟩⟩
 refine cP (zkx (b.X - a.X) (b.Y - a.Y) (zfh h3) (by omega) (by omega)) rfl rfl ?_
 rw[zfK h1 h2 h3]
 exact⟨rtC (a:=4) rfl rfl rfl rfl rfl rfl (zaa _),rtB rfl rfl,trivial⟩
theorem zcF (w:Wdg):Spec PP 312 [w.v] [N (openW w)]:=by
 refine sA Tryz.func312 ?_
 refine cP (zaB w.F 0 3599) rfl rfl ?_
 refine cP (zaB w.T 0 3599) rfl rfl ?_
 have no:¬ (within w.F 0 3599=true/\within w.T 0 3599=true)->openW w = -1:=fun h=>by unfold openW; rw[kG h]
 apply bY <;> intro h1
 ·have h1:within w.F 0 3599=false:=by
   have:(!within w.F 0 3599)=true:=h1
   simpa using this
  refine sT ?_
  repeat first | apply sT | apply sF
  refine r1I rfl ?_
  rw[no fun h=>by rw[h.1] at h1; cases h1]
 have h1:within w.F 0 3599=true:=by
  have:(!within w.F 0 3599)=false:=h1
  simpa using this
 refine sF ?_
 apply bY <;> intro h2
 ·have h2:within w.T 0 3599=false:=by
   have:(!within w.T 0 3599)=true:=h2
   simpa using this
  refine r1I rfl ?_
  rw[no fun h=>by rw[h.2] at h2; cases h2]
 have h2:within w.T 0 3599=true:=by
  have:(!within w.T 0 3599)=false:=h2
  simpa using this
 have b1:=zab.1 h1
 have b2:=zab.1 h2
 refine⟨i6,?_⟩
 refine cP (zg5 (w.T - w.F) (by omega)) rfl rfl ?_
 refine r1I rfl ?_
 unfold openW; rw[kH ⟨h1,h2⟩]
theorem zna (w:Wdg):Spec PP 296 [w.v] [B (validW w)]:=by
 refine sA Tryz.func296 ?_
 refine cP (zcF w) rfl rfl ?_
 refine cP (zaB (openW w) 0 900) rfl rfl ?_
 refine r1B rfl ?_
 unfold validW; rfl
theorem zjS {w:Wdg} (h:validW w=true):(0<=w.F/\w.F<=3599)/\0<=openW w/\openW w<=900:=by
 unfold validW at h
 have h1:=zab.1 h
 refine⟨?_,h1⟩
 unfold openW at h1
 split at h1
 ·rename_i h2; exact zab.1 h2.1
 omega
theorem zrY (w:Wdg) (b:Int × Int) (hw:validW w=true) (hb:(0<b.2/\b.2<=48)/\0<=b.1/\b.1<3600 * b.2):Spec PP 298 [w.v,.agg [I b.1,I b.2]] [B (decide ((b.1 - w.F * b.2) % (3600 * b.2)<=openW w * b.2))]:=by
 obtain⟨w1,w2⟩:=zjS hw
 have m1:=mulB (a:=w.F) (b:=b.2) (x:=3599) (y:=48) (by omega) (by omega)
 have m2:=mulB (a:=openW w) (b:=b.2) (x:=900) (y:=48) (by omega) (by omega)
 have n1:0<=w.F * b.2:=wD w1.1 (by omega)
 have n2:w.F * b.2<=3599 * b.2:=jV w1.2 (by omega)
 refine sA Tryz.func298 ?_
 refine⟨i6,⟨i6,?_⟩⟩
 apply bY <;> intro h1
 ·have h1:b.1 - w.F * b.2<0:=dT h1
  refine⟨i6,⟨i6,?_⟩⟩
  refine oL (List.range 8) (FzOb.no ?_)
  refine oP (zcF w) rfl rfl ?_
  refine⟨i6,?_⟩
  refine r1B rfl ?_
  rw[zcg hb.1.1 (by omega) h1]
 have h1:¬ b.1 - w.F * b.2<0:=dF h1
 refine oL (List.range 8) (FzOb.no ?_)
 refine oP (zcF w) rfl rfl ?_
 refine⟨i6,?_⟩
 refine r1B rfl ?_
 rw[<- zcf (n:=b.1 - w.F * b.2) (by omega) (by omega)]
theorem zp2 (w:Wdg) (a p:Place):Spec PP 253 [w.v,a.v,p.v] [B (liesW w a p)]:=by
 have el:liesW w a p=(validW w && (on a && on p) && !decide (a=p) && decide (((bear a p).1 - w.F * (bear a p).2) % (3600 * (bear a p).2)<=openW w * (bear a p).2)):=by unfold liesW; rfl
 refine sA Tryz.func253 ?_
 refine cP (zna w) rfl rfl ?_
 refine cP (zev a p) rfl rfl ?_
 apply bY <;> intro h1
 ·have h1:validW w=true:=h1
  refine sT ?_
  apply bY <;> intro h2
  ·have h2:(brgR a p).2=true:=h2
   have h3:(on a && on p && !(a==p))=true:=by
    unfold brgR at h2
    split at h2
    ·assumption
    cases h2
   simp only[jP,jY,jal] at h3
   obtain⟨⟨h4,h5⟩,h6⟩:=h3
   rw[zfK h4 h5 h6]
   refine cP (zrY w (bear a p) h1 (zfN h4 h5 h6)) rfl rfl ?_
   refine sT ?_
   refine r1B rfl ?_
   rw[el,h1,h4,h5,jH h6]; rfl
  have h2:(brgR a p).2=false:=h2
  have h3:(on a && on p && !(a==p))=false:=by
   unfold brgR at h2
   split at h2
   ·cases h2
   rename_i h; simpa using h
  refine sF ?_
  refine r1B rfl ?_
  rw[el,h1]
  have:(a==p)=decide (a=p):=by rw[kP]; simp
  rw[this] at h3
  rw[qS,h3]; rfl
 have h1:validW w=false:=h1
 refine sF (sF ?_)
 repeat first | apply sT | apply sF
 refine r1B rfl ?_
 rw[el,h1]; rfl
def fndC (c:Cirs) (id:Int):Cir × Bool:=if cirI c id<0 then (default,false) else (c.C.getD (cirI c id).toNat default,true)
theorem zg2 (c:Cirs) (id:Int) (hn:c.C.length<=1000000):Spec PP 281 [c.v,N id] [(fndC c id).1.v,B (fndC c id).2]:=by
 refine sA Tryz.func281 ?_
 refine LoopOb.of (σ:=Nat) (fun i=>([(1,.d (I id)),(2,.box 2 0),(4,.box 4 0),(6,.d (I i))],[(2,.box ([lC c.C,lK c.K].map AV.d)),(4,.box ([I 0,I 0,I 0,I 0,I 0,I 0,I 0,I 0].map AV.d))])) (fun i=>i<=c.C.length /\ ∀ j,j<i->((c.C.getD j default).ID==id)=false) (fun i=>c.C.length - i) 0
  ⟨rfl,⟨obD [lC c.C,lK c.K] rfl,obD [I 0,I 0,I 0,I 0,I 0,I 0,I 0,I 0] rfl,trivial⟩,wq rfl⟩ z0L fun i hi=>?_
 obtain⟨hi,ha⟩:=hi
 apply bY <;> intro h1
 ·have h1:i<c.C.length:=by have:=dT h1; omega
  refine⟨⟨rfl,by omega,by omega⟩,?_⟩
  apply bY <;> intro h2
  ·have e:cirI c id=(i:Int):=zak (p:=fun t:Cir=>t.ID==id) default h1 h2 ha
   have e2:fndC c id=(c.C.getD i default,true):=by unfold fndC; rw[e,kG (by omega)]; rfl
   rw[e2]
   refine⟨⟨rfl,by omega,by omega⟩,?_⟩
   exact⟨rtC (a:=4) rfl rfl rfl rfl rfl rfl (zaa _),rtB rfl rfl,trivial⟩
  refine⟨i6,?_⟩
  refine⟨i+1,⟨rfl,⟨obD [lC c.C,lK c.K] rfl,obD [I 0,I 0,I 0,I 0,I 0,I 0,I 0,I 0] rfl,trivial⟩,wq rfl⟩,⟨h1,fun j hj=>?_⟩,(msr (by omega))⟩
  by_cases e:j=i
  ·subst e; exact h2
  exact ha j (by omega)
 have h1:i=c.C.length:=by have:=dF h1; omega
 subst h1
 have e:cirI c id = -1:=zao (p:=fun t:Cir=>t.ID==id) default ha
 have e2:fndC c id=(default,false):=by unfold fndC; rw[e]; rfl
 rw[e2]
 exact⟨rtC (a:=4) rfl rfl rfl rfl rfl rfl (zaa _),rtB rfl rfl,trivial⟩
def spnB (s:Spn) (lo hi:Int):Bool:=decide (lo<=s.Lo) && decide (s.Lo<=s.Hi) && decide (s.Hi<=hi)
theorem zkv (s:Spn) (lo hi:Int):Spec PP 280 [s.v,N lo,N hi] [B (spnB s lo hi)]:=by
 refine sA Tryz.func280 ?_
 apply bY <;> intro h1
 ·have h1:decide (lo<=s.Lo)=true:=h1
  refine sT ?_
  apply bY <;> intro h2
  ·have h2:decide (s.Lo<=s.Hi)=true:=h2
   refine sT ?_
   refine r1B rfl ?_
   unfold spnB; rw[h1,h2]; rfl
  have h2:decide (s.Lo<=s.Hi)=false:=h2
  refine sF ?_
  refine r1B rfl ?_
  unfold spnB; rw[h1,h2]; rfl
 have h1:decide (lo<=s.Lo)=false:=h1
 refine sF (sF ?_)
 repeat first | apply sT | apply sF
 refine r1B rfl ?_
 unfold spnB; rw[h1]; rfl
theorem zdG {b:Bool} (h:(!b)=true):b=false:=by simpa using h
theorem zdH {b:Bool} (h:(!b)=false):b=true:=by simpa using h
theorem zs2 (x:Cir) (h1:within x.ID 1 1099511627776=true) (h2:on x.At=true) (h3:spnB ⟨x.From,x.To⟩ 0 1048576=true) (h4:spnB ⟨x.Lo,x.Hi⟩ (-300) 300=true) (h5:within x.Drift 0 60=true):cirE x=0:=by
 unfold spnB at h3 h4
 simp only[jP,kA] at h3 h4
 unfold cirE
 rw[kG]
 simp only[h1,h2,h5,jao,jbc,jad,jX,kA,jap,jaf,jaq,qY]
 omega
theorem zgE (x:Cir) (h:¬ (within x.ID 1 1099511627776=true/\on x.At=true/\spnB ⟨x.From,x.To⟩ 0 1048576=true/\spnB ⟨x.Lo,x.Hi⟩ (-300) 300=true/\within x.Drift 0 60=true)):cirE x=1:=by
 unfold cirE
 refine kH (jL fun h0=>h ?_)
 simp only[jX,jY,not_or,jam,kA,jao,jbc,jad] at h0
 obtain⟨⟨⟨⟨⟨⟨⟨⟨a,b⟩,c⟩,d⟩,e⟩,f⟩,g⟩,i⟩,j⟩:=h0
 unfold spnB
 simp only[jP,kA]
 exact⟨a,b,by omega,by omega,j⟩
theorem zji (x:Cir):Spec PP 240 [x.v] [.d (.int .i64 (cirE x))]:=by
 refine sA Tryz.func240 ?_
 refine cP (zaB x.ID 1 1099511627776) rfl rfl ?_
 refine cP (znb x.At) rfl rfl ?_
 refine cP (zkv ⟨x.From,x.To⟩ 0 1048576) rfl rfl ?_
 refine cP (zkv ⟨x.Lo,x.Hi⟩ (-300) 300) rfl rfl ?_
 refine cP (zaB x.Drift 0 60) rfl rfl ?_
 apply bY <;> intro h1
 ·have h1:=zdG h1
  repeat first | apply sT | apply sF
  refine r1I rfl ?_
  rw[zgE x fun h=>by rw[h.1] at h1; cases h1]
 have h1:=zdH h1
 repeat first | apply sT | apply sF
 apply bY <;> intro h2
 ·have h2:=zdG h2
  repeat first | apply sT | apply sF
  refine r1I rfl ?_
  rw[zgE x fun h=>by rw[h.2.1] at h2; cases h2]
 have h2:=zdH h2
 repeat first | apply sT | apply sF
 apply bY <;> intro h3
 ·have h3:=zdG h3
  repeat first | apply sT | apply sF
  refine r1I rfl ?_
  rw[zgE x fun h=>by rw[h.2.2.1] at h3; cases h3]
 have h3:=zdH h3
 repeat first | apply sT | apply sF
 apply bY <;> intro h4
 ·have h4:=zdG h4
  repeat first | apply sT | apply sF
  refine r1I rfl ?_
  rw[zgE x fun h=>by rw[h.2.2.2.1] at h4; cases h4]
 have h4:=zdH h4
 repeat first | apply sT | apply sF
 apply bY <;> intro h5
 ·have h5:=zdG h5
  refine r1I rfl ?_
  rw[zgE x fun h=>by rw[h.2.2.2.2] at h5; cases h5]
 have h5:=zdH h5
 refine r1I rfl ?_
 rw[zs2 x h1 h2 h3 h4 h5]
theorem zjj (c:Cirs) (k:Chk) (hn:c.C.length<=1000000):Spec PP 241 [c.v,k.v] [.d (.int .i64 (chkE c k))]:=by
 have bad:¬ (within k.ID 1 1099511627776=true/\on k.Mark=true/\within k.Shown 0 3599=true/\within k.Slack 1 100=true)->chkE c k=1:=fun h=>by
  unfold chkE
  rw[kH]
  refine jL fun h0=>h ?_
  unfold chkB at h0
  simp only[jX,jY,not_or,jam,jao,jbc,jad] at h0
  exact⟨h0.1.1.1,h0.1.1.2,h0.1.2,h0.2⟩
 refine sA Tryz.func241 ?_
 refine cP (zaB k.ID 1 1099511627776) rfl rfl ?_
 refine cP (znb k.Mark) rfl rfl ?_
 refine cP (zaB k.Shown 0 3599) rfl rfl ?_
 refine cP (zaB k.Slack 1 100) rfl rfl ?_
 apply bY <;> intro h1
 ·have h1:=zdG h1
  repeat first | apply sT | apply sF
  refine r1I rfl ?_
  rw[bad fun h=>by rw[h.1] at h1; cases h1]
 have h1:=zdH h1
 repeat first | apply sT | apply sF
 apply bY <;> intro h2
 ·have h2:=zdG h2
  repeat first | apply sT | apply sF
  refine r1I rfl ?_
  rw[bad fun h=>by rw[h.2.1] at h2; cases h2]
 have h2:=zdH h2
 repeat first | apply sT | apply sF
 apply bY <;> intro h3
 ·have h3:=zdG h3
  repeat first | apply sT | apply sF
  refine r1I rfl ?_
  rw[bad fun h=>by rw[h.2.2.1] at h3; cases h3]
 have h3:=zdH h3
 repeat first | apply sT | apply sF
 apply bY <;> intro h4
 ·have h4:=zdG h4
  refine r1I rfl ?_
  rw[bad fun h=>by rw[h.2.2.2] at h4; cases h4]
 have h4:=zdH h4
 have e0:chkE c k=if cirI c k.C<0 then 5 else if (decide (k.Mark=(chkO c k).At) || !within k.Tick (chkO c k).From (chkO c k).To)=true then 1 else 0:=by
  unfold chkE
  rw[kG]
  unfold chkB
  simp only[h1,h2,h3,h4,jao,jbc,jad,jap,jaf]
  decide
 refine cP (zg2 c k.C hn) rfl rfl ?_
 by_cases h5:cirI c k.C<0
 ·have e1:fndC c k.C=(default,false):=by unfold fndC; rw[kH h5]
  rw[e1]
  refine sT ?_
  refine r1I rfl ?_
  rw[e0,kH h5]
 have e1:fndC c k.C=(chkO c k,true):=by unfold fndC chkO; rw[kG h5]
 rw[e1,e0,kG h5]
 generalize chkO c k=x
 refine sF ?_
 apply bY <;> intro h6
 ·have h6:decide (k.Mark=x.At)=true:=(eqPW k.Mark x.At).symm.trans h6
  repeat first | apply sT | apply sF
  refine r1I rfl ?_
  rw[kH (by rw[h6]; rfl)]
 have h6:decide (k.Mark=x.At)=false:=(eqPW k.Mark x.At).symm.trans h6
 repeat first | apply sT | apply sF
 apply bY <;> intro h7
 ·have h7:k.Tick<x.From:=dT h7
  repeat first | apply sT | apply sF
  refine r1I rfl ?_
  rw[kH]
  rw[h6,jaq,jY]
  unfold within
  rw[jH (show ¬ x.From<=k.Tick by omega)]; rfl
 have h7:¬ k.Tick<x.From:=dF h7
 repeat first | apply sT | apply sF
 apply bY <;> intro h8
 ·have h8:x.To<k.Tick:=dT h8
  refine r1I rfl ?_
  rw[kH]
  rw[h6,jaq,jY]
  unfold within
  rw[jH (show ¬ k.Tick<=x.To by omega),kN]
 have h8:¬ x.To<k.Tick:=dF h8
 refine r1I rfl ?_
 rw[kG]
 rw[h6,jaq,zab.2 (show x.From<=k.Tick/\k.Tick<=x.To by omega)]
 decide
theorem zlu {α:Type} {p:α->Bool} {l:List α} {i:Nat} (d:α) (hi:i<l.length) (hp:p (l.getD i d)=true):idxL p l<=i:=by
 rcases idxL_cases p l d with⟨_,h2⟩ | ⟨j,h1,h2,_,h4⟩
 ·rw[h2 i hi] at hp; cases hp
 rw[h2]
 rcases jar i j with h5 | h5
 ·rw[h4 i h5] at hp; cases hp
 omega
theorem ze9 (c:Cirs):Spec PP 175 [c.v] [.d (.int .i64 (cirsE c))]:=by
 refine sA Tryz.func175 ?_
 apply bY <;> intro h1
 ·have h1:12<c.C.length:=by have:=dT h1; omega
  repeat first | apply sT | apply sF
  refine r1I rfl ?_
  unfold cirsE; rw[kH (.inl h1)]
 have h1:¬ 12<c.C.length:=by have:=dF h1; omega
 repeat first | apply sT | apply sF
 apply bY <;> intro h2
 ·have h2:60<c.K.length:=by have:=dT h2; omega
  refine r1I rfl ?_
  unfold cirsE; rw[kH (.inr h2)]
 have h2:¬ 60<c.K.length:=by have:=dF h2; omega
 have e0:cirsE c=if err1 (cir1E c) c.C.length≠0 then err1 (cir1E c) c.C.length else err1 (chk1E c) c.K.length:=by unfold cirsE; rw[kG (by omega)]
 refine LoopOb.of (σ:=Nat) (fun i=>([(1,.box 1 0),(3,.d (I i))],[(1,bxCs c)])) (fun i=>i<=c.C.length /\ ∀ j,j<i->cir1E c j=0) (fun i=>c.C.length - i) 0
  ⟨rfl,⟨obCs rfl,trivial⟩,wq rfl⟩ z0L fun i hi=>?_
 obtain⟨hi,ha⟩:=hi
 apply bY <;> intro h3
 ·have h3:i<c.C.length:=by have:=dT h3; omega
  have bad:cir1E c i≠0->cirsE c=cir1E c i:=fun h=>by
   have:=zal ha h h3
   rw[e0,kH (by rw[this]; exact h),this]
  refine⟨⟨rfl,by omega,by omega⟩,?_⟩
  refine cP (zji (c.C.getD i default)) rfl rfl ?_
  apply bY <;> intro h4
  ·have h4:cirE (c.C.getD i default)≠0:=by simpa using h4
   refine r1I rfl ?_
   have e:cir1E c i=cirE (c.C.getD i default):=by unfold cir1E; rw[kH h4]
   rw[bad (by rw[e]; exact h4),e]
  have h4:cirE (c.C.getD i default)=0:=by simpa using h4
  refine LoopOb.of (σ:=Nat) (fun k=>([(1,.box 1 0),(3,.d (I i)),(5,.d (I k))],[(1,bxCs c)])) (fun k=>k<=i /\ ∀ j,j<k->((c.C.getD j default).ID==(c.C.getD i default).ID)=false) (fun k=>i - k) 0
   ⟨rfl,⟨obCs rfl,trivial⟩,wq rfl⟩ z0L fun k hk=>?_
  obtain⟨hk,hb⟩:=hk
  apply bY <;> intro h5
  ·have h5:k<i:=by have:=dT h5; omega
   refine oL (List.range 13) (FzOb.no ?_)
   refine⟨⟨rfl,by omega,by omega⟩,⟨⟨rfl,by omega,by omega⟩,?_⟩⟩
   apply bY <;> intro h6
   ·have h6:((c.C.getD k default).ID==(c.C.getD i default).ID)=true:=h6
    have hle:=zlu (p:=fun t:Cir=>t.ID==(c.C.getD i default).ID) default (show k<c.C.length by omega) h6
    have h7:cirI c (c.C.getD i default).ID<i:=by unfold cirI; omega
    refine r1I rfl ?_
    have e:cir1E c i=6:=by unfold cir1E; rw[kG (fun hh=>hh h4),kH h7]
    rw[bad (by rw[e]; decide),e]
   refine⟨i6,?_⟩
   refine⟨k+1,⟨rfl,⟨obCs rfl,trivial⟩,wq rfl⟩,⟨h5,fun j hj=>?_⟩,(msr (by omega))⟩
   by_cases q:j=k
   ·subst q; exact h6
   exact hb j (by omega)
  have h5:k=i:=by have:=dF h5; omega
  subst h5
  have h7:¬ cirI c (c.C.getD k default).ID<k:=by
   have:cirI c (c.C.getD k default).ID=(k:Int):=zak (p:=fun t:Cir=>t.ID==(c.C.getD k default).ID) default h3 (jaP _) hb
   omega
  have e:cir1E c k=0:=by unfold cir1E; rw[kG (fun hh=>hh h4),kG h7]
  refine⟨i6,?_⟩
  refine⟨k+1,⟨rfl,⟨obCs rfl,trivial⟩,wq rfl⟩,⟨h3,fun j hj=>?_⟩,(msr (by omega))⟩
  by_cases q:j=k
  ·subst q; exact e
  exact ha j (by omega)
 have h3:i=c.C.length:=by have:=dF h3; omega
 subst h3
 have e1:cirsE c=err1 (chk1E c) c.K.length:=by rw[e0,zaF ha]; rfl
 clear ha
 refine LoopOb.of (σ:=Nat) (fun i=>([(1,.box 1 0),(6,.d (I i))],[(1,bxCs c)])) (fun i=>i<=c.K.length /\ ∀ j,j<i->chk1E c j=0) (fun i=>c.K.length - i) 0
  ⟨rfl,⟨obCs rfl,trivial⟩,wq rfl⟩ z0L fun i hi=>?_
 obtain⟨hi,ha⟩:=hi
 apply bY <;> intro h3
 ·have h3:i<c.K.length:=by have:=dT h3; omega
  have bad:chk1E c i≠0->cirsE c=chk1E c i:=fun h=>by rw[e1,zal ha h h3]
  refine oL (List.range 8) (FzOb.no ?_)
  refine⟨⟨rfl,by omega,by omega⟩,?_⟩
  refine oP (zjj c (c.K.getD i default) (by omega)) rfl rfl ?_
  apply bY <;> intro h4
  ·have h4:chkE c (c.K.getD i default)≠0:=by simpa using h4
   refine r1I rfl ?_
   have e:chk1E c i=chkE c (c.K.getD i default):=by unfold chk1E; rw[kH h4]
   rw[bad (by rw[e]; exact h4),e]
  have h4:chkE c (c.K.getD i default)=0:=by simpa using h4
  refine LoopOb.of (σ:=Nat) (fun k=>([(1,.box 1 0),(6,.d (I i)),(8,.d (I k))],[(1,bxCs c)])) (fun k=>k<=i /\ ∀ j,j<k->((c.K.getD j default).ID==(c.K.getD i default).ID)=false) (fun k=>i - k) 0
   ⟨rfl,⟨obCs rfl,trivial⟩,wq rfl⟩ z0L fun k hk=>?_
  obtain⟨hk,hb⟩:=hk
  apply bY <;> intro h5
  ·have h5:k<i:=by have:=dT h5; omega
   refine oL (List.range 13) (FzOb.no ?_)
   refine⟨⟨rfl,by omega,by omega⟩,⟨⟨rfl,by omega,by omega⟩,?_⟩⟩
   apply bY <;> intro h6
   ·have h6:((c.K.getD k default).ID==(c.K.getD i default).ID)=true:=h6
    have hle:=zlu (p:=fun t:Chk=>t.ID==(c.K.getD i default).ID) default (show k<c.K.length by omega) h6
    have h7:chkI c (c.K.getD i default).ID<i:=by unfold chkI; omega
    refine r1I rfl ?_
    have e:chk1E c i=6:=by unfold chk1E; rw[kG (fun hh=>hh h4),kH h7]
    rw[bad (by rw[e]; decide),e]
   refine⟨i6,?_⟩
   refine⟨k+1,⟨rfl,⟨obCs rfl,trivial⟩,wq rfl⟩,⟨h5,fun j hj=>?_⟩,(msr (by omega))⟩
   by_cases q:j=k
   ·subst q; exact h6
   exact hb j (by omega)
  have h5:k=i:=by have:=dF h5; omega
  subst h5
  have h7:¬ chkI c (c.K.getD k default).ID<k:=by
   have:chkI c (c.K.getD k default).ID=(k:Int):=zak (p:=fun t:Chk=>t.ID==(c.K.getD k default).ID) default h3 (jaP _) hb
   omega
  have e:chk1E c k=0:=by unfold chk1E; rw[kG (fun hh=>hh h4),kG h7]
  refine⟨i6,?_⟩
  refine⟨k+1,⟨rfl,⟨obCs rfl,trivial⟩,wq rfl⟩,⟨h3,fun j hj=>?_⟩,(msr (by omega))⟩
  by_cases q:j=k
  ·subst q; exact e
  exact ha j (by omega)
 have h3:i=c.K.length:=by have:=dF h3; omega
 subst h3
 refine r1I rfl ?_
 rw[e1,zaF ha]
def canK (b:Int × Int) (s l z k:Int):Bool:=decide (-l * b.2<=b.1+(z - s+3600 * k) * b.2) && decide (b.1+(z - s+3600 * k) * b.2<=l * b.2)
def canB (b:Int × Int) (s l z:Int):Bool:=(List.range 5).any fun i=>canK b s l z ((i:Int) - 2)
theorem zrZ (b:Int × Int) (s l z:Int) (hb:(0<b.2/\b.2<=48)/\0<=b.1/\b.1<3600 * b.2) (hs:0<=s/\s<=3599) (hl:1<=l/\l<=100) (hz:-300<=z/\z<=300):Spec PP 320 [N s,N l,.agg [I b.1,I b.2],N z] [B (canB b s l z)]:=by
 refine sA Tryz.func320 ?_
 refine LoopOb.of (σ:=Nat) (fun i=>([(0,.d (I s)),(1,.d (I l)),(3,.d (I z)),(6,.box 6 0),(9,.d (I ((i:Int) - 2)))],[(6,.box ([I b.1,I b.2].map AV.d))])) (fun i=>i<=5 /\ ∀ j:Nat,j<i->canK b s l z ((j:Int) - 2)=false) (fun i=>5 - i) 0
  ⟨rfl,⟨obD [I b.1,I b.2] rfl,trivial⟩,wq rfl⟩ z0L fun i hi=>?_
 obtain⟨hi,ha⟩:=hi
 apply bY <;> intro h1
 ·have h1:(i:Int) - 2<=2:=dT h1
  have m1:=mulB (a:=z - s+3600 * ((i:Int) - 2)) (b:=b.2) (x:=20000) (y:=48) (by omega) (by omega)
  have m2:=mulB (a:=l) (b:=b.2) (x:=100) (y:=48) (by omega) (by omega)
  have m3:-l * b.2 = -(l * b.2):=jbG l b.2
  have ok:canK b s l z ((i:Int) - 2)=true->canB b s l z=true:=fun h=>kJ.2 ⟨i,kK.2 (by omega),h⟩
  have next:canK b s l z ((i:Int) - 2)=false -> ∀ j:Nat,j<i+1->canK b s l z ((j:Int) - 2)=false:=fun h j hj=>by
   by_cases q:j=i
   ·subst q; exact h
   exact ha j (by omega)
  refine⟨i6,⟨i6,⟨i6,⟨i6,⟨i6,?_⟩⟩⟩⟩⟩
  refine⟨i6,⟨i6,?_⟩⟩
  apply bY <;> intro h2
  ·have h2:decide (-l * b.2<=b.1+(z - s+3600 * ((i:Int) - 2)) * b.2)=true:=h2
   refine⟨i6,?_⟩
   refine sT ?_
   apply bY <;> intro h3
   ·have h3:decide (b.1+(z - s+3600 * ((i:Int) - 2)) * b.2<=l * b.2)=true:=h3
    refine r1B rfl ?_
    rw[ok (by unfold canK; rw[h2,h3]; rfl)]
   have h3:decide (b.1+(z - s+3600 * ((i:Int) - 2)) * b.2<=l * b.2)=false:=h3
   refine⟨i6,?_⟩
   exact⟨i+1,⟨rfl,⟨obD [I b.1,I b.2] rfl,trivial⟩,avR _ rfl,avR _ rfl,avR _ rfl,avQ rfl,avI rfl (by omega),trivial⟩,⟨by omega,next (by unfold canK; rw[h3,kN])⟩,(msr (by omega))⟩
  have h2:decide (-l * b.2<=b.1+(z - s+3600 * ((i:Int) - 2)) * b.2)=false:=h2
  repeat first | apply sT | apply sF
  refine⟨i6,?_⟩
  exact⟨i+1,⟨rfl,⟨obD [I b.1,I b.2] rfl,trivial⟩,avR _ rfl,avR _ rfl,avR _ rfl,avQ rfl,avI rfl (by omega),trivial⟩,⟨by omega,next (by unfold canK; rw[h2]; rfl)⟩,(msr (by omega))⟩
 have h1:i=5:=by have:¬ (i:Int) - 2<=2:=dF h1; omega
 subst h1
 refine r1B rfl ?_
 symm
 unfold canB
 rw[jaz]
 intro j hj
 rw[ha j (kK.1 hj)]; decide
section
variable {b:Int × Int} {s l:Int} (hb:(0<b.2/\b.2<=48)/\0<=b.1/\b.1<3600 * b.2) (hs:0<=s/\s<=3599) (hl:1<=l/\l<=100)
include hb
theorem zn9 {z k:Int} (hz:-300<=z/\z<=300):canK b s l z k=true ↔ (aloT b (s - 3600 * k) l).Lo<=z/\z<=(aloT b (s - 3600 * k) l).Hi:=by
 have hd:=hb.1.1
 have e:(z - s+3600 * k) * b.2=z * b.2 - (s - 3600 * k) * b.2:=by rw[<- jaJ]; congr 1; omega
 have e1:(s - 3600 * k - l) * b.2=(s - 3600 * k) * b.2 - l * b.2:=jaJ ..
 have e2:(s - 3600 * k+l) * b.2=(s - 3600 * k) * b.2+l * b.2:=Int.add_mul ..
 have e3:-l * b.2 = -(l * b.2):=jbG l b.2
 have f1:-z <= -((s - 3600 * k - l) * b.2 - b.1) / b.2 ↔ -z * b.2 <= -((s - 3600 * k - l) * b.2 - b.1):=jaD hd
 have f2:z<=((s - 3600 * k+l) * b.2 - b.1) / b.2 ↔ z * b.2<=(s - 3600 * k+l) * b.2 - b.1:=jaD hd
 have e4:-z * b.2 = -(z * b.2):=jbG z b.2
 unfold canK aloT
 simp only[jP,kA]
 rw[e,e3]
 rw[e1,e4] at f1
 rw[e2] at f2
 rw[e1,e2]
 generalize z * b.2=Z at *
 generalize (s - 3600 * k) * b.2=S at *
 generalize l * b.2=L at *
 generalize hq1:-(S - L - b.1) / b.2=Q1 at *
 generalize hq2:(S+L - b.1) / b.2=Q2 at *
 omega
include hs hl
theorem ziU {z k:Int} (hz:-300<=z/\z<=300) (hk:k <= -2 \/ 2<=k):canK b s l z k=false:=by
 have hd:=hb.1.1
 refine wE.2 fun h=>?_
 unfold canK at h
 simp only[jP,kA] at h
 have e3:-l * b.2 = -(l * b.2):=jbG l b.2
 have m:=jV hl.2 (show 0<=b.2 by omega)
 rcases hk with hk | hk
 ·have m1:(z - s+3600 * k) * b.2 <= -6900 * b.2:=jV (by omega) (by omega)
  omega
 have m1:3301 * b.2<=(z - s+3600 * k) * b.2:=jV (by omega) (by omega)
 omega
theorem zn8 {z z' k k':Int} (hz:-300<=z/\z<=300) (hz':-300<=z'/\z'<=300) (h:canK b s l z k=true) (h':canK b s l z' k'=true):k=k':=by
 have hd:=hb.1.1
 unfold canK at h h'
 simp only[jP,kA] at h h'
 have e3:-l * b.2 = -(l * b.2):=jbG l b.2
 have m:=jV hl.2 (show 0<=b.2 by omega)
 have e:(z - s+3600 * k) * b.2 - (z' - s+3600 * k') * b.2=(z - z'+3600 * (k - k')) * b.2:=by rw[<- jaJ]; congr 1; omega
 rcases Int.lt_trichotomy k k' with h1 | h1 | h1
 ·have m1:(z - z'+3600 * (k - k')) * b.2 <= -3000 * b.2:=jV (by omega) (by omega)
  omega
 ·exact h1
 have m1:3000 * b.2<=(z - z'+3600 * (k - k')) * b.2:=jV (by omega) (by omega)
 omega
theorem zoa {z:Int} (hz:-300<=z/\z<=300):canB b s l z=true ↔ ∃ i:Nat,i<3/\canK b s l z (1 - i)=true:=by
 unfold canB
 rw[kJ]
 constructor
 ·rintro⟨j,hj,h⟩
  have hj:=kK.1 hj
  by_cases h4:j=4
  ·rw[ziU hb hs hl hz (by omega)] at h; cases h
  by_cases h0:j=0
  ·rw[ziU hb hs hl hz (by omega)] at h; cases h
  refine⟨3 - j,by omega,?_⟩
  rw[show (1:Int) - ((3 - j:Nat):Int)=(j:Int) - 2 by omega]; exact h
 rintro⟨i,hi,h⟩
 refine⟨3 - i,kK.2 (by omega),?_⟩
 rw[show ((3 - i:Nat):Int) - 2=1 - (i:Int) by omega]; exact h
end
theorem zmj (b:Int × Int) (S l:Int):-300<=(aloT b S l).Lo/\(aloT b S l).Hi<=300:=by unfold aloT; dsimp only; omega
theorem aloR3 (f:Nat->Spn):(∃ i,i<3/\(f i).Lo<=(f i).Hi/\aloR f 0 3=f i) \/ ((∀ i,i<3 -> ¬ (f i).Lo<=(f i).Hi)/\aloR f 0 3=⟨1,0⟩):=by
 unfold aloR
 split
 ·rename_i h; exact .inl ⟨0,by omega,h,rfl⟩
 rename_i h0
 unfold aloR
 split
 ·rename_i h; exact .inl ⟨1,by omega,h,rfl⟩
 rename_i h1
 unfold aloR
 split
 ·rename_i h; exact .inl ⟨2,by omega,h,rfl⟩
 rename_i h2
 refine .inr ⟨fun i hi=>?_,rfl⟩
 match i,hi with
 | 0,_=>exact h0
 | 1,_=>exact h1
 | 2,_=>exact h2
theorem zq5 {x:Cir} {k:Chk} (hb:(0<(bear x.At k.Mark).2/\(bear x.At k.Mark).2<=48)/\0<=(bear x.At k.Mark).1/\(bear x.At k.Mark).1<3600 * (bear x.At k.Mark).2) (hs:0<=k.Shown/\k.Shown<=3599) (hl:1<=k.Slack/\k.Slack<=100) {z:Int} (hz:-300<=z/\z<=300) :
  canB (bear x.At k.Mark) k.Shown k.Slack z=true ↔ (alo x k).Lo<=z/\z<=(alo x k).Hi:=by
 have hf:∀ i:Nat,aloF x k i=aloT (bear x.At k.Mark) (k.Shown - 3600 * (1 - (i:Int))) k.Slack:=fun i=>by
  unfold aloF; congr 1; omega
 have key:∀ i:Nat,∀ z:Int,-300<=z/\z<=300->(canK (bear x.At k.Mark) k.Shown k.Slack z (1 - i)=true ↔ (aloF x k i).Lo<=z/\z<=(aloF x k i).Hi):=fun i z hz=>by
  rw[hf i]; exact zn9 hb hz
 have rng:∀ i:Nat,-300<=(aloF x k i).Lo/\(aloF x k i).Hi<=300:=fun i=>by unfold aloF; exact zmj _ _ _
 rw[zoa hb hs hl hz]
 rcases aloR3 (aloF x k) with⟨i,hi,hn,e⟩ | ⟨hn,e⟩
 ·have e':alo x k=aloF x k i:=e
  rw[e']
  constructor
  ·rintro⟨j,hj,h⟩
   have hlo:=(key i (aloF x k i).Lo (by have:=rng i; omega)).2 ⟨ja3 _,hn⟩
   have:=zn8 hb hs hl hz (by have:=rng i; omega) h hlo
   obtain rfl:i=j:=by omega
   exact (key i z hz).1 h
  intro h
  exact⟨i,hi,(key i z hz).2 h⟩
 have e':alo x k=⟨1,0⟩:=e
 rw[e']
 constructor
 ·rintro⟨j,hj,h⟩
  have:=(key j z hz).1 h
  exact absurd (show (aloF x k j).Lo<=(aloF x k j).Hi by omega) (hn j hj)
 intro h
 have h1:(1:Int)<=z:=h.1
 have h2:z<=(0:Int):=h.2
 omega
theorem zop (x:Cir) (k:Chk) (h:(alo x k).Lo<=(alo x k).Hi):-300<=(alo x k).Lo/\(alo x k).Hi<=300:=by
 rcases aloR3 (aloF x k) with⟨i,hi,hn,e⟩ | ⟨hn,e⟩
 ·have e':alo x k=aloF x k i:=e
  rw[e']; unfold aloF; exact zmj _ _ _
 have e':alo x k=⟨1,0⟩:=e
 rw[e'] at h; exact absurd h (by decide)
structure Lim where
  lo:Int
  hi:Int
  no:Bool
  deriving DecidableEq,Inhabited
abbrev Lim.ds (x:Lim):List D:=[I x.lo,I x.hi,.bool x.no]
def alnD (x:Cir) (k:Chk):Lim:=if (alo x k).Lo<=(alo x k).Hi then ⟨(alo x k).Lo,(alo x k).Hi,false⟩ else ⟨0,0,true⟩
def alnI (S:Spn) (i:Nat):Lim:=if S.Lo<=S.Hi/\S.Lo<=(i:Int) - 301 then ⟨S.Lo,min S.Hi ((i:Int) - 301),false⟩ else ⟨0,0,true⟩
theorem zti {S:Spn} (h:S.Lo<=S.Hi -> -300<=S.Lo/\S.Hi<=300):alnI S 0=⟨0,0,true⟩:=by
 unfold alnI
 rw[kG]
 intro h1
 have:=h h1.1
 omega
theorem zos {S:Spn} (h:S.Lo<=S.Hi -> -300<=S.Lo/\S.Hi<=300):alnI S 601=if S.Lo<=S.Hi then ⟨S.Lo,S.Hi,false⟩ else ⟨0,0,true⟩:=by
 unfold alnI
 by_cases h1:S.Lo<=S.Hi
 ·have:=h h1
  rw[kH ⟨h1,by omega⟩,kH h1]
  congr 1; omega
 rw[kG (fun hh=>h1 hh.1),kG h1]
theorem zrn {S:Spn} {i:Nat} (h:¬ (S.Lo<=(i:Int) - 300/\(i:Int) - 300<=S.Hi)):alnI S (i+1)=alnI S i:=by
 unfold alnI
 by_cases h1:S.Lo<=S.Hi
 ·by_cases h2:S.Lo<=(i:Int) - 301
  ·rw[kH ⟨h1,by omega⟩,kH ⟨h1,h2⟩]
   congr 1; omega
  rw[kG (by omega),kG (by omega)]
 rw[kG (fun hh=>h1 hh.1),kG (fun hh=>h1 hh.1)]
theorem zor {S:Spn} {i:Nat} (h:S.Lo<=(i:Int) - 300/\(i:Int) - 300<=S.Hi) (hn:(alnI S i).no=true):alnI S (i+1)=⟨(i:Int) - 300,(i:Int) - 300,false⟩:=by
 unfold alnI at hn ⊢
 split at hn
 ·cases hn
 rename_i h2
 rw[kH (by omega)]
 have e1:S.Lo=(i:Int) - 300:=by omega
 rw[e1]; congr 1; omega
theorem zoq {S:Spn} {i:Nat} (h:S.Lo<=(i:Int) - 300/\(i:Int) - 300<=S.Hi) (hn:(alnI S i).no=false):alnI S (i+1)=⟨(alnI S i).lo,(i:Int) - 300,false⟩:=by
 unfold alnI at hn ⊢
 split at hn
 ·rename_i h2
  rw[kH (by omega),kH h2]
  dsimp only
  congr 1; omega
 cases hn
theorem zm9 (c:Cirs) (k:Chk) (hk:ChkOk c k) (hx:on (chkO c k).At=true) (hn:c.C.length<=1000000):Spec PP 308 [c.v,k.v] [.agg (alnD (chkO c k) k).ds]:=by
 have e1:fndC c k.C=(chkO c k,true):=by unfold fndC chkO; rw[kG (by have:=hk.cc; omega)]
 have hne:(chkO c k).At≠k.Mark:=fun h=>hk.ne h.symm
 have hb:=zfN hx hk.on hne
 have rng:=zop (chkO c k) k
 have key:=fun z hz=>zq5 (x:=chkO c k) (k:=k) hb hk.s hk.l (z:=z) hz
 have hkk:=hk
 refine sA Tryz.func308 ?_
 refine cP (zg2 c k.C hn) rfl rfl ?_
 rw[e1]
 generalize chkO c k=x at *
 refine cP (zev x.At k.Mark) rfl rfl ?_
 rw[zfK hx hk.on hne]
 have ed:alnD x k=alnI (alo x k) 601:=by rw[zos rng]; rfl
 rw[ed]
 generalize alo x k=S at *
 refine LoopOb.of (σ:=Nat) (fun i=>([(3,.box 3 0),(4,.box 4 0),(7,.box 7 0),(9,.box 9 0),(10,.d (I ((i:Int) - 300)))],[(3,.box (k.ds.map AV.d)),(4,.box ([I 0,I 0,.bool false].map AV.d)),(7,.box ([I (bear x.At k.Mark).1,I (bear x.At k.Mark).2].map AV.d)),(9,.box ((alnI S i).ds.map AV.d))])) (fun i=>i<=601) (fun i=>601 - i) 0
  ⟨rfl,⟨obD k.ds rfl,obD [I 0,I 0,.bool false] rfl,obD [I (bear x.At k.Mark).1,I (bear x.At k.Mark).2] rfl,obD (alnI S 0).ds (by rw[zti rng]; rfl),trivial⟩,wq rfl⟩ (jF _) fun i hi=>?_
 apply bY <;> intro h1
 ·have h1:(i:Int) - 300<=300:=dT h1
  refine cP (zrZ (bear x.At k.Mark) k.Shown k.Slack ((i:Int) - 300) hb hkk.s hkk.l (by omega)) rfl rfl ?_
  have ky:=key ((i:Int) - 300) (by omega)
  apply bY <;> intro h2
  ·have h2:canB (bear x.At k.Mark) k.Shown k.Slack ((i:Int) - 300)=true:=h2
   have h3:=ky.1 h2
   refine sT ?_
   apply bY <;> intro h4
   ·have h4:(alnI S i).no=true:=h4
    repeat first | refine sT ?_ | refine Split.yes h2 ?_
    refine⟨i6,?_⟩
    refine⟨i+1,⟨rfl,⟨obD k.ds rfl,obD [I 0,I 0,.bool false] rfl,obD [I (bear x.At k.Mark).1,I (bear x.At k.Mark).2] rfl,obD (alnI S (i+1)).ds (by rw[zor h3 h4]; rfl),trivial⟩,avQ rfl,avQ rfl,avQ rfl,avQ rfl,avI rfl (by omega),trivial⟩,(show i+1<=601 by omega),(msr (by omega))⟩
   have h4:(alnI S i).no=false:=h4
   repeat first | refine sT ?_ | refine Split.yes h2 ?_
   refine⟨i6,?_⟩
   refine⟨i+1,⟨rfl,⟨obD k.ds rfl,obD [I 0,I 0,.bool false] rfl,obD [I (bear x.At k.Mark).1,I (bear x.At k.Mark).2] rfl,obD (alnI S (i+1)).ds (by rw[zoq h3 h4]; show some (Ob.box ([I (alnI S i).lo,I ((i:Int) - 300),.bool (alnI S i).no].map AV.d))=_; rw[h4]),trivial⟩,avQ rfl,avQ rfl,avQ rfl,avQ rfl,avI rfl (by omega),trivial⟩,(show i+1<=601 by omega),(msr (by omega))⟩
  have h2:canB (bear x.At k.Mark) k.Shown k.Slack ((i:Int) - 300)=false:=h2
  have h3:¬ (S.Lo<=(i:Int) - 300/\(i:Int) - 300<=S.Hi):=fun h=>by rw[ky.2 h] at h2; cases h2
  repeat first | refine sF ?_ | refine Split.no h2 ?_
  refine⟨i6,?_⟩
  refine⟨i+1,⟨rfl,⟨obD k.ds rfl,obD [I 0,I 0,.bool false] rfl,obD [I (bear x.At k.Mark).1,I (bear x.At k.Mark).2] rfl,obD (alnI S (i+1)).ds (by rw[zrn h3]; rfl),trivial⟩,avQ rfl,avQ rfl,avQ rfl,avQ rfl,avI rfl (by omega),trivial⟩,(show i+1<=601 by omega),(msr (by omega))⟩
 have h1:i=601:=by have:¬ (i:Int) - 300<=300:=dF h1; omega
 subst h1
 exact r1C rfl rfl rfl rfl rfl rfl (zaa _)
theorem zoK (x:Cir) (a b:Int) (hx:0<=x.Drift/\x.Drift<=60) (ha:0<=a/\a<=1048576) (hb:0<=b/\b<=1048576):Spec PP 307 [x.v,N a,N b] [N (drf x a b)]:=by
 have m1:=mulB (a:=x.Drift) (b:=max (a - b) (b - a)) (x:=60) (y:=1048576) (by omega) (by omega)
 have m0:=wD hx.1 (show 0<=max (a - b) (b - a) by omega)
 refine sA Tryz.func307 ?_
 have g1:inR .i64 (x.Drift * max (a - b) (b - a)):=i6
 have g2:inR .i64 (x.Drift * max (a - b) (b - a)+59):=i6
 have eq:(x.Drift * max (a - b) (b - a)+59).tdiv 60=drf x a b:=by
  unfold drf
  rw[jaX (by omega)]
  omega
 have g3:inR .i64 ((x.Drift * max (a - b) (b - a)+59).tdiv 60):=by
  rw[jaX (by omega)]
  exact i6
 refine⟨i6,⟨i6,⟨g1,⟨g2,⟨⟨by decide,g3⟩,?_⟩⟩⟩⟩⟩
 exact r1I rfl eq
structure Tg where
  N:Int
  T:Int
  lo:Int
  hi:Int
  no:Bool
  deriving DecidableEq,Inhabited
abbrev Tg.ds (x:Tg):List D:=[I x.N,I x.T,I x.lo,I x.hi,.bool x.no]
abbrev Tg.v (x:Tg):V1:=.agg x.ds
def Tg.at (x:Tg):Nat->D
 | 0=>I x.N
 | 1=>I x.T
 | 2=>I x.lo
 | 3=>I x.hi
 | _=>.bool x.no
abbrev lTg (l:List Tg):D:=.slc 5 l.length fun i=>(l.getD i default).at
abbrev rowTg (l:List Tg):Nat->Nat->D:=fun i=>(l.getD i default).at
theorem zr2 {vs:List Tg} {p:Tg} {g:Nat->Nat->D} (hg:∀ j,j<5->D.eqv (g 0 j) (p.at j)):D.eqv (.slc 5 (vs.length+1) (appRow vs.length (rowTg vs) g)) (.slc 5 (vs ++ [p]).length (rowTg (vs ++ [p]))):=by
 refine⟨by simp,.inr ⟨rfl,fun i hi j hj=>?_⟩⟩
 show D.eqv (appRow vs.length (rowTg vs) g i j) (((vs ++ [p]).getD i default).at j)
 unfold appRow
 by_cases h:i<vs.length
 ·rw[kH h,hZ,jJ h,<- hZ]
  exact dE _
 have e:i=vs.length:=by omega
 subst e
 rw[kG h,kE,hZ,jK (jE _),kE]
 exact hg j hj
theorem eqv5 {f:Nat->D} {p:Tg} (h0:f 0=I p.N) (h1:f 1=I p.T) (h2:f 2=I p.lo) (h3:f 3=I p.hi) (h4:f 4 = .bool p.no):∀ j,j<5->D.eqv (f j) (p.at j)
 | 0,_=>by rw[h0]; exact⟨rfl,rfl⟩
 | 1,_=>by rw[h1]; exact⟨rfl,rfl⟩
 | 2,_=>by rw[h2]; exact⟨rfl,rfl⟩
 | 3,_=>by rw[h3]; exact⟨rfl,rfl⟩
 | 4,_=>by rw[h4]; exact rfl
def tg0 (x:Cir):Tg:=⟨0,x.From,x.Lo,x.Hi,false⟩
def tgK (x:Cir) (k:Chk):Tg:=⟨k.ID,k.Tick,(alnD x k).lo,(alnD x k).hi,(alnD x k).no⟩
def tgsR (c:Cirs) (x:Cir) (n:Nat):List Tg:=tg0 x :: (((c.K.take n).filter fun k=>k.C==x.ID).map (tgK x))
def tgsL (c:Cirs) (x:Cir):List Tg:=tgsR c x c.K.length
theorem zmy {c:Cirs} {x:Cir} {i:Nat} (h:i<c.K.length) (hk:(c.K.getD i default).C=x.ID):tgsR c x (i+1)=tgsR c x i ++ [tgK x (c.K.getD i default)]:=by
 unfold tgsR
 have e:[c.K.getD i default].filter (fun k:Chk=>k.C==x.ID)=[c.K.getD i default]:=by rw[qA (by rw[hk]; exact jaP _)]; rfl
 rw[zaE h default,kM,jT,e]
 rfl
theorem zpC {c:Cirs} {x:Cir} {i:Nat} (h:i<c.K.length) (hk:(c.K.getD i default).C≠x.ID):tgsR c x (i+1)=tgsR c x i:=by
 unfold tgsR
 have e:[c.K.getD i default].filter (fun k:Chk=>k.C==x.ID)=[]:=by rw[qB (by simpa using hk)]; rfl
 rw[zaE h default,kM,e,jah]
theorem zeT (c:Cirs) (x:Cir) (n:Nat):(tgsR c x n).length<=n+1:=by
 unfold tgsR
 have:=kX (fun k:Chk=>k.C==x.ID) (c.K.take n)
 have:=List.length_take_le n c.K
 simp; omega
theorem zq2 {c:Cirs} {id:Int} (hid:¬ cirI c id<0) {k:Chk} (hk:k.C=(c.C.getD (cirI c id).toNat default).ID):chkO c k=c.C.getD (cirI c id).toNat default:=by
 unfold chkO
 rw[hk,zhw hid]
theorem zf9 (c:Cirs) (id:Int) (h:CirsOk c) (hid:¬ cirI c id<0):Spec PP 286 [c.v,(c.C.getD (cirI c id).toNat default).v] [.d (lTg (tgsL c (c.C.getD (cirI c id).toNat default)))]:=by
 have hO:=fun k=>zq2 hid (k:=k)
 have hX:=(h.cs _ (zaN hid).1).on
 generalize c.C.getD (cirI c id).toNat default=x at *
 have hm:=h.m
 have hn:=h.n
 refine sA Tryz.func286 ?_
 refine LoopOb.of (σ:=Nat) (fun i=>([(2,.box 2 0),(3,.box 3 0),(5,.own 13),(6,.d (I i))],[(2,bxCs c),(3,.box (x.ds.map AV.d)),(13,.row 367 5 (tgsR c x i).length (rowTg (tgsR c x i)))])) (fun i=>i<=c.K.length) (fun i=>c.K.length - i) 0
  ⟨rfl,⟨obCs rfl,obD x.ds rfl,obR rfl ⟨rfl,.inr ⟨rfl,fun i hi j hj=>?_⟩⟩,trivial⟩,wq rfl⟩ (jF _) fun i hi=>?_
 ·obtain rfl:i=0:=by omega
  exact eqv5 (p:=tg0 x) rfl rfl rfl rfl rfl j hj
 apply bY <;> intro h1
 ·have h1:i<c.K.length:=by have:=dT h1; omega
  refine oL (List.range 9) (FzOb.no ?_)
  refine⟨⟨rfl,by omega,by omega⟩,?_⟩
  apply bY <;> intro h2
  ·have h2:(c.K.getD i default).C=x.ID:=by simpa using h2
   have eO:=hO (c.K.getD i default) h2
   refine oL (List.range 24) (FzOb.no ?_)
   refine⟨⟨rfl,by omega,by omega⟩,⟨⟨rfl,by omega,by omega⟩,⟨⟨rfl,by omega,by omega⟩,?_⟩⟩⟩
   refine oP (zm9 c (c.K.getD i default) (h.ks i h1) (by rw[eO]; exact hX) (by omega)) rfl rfl ?_
   have hl:=zeT c x i
   refine⟨⟨.inr rfl,by simp only[maxLen]; omega,by dsimp only; omega⟩,?_⟩
   refine⟨i6,?_⟩
   refine⟨i+1,⟨rfl,⟨obCs rfl,obD x.ds rfl,obR rfl ?_,trivial⟩,wq rfl⟩,h1,(msr (by omega))⟩
   rw[zmy h1 h2]
   exact zr2 (eqv5 (p:=tgK x (c.K.getD i default)) rfl rfl (by show I (alnD (chkO c (c.K.getD i default)) _).lo=_; rw[eO]; rfl) (by show I (alnD (chkO c (c.K.getD i default)) _).hi=_; rw[eO]; rfl) (by show D.bool (alnD (chkO c (c.K.getD i default)) _).no=_; rw[eO]; rfl))
  have h2:(c.K.getD i default).C≠x.ID:=by simpa using h2
  refine⟨i6,?_⟩
  refine⟨i+1,⟨rfl,⟨obCs rfl,obD x.ds rfl,obR rfl (by rw[zpC h1 h2]; exact dE _),trivial⟩,wq rfl⟩,h1,(msr (by omega))⟩
 have h1:i=c.K.length:=by have:=dF h1; omega
 subst h1
 exact⟨⟨_,_,_,_,rfl,dE _⟩,trivial⟩
structure TgOk (t:Tg):Prop where
  lo:-300<=t.lo/\t.lo<=300
  hi:-300<=t.hi/\t.hi<=300
  t:0<=t.T/\t.T<=1048576
def agaB (x:Cir) (a b:Tg):Bool:=decide (b.hi+drf x a.T b.T<a.lo) || decide (a.hi+drf x a.T b.T<b.lo)
theorem zjk (x:Cir) (a b:Tg) (hx:0<=x.Drift/\x.Drift<=60) (ha:TgOk a) (hb:TgOk b):Spec PP 305 [x.v,a.v,b.v] [B (agaB x a b)]:=by
 have db:=ziN hx ha.t hb.t
 have a1:=ha.lo
 have a2:=ha.hi
 have b1:=hb.lo
 have b2:=hb.hi
 refine sA Tryz.func305 ?_
 refine cP (zoK x a.T b.T hx ha.t hb.t) rfl rfl ?_
 refine⟨i6,?_⟩
 apply bY <;> intro h1
 ·have h1:decide (b.hi+drf x a.T b.T<a.lo)=true:=h1
  refine sT ?_
  refine r1B rfl ?_
  unfold agaB; rw[h1]; rfl
 have h1:decide (b.hi+drf x a.T b.T<a.lo)=false:=h1
 refine⟨i6,?_⟩
 refine sF ?_
 refine r1B rfl ?_
 unfold agaB; rw[h1]; rfl
def prAt (p:Int × Int):Nat->D
 | 0=>I p.1
 | _=>I p.2
abbrev lPr (l:List (Int × Int)):D:=.slc 2 l.length fun i=>prAt (l.getD i default)
def lsP (p q:Int × Int):Bool:=decide (p.1<q.1) || (p.1==q.1 && decide (p.2<q.2))
def leadN (q:Int × Int):List (Int × Int)->Nat
 | []=>0
 | a :: r=>if lsP a q=true then leadN q r+1 else 0
def putL (L:List (Int × Int)) (q:Int × Int):List (Int × Int):=L.take (leadN q L)++q :: L.drop (leadN q L)
theorem zft (q:Int × Int):∀ L:List (Int × Int),leadN q L<=L.length
 | []=>jE _
 | a :: r=>by
  unfold leadN
  split
  ·have:=zft q r; simp; omega
  simp
theorem zdl (q:Int × Int):∀ (L:List (Int × Int)) (i:Nat),i<=L.length->(∀ j,j<i->lsP (L.getD j default) q=true)->(i<L.length->lsP (L.getD i default) q=false)->leadN q L=i
 | [],i,h,_,_=>by simp at h; subst h; rfl
 | a :: r,0,_,_,h2=>by
  have:=h2 (by simp)
  unfold leadN
  rw[kG (by rw[show lsP a q=false from this]; decide)]
 | a :: r,i+1,h,h1,h2=>by
  have h0:=h1 0 (by omega)
  unfold leadN
  rw[kH (show lsP a q=true from h0),zdl q r i (by simpa using h) (fun j hj=>by simpa using h1 (j+1) (by omega)) (fun hi=>by simpa using h2 (by simpa using hi))]
theorem zfb (L:List (Int × Int)) (q:Int × Int):(putL L q).length=L.length+1:=by
 have:=zft q L
 unfold putL
 simp
 omega
theorem zne (L:List (Int × Int)) (q:Int × Int) (m:Nat):(putL L q).getD m default=if m<leadN q L then L.getD m default else if m=leadN q L then q else L.getD (m - 1) default:=by
 have hl:=zft q L
 unfold putL
 rw[hZ]
 by_cases h1:m<leadN q L
 ·rw[kH h1,jJ (by rw[jQ]; omega),jS,kH h1,<- hZ]
 rw[kG h1,jK (by rw[jQ]; omega),jQ]
 rw[show min (leadN q L) L.length=leadN q L by omega]
 by_cases h2:m=leadN q L
 ·rw[kH h2,h2,kE]; rfl
 rw[kG h2]
 obtain⟨d,hd⟩:∃ d,m - leadN q L=d+1:=⟨m - leadN q L - 1,by omega⟩
 rw[hd,jaa,qW,show leadN q L+d=m - 1 by omega,<- hZ]
theorem zg8 {L:List (Int × Int)} {q:Int × Int} {i:Nat} (hi:i<=L.length) (hat:leadN q L=i) {n n':Nat} {F f:Nat->Nat->D} (hn:n=i) (hn':n'=i) (hF:∀ a,a<i -> ∀ j,j<2->F a j=prAt (L.getD a default) j) (h:∀ j,j<2->f 0 j=prAt q j) :
  D.eqv (.slc 2 (n+1+(L.length - n')) (appRow (n+1) (appRow n F f) fun a=>prAt (L.getD (n'+a) default))) (lPr (putL L q)):=by
 subst hn
 subst hn'
 refine⟨by rw[zfb]; omega,.inr ⟨rfl,fun m hm j hj=>?_⟩⟩
 show D.eqv (appRow (n'+1) (appRow n' F f) (fun a=>prAt (L.getD (n'+a) default)) m j) (prAt ((putL L q).getD m default) j)
 rw[zne,hat]
 unfold appRow
 by_cases h1:m<n'
 ·rw[kH (by omega),kH h1,kH h1,hF m h1 j hj]; exact dE _
 by_cases h2:m=n'
 ·rw[kH (by omega),kG h1,kG h1,kH h2,h2,kE,h j hj]; exact dE _
 rw[kG (by omega),kG h1,kG h2]
 show D.eqv (prAt (L.getD (n'+(m - (n'+1))) default) j) _
 rw[show n'+(m - (n'+1))=m - 1 by omega]; exact dE _
theorem zkC {f:Nat->D} {q:Int × Int} (h0:f 0=I q.1) (h1:f 1=I q.2):∀ j,j<2->f j=prAt q j
 | 0,_=>h0
 | 1,_=>h1
theorem zoJ (L:List (Int × Int)) (q:Int × Int) (hn:L.length<=100000):Spec PP 306 [.d (lPr L),.agg [I q.1,I q.2]] [.d (lPr (putL L q))]:=by
 refine sA Tryz.func306 ?_
 refine LoopOb.of (σ:=Nat) (fun i=>([(0,.d (lPr L)),(3,.box 3 0),(5,.d (I i))],[(3,.box ([I q.1,I q.2].map AV.d))])) (fun i=>i<=L.length /\ ∀ j,j<i->lsP (L.getD j default) q=true) (fun i=>L.length - i) 0
  ⟨rfl,⟨obD [I q.1,I q.2] rfl,trivial⟩,wq rfl⟩ z0L fun i hi=>?_
 obtain⟨hi,ha⟩:=hi
 have next:lsP (L.getD i default) q=true -> ∀ j,j<i+1->lsP (L.getD j default) q=true:=fun h j hj=>by
  by_cases e:j=i
  ·subst e; exact h
  exact ha j (by omega)
 refine oL (List.range 34) (FzOb.no ?_)
 apply bY <;> intro h1
 ·have h1:i<L.length:=by have:=dT h1; omega
  refine⟨⟨rfl,by omega,by omega⟩,⟨⟨by decide,by decide⟩,⟨⟨by decide,by decide⟩,?_⟩⟩⟩
  apply bY <;> intro h2
  ·have h2:decide ((L.getD i default).1<q.1)=true:=h2
   repeat first | apply sT | apply sF
   refine⟨i6,?_⟩
   exact⟨i+1,⟨rfl,⟨obD [I q.1,I q.2] rfl,trivial⟩,wq rfl⟩,⟨h1,next (by unfold lsP; rw[h2]; rfl)⟩,(msr (by omega))⟩
  have h2:decide ((L.getD i default).1<q.1)=false:=h2
  refine⟨⟨rfl,by omega,by omega⟩,⟨⟨by decide,by decide⟩,⟨⟨by decide,by decide⟩,?_⟩⟩⟩
  apply bY <;> intro h3
  ·have h3:((L.getD i default).1==q.1)=true:=h3
   refine⟨⟨rfl,by omega,by omega⟩,⟨⟨by decide,by decide⟩,⟨⟨by decide,by decide⟩,?_⟩⟩⟩
   repeat first | apply sT | apply sF
   apply bY <;> intro h4
   ·have h4:decide ((L.getD i default).2<q.2)=true:=h4
    refine⟨i6,?_⟩
    exact⟨i+1,⟨rfl,⟨obD [I q.1,I q.2] rfl,trivial⟩,wq rfl⟩,⟨h1,next (by unfold lsP; rw[h3,h4,qS,kO])⟩,(msr (by omega))⟩
   have h4:decide ((L.getD i default).2<q.2)=false:=h4
   have hat:leadN q L=i:=zdl q L i hi ha fun _=>by unfold lsP; rw[h2,h3,h4]; rfl
   refine Exists.intro [1001,1002,1003,1005,1006,1008,1009,1010,0,4,7,11,12] (And.intro (by kernel_rfl) (FzOb.fz [3] ?_))
   refine⟨rfl,⟨rfl,?_⟩⟩
   refine⟨rfl,⟨rfl,?_⟩⟩
   refine⟨rfl,⟨⟨.inr rfl,by omega,by omega⟩,⟨rfl,?_⟩⟩⟩
   refine⟨rfl,⟨rfl,?_⟩⟩
   refine⟨rfl,⟨rfl,?_⟩⟩
   refine⟨rfl,⟨rfl,?_⟩⟩
   refine⟨rfl,⟨rfl,?_⟩⟩
   refine⟨rfl,⟨⟨.inr rfl,by omega,by omega⟩,⟨rfl,?_⟩⟩⟩
   refine⟨⟨.inr rfl,by simp only[maxLen]; omega,by dsimp only; omega⟩,?_⟩
   refine⟨⟨.inr rfl,by simp only[maxLen]; omega,by dsimp only; omega⟩,?_⟩
   refine⟨⟨.inr rfl,by simp only[maxLen]; omega,by dsimp only; omega⟩,?_⟩
   refine⟨⟨_,_,_,_,rfl,?_⟩,trivial⟩
   exact zg8 hi hat (kU i) rfl (fun a _ j _=>rfl) (zkC rfl rfl)
  have h3:((L.getD i default).1==q.1)=false:=h3
  repeat first | apply sT | apply sF
  have hat:leadN q L=i:=zdl q L i hi ha fun _=>by unfold lsP; rw[h2,h3]; rfl
  refine Exists.intro [1001,1002,1003,1005,1006,1008,1009,1010,0,4,7,11,12] (And.intro (by kernel_rfl) (FzOb.fz [3] ?_))
  refine⟨rfl,⟨rfl,?_⟩⟩
  refine⟨rfl,⟨rfl,?_⟩⟩
  refine⟨rfl,⟨⟨.inr rfl,by omega,by omega⟩,⟨rfl,?_⟩⟩⟩
  refine⟨rfl,⟨rfl,?_⟩⟩
  refine⟨rfl,⟨rfl,?_⟩⟩
  refine⟨rfl,⟨rfl,?_⟩⟩
  refine⟨rfl,⟨rfl,?_⟩⟩
  refine⟨rfl,⟨⟨.inr rfl,by omega,by omega⟩,⟨rfl,?_⟩⟩⟩
  refine⟨⟨.inr rfl,by simp only[maxLen]; omega,by dsimp only; omega⟩,?_⟩
  refine⟨⟨.inr rfl,by simp only[maxLen]; omega,by dsimp only; omega⟩,?_⟩
  refine⟨⟨.inr rfl,by simp only[maxLen]; omega,by dsimp only; omega⟩,?_⟩
  refine⟨⟨_,_,_,_,rfl,?_⟩,trivial⟩
  exact zg8 hi hat (kU i) rfl (fun a _ j _=>rfl) (zkC rfl rfl)
 have h1:i=L.length:=by have:=dF h1; omega
 repeat first | apply sT | apply sF
 have hat:leadN q L=i:=zdl q L i hi ha fun h=>by omega
 refine Exists.intro [1001,1002,1003,1005,1006,1008,1009,1010,0,4,7,11,12] (And.intro (by kernel_rfl) (FzOb.fz [3] ?_))
 refine⟨rfl,⟨rfl,?_⟩⟩
 refine⟨rfl,⟨rfl,?_⟩⟩
 refine⟨rfl,⟨⟨.inr rfl,by omega,by omega⟩,⟨rfl,?_⟩⟩⟩
 refine⟨rfl,⟨rfl,?_⟩⟩
 refine⟨rfl,⟨rfl,?_⟩⟩
 refine⟨rfl,⟨rfl,?_⟩⟩
 refine⟨rfl,⟨rfl,?_⟩⟩
 refine⟨rfl,⟨⟨.inr rfl,by omega,by omega⟩,⟨rfl,?_⟩⟩⟩
 refine⟨⟨.inr rfl,by simp only[maxLen]; omega,by dsimp only; omega⟩,?_⟩
 refine⟨⟨.inr rfl,by simp only[maxLen]; omega,by dsimp only; omega⟩,?_⟩
 refine⟨⟨.inr rfl,by simp only[maxLen]; omega,by dsimp only; omega⟩,?_⟩
 refine⟨⟨_,_,_,_,rfl,?_⟩,trivial⟩
 exact zg8 hi hat (kU i) rfl (fun a _ j _=>rfl) (zkC rfl rfl)
def fireB (x:Cir) (l:List Tg) (i k:Nat):Bool:=
 (((i:Int)==(k:Int)) && (l.getD i default).no) || (decide ((l.getD i default).N<(l.getD k default).N) && !(l.getD i default).no && !(l.getD k default).no && agaB x (l.getD i default) (l.getD k default))
def outK (x:Cir) (l:List Tg) (i:Nat) (o:List (Int × Int)):Nat->List (Int × Int)
 | 0=>o
 | k+1=>if fireB x l i k=true then putL (outK x l i o k) ((l.getD i default).N,(l.getD k default).N) else outK x l i o k
def outI (x:Cir) (l:List Tg):Nat->List (Int × Int)
 | 0=>[]
 | i+1=>outK x l i (outI x l i) l.length
theorem zfl (x:Cir) (l:List Tg) (i:Nat) (o:List (Int × Int)):∀ k,(outK x l i o k).length<=o.length+k
 | 0=>jE _
 | k+1=>by
  have:=zfl x l i o k
  unfold outK
  split
  ·rw[zfb]; omega
  omega
theorem zik (x:Cir) (l:List Tg):∀ i,(outI x l i).length<=i * l.length
 | 0=>by simp[outI]
 | i+1=>by
  have h1:=zik x l i
  have h2:=zfl x l i (outI x l i) l.length
  unfold outI
  rw[kY,Nat.one_mul]
  omega
theorem zfk {x:Cir} {l:List Tg} {i k:Nat} {o:List (Int × Int)} (h:fireB x l i k=true):outK x l i o (k+1)=putL (outK x l i o k) ((l.getD i default).N,(l.getD k default).N):=by
 show (if _ then _ else _)=_; rw[kH h]
theorem zcI {x:Cir} {l:List Tg} {i k:Nat} {o:List (Int × Int)} (h:fireB x l i k=false):outK x l i o (k+1)=outK x l i o k:=by
 show (if _ then _ else _)=_; rw[kG (by rw[h]; decide)]
theorem zg3 (c : Cirs) (id : Int) (h : CirsOk c) (hid : ¬ cirI c id < 0) (hl : ∀ t ∈ tgsL c (c.C.getD (cirI c id).toNat default), TgOk t) :
    Spec PP 284 [c.v, (c.C.getD (cirI c id).toNat default).v] [.d (lPr (outI (c.C.getD (cirI c id).toNat default) (tgsL c (c.C.getD (cirI c id).toNat default)) (tgsL c (c.C.getD (cirI c id).toNat default)).length))] := by
  have hT := zf9 c id h hid
  have hx := (h.cs _ (zaN hid).1).d
  have hlen : (tgsL c (c.C.getD (cirI c id).toNat default)).length <= 61 := jM (zeT c _ _) (by have := h.m; omega)
  generalize c.C.getD (cirI c id).toNat default = x at *
  generalize tgsL c x = l at *
  refine sA Tryz.func284 ?_
  refine CallSt.ro hT rfl rfl ?_
  refine LoopOb.of (σ := Nat) (fun i => ([(3, .box 3 0), (5, .d (lTg l)), (6, .d (lPr (outI x l i))), (7, .d (I i))], [(3, .box (x.ds.map AV.d))])) (fun i => i <= l.length) (fun i => l.length - i) 0
    ⟨rfl, ⟨obD x.ds rfl, trivial⟩, avQ rfl, avR _ rfl, avOw rfl rfl rfl ⟨rfl, .inl rfl⟩, avR _ rfl, trivial⟩ (jF _) fun i hi => ?_
  apply bY <;> intro h0
  · have h0 : i < l.length := by have := dT h0; omega
    have oi := hl _ (gd1 h0 default)
    refine LoopOb.of (σ := Nat) (fun k => ([(3, .box 3 0), (5, .d (lTg l)), (6, .d (lPr (outK x l i (outI x l i) k))), (7, .d (I i)), (8, .d (I k))], [(3, .box (x.ds.map AV.d))])) (fun k => k <= l.length) (fun k => l.length - k) 0
      ⟨rfl, ⟨obD x.ds rfl, trivial⟩, wq rfl⟩ (jF _) fun k hk => ?_
    apply bY <;> intro h1
    · have h1 : k < l.length := by have := dT h1; omega
      have ok := hl _ (gd1 h1 default)
      have ol : (outK x l i (outI x l i) k).length <= 10000 := by
        have a1 := zfl x l i (outI x l i) k
        have a2 := zik x l i
        have a3 : i * l.length <= 61 * 61 := jbv (by omega) hlen
        omega
      refine ⟨⟨rfl, by omega, by omega⟩, ?_⟩
      refine ⟨⟨rfl, by omega, by omega⟩, ?_⟩
      apply bY <;> intro h2
      · have h2 : ((i : Int) == (k : Int)) = true := h2
        obtain rfl : i = k := by have : (i : Int) = k := by simpa using h2
                                 omega
        repeat first | apply sT | apply sF
        apply bY <;> intro h3
        · have h3 : (l.getD i default).N < (l.getD i default).N := dT h3
          omega
        have h3 : decide ((l.getD i default).N < (l.getD i default).N) = false := h3
        repeat first | apply sT | apply sF
        apply bY <;> intro h4
        · have h4 : (l.getD i default).no = true := h4
          have hf : fireB x l i i = true := by unfold fireB; rw [h2, h4]; rfl
          repeat first | apply sT | apply sF
          refine CallSt.ro (zoJ (outK x l i (outI x l i) i) ((l.getD i default).N, (l.getD i default).N) (by omega)) rfl rfl ?_
          refine ⟨i6, ?_⟩
          refine ⟨i + 1, ⟨rfl, ⟨obD x.ds rfl, trivial⟩, avQ rfl, avR _ rfl, avR _ (by rw [zfk hf]; rfl), wq rfl⟩, h1, (msr (by omega))⟩
        have h4 : (l.getD i default).no = false := h4
        have hf : fireB x l i i = false := by unfold fireB; rw [h3, h4, kN]; rfl
        repeat first | apply sT | apply sF
        refine ⟨i6, ?_⟩
        refine ⟨i + 1, ⟨rfl, ⟨obD x.ds rfl, trivial⟩, avQ rfl, avR _ rfl, avR _ (by rw [zcI hf]; rfl), wq rfl⟩, h1, (msr (by omega))⟩
      have h2 : ((i : Int) == (k : Int)) = false := h2
      repeat first | apply sT | apply sF
      apply bY <;> intro h3
      · have h3 : decide ((l.getD i default).N < (l.getD k default).N) = true := h3
        repeat first | apply sT | apply sF
        apply bY <;> intro h4
        · have h4 : (l.getD i default).no = false := zdG h4
          repeat first | apply sT | apply sF
          apply bY <;> intro h5
          · have h5 : (l.getD k default).no = false := zdG h5
            refine cP (zjk x (l.getD i default) (l.getD k default) hx oi ok) rfl rfl ?_
            repeat first | apply sT | apply sF
            apply bY <;> intro h6
            · have h6 : agaB x (l.getD i default) (l.getD k default) = true := h6
              have hf : fireB x l i k = true := by unfold fireB; rw [h3, h4, h5, h6, jX]; exact .inr rfl
              refine CallSt.ro (zoJ (outK x l i (outI x l i) k) ((l.getD i default).N, (l.getD k default).N) (by omega)) rfl rfl ?_
              refine ⟨i6, ?_⟩
              refine ⟨k + 1, ⟨rfl, ⟨obD x.ds rfl, trivial⟩, avQ rfl, avR _ rfl, avR _ (by rw [zfk hf]; rfl), wq rfl⟩, h1, (msr (by omega))⟩
            have h6 : agaB x (l.getD i default) (l.getD k default) = false := h6
            have hf : fireB x l i k = false := by unfold fireB; rw [h2, h6, kN]; rfl
            refine ⟨i6, ?_⟩
            refine ⟨k + 1, ⟨rfl, ⟨obD x.ds rfl, trivial⟩, avQ rfl, avR _ rfl, avR _ (by rw [zcI hf]; rfl), wq rfl⟩, h1, (msr (by omega))⟩
          have h5 : (l.getD k default).no = true := zdH h5
          have hf : fireB x l i k = false := by unfold fireB; rw [h2, h5]; simp
          repeat first | apply sT | apply sF
          refine ⟨i6, ?_⟩
          refine ⟨k + 1, ⟨rfl, ⟨obD x.ds rfl, trivial⟩, avQ rfl, avR _ rfl, avR _ (by rw [zcI hf]; rfl), wq rfl⟩, h1, (msr (by omega))⟩
        have h4 : (l.getD i default).no = true := zdH h4
        have hf : fireB x l i k = false := by unfold fireB; rw [h2, h4]; simp
        repeat first | apply sT | apply sF
        refine ⟨i6, ?_⟩
        refine ⟨k + 1, ⟨rfl, ⟨obD x.ds rfl, trivial⟩, avQ rfl, avR _ rfl, avR _ (by rw [zcI hf]; rfl), wq rfl⟩, h1, (msr (by omega))⟩
      have h3 : decide ((l.getD i default).N < (l.getD k default).N) = false := h3
      have hf : fireB x l i k = false := by unfold fireB; rw [h2, h3]; rfl
      repeat first | apply sT | apply sF
      refine ⟨i6, ?_⟩
      refine ⟨k + 1, ⟨rfl, ⟨obD x.ds rfl, trivial⟩, avQ rfl, avR _ rfl, avR _ (by rw [zcI hf]; rfl), wq rfl⟩, h1, (msr (by omega))⟩
    have h1 : k = l.length := by have := dF h1; omega
    subst h1
    refine ⟨i6, ?_⟩
    exact ⟨i + 1, ⟨rfl, ⟨obD x.ds rfl, trivial⟩, wq rfl⟩, h0, (msr (by omega))⟩
  have h0 : i = l.length := by have := dF h0; omega
  subst h0
  exact ⟨dE _, trivial⟩
def limS (x:Cir) (t:Int) (s:Spn) (g:Tg):Spn:=⟨max s.Lo (g.lo - drf x g.T t),min s.Hi (g.hi+drf x g.T t)⟩
def limF (x:Cir) (t:Int) (l:List Tg):Spn:=l.foldl (limS x t) ⟨-300,300⟩
theorem zkw (x:Cir) (l:List Tg) (t:Int) (hx:0<=x.Drift/\x.Drift<=60) (hl:∀ g∈l,TgOk g) (hn:l.length<=1000) (ht:0<=t/\t<=1048576):Spec PP 285 [x.v,.d (lTg l),N t] [(limF x t l).v]:=by
 refine sA Tryz.func285 ?_
 refine LoopOb.of (σ:=Nat) (fun i=>([(1,.d (lTg l)),(2,.d (I t)),(3,.box 3 0),(6,.box 6 0),(7,.box 7 0),(8,.d (I i))],[(3,.box (x.ds.map AV.d)),(6,.box ([I 0,I 0].map AV.d)),(7,.box ([I (limF x t (l.take i)).Lo,I (limF x t (l.take i)).Hi].map AV.d))])) (fun i=>i<=l.length) (fun i=>l.length - i) 0
  ⟨rfl,⟨obD x.ds rfl,obD [I 0,I 0] rfl,obD [I (-300),I 300] rfl,trivial⟩,wq rfl⟩ (jF _) fun i hi=>?_
 apply bY <;> intro h1
 ·have h1:i<l.length:=by have:=dT h1; omega
  have o:=hl _ (gd1 h1 default)
  have q1:=o.lo
  have q2:=o.hi
  have db:=ziN hx o.t ht
  have eS:limF x t (l.take (i+1))=limS x t (limF x t (l.take i)) (l.getD i default):=by unfold limF; rw[zaE h1 default,jab]; rfl
  refine oL (List.range 9) (FzOb.no ?_)
  refine⟨⟨rfl,by omega,by omega⟩,?_⟩
  refine oP (zoK x (l.getD i default).T t hx o.t ht) rfl rfl ?_
  refine oL (List.range 14) (FzOb.no ?_)
  refine⟨⟨rfl,by omega,by omega⟩,?_⟩
  have z1:inR .i64 ((l.getD i default).lo - drf x (l.getD i default).T t):=i6
  have z2:inR .i64 ((l.getD i default).hi+drf x (l.getD i default).T t):=i6
  refine⟨z1,?_⟩
  refine oL (List.range 14) (FzOb.no ?_)
  refine⟨⟨rfl,by omega,by omega⟩,?_⟩
  refine⟨z2,?_⟩
  refine⟨i6,?_⟩
  refine⟨i+1,⟨rfl,⟨obD x.ds rfl,obD [I 0,I 0] rfl,obD [I (limF x t (l.take (i+1))).Lo,I (limF x t (l.take (i+1))).Hi] (by rw[eS]; rfl),trivial⟩,wq rfl⟩,h1,(msr (by omega))⟩
 have h1:i=l.length:=by have:=dF h1; omega
 subst h1
 rw[jZ]
 exact r1C rfl rfl rfl rfl rfl rfl (zaa _)
end Go.Pg
