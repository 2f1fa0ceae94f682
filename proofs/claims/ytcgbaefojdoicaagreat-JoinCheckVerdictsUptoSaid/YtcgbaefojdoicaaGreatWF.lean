/- Lemmas, joined by program. -/
import Derived.Test.YtcgbaefojdoicaaGreatWE
set_option maxHeartbeats 4000000
set_option linter.all false
namespace Go.Pg
open Go.Proofs Go.RowKit
theorem fitG {α:Type} [Inhabited α] {k:Nat} {sh:Nat->Sh} {at_:α->Nat->D} {x:D} (H:∀ g:Nat->D,(∀ j,j<k->Fits (sh j) (g j)) -> ∃ a:α,∀ j,j<k->D.eqv (g j) (at_ a j)) (h:Fits (.sl k sh) x):∃ l:List α,l.length<=maxLen/\D.eqv x (.slc k l.length fun i=>at_ (l.getD i default)):=by
 obtain⟨n,f,rfl,hn,hf⟩:=h
 have q:∀ i,i<n -> ∃ a:α,∀ j,j<k->D.eqv (f i j) (at_ a j):=fun i hi=>H (f i) (hf i hi)
 refine⟨(List.range n).map fun i=>if h:i<n then Classical.choose (q i h) else default,by simpa using hn,by simp,.inr ⟨rfl,fun i hi j hj=>?_⟩⟩
 have e:(((List.range n).map fun i=>if h:i<n then Classical.choose (q i h) else default).getD i default)=Classical.choose (q i hi):=by
  rw[hZ,jU,wH hi]
  show (if h:i<n then Classical.choose (q i h) else default)=_
  rw[dif_pos hi]
 dsimp only
 rw[e]
 exact jax (q i hi) j hj
theorem zrZ {x:D} (h:Fits (shI 1) x):∃ l:List Int,D.eqv x (lI l):=fitI (α:=Int) (at_:=fun a _=>I a) (fun g=>g 0) (fun g j hj=>by
 match j,hj with
 | 0,_=>rfl) h
abbrev shII:Sh:=.sl 1 fun j=>shSl.getD' [shI 1] j
theorem fitII {x:D} (h:Fits shII x):∃ l:List (List Int),l.length<=maxLen/\D.eqv x (lII l):=fitG (α:=List Int) (at_:=fun a _=>lI a) (fun g hg=>by
 obtain⟨l,hl⟩:=zrZ (hg 0 (by decide))
 refine⟨l,fun j hj=>?_⟩
 match j,hj with
 | 0,_=>exact hl) h
theorem rep_lII {w:World} {ok:Nat->Prop} {x:D} {v:Value} (hr:Rep1 w ok (.d x) v) (h:All2 Fits [shII] [x]):∃ l:List (List Int),Rep1 w ok (.d (lII l)) v:=by
 cases h with
 | cons h _=>
 obtain⟨l,-,e⟩:=fitII h
 exact⟨l,Rep.eqv hr e⟩
structure Jns where
  F:List Fit
  M:List Mis
abbrev Jns.v (j:Jns):V1:=.agg [lFt j.F,lMs j.M]
abbrev shJns:List Sh:=[.sl 3 fun j=>shSl.getD' [shI 1,.int .i64,.int .i64] j,.sl 2 fun j=>shSl.getD' [shI 1,shI 3] j]
theorem rep_Jns {w:World} {ok:Nat->Prop} {xs:List D} {v:Value} (hr:Rep1 w ok (.agg xs) v) (h:All2 Fits shJns xs):∃ d:Jns,(d.F.length<=maxLen/\d.M.length<=maxLen)/\Rep1 w ok d.v v:=by
 obtain⟨vs,e,hv⟩:=hr
 cases h with | cons h0 h=>
 cases h with | cons h1 h=>
 cases h
 obtain⟨F,bF,eF⟩:=fitG (α:=Fit) (at_:=Fit.at) (fun g hg=>by
  obtain⟨l,hl⟩:=zrZ (hg 0 (by decide))
  obtain⟨a,-,ha⟩:=hg 1 (by decide)
  obtain⟨b,-,hb⟩:=hg 2 (by decide)
  refine⟨⟨l,⟨a,b⟩⟩,fun j hj=>?_⟩
  match j,hj with
  | 0,_=>exact hl
  | 1,_=>rw[ha]; exact⟨rfl,rfl⟩
  | 2,_=>rw[hb]; exact⟨rfl,rfl⟩) h0
 obtain⟨M,bM,eM⟩:=fitG (α:=Mis) (at_:=Mis.at) (fun g hg=>by
  obtain⟨l,hl⟩:=zrZ (hg 0 (by decide))
  obtain⟨r,hr⟩:=fitI (α:=Rsn) (at_:=Rsn.at) (fun g=>⟨⟨g 0,g 1⟩,g 2⟩) (fun g j hj=>by
   match j,hj with
   | 0,_=>rfl
   | 1,_=>rfl
   | 2,_=>rfl) (hg 1 (by decide))
  refine⟨⟨l,r⟩,fun j hj=>?_⟩
  match j,hj with
  | 0,_=>exact hl
  | 1,_=>exact hr) h1
 exact⟨⟨F,M⟩,⟨bF,bM⟩,vs,e,rep_aggE hv ⟨eF,eM,trivial⟩⟩
abbrev shVdt:List Sh:=[.int .i64,shII,shII]
theorem rep_Vdt {w:World} {ok:Nat->Prop} {xs:List D} {v:Value} (hr:Rep1 w ok (.agg xs) v) (h:All2 Fits shVdt xs):∃ d:Vdt,Rep1 w ok d.v v:=by
 obtain⟨vs,e,hv⟩:=hr
 cases h with | cons h0 h=>
 cases h with | cons h1 h=>
 cases h with | cons h2 h=>
 cases h
 obtain⟨n0,-,rfl⟩:=h0
 obtain⟨T,-,eT⟩:=fitII h1
 obtain⟨A,-,eA⟩:=fitII h2
 exact⟨⟨n0,T,A⟩,vs,e,rep_aggE hv ⟨⟨rfl,rfl⟩,eT,eA,trivial⟩⟩
end Go.Pg
set_option maxRecDepth 100000
namespace Go.Pg
open Go.Proofs Go.RowKit Go.Sort Go.Shelf
theorem zkK {d:Day} {x:Fit} (h:x∈(tabR d).1):x.IDs.length<=1000000:=by
 unfold tabR at h
 split at h
 ·cases h
 rename_i h0
 have h7:=sig7 (za4 (jL h0))
 have h:=(jag _ _).mem_iff.1 h
 obtain⟨m,_,_,_,rfl⟩:=za2 h
 exact jM (zaF _ _ _) (by omega)
theorem zkJ {d:Day} {x:Mis} (h:x∈(tabR d).2.1):x.IDs.length<=1000000/\x.R.length<=1000000:=by
 unfold tabR at h
 split at h
 ·cases h
 rename_i h0
 have h7:=sig7 (za4 (jL h0))
 have h:=(jag _ _).mem_iff.1 h
 obtain⟨m,_,_,_,rfl⟩:=za2 h
 refine⟨jM (zaF _ _ _) (by omega),?_⟩
 show (misR d _).length<=_
 unfold misR
 split
 ·exact zqO
 exact jF _
theorem zpw (d:Day):(tabR d).1.length<=1000000/\(tabR d).2.1.length<=1000000:=by
 unfold tabR
 split
 ·exact⟨jF _,jF _⟩
 rename_i h0
 have h7:=sig7 (za4 (jL h0))
 have hp:2 ^ (sigL d.R).length<=2 ^ 7:=qS (by decide) h7
 show (srtF _).length<=_/\(srtM _).length<=_
 unfold srtF srtM
 rw[qG,qG]
 exact⟨jM (zbC _ _ _) (by omega),jM (zbC _ _ _) (by omega)⟩
theorem zhi (ids s:List Int):∀ i j,(bitA ids s i).testBit j=(decide (j<i) && s.contains (ids.getD j 0))
 | 0,j=>by show (0:Nat).testBit j=_; simp
 | i+1,j=>by
  have ih:=zhi ids s i
  rw[zcL]
  by_cases e:s.contains (ids.getD i 0)=true
  ·rw[kH e,zdo,ih]
   by_cases e2:i=j
   ·subst e2; rw[e,jG (rfl:i=i),jG (Nat.lt_succ_self i),kV]; rfl
   rw[jH e2,jak]
   congr 1
   exact kT.2 (by omega)
  rw[kG e,ih]
  by_cases e2:i=j
  ·subst e2
   rw[Bool.not_eq_true] at e
   rw[e,kS,kS]
  congr 1
  exact kT.2 (by omega)
theorem zb0 (ids s:List Int) (j:Nat):(bitS ids s).testBit j=(decide (j<ids.length) && s.contains (ids.getD j 0)):=zhi ids s ids.length j
theorem zsl (ids s:List Int):bitS ids s<2 ^ ids.length:=Nat.lt_pow_two_of_testBit _ fun j hj=>by
 rw[zb0,jH (by omega),kU]
theorem zf5 {l:List Int} {i:Nat} (h:i<l.length):l.getD i 0∈l:=by rw[hZ,kF h]; exact kJ h
def hasB (F:List Fit) (l:List Int):Bool:=F.any fun f=>partB l f.IDs
theorem zc4 {α:Type} {p q:α->Bool}:∀ {l:List α},(∀ x∈l,p x=q x)->l.find? p=l.find? q
 | [],_=>rfl
 | x :: l,h=>by
  rw[List.find?_cons,List.find?_cons,h x (jap ..),zc4 fun y hy=>h y (jas _ hy)]
theorem zsw {ids:List Int} (hd:ids.Nodup) {l:List (List Nat)} (hl:∀ x∈l,Rg x/\x.length=ids.length) {i j:Nat} (hi:i<ids.length) (hj:j<ids.length) :
  vdtR (l.map (setX ids)) (ids.getD i 0) (ids.getD j 0)=vdtX ids l i j:=by
 have h1:∀ x∈l,togB (ids.getD i 0) (ids.getD j 0) (setX ids x)=samI i j x:=fun x hx=>zpu hd (hl x hx).1 (hl x hx).2 hi hj
 have f1:l.find? (togB (ids.getD i 0) (ids.getD j 0) ∘ setX ids)=l.find? (samI i j):=zc4 h1
 have f2:l.find? ((fun p=>!togB (ids.getD i 0) (ids.getD j 0) p) ∘ setX ids)=l.find? fun x=>!samI i j x:=zc4 fun x hx=>by
  show (!togB _ _ (setX ids x))=_
  rw[h1 x hx]
 have g1:(l.map (setX ids)).find? (togB (ids.getD i 0) (ids.getD j 0))=(l.find? (samI i j)).map (setX ids):=by rw[List.find?_map,f1]
 have g2:(l.map (setX ids)).find? (fun p=>!togB (ids.getD i 0) (ids.getD j 0) p)=(l.find? fun x=>!samI i j x).map (setX ids):=by rw[List.find?_map,f2]
 have any':∀ (p:List (List Int)->Bool) (L:List (List (List Int))),L.any p=(L.find? p).isSome:=fun p L=>by
  induction L with
  | nil=>rfl
  | cons x L ih=>
  rw[List.any_cons,List.find?_cons]
  cases p x with
  | true=>rfl
  | false=>rw[qY]; exact ih
 unfold vdtR vdtX fstP
 rw[any',any',zbr,zbr,g1,g2,Option.isSome_map,Option.isSome_map]
theorem zjk {l:List Int} {x:Int} (h:l.contains x=true):∃ i:Nat,i<l.length/\idxL (· == x) l=(i:Int)/\l.getD i 0=x:=by
 rcases idxL_cases (· == x) l 0 with⟨e,h1⟩ | ⟨i,hi,e,h1,_⟩
 ·have:=zhX l x
  rw[e,h] at this
  cases this
 exact⟨i,hi,e,eq_of_beq h1⟩
theorem zlx {d:Day} {a b:Int} (h:parE d a b=0):dayE d=0/\(sigL d.R).contains a=true/\(sigL d.R).contains b=true:=by
 unfold parE at h
 split at h
 ·rename_i h1; exact absurd h h1
 rename_i h1
 split at h
 ·cases h
 rename_i h2
 have h2:partB [a,b] (sigL d.R)=true:=by simpa using h2
 rw[ziU,jP] at h2
 exact⟨jL h1,h2⟩
abbrev prtF (F:List Fit) (ids:List Int):List (List (List Int)):=prt (hasB F) ids []
def shoW (ids:List Int) (F:List Fit) (n:Nat) (a b:Int) (p:List (List Int)) (nd one:Bool):Bool:=if nd=false then decide (p.length=0) else divB ids p && decide (p.length=n) && (togB a b p==one) && p.all (hasB F)
def csmE (d:Day) (j:Jns) (a b:Int) (v:Vdt):Int:=
 if parE d a b≠0 then parE d a b else if 127<j.F.length then 2 else if (bstL (prtF j.F (sigL d.R))).length=0 then 9
 else if v.Ans≠(vdtR (bstL (prtF j.F (sigL d.R))) a b).Ans \/ shoW (sigL d.R) j.F ((bstL (prtF j.F (sigL d.R))).getD 0 []).length a b v.T (decide (v.Ans≠1)) true=false \/ shoW (sigL d.R) j.F ((bstL (prtF j.F (sigL d.R))).getD 0 []).length a b v.A (decide (v.Ans≠2)) false=false then 8 else 0
theorem zmY {L:List (List (List Int))} {p:List (List Int)} (h:p∈bstL L):p.length=((bstL L).getD 0 []).length:=by
 have e2:bstL L=fltP (fwP L) L:=zqc
 rw[e2] at h ⊢
 have hne:fltP (fwP L) L ≠ []:=List.ne_nil_of_mem h
 have h1:=zg4 hne
 have h2:=(qD.1 h).2
 have h2:(p.length:Int)=fwP L:=by simpa using h2
 omega
theorem s_EqI (a b:List Int) (hn:a.length<=1000000):Spec PP 118 [.d (lI a),.d (lI b)] [B (decide (a=b))]:=by
 refine sA Tryz.func118 ?_
 apply bY <;> intro h1
 ·have h1:a.length≠b.length:=by
   have:¬ (a.length:Int)=b.length:=by simpa using h1
   omega
  refine r1B rfl ?_
  exact (jH fun e=>h1 (by rw[e])).symm
 have h1:a.length=b.length:=by
  have:(a.length:Int)=b.length:=by simpa using h1
  omega
 refine lOf (σ:=Nat) (fun i=>([(0,.d (lI a)),(1,.d (lI b)),(12,.d (I a.length)),(13,.d (I i))],[])) (fun i=>i<=a.length/\a.take i=b.take i) (fun i=>a.length - i) 0 ⟨rfl,trivial,wq rfl⟩ ⟨jF _,rfl⟩ fun i hi=>?_
 obtain⟨i1,i2⟩:=hi
 apply bY <;> intro h2
 ·have h2:i<a.length:=by have:=dT h2; omega
  refine oN 9 ?_
  refine⟨⟨rfl,by omega,by omega⟩,?_⟩
  refine⟨⟨rfl,by omega,by omega⟩,?_⟩
  apply bY <;> intro h3
  ·have h3:¬ a.getD i 0=b.getD i 0:=by simpa using h3
   refine r1B rfl ?_
   refine (jH fun e=>?_).symm
   subst e
   exact h3 rfl
  have h3:a.getD i 0=b.getD i 0:=by simpa using h3
  refine⟨i6,?_⟩
  refine⟨i+1,⟨rfl,trivial,wq rfl⟩,⟨h2,?_⟩,msr h2⟩
  rw[zat h2 0,zat (by omega) 0,i2,h3]
 have h2:i=a.length:=by have:=dF h2; omega
 subst h2
 refine r1B rfl ?_
 rw[jZ,h1,jZ] at i2
 exact (jG i2).symm
theorem zkY (l:List (List Int)) (g:FuncId) (c0:D) (p:List Int->Bool) (hn:l.length<=1000000) (hp:∀ i,i<l.length->Spec PP g [.d (lI (l.getD i [])),.d c0] [B (p (l.getD i []))]):Spec PP 119 [.d (lII l),.d (cloB g [c0])] [N (idxL p l)]:=by
 refine sA Tryz.func119 ?_
 refine lOf (σ:=Nat) (fun i=>([(0,.d (lII l)),(1,.d (cloB g [c0])),(6,.d (lII l)),(7,.d (I l.length)),(8,.d (I i))],[])) (fun i=>i<=l.length /\ ∀ j,j<i->p (l.getD j [])=false) (fun i=>l.length - i) 0
  ⟨rfl,trivial,wq rfl⟩ z0L fun i hi=>?_
 obtain⟨hi,ha⟩:=hi
 apply bY <;> intro h1
 ·have h1:i<l.length:=by have:=dT h1; omega
  refine⟨⟨rfl,by omega,by omega⟩,?_⟩
  refine cP (hp i h1) rfl rfl ?_
  apply bY <;> intro h2
  ·exact r1I rfl (zai [] h1 h2 ha).symm
  refine⟨i6,?_⟩
  refine⟨i+1,⟨rfl,trivial,wq rfl⟩,⟨h1,fun j hj=>?_⟩,(msr (by omega))⟩
  by_cases e:j=i
  ·subst e; exact h2
  exact ha j (by omega)
 have h1:i=l.length:=by have:=dF h1; omega
 subst h1
 exact r1I rfl (zal [] ha).symm
theorem zkZ (l:List (List Int)) (g:FuncId) (c0:D) (p:List Int->Bool) (hn:l.length<=1000000) (hp:∀ i,i<l.length->Spec PP g [.d (lI (l.getD i [])),.d c0] [B (p (l.getD i []))]):Spec PP 54 [.d (lII l),.d (cloB g [c0])] [B (l.any p)]:=by
 refine sA Tryz.func54 ?_
 refine cP (zkY l g c0 p hn hp) rfl rfl ?_
 refine r1B rfl ?_
 rw[kM,k9]
 exact zbh p l []
theorem zqM (l:List Fit) (g:FuncId) (c0:D) (p:Fit->Bool) (hn:l.length<=1000000) (hp:∀ i,i<l.length->Spec PP g [(l.getD i default).v,.d c0] [B (p (l.getD i default))]):Spec PP 75 [.d (lFt l),.d (cloB g [c0])] [B (l.any p)]:=by
 have hx:Spec PP 133 [.d (lFt l),.d (cloB g [c0])] [N (idxL p l)]:=by
  refine sA Tryz.func133 ?_
  refine lOf (σ:=Nat) (fun i=>([(0,.d (lFt l)),(1,.d (cloB g [c0])),(6,.d (lFt l)),(7,.d (I l.length)),(8,.d (I i))],[])) (fun i=>i<=l.length /\ ∀ j,j<i->p (l.getD j default)=false) (fun i=>l.length - i) 0
   ⟨rfl,trivial,wq rfl⟩ z0L fun i hi=>?_
  obtain⟨hi,ha⟩:=hi
  apply bY <;> intro h1
  ·have h1:i<l.length:=by have:=dT h1; omega
   refine⟨⟨rfl,by omega,by omega⟩,?_⟩
   refine cP (hp i h1) rfl rfl ?_
   apply bY <;> intro h2
   ·exact r1I rfl (zai default h1 h2 ha).symm
   refine⟨i6,?_⟩
   refine⟨i+1,⟨rfl,trivial,wq rfl⟩,⟨h1,fun j hj=>?_⟩,(msr (by omega))⟩
   by_cases e:j=i
   ·subst e; exact h2
   exact ha j (by omega)
  have h1:i=l.length:=by have:=dF h1; omega
  subst h1
  exact r1I rfl (zal default ha).symm
 refine sA Tryz.func75 ?_
 refine cP hx rfl rfl ?_
 refine r1B rfl ?_
 rw[kM,k9]
 exact zbh p l default
theorem zqe {a b:List Int} {n:Nat} {g:Nat->Nat->D} (hn:n=a.length) (hg:∀ i,i<b.length->g i 0=I (b.getD i 0)):D.eqv (.slc 1 (n+b.length) (appRow n (rowI a) g)) (.slc 1 (a++b).length (rowI (a++b))):=by
 subst hn
 refine⟨by simp,.inr ⟨rfl,fun i hi j hj=>?_⟩⟩
 obtain rfl:j=0:=by omega
 show D.eqv (appRow a.length (rowI a) g i 0) (I ((a++b).getD i 0))
 unfold appRow
 by_cases h:i<a.length
 ·rw[kH h,hZ,jJ h,<- hZ]
  exact dE _
 rw[kG h,hg _ (by have hi:i<a.length+b.length:=hi; omega),hZ (l:=a++b),jK (by omega),<- hZ]
 exact dE _
theorem zbU {p:List (List Int)} {i:Nat} (h:i<p.length):(p.take (i+1)).flatten=(p.take i).flatten++p.getD i []:=by
 rw[zat h [],List.flatten_append]; simp
theorem zf7 (p:List (List Int)) (i:Nat):(p.take i).flatten.length<=p.flatten.length:=by
 have:p.flatten.length=(p.take i).flatten.length+(p.drop i).flatten.length:=by rw[<- jR,<- List.flatten_append,List.take_append_drop]
 omega
theorem zmf (ids:List Int) (p:List (List Int)) (hp:p.length<=1000000) (hf:p.flatten.length<=1000000):Spec PP 52 [.d (lI ids),.d (lII p)] [B (divB ids p)]:=by
 refine sA Tryz.func52 ?_
 refine lOf (σ:=Nat) (fun i=>([(0,.d (lI ids)),(1,.d (lII p)),(5,.own 5),(8,.d (lII p)),(9,.d (I p.length)),(10,.d (I i))],[(5,.row 3 1 (p.take i).flatten.length (rowI (p.take i).flatten))])) (fun i=>i<=p.length /\ ∀ j,j<i->setB (p.getD j [])=true/\fstB p j=true) (fun i=>p.length - i) 0
  ⟨rfl,⟨obR rfl ⟨rfl,.inl rfl⟩,trivial⟩,wq rfl⟩ z0L fun i hi=>?_
 obtain⟨hi,ha⟩:=hi
 have hl:=zf7 p i
 apply bY <;> intro h1
 ·have h1:i<p.length:=by have:=dT h1; omega
  have hs1:(p.getD i []).length<=1000000:=by
   have:=zf7 p (i+1)
   rw[zbU h1,jR] at this
   omega
  have no:¬ (setB (p.getD i [])=true/\fstB p i=true)->divB ids p=false:=fun h=>by
   unfold divB
   rw[Bool.and_eq_false_iff]; left
   rw[kW]
   intro hh
   have:=jC.1 hh i (kI.2 h1)
   rw[jP] at this
   exact h this
  refine⟨⟨rfl,by omega,by omega⟩,?_⟩
  refine oN 20 ?_
  refine oP (zme (p.getD i []) hs1) rfl rfl ?_
  apply bY <;> intro h2
  ·have h2:setB (p.getD i [])=false:=by simpa using h2
   repeat first | apply sT | apply sF
   exact r1B rfl (no fun h=>by rw[h2] at h; cases h.1).symm
  have h2:setB (p.getD i [])=true:=by simpa using h2
  have l2:=(zbN h2).2
  have l2':0<(p.getD ((i:Nat):Int).toNat []).length:=l2
  repeat first | apply sT | apply sF
  have cont:fstB p i=true->(∀ j,j<i+1->setB (p.getD j [])=true/\fstB p j=true):=fun h j hj=>by
   by_cases e:j=i
   ·subst e; exact⟨h2,h⟩
   exact ha j (by omega)
  have mx:(p.take i).flatten.length+(p.getD i []).length<=1000000:=by
   have:=zf7 p (i+1)
   rw[zbU h1,jR] at this
   omega
  have mx':(p.take i).flatten.length+(p.getD ((i:Nat):Int).toNat []).length<=1000000:=mx
  apply bY <;> intro h3
  ·have h3:0<i:=by have:=dT h3; omega
   have ei:((i:Int) - 1).toNat=i - 1:=by omega
   have l3:=(zbN (ha (i - 1) (by omega)).1).2
   repeat first | apply sT | apply sF
   refine⟨⟨rfl,by omega,by omega⟩,?_⟩
   refine⟨i6,?_⟩
   refine⟨⟨rfl,by omega,by omega⟩,?_⟩
   refine⟨⟨rfl,by omega,by rw[ei]; show (0:Int)<((p.getD (i - 1) []).length:Int); omega⟩,?_⟩
   repeat first | apply sT | apply sF
   apply bY <;> intro h4
   ·have h4:(p.getD i []).getD 0 0<=(p.getD (i - 1) []).getD 0 0:=by have h4:=dT h4; rw[ei] at h4; exact h4
    repeat first | apply sT | apply sF
    refine r1B rfl (no fun h=>?_).symm
    have:=h.2
    unfold fstB at this
    rw[jH (by omega:¬ i=0),qY] at this
    have:=kP this
    omega
   have h4:(p.getD (i - 1) []).getD 0 0<(p.getD i []).getD 0 0:=by have h4:=dF h4; rw[ei] at h4; have:¬ (p.getD i []).getD 0 0<=(p.getD (i - 1) []).getD 0 0:=h4; omega
   repeat first | apply sT | apply sF
   refine⟨⟨.inr rfl,by unfold maxLen; omega,by show ((p.take i).flatten.length+(p.getD ((i:Nat):Int).toNat []).length) * 8<=140737488355328; omega⟩,?_⟩
   refine⟨i6,?_⟩
   refine⟨i+1,⟨rfl,⟨obR rfl ?_,trivial⟩,wq rfl⟩,⟨h1,cont (by unfold fstB; rw[jG h4,kV])⟩,msr h1⟩
   rw[zbU h1]
   exact zqe rfl fun _ _=>rfl
  have h3:i=0:=by have:=dF h3; omega
  repeat first | apply sT | apply sF
  refine⟨⟨.inr rfl,by unfold maxLen; omega,by show ((p.take i).flatten.length+(p.getD ((i:Nat):Int).toNat []).length) * 8<=140737488355328; omega⟩,?_⟩
  refine⟨i6,?_⟩
  refine⟨i+1,⟨rfl,⟨obR rfl ?_,trivial⟩,wq rfl⟩,⟨h1,cont (by unfold fstB; rw[jG h3]; rfl)⟩,msr h1⟩
  rw[zbU h1]
  exact zqe rfl fun _ _=>rfl
 have h1:i=p.length:=by have:=dF h1; omega
 subst h1
 rw[jZ]
 have hs:(p.flatten.mergeSort fun x y=>decide (x<=y)).length=p.flatten.length:=qG _
 refine CallSt.rw' rfl (ziH p.flatten hf) ⟨⟨[],.tmp 39,[],[],rfl,rfl,rfl,rfl,rfl,rfl,rfl⟩⟩ rfl ?_
 refine pEq (s_EqI (p.flatten.mergeSort fun x y=>decide (x<=y)) ids (by omega)) rfl ⟨⟨hs.symm,.inr ⟨rfl,fun i _ j _=>dE _⟩⟩,dE _,trivial⟩ rfl ?_
 refine r1B rfl ?_
 have:(List.range p.length).all (fun i=>setB (p.getD i []) && fstB p i)=true:=jC.2 fun j hj=>by
  obtain⟨a1,a2⟩:=ha j (kI.1 hj)
  rw[a1,a2]; rfl
 unfold divB
 rw[this,kN]
theorem ztI (l:List Int) (f:Fit) (hl:l.length<=1000000) (hf:f.IDs.length<=1000000):Spec PP 110 [f.v,.d (capB [lI l])] [B (partB l f.IDs)]:=by
 refine sA Tryz.func110 ?_
 refine cP (zmc l f.IDs hl hf) rfl rfl ?_
 exact r1B rfl rfl
structure JnOk (j:Jns):Prop where
  F:j.F.length<=1000000
  M:j.M.length<=1000000
  f:∀ f∈j.F,f.IDs.length<=1000000
  m:∀ m∈j.M,m.IDs.length<=1000000/\m.R.length<=1000000
theorem JnOk.get {j:Jns} (h:JnOk j) {i:Nat} (hi:i<j.F.length):(j.F.getD i default).IDs.length<=1000000:=by
 refine h.f _ ?_
 rw[hZ,kF hi]; exact kJ hi
theorem ztJ {j:Jns} (h:JnOk j) (l:List Int) (hl:l.length<=1000000):Spec PP 46 [j.v,.d (lI l)] [B (hasB j.F l)]:=by
 refine sA Tryz.func46 ?_
 refine fEq [3] (zqM j.F 110 (capB [lI l]) (fun f=>partB l f.IDs) h.F fun i hi=>ztI l _ hl (h.get hi)) rfl ⟨dE _,⟨rfl,rfl,fun j hj=>by obtain rfl:j=0:=wB.1 hj; exact dE _⟩,trivial⟩ rfl ?_
 exact r1B rfl rfl
abbrev hasD (j:Jns):D:=.bnd 46 2 (getD' [lFt j.F,lMs j.M])
theorem ztH {j:Jns} (h:JnOk j):PosC (hasD j) (hasB j.F):=.bnd _ _ _ rfl fun s hs=>ztJ h s (by omega)
theorem ziR (F:List Fit) (ids:List Int) (hi:ids.length<=7):(prtF F ids).length<=877:=zlp _ _ hi
theorem zrK {j:Jns} (h:JnOk j) (ids:List Int) (hi:ids.length<=7):Spec PP 44 [.d (cloB 107 [capB [lI ids],posD (hasD j)])] [.d (lPP (bstL (prtF j.F ids)))]:=
 zpQ _ _ _ _ (by have:=ziR j.F ids hi; omega) (zcz ids (hasD j) (hasB j.F) hi (ztH h))
def btsR (all s:List Int):Nat × Bool:=if (setB s && partB s all)=true then (bitS all s,true) else (0,false)
theorem zjL (all:List Int):bitS all []=0:=by
 apply jaC
 intro j
 rw[zb0,Nat.zero_testBit]; simp
theorem gdI {l:List Int} {i:Nat} (h:i<l.length):l.getD i 0=l[i]:=by rw[hZ,kF h]; rfl
theorem zo8 {all s:List Int} (hr:all.Pairwise (· < ·)) {i k:Nat} (hi:i<s.length) (hk:k<all.length) (e:all.getD k 0=s.getD i 0) (hs:∀ j,j<i->s.getD j 0<s.getD i 0):bitS all (s.take (i+1))=bitS all (s.take i)+2 ^ k:=by
 have hlt:bitS all (s.take i)<2 ^ k:=Nat.lt_pow_two_of_testBit _ fun j hj=>by
  rw[zb0,Bool.and_eq_false_iff]
  by_cases hjn:j<all.length
  ·right
   rw[kW]
   intro hc
   obtain⟨q,hq,eq⟩:=kL (kD.1 hc)
   rw[jQ] at hq
   rw[jaG] at eq
   have h1:=hs q (by omega)
   rw[gdI (show q<s.length by omega),eq,<- e] at h1
   by_cases ej:k=j
   ·subst ej; omega
   have:=kY.1 hr k j hk hjn (by omega)
   rw[gdI hjn,gdI hk] at h1
   omega
  left; exact jH hjn
 rw[zlE hlt]
 apply jaC
 intro j
 rw[zdo,zb0,zb0,zat hi 0]
 by_cases hjn:j<all.length
 ·rw[jG hjn,kN,kN,kM,jX,kD,kD,qF,kQ,k9,<- e]
  refine or_congr jbk ⟨fun h=>?_,fun h=>by rw[h]⟩
  rw[gdI hjn,gdI hk] at h
  exact (zd1 (za3 hr) hjn hk h).symm
 rw[jH hjn,kU,kU,qY]
 exact (jH (by omega)).symm
theorem zo7 {all:List Int} (h:all.length<=7) (s:List Int):bitS all s<128:=jN (zsl all s) (qS (by decide) h)
theorem zqZ (all s:List Int) (hr:all.Pairwise (· < ·)) (h7:all.length<=7) (hs:s.length<=1000000):Spec PP 84 [.d (lI all),.d (lI s)] [N ((btsR all s).1:Nat),B (btsR all s).2]:=by
 refine sA Tryz.func84 ?_
 refine lOf (σ:=Nat) (fun i=>([(0,.d (lI all)),(1,.d (lI s)),(6,.d (I (bitS all (s.take i):Nat))),(7,.d (I i))],[])) (fun i=>i<=s.length/\(∀ j,j<i->all.contains (s.getD j 0)=true) /\ ∀ j,j+1<i->s.getD j 0<s.getD (j+1) 0) (fun i=>s.length - i) 0
  ⟨rfl,trivial,avQ rfl,avQ rfl,avQ (by rw[List.take_zero,zjL]; rfl),avQ rfl,trivial⟩ ⟨jF _,fun j hj=>by omega,fun j hj=>by omega⟩ fun i hi=>?_
 obtain⟨hi,ha,hb⟩:=hi
 have hlt:∀ i',i'<i+1->(∀ j,j+1<i'+1->s.getD j 0<s.getD (j+1) 0) -> ∀ j,j<i'->s.getD j 0<s.getD i' 0:=fun i' _ h j hj=>by
  have:∀ k,j+k+1<=i'->s.getD j 0<s.getD (j+k+1) 0:=by
   intro k
   induction k with
   | zero=>intro hk; exact h j (by omega)
   | succ k ih=>
   intro hk
   have h1:=ih (by omega)
   have h2:=h (j+k+1) (by omega)
   show s.getD j 0<s.getD (j+k+1+1) 0
   omega
  have:=this (i' - j - 1) (by omega)
  rwa [show j+(i' - j - 1)+1=i' by omega] at this
 have no:∀ j,j<s.length->(all.contains (s.getD j 0)=false \/ (0<j/\s.getD j 0<=s.getD (j - 1) 0))->btsR all s=(0,false):=fun j hj h=>by
  unfold btsR
  rw[kG]
  intro hh
  rw[jP] at hh
  rcases h with h | ⟨h0,h⟩
  ·have:=jC.1 hh.2 (s.getD j 0) (zf5 hj)
   rw[h] at this; cases this
  have:=kY.1 (zbN hh.1).1 (j - 1) j (by omega) hj (by omega)
  rw[gdI hj,gdI (show j - 1<s.length by omega)] at h
  omega
 apply bY <;> intro h1
 ·have h1:i<s.length:=by have:=dT h1; omega
  refine⟨⟨rfl,by omega,by omega⟩,?_⟩
  have hI:=zgF all (s.getD i 0) (by omega)
  have hin:=zkd all (s.getD i 0)
  by_cases h2:all.contains (s.getD i 0)=false
  ·refine cP hI rfl rfl ?_
   refine oN 18 ?_
   refine sYe (show decide (idxL (· == (s.getD i 0)) all<0)=true by rw[hin,h2]; rfl) ?_
   repeat first | apply sT | apply sF
   rw[no i h1 (.inl h2)]
   exact⟨rtI rfl rfl,rtB rfl rfl,trivial⟩
  have h2:all.contains (s.getD i 0)=true:=by simpa using h2
  obtain⟨k,hk,ek,ek2⟩:=zjk h2
  rw[ek] at hI
  refine cP hI rfl rfl ?_
  refine oN 18 ?_
  refine sNo (jH (show ¬ ((k:Nat):Int)<0 by omega)) ?_
  have go:(∀ j,j+1<i+1->s.getD j 0<s.getD (j+1) 0)->bitS all (s.take (i+1))=bitS all (s.take i)+2 ^ k:=fun h=>zo8 hr h1 hk ek2 (hlt i (Nat.lt_succ_self i) h)
  have hx:=zo7 h7 (s.take i)
  have es:IntKind.wrap .i64 (1 * 2 ^ (min ((k:Nat):Int).toNat (IntKind.bits .i64)))=((2 ^ k:Nat):Int):=bShl (by omega)
  have h2k:2 ^ k<=128:=jM (qS (j:=7) (by decide) (by omega)) (by decide)
  generalize 2 ^ k=P at es go h2k
  repeat first | apply sT | apply sF
  apply bY <;> intro h3
  ·have h3:0<i:=by have:=dT h3; omega
   have ei:((i:Int) - 1).toNat=i - 1:=by omega
   repeat first | apply sT | apply sF
   refine⟨⟨rfl,by omega,by omega⟩,?_⟩
   refine⟨i6,?_⟩
   refine⟨⟨rfl,by omega,by omega⟩,?_⟩
   repeat first | apply sT | apply sF
   apply bY <;> intro h4
   ·have h4:s.getD i 0<=s.getD (i - 1) 0:=by have h4:=dT h4; rw[ei] at h4; exact h4
    repeat first | apply sT | apply sF
    rw[no i h1 (.inr ⟨h3,h4⟩)]
    exact⟨rtI rfl rfl,rtB rfl rfl,trivial⟩
   have h4:s.getD (i - 1) 0<s.getD i 0:=by have h4:=dF h4; rw[ei] at h4; have:¬ s.getD i 0<=s.getD (i - 1) 0:=h4; omega
   have hb':∀ j,j+1<i+1->s.getD j 0<s.getD (j+1) 0:=fun j hj=>by
    by_cases e:j+1=i
    ·obtain rfl:j=i - 1:=by omega
     rw[show i - 1+1=i by omega]; exact h4
    exact hb j (by omega)
   repeat first | apply sT | apply sF
   refine⟨by omega,?_⟩
   refine⟨by rw[es]; exact i6,?_⟩
   refine⟨i6,?_⟩
   refine⟨i+1,⟨rfl,trivial,avQ rfl,avQ rfl,avI rfl (by rw[es,go hb']; omega),avQ rfl,trivial⟩,⟨h1,fun j hj=>?_,hb'⟩,msr h1⟩
   by_cases e:j=i
   ·subst e; exact h2
   exact ha j (by omega)
  have h3:i=0:=by have:=dF h3; omega
  have hb':∀ j,j+1<i+1->s.getD j 0<s.getD (j+1) 0:=fun j hj=>by omega
  repeat first | apply sT | apply sF
  refine⟨by omega,?_⟩
  refine⟨by rw[es]; exact i6,?_⟩
  refine⟨i6,?_⟩
  refine⟨i+1,⟨rfl,trivial,avQ rfl,avQ rfl,avI rfl (by rw[es,go hb']; omega),avQ rfl,trivial⟩,⟨h1,fun j hj=>?_,hb'⟩,msr h1⟩
  by_cases e:j=i
  ·subst e; exact h2
  exact ha j (by omega)
 have h1:i=s.length:=by have:=dF h1; omega
 subst h1
 have hp:partB s all=true:=jC.2 fun x hx=>by
  obtain⟨j,hj,rfl⟩:=kL hx
  have:=ha j hj
  rwa [gdI hj] at this
 have hrs:risB s=true:=by
  unfold risB
  refine jC.2 fun j hj=>jG ?_
  have:=kI.1 hj
  exact hb j (by omega)
 have hsb:setB s=decide (0<s.length):=by unfold setB; rw[hrs,kN]
 rw[jZ]
 have er:btsR all s=(bitS all s,decide (0<s.length)):=by
  unfold btsR
  rw[hsb,hp,wG]
  by_cases h0:0<s.length
  ·rw[kH (jG h0),jG h0]
  have e0:s=[]:=jaF.1 (by omega)
  rw[kG (by rw[jH h0]; decide),jH h0,e0,zjL]
 rw[er]
 exact⟨rtI rfl rfl,rtB rfl (kT.2 (by omega)),trivial⟩
def ixK (ids:List Int) (p:List (List Int)) (i k:Nat):List Int:=ids.map fun x=>if x∈(p.getD i []).take k then (i:Int) else whr p x i
def ixI (ids:List Int) (p:List (List Int)) (i:Nat):List Int:=ids.map fun x=>whr p x i
theorem zml (ids:List Int) (p:List (List Int)) (i k:Nat):(ixK ids p i k).length=ids.length:=kR _
theorem zeb (ids:List Int) (p:List (List Int)) (i:Nat):(ixI ids p i).length=ids.length:=kR _
theorem zoA (ids:List Int) (p:List (List Int)) (i:Nat):ixK ids p i 0=ixI ids p i:=by
 unfold ixK ixI
 refine qE fun x _=>?_
 rw[List.take_zero,kG (by simp)]
theorem zrN (ids:List Int) (p:List (List Int)) (i:Nat):ixK ids p i (p.getD i []).length=ixI ids p (i+1):=by
 unfold ixK ixI
 refine qE fun x _=>?_
 rw[jZ]; rfl
theorem zhV {ids:List Int} {p:List (List Int)} {i k m:Nat} (h:m<ids.length):(ixK ids p i k).getD m 0=if ids.getD m 0∈(p.getD i []).take k then (i:Int) else whr p (ids.getD m 0) i:=by
 unfold ixK
 rw[hZ,jU,kF h,gdI h]; rfl
def pldR (ids:List Int) (p:List (List Int)):List Int × Bool:=if plcB ids p=true then (ixI ids p p.length,fndB ids p) else ([],false)
theorem zrY (ids:List Int) (p:List (List Int)):fndB ids p = !(ixI ids p p.length).contains (-1):=by
 rw[kM,jY,kW]
 unfold fndB ixI
 rw[jC]
 constructor
 ·intro h hc
  obtain⟨x,hx,e⟩:=kK.1 (kD.1 hc)
  have:=kP (h x hx)
  omega
 intro h x hx
 refine jG (Int.not_lt.1 fun hn=>h (kD.2 (kK.2 ⟨x,hx,?_⟩)))
 have:=(zpq p x p.length).1
 omega
theorem zk5 (ids : List Int) (p : List (List Int)) (hr : ids.Pairwise (· < ·)) (h7 : ids.length <= 7) (hp : p.length <= 1000000) (hs : ∀ i, i < p.length -> (p.getD i []).length <= 1000000) : Spec PP 123 [.d (lI ids), .d (lII p)] [.d (lI (pldR ids p).1), B (pldR ids p).2] := by
  refine sA Tryz.func123 ?_
  have et : ((ids.length : Nat) : Int).toNat = ids.length := wJ _
  refine ⟨⟨by omega, rfl, by rw [et]; show ids.length * 1 <= 16777216; omega, by rw [et]; show ids.length * 8 <= 140737488355328; omega⟩, ?_⟩
  refine lOf (σ := Nat) (fun i => ([(0, .d (lI ids)), (1, .d (lII p)), (6, .own 15), (7, .d (I i))], [(15, .row 3 1 ids.length (fun m _ => I (if m < i then -1 else 0)))])) (fun i => i <= ids.length) (fun i => ids.length - i) 0
    ⟨rfl, ⟨obR rfl ⟨et, .inr ⟨rfl, fun m hm j hj => by obtain rfl : j = 0 := wB.1 hj; exact ⟨rfl, (kG (qM _)).symm⟩⟩⟩, trivial⟩, wq rfl⟩ (jF _) fun i hi => ?_
  have hi : i <= ids.length := hi
  apply bY <;> intro h1
  · have h1 : i < ids.length := by have := dT h1; omega
    refine ⟨⟨by omega, by omega⟩, ⟨by omega, ?_⟩⟩
    refine ⟨i6, ?_⟩
    refine ⟨i + 1, ⟨rfl, ⟨obR rfl ⟨rfl, .inr ⟨rfl, fun m hm j hj => ?_⟩⟩, trivial⟩, wq rfl⟩, h1, msr h1⟩
    obtain rfl : j = 0 := wB.1 hj
    show D.eqv (storeRow (fun m _ => I (if m < i then -1 else 0)) ((i : Nat) : Int).toNat 0 [I (-1)] m 0) (I (if m < i + 1 then -1 else 0))
    unfold storeRow
    by_cases e : m = i
    · subst e
      rw [kH ⟨rfl, jE _, by simp⟩, kH (Nat.lt_succ_self _)]
      exact ⟨rfl, rfl⟩
    rw [kG fun hh => e hh.1]
    by_cases e2 : m < i
    · rw [kH (show m < i + 1 by omega)]; exact ⟨rfl, kH e2⟩
    rw [kG (show ¬ m < i + 1 by omega)]; exact ⟨rfl, kG e2⟩
  have h1 : i = ids.length := by have := dF h1; omega
  subst h1
  refine lOf (σ := Nat) (fun i => ([(0, .d (lI ids)), (1, .d (lII p)), (6, .own 15), (8, .d (I i))], [(15, .row 3 1 (ixI ids p i).length (rowI (ixI ids p i)))])) (fun i => i <= p.length /\ ∀ j, j < i -> plc1 ids p j = true) (fun i => p.length - i) 0
    ⟨rfl, ⟨obR rfl ⟨(zeb ids p 0).symm, .inr ⟨rfl, fun m hm j hj => ?_⟩⟩, trivial⟩, wq rfl⟩ ⟨jF _, fun j hj => by omega⟩ fun i hi => ?_
  · obtain rfl : j = 0 := wB.1 hj
    have hm : m < ids.length := hm
    show D.eqv (I (if m < ids.length then -1 else 0)) (I ((ixI ids p 0).getD m 0))
    rw [kH hm]
    unfold ixI
    rw [hZ, jU, kF hm]
    exact ⟨rfl, rfl⟩
  obtain ⟨hi, ha⟩ := hi
  have no : ∀ j, j < p.length -> plc1 ids p j = false -> pldR ids p = ([], false) := fun j hj h => by
    unfold pldR
    rw [kG]
    intro hh
    have := jC.1 hh j (kI.2 hj)
    rw [h] at this; cases this
  have gt : ∀ j, plc1 ids p j = true -> setB (p.getD j []) = true := fun j h => by
    unfold plc1 at h
    rw [jP, jP, jP] at h
    exact h.1.1.1
  apply bY <;> intro h1
  · have h1 : i < p.length := by have := dT h1; omega
    have hsi := hs i h1
    refine ⟨⟨rfl, by omega, by omega⟩, ?_⟩
    have hB := zqZ ids (p.getD i []) hr h7 hsi
    have wk : D.eqv (.slc 1 (ixI ids p i).length (rowI (ixI ids p i))) (.slc 1 (ixI ids p i).length (rowI (ixI ids p i))) := dE _
    by_cases h2 : (setB (p.getD i []) && partB (p.getD i []) ids) = false
    · have e : btsR ids (p.getD i []) = (0, false) := by unfold btsR; rw [h2]; rfl
      rw [e] at hB
      refine cP hB rfl rfl ?_
      refine oN 22 ?_
      repeat first | apply sT | apply sF
      rw [no i h1 (by unfold plc1; rw [h2]; rfl)]
      exact ⟨⟨_, _, _, _, rfl, rfl, .inl rfl⟩, rtB rfl rfl, trivial⟩
    have h2 : (setB (p.getD i []) && partB (p.getD i []) ids) = true := by simpa using h2
    have e : btsR ids (p.getD i []) = (bitS ids (p.getD i []), true) := by unfold btsR; rw [h2]; rfl
    rw [e] at hB
    have h2' := h2
    rw [jP] at h2'
    have l2 := zbN h2'.1
    have l2' : 0 < (p.getD ((i : Nat) : Int).toNat []).length := l2.2
    refine cP hB rfl rfl ?_
    refine oN 22 ?_
    repeat first | apply sT | apply sF
    have hN : plc1 ids p i = (fstB p i && (p.getD i []).all fun x => decide (whr p x i < 0)) := by unfold plc1; rw [h2, kN]
    by_cases hf : fstB p i = false
    · have hn := no i h1 (by rw [hN, hf]; rfl)
      unfold fstB at hf
      rw [qO] at hf
      have h3 : 0 < i := by have := wC hf.1; omega
      have ei : ((i : Int) - 1).toNat = i - 1 := by omega
      have l3 : 0 < (p.getD ((i : Int) - 1).toNat []).length := by rw [ei]; exact (zbN (gt (i - 1) (ha (i - 1) (by omega)))).2
      refine sYe (jG (show (0 : Int) < ((i : Nat) : Int) by omega)) ?_
      repeat first | apply sT | apply sF
      refine ⟨⟨rfl, by omega, by omega⟩, ?_⟩
      refine ⟨⟨rfl, by omega, by omega⟩, ?_⟩
      refine ⟨i6, ?_⟩
      refine ⟨⟨rfl, by omega, by omega⟩, ?_⟩
      refine ⟨⟨rfl, by omega, by omega⟩, ?_⟩
      repeat first | apply sT | apply sF
      refine sYe (jG ?_) ?_
      · have := wC hf.2
        show (p.getD i []).getD 0 0 <= (p.getD ((i : Int) - 1).toNat []).getD 0 0
        rw [ei]; omega
      repeat first | apply sT | apply sF
      rw [hn]
      exact ⟨⟨_, _, _, _, rfl, rfl, .inl rfl⟩, rtB rfl rfl, trivial⟩
    have hf : fstB p i = true := by simpa using hf
    rcases wK i with h3 | h3
    all_goals first
      | refine sNo (jH (show ¬ (0 : Int) < ((i : Nat) : Int) by omega)) ?_
      | (have ei : ((i : Int) - 1).toNat = i - 1 := by omega
         have l3 : 0 < (p.getD ((i : Int) - 1).toNat []).length := by rw [ei]; exact (zbN (gt (i - 1) (ha (i - 1) (by omega)))).2
         refine sYe (jG (show (0 : Int) < ((i : Nat) : Int) by omega)) ?_
         repeat first | apply sT | apply sF
         refine ⟨⟨rfl, by omega, by omega⟩, ?_⟩
         refine ⟨⟨rfl, by omega, by omega⟩, ?_⟩
         refine ⟨i6, ?_⟩
         refine ⟨⟨rfl, by omega, by omega⟩, ?_⟩
         refine ⟨⟨rfl, by omega, by omega⟩, ?_⟩
         repeat first | apply sT | apply sF
         have f1 : (p.getD (i - 1) []).getD 0 0 < (p.getD i []).getD 0 0 := by
           unfold fstB at hf
           rw [jH (by omega : ¬ i = 0), qY] at hf
           exact kP hf
         have f2 : ¬ (p.getD i []).getD 0 0 <= (p.getD ((i : Int) - 1).toNat []).getD 0 0 := by rw [ei]; omega
         refine sNo (jH f2) ?_)
    all_goals
      repeat first | apply sT | apply sF
      refine lOf (σ := Nat) (fun k => ([(0, .d (lI ids)), (1, .d (lII p)), (6, .own 15), (8, .d (I i)), (11, .d (I k))], [(15, .row 3 1 (ixK ids p i k).length (rowI (ixK ids p i k)))])) (fun k => k <= (p.getD i []).length /\ ∀ j, j < k -> whr p ((p.getD i []).getD j 0) i < 0) (fun k => (p.getD i []).length - k) 0
        ⟨rfl, ⟨obR rfl (by rw [zoA]; exact dE _), trivial⟩, wq rfl⟩ ⟨jF _, fun j hj => by omega⟩ fun k hk => ?_
      obtain ⟨hk, hw⟩ := hk
      refine ⟨⟨rfl, by omega, by omega⟩, ?_⟩
      apply bY <;> intro h4
      · have h4 : k < (p.getD i []).length := by have h4 : ((k : Nat) : Int) < ((p.getD i []).length : Int) := dT h4; omega
        have h4' : k < (p.getD ((i : Nat) : Int).toNat []).length := h4
        have hx : ids.contains ((p.getD i []).getD k 0) = true := jC.1 h2'.2 _ (zf5 h4)
        obtain ⟨m, hm, em, ex⟩ := zjk hx
        have hI := zgF ids ((p.getD i []).getD k 0) (by omega)
        rw [em] at hI
        have hnt : ∀ q, q < ids.length -> (ids.getD q 0 ∈ (p.getD i []).take (k + 1) ↔ ids.getD q 0 ∈ (p.getD i []).take k \/ q = m) := fun q hq => by
          rw [zat h4 0, qF, kQ, <- ex]
          refine or_congr jbk ⟨fun h => ?_, fun h => by rw [h]⟩
          rw [gdI hq, gdI hm] at h
          exact zd1 (za3 hr) hq hm h
        have hmk : ids.getD m 0 ∉ (p.getD i []).take k := fun h => by
          rw [ex] at h
          obtain ⟨q, hq, eq⟩ := kL h
          rw [jQ] at hq
          rw [jaG, gdI h4] at eq
          have := zd1 (za3 l2.1) (show q < (p.getD i []).length by omega) h4 eq
          omega
        have hg : (ixK ids p i k).getD m 0 = whr p ((p.getD i []).getD k 0) i := by rw [zhV hm, kG hmk, ex]
        have hg' : (ixK ids p i k).getD ((m : Nat) : Int).toNat 0 = whr p ((p.getD i []).getD k 0) i := hg
        have hxl := zml ids p i k
        have hxl' := zml ids p i (k + 1)
        refine ⟨⟨rfl, by omega, by omega⟩, ?_⟩
        refine ⟨⟨rfl, by omega, by omega⟩, ?_⟩
        refine cP hI rfl rfl ?_
        refine ⟨⟨by omega, by omega⟩, ⟨by omega, ?_⟩⟩
        by_cases h5 : whr p ((p.getD i []).getD k 0) i < 0
        · refine sNo (jH (show ¬ (0 : Int) <= (ixK ids p i k).getD ((m : Nat) : Int).toNat 0 by rw [hg']; omega)) ?_
          refine ⟨⟨by omega, by omega⟩, ⟨by omega, ?_⟩⟩
          refine ⟨i6, ?_⟩
          refine ⟨k + 1, ⟨rfl, ⟨obR rfl ⟨by rw [hxl, hxl'], .inr ⟨rfl, fun q hq j hj => ?_⟩⟩, trivial⟩, wq rfl⟩, ⟨h4, fun j hj => ?_⟩, msr h4⟩
          · obtain rfl : j = 0 := wB.1 hj
            have hq : q < ids.length := by rw [<- hxl]; exact hq
            show D.eqv (storeRow (rowI (ixK ids p i k)) ((m : Nat) : Int).toNat 0 [I ((i : Nat) : Int)] q 0) (I ((ixK ids p i (k + 1)).getD q 0))
            rw [zhV hq]
            unfold storeRow
            by_cases e : q = m
            · rw [kH (by rw [e]; exact ⟨rfl, jE _, by simp⟩), kH ((hnt q hq).2 (.inr e))]
              exact ⟨rfl, rfl⟩
            rw [kG fun hh => e hh.1]
            show D.eqv (I ((ixK ids p i k).getD q 0)) _
            rw [zhV hq]
            by_cases e2 : ids.getD q 0 ∈ (p.getD i []).take k
            · rw [kH e2, kH ((hnt q hq).2 (.inl e2))]; exact ⟨rfl, rfl⟩
            rw [kG e2, kG fun hh => ((hnt q hq).1 hh).elim e2 e]; exact ⟨rfl, rfl⟩
          by_cases e : j = k
          · subst e; exact h5
          exact hw j (by omega)
        refine sYe (jG (show (0 : Int) <= (ixK ids p i k).getD ((m : Nat) : Int).toNat 0 by rw [hg']; omega)) ?_
        rw [no i h1 (by
          rw [hN, hf, kN, kW]
          intro hh
          exact h5 (kP (jC.1 hh _ (zf5 h4))))]
        exact ⟨⟨_, _, _, _, rfl, rfl, .inl rfl⟩, rtB rfl rfl, trivial⟩
      have h4 : k = (p.getD i []).length := by have h4 : ¬ ((k : Nat) : Int) < ((p.getD i []).length : Int) := dF h4; omega
      subst h4
      refine ⟨i6, ?_⟩
      refine ⟨i + 1, ⟨rfl, ⟨obR rfl (by rw [zrN]; exact dE _), trivial⟩, wq rfl⟩, ⟨h1, fun j hj => ?_⟩, msr h1⟩
      by_cases e : j = i
      · subst e
        rw [hN, hf, kN]
        refine jC.2 fun x hx => jG ?_
        obtain ⟨q, hq, rfl⟩ := kL hx
        have := hw q hq
        rwa [gdI hq] at this
      exact ha j (by omega)
  have h1 : i = p.length := by have := dF h1; omega
  subst h1
  have hB : plcB ids p = true := jC.2 fun j hj => ha j (kI.1 hj)
  have e : pldR ids p = (ixI ids p p.length, fndB ids p) := by unfold pldR; rw [kH hB]
  rw [e, zrY]
  have hl := zeb ids p p.length
  refine pEq (zgF (ixI ids p p.length) (-1) (by omega)) rfl ⟨dE _, ⟨rfl, rfl⟩, trivial⟩ rfl ?_
  exact ⟨⟨_, _, _, _, rfl, dE _⟩, rtB rfl (zkd _ _), trivial⟩
def canR (f:Nat->Bool) (ids:List Int) (p:List (List Int)):List Int × Bool:=if (divB ids p && (bitX (ixP ids p)).all f)=true then (ixI ids p p.length,true) else ([],false)
theorem zh7 {ids:List Int} (hr:ids.Pairwise (· < ·)) {p:List (List Int)} (h:divB ids p=true):plcB ids p=true/\fndB ids p=true:=by
 rw[zmF hr,jP] at h; exact h
theorem ztG {ids:List Int} {p:List (List Int)} (h:fndB ids p=true):D.eqv (lI (ixI ids p p.length)) (lN (ixP ids p)):=by
 refine⟨by rw[zeb,zcm],.inr ⟨rfl,fun m hm j hj=>?_⟩⟩
 obtain rfl:j=0:=wB.1 hj
 rw[zeb] at hm
 show D.eqv (I ((ixI ids p p.length).getD m 0)) (I (((ixP ids p).getD m 0:Nat):Int))
 rw[zhU hm]
 unfold ixI
 rw[hZ,jU,kF hm,gdI hm]
 have:=kP (jC.1 h ids[m] (kJ hm))
 exact⟨rfl,(Int.toNat_of_nonneg this).symm⟩
theorem zpG (f:Nat->Bool) (ids:List Int) (p:List (List Int)) (hr:ids.Pairwise (· < ·)) (h7:ids.length<=7) (hp:p.length<=1000000) (hs:∀ i,i<p.length->(p.getD i []).length<=1000000):Spec PP 58 [.d (lBo (2 ^ ids.length) f),.d (lI ids),.d (lII p)] [.d (lI (canR f ids p).1),B (canR f ids p).2]:=by
 refine sA Tryz.func58 ?_
 have hP:=zk5 ids p hr h7 hp hs
 by_cases hd:divB ids p=true
 ·obtain⟨d1,d2⟩:=zh7 hr hd
  have e1:pldR ids p=(ixI ids p p.length,true):=by unfold pldR; rw[kH d1,d2]
  rw[e1] at hP
  have hR:=zmk hr d1 d2
  have hL:=zcm ids p
  have hb:=zew hR (by omega)
  have hlt:∀ m∈bitX (ixP ids p),0<m/\m<2 ^ ids.length:=fun m hm=>by have:=zbn _ _ m hm; rw[hL] at this; exact this
  have hO:=zbO (ixP ids p) hR (by omega)
  generalize hBX:bitX (ixP ids p)=b at hO hb hlt
  refine cR hP rfl rfl ?_
  repeat first | apply sT | apply sF
  refine fEq [] hO rfl ⟨ztG d2,trivial⟩ rfl ?_
  refine lOf (σ:=Nat) (fun i=>([(0,.d (lBo (2 ^ ids.length) f)),(8,.d (lI (ixI ids p p.length))),(10,.d (lN b)),(11,.d (I i))],[])) (fun i=>i<=b.length /\ ∀ j,j<i->f (b.getD j 0)=true) (fun i=>b.length - i) 0
   ⟨rfl,trivial,wq rfl⟩ ⟨jF _,fun j hj=>by omega⟩ fun i hi=>?_
  obtain⟨hi,ha⟩:=hi
  apply bY <;> intro h1
  ·have h1:i<b.length:=by have:=dT h1; omega
   have hm:=hlt (b.getD i 0) (by rw[hZ,kF h1]; exact kJ h1)
   refine⟨⟨rfl,by omega,by omega⟩,?_⟩
   refine⟨⟨rfl,by omega,by show ((b.getD i 0:Nat):Int)<((2 ^ ids.length:Nat):Int); omega⟩,?_⟩
   by_cases h2:f (b.getD i 0)=true
   ·refine sNo (show (!f (b.getD i 0))=false by rw[h2]; rfl) ?_
    refine⟨i6,?_⟩
    refine⟨i+1,⟨rfl,trivial,wq rfl⟩,⟨h1,fun j hj=>?_⟩,msr h1⟩
    by_cases e:j=i
    ·subst e; exact h2
    exact ha j (by omega)
   refine sYe (show (!f (b.getD i 0))=true by rw[kW.2 h2]; rfl) ?_
   have e:canR f ids p=([],false):=by
    unfold canR
    rw[kG]
    intro hh
    rw[jP,hBX] at hh
    exact h2 (jC.1 hh.2 _ (by rw[hZ,kF h1]; exact kJ h1))
   rw[e]
   exact⟨⟨_,_,_,_,rfl,rfl,.inl rfl⟩,rtB rfl rfl,trivial⟩
  have h1:i=b.length:=by have:=dF h1; omega
  subst h1
  have e:canR f ids p=(ixI ids p p.length,true):=by
   unfold canR
   rw[hd,hBX,kN,kH]
   refine jC.2 fun m hm=>?_
   obtain⟨j,hj,rfl⟩:=kL hm
   have:=ha j hj
   rwa [hZ,kF hj] at this
  rw[e]
  exact⟨dE _,rtB rfl rfl,trivial⟩
 have e:canR f ids p=([],false):=by unfold canR; rw[kW.2 hd]; rfl
 rw[e]
 have e1:(pldR ids p).2=false:=by
  unfold pldR
  rw[zmF hr] at hd
  split
  ·rename_i h1
   rw[h1,kN] at hd
   simpa using hd
  rfl
 refine cR hP rfl rfl ?_
 refine sYe (by rw[e1]; rfl) ?_
 exact⟨⟨_,_,_,_,rfl,rfl,.inl rfl⟩,rtB rfl rfl,trivial⟩
theorem zpm {ids:List Int} (hr:ids.Pairwise (· < ·)) {p:List (List Int)} (hd:divB ids p=true) {f:Nat->Bool} {q:List Int->Bool} (h:∀ m,0<m->m<2 ^ ids.length->f m=q (memb ids m)):(bitX (ixP ids p)).all f=p.all q:=by
 obtain⟨d1,d2⟩:=zh7 hr hd
 have hlt:∀ m∈bitX (ixP ids p),0<m/\m<2 ^ ids.length:=fun m hm=>by have:=zbn _ _ m hm; rw[zcm] at this; exact this
 conv=>rhs; rw[<- ziB hr d1 d2]
 unfold setX
 rw[List.all_map,kM,jC,jC]
 refine forall_congr' fun m=>forall_congr' fun hm=>?_
 rw[h m (hlt m hm).1 (hlt m hm).2]; exact jbk
theorem zug {ids:List Int} (hr:ids.Pairwise (· < ·)) {p:List (List Int)} {f:Nat->Bool} {q:List Int->Bool} (h:∀ m,0<m->m<2 ^ ids.length->f m=q (memb ids m)):(canR f ids p).2=(divB ids p && p.all q):=by
 unfold canR
 cases hd:divB ids p with
 | false=>rfl
 | true=>
 rw[kN,zpm hr hd h]
 cases p.all q <;> rfl
def midB (F:List Fit) (ids:List Int) (m i q:Nat):Bool:=if q=m then hasB (F.take i) (memb ids m) else decide (q<m) && tbX (hasB F) ids q
abbrev rowBo (p:Nat->Bool):Nat->Nat->D:=fun q _=>.bool (p q)
theorem zoG {F:List Fit} {l:List Int} {i:Nat} (h:i<F.length):hasB (F.take (i+1)) l=(hasB (F.take i) l || partB l (F.getD i default).IDs):=by
 unfold hasB
 rw[zat h default,List.any_append]; simp
theorem zdS {n:Nat} {f g:Nat->Bool} (h:∀ q,q<n->f q=g q):D.eqv (.slc 1 n (rowBo f)) (.slc 1 n (rowBo g)):=⟨rfl,.inr ⟨rfl,fun q hq j hj=>by
 show D.eqv (.bool (f q)) (.bool (g q))
 rw[h q hq]; exact dE _⟩⟩
theorem zgE {n m:Nat} {f g:Nat->Bool} {b:Bool} (hm:g m=b) (h:∀ q,q<n->q≠m->f q=g q):D.eqv (.slc 1 n (storeRow (rowBo f) ((m:Nat):Int).toNat 0 [.bool b])) (.slc 1 n (rowBo g)):=⟨rfl,.inr ⟨rfl,fun q hq j hj=>by
 obtain rfl:j=0:=by omega
 show D.eqv (storeRow (rowBo f) ((m:Nat):Int).toNat 0 [.bool b] q 0) (.bool (g q))
 unfold storeRow
 by_cases e:q=m
 ·rw[kH (by rw[e]; exact⟨rfl,jE _,by simp⟩),e,hm]; exact dE _
 rw[kG fun hh=>e hh.1]
 show D.eqv (.bool (f q)) _
 rw[h q hq e]; exact dE _⟩⟩
theorem zjY (ids:List Int) {t:Jns} (hj:JnOk t) (h7:ids.length<=7):Spec PP 50 [.d (lI ids),t.v] [.d (lBo (2 ^ ids.length) (tbX (hasB t.F) ids))]:=by
 have es:IntKind.wrap .i64 (1 * 2 ^ (min ((ids.length:Nat):Int).toNat (IntKind.bits .i64)))=((2 ^ ids.length:Nat):Int):=bShl h7
 have hp:2 ^ ids.length<=128:=jM (qS (j:=7) (by decide) (by omega)) (by decide)
 have h1p:1<=2 ^ ids.length:=Nat.one_le_two_pow
 have hF:=hj.F
 refine sA Tryz.func50 ?_
 refine⟨by omega,?_⟩
 have et:(IntKind.wrap .i64 (1 * 2 ^ (min ((ids.length:Nat):Int).toNat (IntKind.bits .i64)))).toNat=2 ^ ids.length:=by rw[es]; exact wJ _
 refine⟨⟨by rw[es]; omega,rfl,by rw[et]; show 2 ^ ids.length * 1<=16777216; omega,by rw[et]; show 2 ^ ids.length * 1<=140737488355328; omega⟩,?_⟩
 refine lOf (σ:=Nat) (fun m=>([(0,.d (lI ids)),(3,.box 3 0),(5,.own 14),(6,.d (I m))],[(3,.box ([lFt t.F,lMs t.M].map AV.d)),(14,.row 4 1 (2 ^ ids.length) (rowBo fun i=>decide (i<m) && tbX (hasB t.F) ids i))])) (fun m=>1<=m/\m<=2 ^ ids.length) (fun m=>2 ^ ids.length - m) 1
  ⟨rfl,⟨obD [lFt t.F,lMs t.M] rfl,obR rfl ⟨et,.inr ⟨rfl,fun i hi j hj=>?_⟩⟩,trivial⟩,wq rfl⟩ ⟨jE _,h1p⟩ fun m hm=>?_
 ·obtain rfl:j=0:=wB.1 hj
  show D.eqv (.bool false) (.bool (decide (i<1) && tbX (hasB t.F) ids i))
  have:(decide (i<1) && tbX (hasB t.F) ids i)=false:=by
   unfold tbX
   by_cases e:i=0
   ·subst e; rfl
   rw[jH (by omega),kU]
  rw[this]
  rfl
 obtain⟨hm,hm2⟩:=hm
 apply bY <;> intro h1
 ·have h1:m<2 ^ ids.length:=by have:=dT h1; omega
  have hml:(memb ids m).length<=7:=jM (zaF _ _ _) h7
  refine cR (zcx ids m h7 (by omega)) rfl rfl ?_
  refine lOf (σ:=Nat) (fun i=>([(0,.d (lI ids)),(3,.box 3 0),(5,.own 14),(6,.d (I m)),(7,.d (lI (memb ids m))),(8,.d (I i))],[(3,.box ([lFt t.F,lMs t.M].map AV.d)),(14,.row 4 1 (2 ^ ids.length) (rowBo (midB t.F ids m i)))])) (fun i=>i<=t.F.length) (fun i=>t.F.length - i) 0
   ⟨rfl,⟨obD [lFt t.F,lMs t.M] rfl,obR rfl (zdS fun q hq=>?_),trivial⟩,wq rfl⟩ (jF _) fun i hi=>?_
  ·unfold midB
   by_cases e:q=m
   ·rw[kH e,e,jH (Nat.lt_irrefl m),List.take_zero]; rfl
   rw[kG e]
  have hi:i<=t.F.length:=hi
  apply bY <;> intro h2
  ·have h2:i<t.F.length:=by have:=dT h2; omega
   have hf:=hj.get h2
   refine lOf (σ:=Nat) (fun k=>([(0,.d (lI ids)),(3,.box 3 0),(5,.own 14),(6,.d (I m)),(7,.d (lI (memb ids m))),(8,.d (I i)),(9,.d (.bool (partB ((memb ids m).take k) (t.F.getD i default).IDs))),(10,.d (I k))],[(3,.box ([lFt t.F,lMs t.M].map AV.d)),(14,.row 4 1 (2 ^ ids.length) (rowBo (midB t.F ids m i)))])) (fun k=>k<=(memb ids m).length) (fun k=>(memb ids m).length - k) 0
    ⟨rfl,⟨obD [lFt t.F,lMs t.M] rfl,obR rfl (dE _),trivial⟩,wq rfl⟩ (jF _) fun k hk=>?_
   have hk:k<=(memb ids m).length:=hk
   apply bY <;> intro h3
   ·have h3:k<(memb ids m).length:=by have:=dT h3; omega
    have ps:partB ((memb ids m).take (k+1)) (t.F.getD i default).IDs=(partB ((memb ids m).take k) (t.F.getD i default).IDs && (t.F.getD i default).IDs.contains ((memb ids m).getD k 0)):=by
     unfold partB
     rw[zat h3 0,List.all_append]; simp
    refine oN 16 ?_
    apply bY <;> intro h4
    ·have h4:partB ((memb ids m).take k) (t.F.getD i default).IDs=true:=h4
     refine⟨⟨rfl,by omega,by omega⟩,?_⟩
     refine⟨⟨rfl,by omega,by omega⟩,?_⟩
     refine oP (zgF (t.F.getD i default).IDs ((memb ids m).getD k 0) hf) rfl rfl ?_
     repeat first | apply sT | apply sF
     refine⟨i6,?_⟩
     refine⟨k+1,⟨rfl,⟨obD [lFt t.F,lMs t.M] rfl,obR rfl (dE _),trivial⟩,avQ rfl,avQ rfl,avQ rfl,avQ rfl,avQ rfl,avQ rfl,avQ ?_,avQ rfl,trivial⟩,h3,msr h3⟩
     rw[ps,h4,kN,<- zhX]; rfl
    have h4:partB ((memb ids m).take k) (t.F.getD i default).IDs=false:=h4
    repeat first | apply sT | apply sF
    refine⟨i6,?_⟩
    refine⟨k+1,⟨rfl,⟨obD [lFt t.F,lMs t.M] rfl,obR rfl (dE _),trivial⟩,avQ rfl,avQ rfl,avQ rfl,avQ rfl,avQ rfl,avQ rfl,avQ ?_,avQ rfl,trivial⟩,h3,msr h3⟩
    rw[ps,h4,kU]; rfl
   have h3:k=(memb ids m).length:=by have:=dF h3; omega
   subst h3
   rw[jZ]
   have hv:midB t.F ids m i ((m:Nat):Int).toNat=hasB (t.F.take i) (memb ids m):=kH rfl
   have nx:midB t.F ids m (i+1) m=(hasB (t.F.take i) (memb ids m) || partB (memb ids m) (t.F.getD i default).IDs):=by
    unfold midB
    rw[kH rfl,zoG h2]
   refine⟨⟨by omega,by omega⟩,⟨by omega,?_⟩⟩
   apply bY <;> intro h4
   ·have h4:hasB (t.F.take i) (memb ids m)=true:=by rw[<- hv]; exact h4
    repeat first | apply sT | apply sF
    refine⟨⟨by omega,by omega⟩,⟨by omega,?_⟩⟩
    refine⟨i6,?_⟩
    refine⟨i+1,⟨rfl,⟨obD [lFt t.F,lMs t.M] rfl,obR rfl (zgE (by rw[nx,h4,qW]) fun q hq e=>?_),trivial⟩,wq rfl⟩,h2,msr h2⟩
    unfold midB
    rw[kG e,kG e]
   have h4:hasB (t.F.take i) (memb ids m)=false:=by rw[<- hv]; exact h4
   repeat first | apply sT | apply sF
   refine⟨⟨by omega,by omega⟩,⟨by omega,?_⟩⟩
   refine⟨i6,?_⟩
   refine⟨i+1,⟨rfl,⟨obD [lFt t.F,lMs t.M] rfl,obR rfl (zgE (by rw[nx,h4,qY]) fun q hq e=>?_),trivial⟩,wq rfl⟩,h2,msr h2⟩
   unfold midB
   rw[kG e,kG e]
  have h2:i=t.F.length:=by have:=dF h2; omega
  subst h2
  refine⟨i6,?_⟩
  refine⟨m+1,⟨rfl,⟨obD [lFt t.F,lMs t.M] rfl,obR rfl (zdS fun q hq=>?_),trivial⟩,wq rfl⟩,⟨by omega,h1⟩,(show 2 ^ ids.length - (m+1)<2 ^ ids.length - m by omega)⟩
  unfold midB
  by_cases e:q=m
  ·rw[kH e,e,jG (Nat.lt_succ_self m),kN,jZ]
   unfold tbX
   rw[jG (by omega:0<m),kN]
  rw[kG e,show decide (q<m+1)=decide (q<m) from kT.2 (by omega)]
 have h1:m=2 ^ ids.length:=by have:=dF h1; omega
 subst h1
 refine⟨⟨_,_,_,_,rfl,zdS fun q hq=>?_⟩,trivial⟩
 rw[jG hq,kN]
abbrev jnD (j:Jns):D:=capB [lFt j.F,lMs j.M]
theorem ztK {j:Jns} (h:JnOk j) (s:List Int) (hs:s.length<=1000000):Spec PP 66 [.d (lI s),.d (jnD j)] [B (!hasB j.F s)]:=by
 refine sA Tryz.func66 ?_
 refine cR (ztJ h s hs) rfl rfl ?_
 exact r1B rfl rfl
theorem zsp {α:Type} {q:α->Bool} (l:List α):(!l.any fun s=>!q s)=l.all q:=by
 rw[kM,jY,jao,jC]
 refine forall_congr' fun x=>forall_congr' fun _=>?_
 simp
theorem zp1 {j:Jns} (h:JnOk j) (ids:List Int) (l:List (List (List Int))) (hl:0<l.length) (a b:Int) (p:List (List Int)) (nd one:Bool) (hp:p.length<=1000000) (hf:p.flatten.length<=1000000) :
  Spec PP 64 [.d (lII p),B nd,B one,.d (capB [lI ids]),.d (capB [lPP l]),.d (capB [I a]),.d (capB [I b]),.d (jnD j)] [B (shoW ids j.F (l.getD 0 []).length a b p nd one)]:=by
 refine sA Tryz.func64 ?_
 have hm:∀ i,i<p.length->(p.getD i []).length<=1000000:=fun i hi=>by
  have:=zf7 p (i+1)
  rw[zbU hi,jR] at this
  omega
 have hm':∀ s∈p,s.length<=1000000:=fun s hs=>by
  obtain⟨i,hi,rfl⟩:=kL hs
  have:=hm i hi
  rwa [hZ,kF hi] at this
 unfold shoW
 cases nd with
 | false=>
  refine sYe rfl ?_
  refine r1B rfl ?_
  rw[kH rfl]
  rw[kM,wN,k9]; omega
 | true=>
 refine sNo rfl ?_
 rw[kG (by decide)]
 refine cP (zmf ids p hp hf) rfl rfl ?_
 cases hd:divB ids p with
 | false=>
  repeat first | apply sT | apply sF
  exact r1B rfl rfl
 | true=>
 repeat first | apply sT | apply sF
 refine⟨⟨rfl,by omega,by omega⟩,?_⟩
 repeat first | apply sT | apply sF
 by_cases h1:p.length=(l.getD 0 []).length
 ·refine sYe (show (((p.length:Nat):Int)==(((l.getD 0 []).length:Nat):Int))=true from wN.2 (by omega)) ?_
  repeat first | apply sT | apply sF
  refine cP (ze5 p a b hp hm') rfl rfl ?_
  rw[jG h1,kN,kN]
  cases ht:togB a b p==one with
  | false=>
   repeat first | apply sT | apply sF
   refine sNo ht ?_
   repeat first | apply sT | apply sF
   exact r1B rfl rfl
  | true=>
  repeat first | apply sT | apply sF
  refine sYe ht ?_
  repeat first | apply sT | apply sF
  refine cP (zkZ p 66 (jnD j) (fun s=>!hasB j.F s) hp fun i hi=>ztK h _ (hm i hi)) rfl rfl ?_
  repeat first | apply sT | apply sF
  refine r1B rfl ?_
  rw[zsp,kN]
 refine sNo (show (((p.length:Nat):Int)==(((l.getD 0 []).length:Nat):Int))=false from qK.2 (by omega)) ?_
 repeat first | apply sT | apply sF
 refine r1B rfl ?_
 rw[jH h1]; rfl
theorem zcd {s:St} {ob:Nat->Option Ob}:∀ {caps:List Cap} {xs:List D},capsle s ob caps (xs.map Cap.dat)->caps.length=xs.length /\ ∀ j,j<xs.length -> ∃ c,caps[j]?=some c/\caple s ob c (.dat (getD' xs j))
 | [],[],_=>⟨rfl,fun j h=>absurd h (qM _)⟩
 | c :: cs,x :: xs,h=>⟨jI Nat.succ (zcd (xs:=xs) h.2).1,fun j hj=>by
  cases j with
  | zero=>exact⟨c,rfl,h.1⟩
  | succ j=>exact (zcd (xs:=xs) h.2).2 j (Nat.lt_of_succ_lt_succ hj)⟩
 | [],_ :: _,h=>h.elim
 | _ :: _,[],h=>h.elim
theorem avClo {s:St} {ob:Nat->Option Ob} {v:AV} {f:FuncId} {caps:List Cap} (xs:List D) (h:v = .clo f caps) (hc:capsle s ob caps (xs.map Cap.dat)):AVle s ob v (.d (cloB f xs)):=by
 subst h
 exact⟨rfl,(zcd hc).1,(zcd hc).2⟩
theorem zmK {s:St} {ob:Nat->Option Ob} {i:Nat} {cs:List AV} (xs:List D) (h1:s.ob i=some (.box cs)) (h2:allD cs=some xs) (h3:ob i=none):caple s ob (.own i) (.dat (capB xs)):=⟨h3,cs,xs,h1,h2,dE _⟩
abbrev csV (ids:List Int) (L:List (List (List Int))) (a b:Int) (j:Jns):List D:=[capB [lI ids],capB [lPP L],capB [I a],capB [I b],jnD j]
theorem zea (d:Day) {j:Jns} (h:JnOk j) (a b:Int) (v:Vdt) (hn:d.R.length<=1000000) (hT:v.T.length<=1000000/\v.T.flatten.length<=1000000) (hA:v.A.length<=1000000/\v.A.flatten.length<=1000000):Spec PP 21 [d.v,j.v,N a,N b,v.v] [.d (.int .i64 (csmE d j a b v))]:=by
 refine zb3 [11] Tryz.func21 rfl (by kernel_rfl) rfl ?_
 have hF:=h.F
 refine cP (zpZ d a b hn) rfl rfl ?_
 unfold csmE
 apply bY <;> intro h0
 ·rw[kH (by simpa using h0)]
  exact r1I rfl rfl
 have h0:parE d a b=0:=by simpa using h0
 rw[kG (fun hh=>hh h0)]
 have ok:=zly h0
 have h7:=sig7 ok
 by_cases c1:127<j.F.length
 ·rw[kH c1]
  refine sYe (jG (show (127:Int)<(j.F.length:Int) by omega)) ?_
  exact r1I rfl rfl
 rw[kG c1]
 refine sNo (jH (show ¬ (127:Int)<(j.F.length:Int) by omega)) ?_
 refine cR (zbg d hn) rfl rfl ?_
 refine cR (zdg (sigL d.R) (hasD j) (.inr ⟨_,_,_,rfl⟩)) rfl rfl ?_
 have hB:=zrK h (sigL d.R) h7
 have hLl:(bstL (prtF j.F (sigL d.R))).length<=1000000:=by
  have h1:(bstL (prtF j.F (sigL d.R))).length<=(prtF j.F (sigL d.R)).length:=zgh _
  have:=ziR j.F (sigL d.R) h7
  omega
 have hLm:∀ p∈bstL (prtF j.F (sigL d.R)),p.length<=1000000 /\ ∀ s∈p,s.length<=1000000:=fun p hp=>by
  obtain⟨h1,h2⟩:=zfH (B:=0) (zjF hp) (fun s hs=>by cases hs)
  simp at h1
  exact⟨by omega,fun s hs=>by have:=h2 s hs; omega⟩
 generalize bstL (prtF j.F (sigL d.R))=L at hB hLl hLm ⊢
 refine cR hB rfl rfl ?_
 apply bY <;> intro h1
 ·have h1:L.length=0:=by
   have:((L.length:Nat):Int)=0:=by simpa using h1
   omega
  rw[kH h1]
  exact r1I rfl rfl
 have h1:¬ L.length=0:=fun e=>by
  have:¬ ((L.length:Nat):Int)=0:=by simpa using h1
  exact this (by rw[e]; rfl)
 rw[kG h1]
 have hT':=zp1 h (sigL d.R) L (by omega) a b v.T (v.Ans != 1) true hT.1 hT.2
 have hA':=zp1 h (sigL d.R) L (by omega) a b v.A (v.Ans != 2) false hA.1 hA.2
 have e1:(v.Ans != 1)=decide (v.Ans≠1):=by rw[kM,bne_iff_ne,k9]
 have e2:(v.Ans != 2)=decide (v.Ans≠2):=by rw[kM,bne_iff_ne,k9]
 rw[<- e1,<- e2]
 generalize shoW (sigL d.R) j.F (L.getD 0 []).length a b v.T (v.Ans != 1) true=uT at hT'
 generalize shoW (sigL d.R) j.F (L.getD 0 []).length a b v.A (v.Ans != 2) false=uA at hA'
 refine kAt [(7,.roe 1 (getD' [I a])),(8,.roe 1 (getD' [I b])),(9,.box 9 0),(13,.roe 1 (getD' [lPP L])),(14,.d (cloB 64 (csV (sigL d.R) L a b j)))] [(9,.box ([I v.Ans,lII v.T,lII v.A].map AV.d))]
  ⟨rfl,⟨obD [I v.Ans,lII v.T,lII v.A] rfl,trivial⟩,zpc [I a] rfl rfl rfl rfl,zpc [I b] rfl rfl rfl rfl,avQ rfl,zpc [lPP L] rfl rfl rfl rfl,avClo (csV (sigL d.R) L a b j) rfl ⟨zmK _ rfl rfl rfl,zmK _ rfl rfl rfl,zmK _ rfl rfl rfl,zmK _ rfl rfl rfl,zmK _ rfl rfl rfl,trivial⟩,trivial⟩ ?_
 refine oN 28 ?_
 refine oRo (zgU L a b hLl hLm) rfl rfl ?_
 by_cases c2:v.Ans=(vdtR L a b).Ans
 ·refine sNo (show (v.Ans != (vdtR L a b).Ans)=false by rw[c2]; simp) ?_
  repeat first | apply sT | apply sF
  refine oP hT' rfl rfl ?_
  cases uT with
  | false=>
   repeat first | apply sT | apply sF
   rw[kH (.inr (.inl rfl))]
   exact r1I rfl rfl
  | true=>
  repeat first | apply sT | apply sF
  refine oP hA' rfl rfl ?_
  cases uA with
  | false=>
   repeat first | apply sT | apply sF
   rw[kH (.inr (.inr rfl))]
   exact r1I rfl rfl
  | true=>
  repeat first | apply sT | apply sF
  rw[kG (by rintro (hh | hh | hh); exact hh c2; cases hh; cases hh)]
  exact r1I rfl rfl
 refine sYe (show (v.Ans != (vdtR L a b).Ans)=true from bne_iff_ne.2 c2) ?_
 repeat first | apply sT | apply sF
 rw[kH (.inl c2)]
 exact r1I rfl rfl
theorem ztN {ids:List Int} {p:List (List Int)} (h:fndB ids p=true) {m:Nat} (hm:m<ids.length):(ixI ids p p.length).getD m 0=(((ixP ids p).getD m 0:Nat):Int):=by
 rw[zhU hm]
 unfold ixI
 rw[hZ,jU,kF hm,gdI hm]
 have:=kP (jC.1 h ids[m] (kJ hm))
 exact (Int.toNat_of_nonneg this).symm
def cshB (f:Nat->Bool) (ids:List Int) (n i j:Nat) (p:List (List Int)) (one:Bool):Bool:=(canR f ids p).2 && decide (p.length=n) && (((canR f ids p).1.getD i 0==(canR f ids p).1.getD j 0)==one)
theorem zkU {ids:List Int} (hr:ids.Pairwise (· < ·)) {F:List Fit} {n i j:Nat} (hi:i<ids.length) (hj:j<ids.length) (p:List (List Int)) (one:Bool) :
  shoW ids F n (ids.getD i 0) (ids.getD j 0) p true one=cshB (tbX (hasB F) ids) ids n i j p one:=by
 have he:=zug (p:=p) (q:=hasB F) (f:=tbX (hasB F) ids) hr (fun m m1 m2=>by unfold tbX; rw[jG m1,kN])
 unfold shoW cshB
 rw[kG (by decide),he]
 cases hd:divB ids p with
 | false=>rfl
 | true=>
 obtain⟨d1,d2⟩:=zh7 hr hd
 cases hh:p.all (hasB F) with
 | false=>simp
 | true=>
 rw[hd,hh] at he
 have e1:(canR (tbX (hasB F) ids) ids p).1=ixI ids p p.length:=by
  have he':=he
  unfold canR at he' ⊢
  split
  ·rfl
  rename_i h
  rw[kG h] at he'; cases he'
 have et:togB (ids.getD i 0) (ids.getD j 0) p=samI i j (ixP ids p):=by
  conv=>lhs; rw[<- ziB hr d1 d2]
  exact zpu (za3 hr) (zmk hr d1 d2) (zcm ids p) hi hj
 rw[e1,et,ztN d2 hi,ztN d2 hj]
 have es:samI i j (ixP ids p)=((((ixP ids p).getD i 0:Nat):Int)==(((ixP ids p).getD j 0:Nat):Int)):=by
  unfold samI
  rw[kM,wN,wN]; omega
 rw[es]
 simp
theorem zkT {ids:List Int} {F:List Fit} {n:Nat} {a b:Int} {p:List (List Int)} {one:Bool} (hn:0<n) (hp:p.length=0):shoW ids F n a b p true one=false:=by
 unfold shoW
 rw[kG (by decide),jH (by omega:¬ p.length=n)]
 simp
theorem zsx {ids:List Int} {l:List (List Nat)} {i j n:Nat} (hn:∀ x∈l,(setX ids x).length=n) (h0:0<n) (hl:l ≠ []) :
  ((vdtX ids l i j).T.length=0 ↔ (vdtX ids l i j).Ans=1)/\((vdtX ids l i j).A.length=0 ↔ (vdtX ids l i j).Ans=2)/\((vdtX ids l i j).T.length≠0->(vdtX ids l i j).T.length=n)/\((vdtX ids l i j).A.length≠0->(vdtX ids l i j).A.length=n):=by
 have g:∀ q:List Nat->Bool,(l.find? q=none/\l.any q=false) \/ ∃ x,l.find? q=some x/\l.any q=true/\(setX ids x).length=n:=fun q=>by
  cases hf:l.find? q with
  | none=>exact .inl ⟨rfl,by rw[zbr,hf]; rfl⟩
  | some x=>exact .inr ⟨x,rfl,by rw[zbr,hf]; rfl,hn x (List.mem_of_find?_eq_some hf)⟩
 have hne:l.any (samI i j)=true \/ (l.any fun x=>!samI i j x)=true:=by
  obtain⟨x,hx'⟩:=List.exists_mem_of_ne_nil _ hl
  cases e:samI i j x with
  | true=>exact .inl (kO.2 ⟨x,hx',e⟩)
  | false=>exact .inr (kO.2 ⟨x,hx',by rw[e]; rfl⟩)
 unfold vdtX
 dsimp only
 rcases g (samI i j) with⟨e1,a1⟩ | ⟨x1,e1,a1,n1⟩ <;> rcases g (fun x=>!samI i j x) with⟨e2,a2⟩ | ⟨x2,e2,a2,n2⟩ <;> rw[e1,e2,a1,a2]
 ·rw[a1,a2] at hne
  rcases hne with h | h <;> cases h
 ·refine⟨⟨fun _=>rfl,fun _=>rfl⟩,⟨fun h=>?_,fun h=>by cases h⟩,fun h=>absurd rfl h,fun _=>n2⟩
  have h:(setX ids x2).length=0:=h
  omega
 ·refine⟨⟨fun h=>?_,fun h=>by cases h⟩,⟨fun _=>rfl,fun _=>rfl⟩,fun _=>n1,fun h=>absurd rfl h⟩
  have h:(setX ids x1).length=0:=h
  omega
 refine⟨⟨fun h=>?_,fun h=>by cases h⟩,⟨fun h=>?_,fun h=>by cases h⟩,fun _=>n1,fun _=>n2⟩
 ·have h:(setX ids x1).length=0:=h
  omega
 have h:(setX ids x2).length=0:=h
 omega
theorem znH {ids:List Int} {x:List Nat} (hr:Rg x) (h:0<x.length):0<(setX ids x).length:=by
 have h1:=za6 hr x.length (jE _)
 have h2:=zb7 (ix:=x) (i:=0) (k:=x.length) h (jE _)
 show 0<((bitX x).map (memb ids)).length
 rw[kR]
 show 0<(bitK x x.length).length
 omega
theorem zr4 {d:Day} {j:Jns} {F:List Fit} (eF:F=j.F) {i k:Nat} (h0:parE d ((sigL d.R).getD i 0) ((sigL d.R).getD k 0)=0) (hi:i<(sigL d.R).length) (hk:k<(sigL d.R).length) (h1:¬ 127<j.F.length) {l:List (List Nat)} (hl:l=bstX (tbX (hasB F) (sigL d.R)) (sigL d.R).length) :
  (l=[] -> ∀ v,csmE d j ((sigL d.R).getD i 0) ((sigL d.R).getD k 0) v=9)/\(l ≠ [] -> ∃ n,0<n/\(∀ x∈l,(setX (sigL d.R) x).length=n) /\ ∀ v,csmE d j ((sigL d.R).getD i 0) ((sigL d.R).getD k 0) v=if v.Ans≠(vdtX (sigL d.R) l i k).Ans \/ shoW (sigL d.R) F n ((sigL d.R).getD i 0) ((sigL d.R).getD k 0) v.T (decide (v.Ans≠1)) true=false \/ shoW (sigL d.R) F n ((sigL d.R).getD i 0) ((sigL d.R).getD k 0) v.A (decide (v.Ans≠2)) false=false then 8 else 0):=by
 subst eF
 have ok:=zly h0
 have hb:bstL (prtF j.F (sigL d.R))=l.map (setX (sigL d.R)):=by rw[hl]; exact zsg _ _
 have hm:∀ x∈l,Rg x/\x.length=(sigL d.R).length:=fun x hx=>by rw[hl] at hx; exact zjl (qD.1 hx).1
 refine⟨fun e v=>?_,fun hne=>?_⟩
 ·unfold csmE
  rw[kG (fun hh=>hh h0),kG h1,kH (by rw[hb,e]; rfl)]
 have hlen:(bstL (prtF j.F (sigL d.R))).length≠0:=by
  rw[hb,kR]
  exact fun e=>hne (jaF.1 e)
 have hx:∀ x∈l,(setX (sigL d.R) x).length=((bstL (prtF j.F (sigL d.R))).getD 0 []).length:=fun x hx=>zmY (by rw[hb]; exact kK.2 ⟨x,hx,rfl⟩)
 obtain⟨x0,hx0⟩:=List.exists_mem_of_ne_nil _ hne
 refine⟨((bstL (prtF j.F (sigL d.R))).getD 0 []).length,?_,hx,fun v=>?_⟩
 ·rw[<- hx x0 hx0]
  exact znH (hm x0 hx0).1 (by rw[(hm x0 hx0).2]; omega)
 unfold csmE
 rw[kG (fun hh=>hh h0),kG h1,kG hlen]
 have ev:(vdtR (bstL (prtF j.F (sigL d.R))) ((sigL d.R).getD i 0) ((sigL d.R).getD k 0))=vdtX (sigL d.R) l i k:=by rw[hb]; exact zsw ok.nod hm hi hk
 rw[ev]
def ptot (p:List (List Int)):Nat:=(p.map fun s=>s.length+1).sum
theorem zgJ {p:List (List Int)} {i:Nat} (h:i<p.length):ptot (p.take (i+1))=ptot (p.take i)+((p.getD i []).length+1):=by
 unfold ptot
 rw[zat h [],jT,List.sum_append]; simp
theorem zlo (p:List (List Int)) (i:Nat):ptot (p.take i)<=ptot p:=by
 have:ptot p=ptot (p.take i)+ptot (p.drop i):=by
  unfold ptot
  rw[<- List.sum_append,<- jT,List.take_append_drop]
 omega
theorem zdy:∀ (p:List (List Int)),p.length<=ptot p/\p.flatten.length<=ptot p
 | []=>⟨jE _,jE _⟩
 | s :: p=>by
  have:=zdy p
  have e:ptot (s :: p)=s.length+1+ptot p:=by unfold ptot; simp
  rw[e,List.flatten_cons,jR,ja6]
  omega
theorem zfF {p:List (List Int)} {i:Nat} (h:i<p.length):(p.getD i []).length<=ptot p:=by
 have h1:=zlo p (i+1)
 rw[zgJ h] at h1
 omega
theorem zdd (p:List (List Int)) (hp:ptot p<=4000000):Spec PP 14 [.d (lII p)] [B (decide (ptot p<=60))]:=by
 have hl:=(zdy p).1
 refine sA Tryz.func14 ?_
 refine lOf (σ:=Nat) (fun i=>([(0,.d (lII p)),(3,.d (I (ptot (p.take i):Nat))),(4,.d (I i))],[])) (fun i=>i<=p.length) (fun i=>p.length - i) 0
  ⟨rfl,trivial,wq rfl⟩ (jF _) fun i hi=>?_
 have hi:i<=p.length:=hi
 have ht:=zlo p i
 apply bY <;> intro h1
 ·have h1:i<p.length:=by have:=dT h1; omega
  have hm:=zfF h1
  have hm':(p.getD ((i:Nat):Int).toNat []).length<=ptot p:=hm
  refine⟨⟨rfl,by omega,by omega⟩,?_⟩
  refine⟨i6,?_⟩
  refine⟨i6,?_⟩
  refine⟨i6,?_⟩
  refine⟨i+1,⟨rfl,trivial,avQ rfl,avI rfl ?_,avQ rfl,trivial⟩,h1,msr h1⟩
  rw[zgJ h1]
  show ((ptot (p.take i):Nat):Int)+(((p.getD i []).length:Nat):Int)+1=_
  omega
 have h1:i=p.length:=by have:=dF h1; omega
 subst h1
 refine r1B rfl ?_
 rw[jZ]
 exact kT.2 (by omega)
def tabS (j:Jns):Prop:=(∀ i,i<j.F.length->(j.F.getD i default).IDs.length<=20)/\(∀ i,i<j.M.length->(j.M.getD i default).IDs.length<=20/\(j.M.getD i default).R.length<=200)/\j.F.length<=140/\j.M.length<=140
noncomputable instance (j:Jns):Decidable (tabS j):=Classical.propDecidable _
theorem zqE {j:Jns} (h:tabS j):JnOk j:=by
 obtain⟨a,b,c,e⟩:=h
 refine⟨by omega,by omega,fun f hf=>?_,fun m hm=>?_⟩
 ·obtain⟨i,hi,rfl⟩:=kL hf
  have:=a i hi
  rw[hZ,kF hi] at this
  exact jM this (by decide)
 obtain⟨i,hi,rfl⟩:=kL hm
 have:=b i hi
 rw[hZ,kF hi] at this
 exact⟨jM this.1 (by decide),jM this.2 (by decide)⟩
theorem znm (j:Jns) (hj:j.F.length<=maxLen/\j.M.length<=maxLen):Spec PP 15 [j.v] [B (decide (tabS j))]:=by
 obtain⟨hF,hM⟩:=hj
 unfold maxLen at hF hM
 refine sA Tryz.func15 ?_
 refine lOf (σ:=Nat) (fun i=>([(1,.box 1 0),(3,.d (I i))],[(1,.box ([lFt j.F,lMs j.M].map AV.d))])) (fun i=>i<=j.F.length /\ ∀ q,q<i->(j.F.getD q default).IDs.length<=20) (fun i=>j.F.length - i) 0
  ⟨rfl,⟨obD [lFt j.F,lMs j.M] rfl,trivial⟩,wq rfl⟩ ⟨jF _,fun q hq=>by omega⟩ fun i hi=>?_
 obtain⟨hi,ha⟩:=hi
 apply bY <;> intro h1
 ·have h1:i<j.F.length:=by have:=dT h1; omega
  refine⟨⟨rfl,by omega,by omega⟩,?_⟩
  apply bY <;> intro h2
  ·have h2:20<(j.F.getD i default).IDs.length:=by have h2:(20:Int)<(((j.F.getD i default).IDs.length:Nat):Int):=dT h2; omega
   refine r1B rfl (jH fun h=>?_).symm
   have:=h.1 i h1
   omega
  have h2:(j.F.getD i default).IDs.length<=20:=by have h2:¬ (20:Int)<(((j.F.getD i default).IDs.length:Nat):Int):=dF h2; omega
  refine⟨i6,?_⟩
  refine⟨i+1,⟨rfl,⟨obD [lFt j.F,lMs j.M] rfl,trivial⟩,wq rfl⟩,⟨h1,fun q hq=>?_⟩,msr h1⟩
  by_cases e:q=i
  ·subst e; exact h2
  exact ha q (by omega)
 have h1:i=j.F.length:=by have:=dF h1; omega
 subst h1
 refine lOf (σ:=Nat) (fun i=>([(1,.box 1 0),(4,.d (I i))],[(1,.box ([lFt j.F,lMs j.M].map AV.d))])) (fun i=>i<=j.M.length /\ ∀ q,q<i->(j.M.getD q default).IDs.length<=20/\(j.M.getD q default).R.length<=200) (fun i=>j.M.length - i) 0
  ⟨rfl,⟨obD [lFt j.F,lMs j.M] rfl,trivial⟩,wq rfl⟩ ⟨jF _,fun q hq=>by omega⟩ fun i hi=>?_
 obtain⟨hi,hb⟩:=hi
 apply bY <;> intro h1
 ·have h1:i<j.M.length:=by have:=dT h1; omega
  refine⟨⟨rfl,by omega,by omega⟩,?_⟩
  apply bY <;> intro h2
  ·have h2:20<(j.M.getD i default).IDs.length:=by have h2:(20:Int)<(((j.M.getD i default).IDs.length:Nat):Int):=dT h2; omega
   repeat first | apply sT | apply sF
   refine r1B rfl (jH fun h=>?_).symm
   have:=(h.2.1 i h1).1
   omega
  have h2:(j.M.getD i default).IDs.length<=20:=by have h2:¬ (20:Int)<(((j.M.getD i default).IDs.length:Nat):Int):=dF h2; omega
  repeat first | apply sT | apply sF
  refine⟨⟨rfl,by omega,by omega⟩,?_⟩
  repeat first | apply sT | apply sF
  apply bY <;> intro h3
  ·have h3:200<(j.M.getD i default).R.length:=by have h3:(200:Int)<(((j.M.getD i default).R.length:Nat):Int):=dT h3; omega
   refine r1B rfl (jH fun h=>?_).symm
   have:=(h.2.1 i h1).2
   omega
  have h3:(j.M.getD i default).R.length<=200:=by have h3:¬ (200:Int)<(((j.M.getD i default).R.length:Nat):Int):=dF h3; omega
  refine⟨i6,?_⟩
  refine⟨i+1,⟨rfl,⟨obD [lFt j.F,lMs j.M] rfl,trivial⟩,wq rfl⟩,⟨h1,fun q hq=>?_⟩,msr h1⟩
  by_cases e:q=i
  ·subst e; exact⟨h2,h3⟩
  exact hb q (by omega)
 have h1:i=j.M.length:=by have:=dF h1; omega
 subst h1
 apply bY <;> intro h2
 ·have h2:j.F.length<=140:=by have:=dT h2; omega
  repeat first | apply sT | apply sF
  refine r1B rfl (kT.2 ⟨fun h=>⟨ha,hb,h2,by omega⟩,fun h=>?_⟩)
  have:=h.2.2.2
  omega
 have h2:¬ j.F.length<=140:=by have:=dF h2; omega
 repeat first | apply sT | apply sF
 exact r1B rfl (jH fun h=>h2 h.2.2.1).symm
theorem eb0 (x y:Nat):(!((((x:Nat):Int)==0)==(((y:Nat):Int)==0))) = !decide (x=0 ↔ y=0):=by
 rcases wK x with hx | hx <;> rcases wK y with hy | hy
 ·subst hx; subst hy; rfl
 ·subst hx
  rw[show (((y:Nat):Int)==0)=false from qK.2 (by omega),jH (by omega)]; rfl
 ·subst hy
  rw[show (((x:Nat):Int)==0)=false from qK.2 (by omega),jH (by omega)]; rfl
 rw[show (((y:Nat):Int)==0)=false from qK.2 (by omega),show (((x:Nat):Int)==0)=false from qK.2 (by omega),jG (by omega)]; rfl
theorem zmL {f:Nat->Bool} {ids:List Int} {p:List (List Int)} (h:(canR f ids p).2=true):(canR f ids p).1.length=ids.length:=by
 unfold canR at h ⊢
 split at h
 ·rename_i h1; rw[kH h1]; exact zeb _ _ _
 cases h
theorem zuu {ids:List Int} (hr:ids.Pairwise (· < ·)) {F:List Fit} {n i k:Nat} (hi:i<ids.length) (hk:k<ids.length) (n0:0<n) {p w:List (List Int)} {va wa c:Int} {one:Bool} (e1:va=wa) (hw:w.length=0 ↔ wa=c) :
  (¬ (p.length=0 ↔ w.length=0)->shoW ids F n (ids.getD i 0) (ids.getD k 0) p (decide (va≠c)) one=false)/\((p.length=0 ↔ w.length=0)->(p.length=0->shoW ids F n (ids.getD i 0) (ids.getD k 0) p (decide (va≠c)) one=true)/\(¬ p.length=0->shoW ids F n (ids.getD i 0) (ids.getD k 0) p (decide (va≠c)) one=cshB (tbX (hasB F) ids) ids n i k p one)):=by
 subst e1
 by_cases h:va=c
 ·have hw:=hw.2 h
  rw[jH (by omega:¬ va≠c)]
  have e:shoW ids F n (ids.getD i 0) (ids.getD k 0) p false one=decide (p.length=0):=kH rfl
  rw[e]
  exact⟨fun q=>jH fun z=>q ⟨fun _=>hw,fun _=>z⟩,fun q=>⟨fun z=>jG z,fun z=>absurd (q.2 hw) z⟩⟩
 have hw:¬ w.length=0:=fun z=>h (hw.1 z)
 rw[jG h]
 exact⟨fun q=>zkT n0 (jL fun z=>q ⟨fun y=>absurd y z,fun y=>absurd y hw⟩),fun q=>⟨fun z=>absurd (q.1 z) hw,fun _=>zkU hr hi hk p one⟩⟩
theorem zdf (d : Day) {j : Jns} (h : JnOk j) (a b : Int) (v : Vdt) (hn : d.R.length <= 1000000) (hT : v.T.length <= 1000000 /\ ∀ i, i < v.T.length -> (v.T.getD i []).length <= 1000000) (hA : v.A.length <= 1000000 /\ ∀ i, i < v.A.length -> (v.A.getD i []).length <= 1000000) : Spec PP 22 [d.v, j.v, N a, N b, v.v] [.d (.int .i64 (csmE d j a b v))] := by
  refine sA Tryz.func22 ?_
  have hp := zqV d a b hn
  have hF := h.F
  by_cases h0 : parE d a b = 0
  case neg =>
    have ep : prR d a b = ((0, 0), parE d a b) := by unfold prR; rw [kH h0]
    rw [ep] at hp
    have es : csmE d j a b v = parE d a b := by unfold csmE; rw [kH h0]
    rw [es]
    refine cP hp rfl rfl ?_
    refine sYe (by simpa using h0) ?_
    exact r1I rfl rfl
  obtain ⟨hd, ha, hb⟩ := zlx h0
  have ok := za4 hd
  have h7 := sig7 ok
  obtain ⟨i, hi, ei, rfl⟩ := zjk ha
  obtain ⟨k, hk, ek, rfl⟩ := zjk hb
  have ep : prR d ((sigL d.R).getD i 0) ((sigL d.R).getD k 0) = (((i : Int), (k : Int)), 0) := by unfold prR; rw [kG (fun hh => hh h0), ei, ek]
  rw [ep] at hp
  refine cP hp rfl rfl ?_
  refine sF ?_
  by_cases c1 : 127 < j.F.length
  · have es : csmE d j ((sigL d.R).getD i 0) ((sigL d.R).getD k 0) v = 2 := by unfold csmE; rw [kG (fun hh => hh h0), kH c1]
    rw [es]
    refine sYe (jG (show (127 : Int) < (j.F.length : Int) by omega)) ?_
    exact r1I rfl rfl
  refine sNo (jH (show ¬ (127 : Int) < (j.F.length : Int) by omega)) ?_
  have hR := zr4 (F := j.F) rfl h0 hi hk c1 rfl
  have hbR : Rgs (bstX (tbX (hasB j.F) (sigL d.R)) (sigL d.R).length) := fun x hx => zmr h7 x (qD.1 hx).1
  have hbl : (bstX (tbX (hasB j.F) (sigL d.R)) (sigL d.R).length).length <= 1000000 := jM (zqk _ _) (zms h7)
  have hbx : ∀ x ∈ bstX (tbX (hasB j.F) (sigL d.R)) (sigL d.R).length, i < x.length /\ k < x.length := fun x hx => by
    have := (zjl (qD.1 hx).1).2
    omega
  have hbest := zq0 (tbX (hasB j.F) (sigL d.R)) _ h7
  generalize bstX (tbX (hasB j.F) (sigL d.R)) (sigL d.R).length = l at hbR hbl hbx hbest hR
  refine cR (zeY d hn) rfl rfl ?_
  refine cR (zjY (sigL d.R) h h7) rfl rfl ?_
  refine cR hbest rfl rfl ?_
  apply bY <;> intro h1
  · have h1 : l.length = 0 := by
      have h1 : ((l.length : Nat) : Int) = 0 := by simpa using h1
      omega
    rw [hR.1 (jaF.1 h1) v]
    exact r1I rfl rfl
  have hne : l ≠ [] := fun e => by
    have h1 : ¬ ((l.length : Nat) : Int) = 0 := by simpa using h1
    rw [e] at h1; exact h1 rfl
  obtain ⟨n, n0, hx, hv⟩ := hR.2 hne
  rw [hv v]
  obtain ⟨wT, wA, wTn, wAn⟩ := zsx (i := i) (j := k) hx n0 hne
  refine cR (zk7 (sigL d.R) l i k h7 hbR hbl hne hbx) rfl rfl ?_
  generalize vdtX (sigL d.R) l i k = W at wT wA wTn wAn ⊢
  clear hR hv hx
  have qT := fun e => zuu (F := j.F) (p := v.T) (one := true) ok.lt hi hk n0 (e : v.Ans = W.Ans) wT
  have qA := fun e => zuu (F := j.F) (p := v.A) (one := false) ok.lt hi hk n0 (e : v.Ans = W.Ans) wA
  generalize shoW (sigL d.R) j.F n ((sigL d.R).getD i 0) ((sigL d.R).getD k 0) v.T (decide (v.Ans ≠ 1)) true = uT at qT ⊢
  generalize shoW (sigL d.R) j.F n ((sigL d.R).getD i 0) ((sigL d.R).getD k 0) v.A (decide (v.Ans ≠ 2)) false = uA at qA ⊢
  by_cases c2 : v.Ans = W.Ans
  case neg =>
    refine sYe (show (v.Ans != W.Ans) = true from bne_iff_ne.2 c2) ?_
    repeat first | apply sT | apply sF
    rw [kH (.inl c2)]
    exact r1I rfl rfl
  refine sNo (show (v.Ans != W.Ans) = false by rw [c2]; simp) ?_
  repeat first | apply sT | apply sF
  by_cases c3 : (v.T.length = 0 ↔ W.T.length = 0)
  case neg =>
    refine sYe (by rw [eb0, jH c3]; rfl) ?_
    repeat first | apply sT | apply sF
    rw [kH (.inr (.inl ((qT c2).1 c3)))]
    exact r1I rfl rfl
  refine sNo (by rw [eb0, jG c3]; rfl) ?_
  repeat first | apply sT | apply sF
  by_cases c4 : (v.A.length = 0 ↔ W.A.length = 0)
  case neg =>
    refine sYe (by rw [eb0, jH c4]; rfl) ?_
    repeat first | apply sT | apply sF
    rw [kH (.inr (.inr ((qA c2).1 c4)))]
    exact r1I rfl rfl
  refine sNo (by rw [eb0, jG c4]; rfl) ?_
  repeat first | apply sT | apply sF
  have fT := (qT c2).2 c3
  have fA := (qA c2).2 c4
  clear qT qA
  unfold cshB at fT fA
  have gT := zpG (tbX (hasB j.F) (sigL d.R)) (sigL d.R) v.T ok.lt h7 hT.1 hT.2
  have gA := zpG (tbX (hasB j.F) (sigL d.R)) (sigL d.R) v.A ok.lt h7 hA.1 hA.2
  have lT := zmL (f := tbX (hasB j.F) (sigL d.R)) (ids := sigL d.R) (p := v.T)
  have lA := zmL (f := tbX (hasB j.F) (sigL d.R)) (ids := sigL d.R) (p := v.A)
  generalize canR (tbX (hasB j.F) (sigL d.R)) (sigL d.R) v.T = cT at fT gT lT
  generalize canR (tbX (hasB j.F) (sigL d.R)) (sigL d.R) v.A = cA at fA gA lA
  have badT : uT = false -> (if v.Ans ≠ W.Ans \/ uT = false \/ uA = false then (8 : Int) else 0) = 8 := fun e => kH (.inr (.inl e))
  have badA : uA = false -> (if v.Ans ≠ W.Ans \/ uT = false \/ uA = false then (8 : Int) else 0) = 8 := fun e => kH (.inr (.inr e))
  have good : uT = true -> uA = true -> (if v.Ans ≠ W.Ans \/ uT = false \/ uA = false then (8 : Int) else 0) = 0 := fun e1 e2 => kG (by
    rw [e1, e2]
    rintro (hh | hh | hh)
    · exact hh c2
    · cases hh
    cases hh)
  generalize (if v.Ans ≠ W.Ans \/ uT = false \/ uA = false then (8 : Int) else 0) = res at badT badA good ⊢
  by_cases zT : v.T.length = 0
  all_goals first
    | (have st := fT.1 zT
       refine sNo (jH (show ¬ (0 : Int) < ((v.T.length : Nat) : Int) by omega)) ?_)
    | (have st' := fT.2 zT
       refine sYe (jG (show (0 : Int) < ((v.T.length : Nat) : Int) by omega)) ?_
       refine cR gT rfl rfl ?_
       refine oN 24 ?_
       by_cases y1 : cT.2 = true
       case neg =>
         have y1 : cT.2 = false := kW.2 y1
         refine sYe (show (!cT.2) = true by rw [y1]; rfl) ?_
         repeat first | apply sT | apply sF
         rw [badT (by rw [st', y1]; rfl)]
         exact r1I rfl rfl
       refine sNo (show (!cT.2) = false by rw [y1]; rfl) ?_
       repeat first | apply sT | apply sF
       have wl := wTn (fun e => zT (c3.2 e))
       by_cases y2 : v.T.length = n
       case neg =>
         refine sYe (show (((v.T.length : Nat) : Int) != ((W.T.length : Nat) : Int)) = true from bne_iff_ne.2 (by omega)) ?_
         repeat first | apply sT | apply sF
         rw [badT (by rw [st', jH y2]; simp)]
         exact r1I rfl rfl
       refine sNo (show (((v.T.length : Nat) : Int) != ((W.T.length : Nat) : Int)) = false by rw [y2, wl]; simp) ?_
       repeat first | apply sT | apply sF
       have ll := lT y1
       refine ⟨by decide, ?_⟩
       refine ⟨⟨rfl, (by show (0 : Int) <= ((i : Nat) : Int); omega), by show ((i : Nat) : Int) < ((cT.1.length : Nat) : Int); omega⟩, ?_⟩
       refine ⟨by decide, ?_⟩
       refine ⟨⟨rfl, (by show (0 : Int) <= ((k : Nat) : Int); omega), by show ((k : Nat) : Int) < ((cT.1.length : Nat) : Int); omega⟩, ?_⟩
       rw [y1, jG y2, kN, kN] at st'
       repeat first | apply sT | apply sF
       by_cases y3 : cT.1.getD i 0 = cT.1.getD k 0
       case neg =>
         refine sYe (show (cT.1.getD i 0 != cT.1.getD k 0) = true from bne_iff_ne.2 y3) ?_
         rw [badT (by rw [st', qK.2 y3]; rfl)]
         exact r1I rfl rfl
       refine sNo (show (cT.1.getD i 0 != cT.1.getD k 0) = false by rw [y3]; simp) ?_
       repeat first | apply sT | apply sF
       have st : uT = true := by rw [st', wN.2 y3]; rfl)
  all_goals
    by_cases zA : v.A.length = 0
    all_goals first
      | (have su := fA.1 zA
         refine sNo (jH (show ¬ (0 : Int) < ((v.A.length : Nat) : Int) by omega)) ?_)
      | (have su' := fA.2 zA
         refine sYe (jG (show (0 : Int) < ((v.A.length : Nat) : Int) by omega)) ?_
         refine cR gA rfl rfl ?_
         refine oN 24 ?_
         by_cases y1 : cA.2 = true
         case neg =>
           have y1 : cA.2 = false := kW.2 y1
           refine sYe (show (!cA.2) = true by rw [y1]; rfl) ?_
           repeat first | apply sT | apply sF
           rw [badA (by rw [su', y1]; rfl)]
           exact r1I rfl rfl
         refine sNo (show (!cA.2) = false by rw [y1]; rfl) ?_
         repeat first | apply sT | apply sF
         have wl := wAn (fun e => zA (c4.2 e))
         by_cases y2 : v.A.length = n
         case neg =>
           refine sYe (show (((v.A.length : Nat) : Int) != ((W.A.length : Nat) : Int)) = true from bne_iff_ne.2 (by omega)) ?_
           repeat first | apply sT | apply sF
           rw [badA (by rw [su', jH y2]; simp)]
           exact r1I rfl rfl
         refine sNo (show (((v.A.length : Nat) : Int) != ((W.A.length : Nat) : Int)) = false by rw [y2, wl]; simp) ?_
         repeat first | apply sT | apply sF
         have ll := lA y1
         refine ⟨by decide, ?_⟩
         refine ⟨⟨rfl, (by show (0 : Int) <= ((i : Nat) : Int); omega), by show ((i : Nat) : Int) < ((cA.1.length : Nat) : Int); omega⟩, ?_⟩
         refine ⟨by decide, ?_⟩
         refine ⟨⟨rfl, (by show (0 : Int) <= ((k : Nat) : Int); omega), by show ((k : Nat) : Int) < ((cA.1.length : Nat) : Int); omega⟩, ?_⟩
         rw [y1, jG y2, kN, kN] at su'
         repeat first | apply sT | apply sF
         by_cases y3 : cA.1.getD i 0 = cA.1.getD k 0
         case pos =>
           refine sYe (show (cA.1.getD i 0 == cA.1.getD k 0) = true from wN.2 y3) ?_
           rw [badA (by rw [su', wN.2 y3]; rfl)]
           exact r1I rfl rfl
         refine sNo (show (cA.1.getD i 0 == cA.1.getD k 0) = false from qK.2 y3) ?_
         repeat first | apply sT | apply sF
         have su : uA = true := by rw [su', qK.2 y3]; rfl)
    all_goals
      rw [good st su]
      exact r1I rfl rfl
theorem zpv (d:Day):JnOk ⟨(tabR d).1,(tabR d).2.1⟩:=⟨(zpw d).1,(zpw d).2,fun f hf=>zkK hf,fun m hm=>zkJ hm⟩
theorem zlb (d:Day) (hn:d.R.length<=1000000):Spec PP 20 [d.v] [.agg [lFt (tabR d).1,lMs (tabR d).2.1,I (tabR d).2.2]]:=by
 have:=znV d hn
 rwa [zsK] at this
theorem s_JoinCheckVerdicts (d:Day) (j:Jns) (a b:Int) (v:Vdt) (hj:j.F.length<=maxLen/\j.M.length<=maxLen) (hv:ptot v.T<=4000000/\ptot v.A<=4000000):Spec PP 5 [d.v,j.v,N a,N b,v.v] [B true]:=by
 refine sA Tryz.func5 ?_
 refine cP zqq rfl rfl ?_
 refine cP (zsz d) rfl rfl ?_
 apply bY <;> intro h0
 ·repeat first | apply sT | apply sF
  exact r1B rfl rfl
 have hf:few7 d:=by simpa using h0
 have hn:=zt7 hf
 repeat first | apply sT | apply sF
 refine cP (znm j hj) rfl rfl ?_
 repeat first | apply sT | apply sF
 apply bY <;> intro h1
 ·repeat first | apply sT | apply sF
  exact r1B rfl rfl
 have h1:tabS j:=by simpa using h1
 repeat first | apply sT | apply sF
 refine cP (zdd v.T hv.1) rfl rfl ?_
 repeat first | apply sT | apply sF
 apply bY <;> intro h2
 ·repeat first | apply sT | apply sF
  exact r1B rfl rfl
 have h2:ptot v.T<=60:=by simpa using h2
 repeat first | apply sT | apply sF
 refine cP (zdd v.A hv.2) rfl rfl ?_
 repeat first | apply sT | apply sF
 apply bY <;> intro h3
 ·repeat first | apply sT | apply sF
  exact r1B rfl rfl
 have h3:ptot v.A<=60:=by simpa using h3
 have ok:=zqE h1
 have pT:=zdy v.T
 have pA:=zdy v.A
 have q1:v.T.length<=1000000/\v.T.flatten.length<=1000000:=by omega
 have q2:v.A.length<=1000000/\v.A.flatten.length<=1000000:=by omega
 have r1:v.T.length<=1000000 /\ ∀ i,i<v.T.length->(v.T.getD i []).length<=1000000:=⟨by omega,fun i hi=>by have:=zfF hi; omega⟩
 have r2:v.A.length<=1000000 /\ ∀ i,i<v.A.length->(v.A.getD i []).length<=1000000:=⟨by omega,fun i hi=>by have:=zfF hi; omega⟩
 have g1:=zea d ok a b v (by omega) q1 q2
 have g2:=zdf d ok a b v (by omega) r1 r2
 have g3:=zea d (zpv d) a b v (by omega) q1 q2
 have g4:=zdf d (zpv d) a b v (by omega) r1 r2
 generalize csmE d j a b v=x1 at g1 g2
 generalize csmE d ⟨(tabR d).1,(tabR d).2.1⟩ a b v=x2 at g3 g4
 have g5:=zlb d (by omega)
 refine cR g5 rfl rfl ?_
 refine oN 32 ?_
 repeat first | apply sT | apply sF
 refine oP g1 rfl rfl ?_
 refine oP g2 rfl rfl ?_
 repeat first | apply sT | apply sF
 refine sYe (by simp) ?_
 repeat first | apply sT | apply sF
 refine oP g3 rfl rfl ?_
 refine oP g4 rfl rfl ?_
 repeat first | apply sT | apply sF
 exact r1B rfl (by simp)
end Go.Pg
