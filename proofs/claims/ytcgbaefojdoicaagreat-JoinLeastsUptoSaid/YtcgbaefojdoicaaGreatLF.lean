/- Texts joined and shortened by program. -/
import Derived.Test.YtcgbaefojdoicaaGreatLE
import Derived.Test.YtcgbaefojdoicaaGreatLA
import Derived.Test.YtcgbaefojdoicaaGreatLD
import Derived.Test.YtcgbaefojdoicaaGreatLC
set_option maxHeartbeats 4000000
set_option linter.all false
namespace Go.Pg
open Go.Proofs Go.RowKit
theorem fitG {α:Type} [Inhabited α] {k:Nat} {sh:Nat->Sh} {at_:α->Nat->D} {x:D} (H:∀ g:Nat->D,(∀ j,j<k->Fits (sh j) (g j)) -> ∃ a:α,∀ j,j<k->D.eqv (g j) (at_ a j)) (h:Fits (.sl k sh) x):∃ l:List α,l.length<=maxLen/\D.eqv x (.slc k l.length fun i=>at_ (l.getD i default)):=by
 obtain⟨n,f,rfl,hn,hf⟩:=h
 have q:∀ i,i<n -> ∃ a:α,∀ j,j<k->D.eqv (f i j) (at_ a j):=fun i hi=>H (f i) (hf i hi)
 refine⟨(List.range n).map fun i=>if h:i<n then Classical.choose (q i h) else default,by simpa using hn,by simp,.inr ⟨rfl,fun i hi j hj=>?_⟩⟩
 have e:(((List.range n).map fun i=>if h:i<n then Classical.choose (q i h) else default).getD i default)=Classical.choose (q i hi):=by
  rw[hZ,jU,qW hi]
  show (if h:i<n then Classical.choose (q i h) else default)=_
  rw[dif_pos hi]
 dsimp only
 rw[e]
 exact jas (q i hi) j hj
theorem zqM {x:D} (h:Fits (shI 1) x):∃ l:List Int,D.eqv x (lI l):=fitI (α:=Int) (at_:=fun a _=>I a) (fun g=>g 0) (fun g j hj=>by
 match j,hj with
 | 0,_=>rfl) h
abbrev shII:Sh:=.sl 1 fun j=>shSl.getD' [shI 1] j
theorem fitII {x:D} (h:Fits shII x):∃ l:List (List Int),l.length<=maxLen/\D.eqv x (lII l):=fitG (α:=List Int) (at_:=fun a _=>lI a) (fun g hg=>by
 obtain⟨l,hl⟩:=zqM (hg 0 (by decide))
 refine⟨l,fun j hj=>?_⟩
 match j,hj with
 | 0,_=>exact hl) h
theorem rep_lII {w:World} {ok:Nat->Prop} {x:D} {v:Value} (hr:Rep1 w ok (.d x) v) (h:All2 Fits [shII] [x]):∃ l:List (List Int),Rep1 w ok (.d (lII l)) v:=by
 cases h with
 | cons h _=>
 obtain⟨l,-,e⟩:=fitII h
 exact⟨l,Rep.eqv hr e⟩
structure Jns where
  F:List Fit
  M:List Mis
abbrev Jns.v (j:Jns):V1:=.agg [lFt j.F,lMs j.M]
abbrev shJns:List Sh:=[.sl 3 fun j=>shSl.getD' [shI 1,.int .i64,.int .i64] j,.sl 2 fun j=>shSl.getD' [shI 1,shI 3] j]
theorem rep_Jns {w:World} {ok:Nat->Prop} {xs:List D} {v:Value} (hr:Rep1 w ok (.agg xs) v) (h:All2 Fits shJns xs):∃ d:Jns,(d.F.length<=maxLen/\d.M.length<=maxLen)/\Rep1 w ok d.v v:=by
 obtain⟨vs,e,hv⟩:=hr
 cases h with | cons h0 h=>
 cases h with | cons h1 h=>
 cases h
 obtain⟨F,bF,eF⟩:=fitG (α:=Fit) (at_:=Fit.at) (fun g hg=>by
  obtain⟨l,hl⟩:=zqM (hg 0 (by decide))
  obtain⟨a,-,ha⟩:=hg 1 (by decide)
  obtain⟨b,-,hb⟩:=hg 2 (by decide)
  refine⟨⟨l,⟨a,b⟩⟩,fun j hj=>?_⟩
  match j,hj with
  | 0,_=>exact hl
  | 1,_=>rw[ha]; exact⟨rfl,rfl⟩
  | 2,_=>rw[hb]; exact⟨rfl,rfl⟩) h0
 obtain⟨M,bM,eM⟩:=fitG (α:=Mis) (at_:=Mis.at) (fun g hg=>by
  obtain⟨l,hl⟩:=zqM (hg 0 (by decide))
  obtain⟨r,hr⟩:=fitI (α:=Rsn) (at_:=Rsn.at) (fun g=>⟨⟨g 0,g 1⟩,g 2⟩) (fun g j hj=>by
   match j,hj with
   | 0,_=>rfl
   | 1,_=>rfl
   | 2,_=>rfl) (hg 1 (by decide))
  refine⟨⟨l,r⟩,fun j hj=>?_⟩
  match j,hj with
  | 0,_=>exact hl
  | 1,_=>exact hr) h1
 exact⟨⟨F,M⟩,⟨bF,bM⟩,vs,e,rep_aggE hv ⟨eF,eM,trivial⟩⟩
abbrev shVdt:List Sh:=[.int .i64,shII,shII]
theorem rep_Vdt {w:World} {ok:Nat->Prop} {xs:List D} {v:Value} (hr:Rep1 w ok (.agg xs) v) (h:All2 Fits shVdt xs):∃ d:Vdt,Rep1 w ok d.v v:=by
 obtain⟨vs,e,hv⟩:=hr
 cases h with | cons h0 h=>
 cases h with | cons h1 h=>
 cases h with | cons h2 h=>
 cases h
 obtain⟨n0,-,rfl⟩:=h0
 obtain⟨T,-,eT⟩:=fitII h1
 obtain⟨A,-,eA⟩:=fitII h2
 exact⟨⟨n0,T,A⟩,vs,e,rep_aggE hv ⟨⟨rfl,rfl⟩,eT,eA,trivial⟩⟩
end Go.Pg
set_option maxRecDepth 100000
namespace Go.Pg
open Go.Proofs Go.RowKit Go.Sort Go.Shelf
theorem zgV (ids s:List Int):∀ i j,(bitA ids s i).testBit j=(decide (j<i) && s.contains (ids.getD j 0))
 | 0,j=>by show (0:Nat).testBit j=_; simp
 | i+1,j=>by
  have ih:=zgV ids s i
  rw[zcy]
  by_cases e:s.contains (ids.getD i 0)=true
  ·rw[kH e,zgT,ih]
   by_cases e2:i=j
   ·subst e2; rw[e,jG (rfl:i=i),jG (Nat.lt_succ_self i),kR]; rfl
   rw[jH e2,jah]
   congr 1
   exact kT.2 (by omega)
  rw[kG e,ih]
  by_cases e2:i=j
  ·subst e2
   rw[Bool.not_eq_true] at e
   rw[e,kQ,kQ]
  congr 1
  exact kT.2 (by omega)
theorem zbS (ids s:List Int) (j:Nat):(bitS ids s).testBit j=(decide (j<ids.length) && s.contains (ids.getD j 0)):=zgV ids s ids.length j
theorem zq7 (ids s:List Int):bitS ids s<2 ^ ids.length:=Nat.lt_pow_two_of_testBit _ fun j hj=>by
 rw[zbS,jH (by omega),kZ]
theorem zfJ {l:List Int} {i:Nat} (h:i<l.length):l.getD i 0∈l:=by rw[hZ,kF h]; exact kM h
def hasB (F:List Fit) (l:List Int):Bool:=F.any fun f=>partB l f.IDs
theorem zoV {l:List Int} {x:Int} (h:l.contains x=true):∃ i:Nat,i<l.length/\idxL (· == x) l=(i:Int)/\l.getD i 0=x:=by
 rcases idxL_cases (· == x) l 0 with⟨e,h1⟩ | ⟨i,hi,e,h1,_⟩
 ·have:=zhz l x
  rw[e,h] at this
  cases this
 exact⟨i,hi,e,eq_of_beq h1⟩
abbrev prtF (F:List Fit) (ids:List Int):List (List (List Int)):=prt (hasB F) ids []
def fewL (L:List (List (List Int))):Int × Int:=if (bstL L).length=0 then (0,9) else ((((bstL L).getD 0 []).length:Nat),0)
theorem zqN (L:List (List (List Int))):fewL L=if fwP L<0 then (0,9) else (fwP L,0):=by
 have e2:bstL L=fltP (fwP L) L:=zs0
 unfold fewL
 rw[e2]
 by_cases hn:fwP L<0
 ·have:=(zlD (l:=L)).1 hn
  rw[kH hn,this]; rfl
 have hne:fltP (fwP L) L ≠ []:=fun hh=>by
  have:=ziR hh
  rw[this] at hn
  exact hn (by show (-1:Int)<0; decide)
 have h0:0<(fltP (fwP L) L).length:=jaP.2 hne
 rw[kG hn,kG (by omega),zgF hne]
def leaR (ids:List Int) (j:Jns):Int × Int:=if 7<ids.length \/ 127<j.F.length then (0,2) else if risB ids=false then (0,1) else fewL (prtF j.F ids)
theorem zqk {ids:List Int} {j:Jns} (h1:¬ (7<ids.length \/ 127<j.F.length)) (h2:¬ risB ids=false):leaR ids j=if fewN (gwX (tbX (hasB j.F) ids) ids.length [])<0 then (0,9) else (fewN (gwX (tbX (hasB j.F) ids) ids.length []),0):=by
 unfold leaR
 rw[kG h1,kG h2,zqN,show prtF j.F ids=_ from zm9 (hasB j.F) ids,fw_eq]
theorem s_EqI (a b:List Int) (hn:a.length<=1000000):Spec PP 118 [.d (lI a),.d (lI b)] [B (decide (a=b))]:=by
 refine sA Tryz.func118 ?_
 apply bY <;> intro h1
 ·have h1:a.length≠b.length:=by
   have:¬ (a.length:Int)=b.length:=by simpa using h1
   omega
  refine r1B rfl ?_
  exact (jH fun e=>h1 (by rw[e])).symm
 have h1:a.length=b.length:=by
  have:(a.length:Int)=b.length:=by simpa using h1
  omega
 refine LoopOb.of (σ:=Nat) (fun i=>([(0,.d (lI a)),(1,.d (lI b)),(12,.d (I a.length)),(13,.d (I i))],[])) (fun i=>i<=a.length/\a.take i=b.take i) (fun i=>a.length - i) 0 ⟨rfl,trivial,wq rfl⟩ ⟨jF _,rfl⟩ fun i hi=>?_
 obtain⟨i1,i2⟩:=hi
 apply bY <;> intro h2
 ·have h2:i<a.length:=by have:=dT h2; omega
  refine oL (List.range 9) (FzOb.no ?_)
  refine⟨⟨rfl,by omega,by omega⟩,?_⟩
  refine⟨⟨rfl,by omega,by omega⟩,?_⟩
  apply bY <;> intro h3
  ·have h3:¬ a.getD i 0=b.getD i 0:=by simpa using h3
   refine r1B rfl ?_
   refine (jH fun e=>?_).symm
   subst e
   exact h3 rfl
  have h3:a.getD i 0=b.getD i 0:=by simpa using h3
  refine⟨i6,?_⟩
  refine⟨i+1,⟨rfl,trivial,wq rfl⟩,⟨h2,?_⟩,msr h2⟩
  rw[zaG h2 0,zaG (by omega) 0,i2,h3]
 have h2:i=a.length:=by have:=dF h2; omega
 subst h2
 refine r1B rfl ?_
 rw[jZ,h1,jZ] at i2
 exact (jG i2).symm
theorem zke (l:List (List Int)) (g:FuncId) (c0:D) (p:List Int->Bool) (hn:l.length<=1000000) (hp:∀ i,i<l.length->Spec PP g [.d (lI (l.getD i [])),.d c0] [B (p (l.getD i []))]):Spec PP 119 [.d (lII l),.d (cloB g [c0])] [N (idxL p l)]:=by
 refine sA Tryz.func119 ?_
 refine LoopOb.of (σ:=Nat) (fun i=>([(0,.d (lII l)),(1,.d (cloB g [c0])),(6,.d (lII l)),(7,.d (I l.length)),(8,.d (I i))],[])) (fun i=>i<=l.length /\ ∀ j,j<i->p (l.getD j [])=false) (fun i=>l.length - i) 0
  ⟨rfl,trivial,wq rfl⟩ z0L fun i hi=>?_
 obtain⟨hi,ha⟩:=hi
 apply bY <;> intro h1
 ·have h1:i<l.length:=by have:=dT h1; omega
  refine⟨⟨rfl,by omega,by omega⟩,?_⟩
  refine cP (hp i h1) rfl rfl ?_
  apply bY <;> intro h2
  ·exact r1I rfl (zai [] h1 h2 ha).symm
  refine⟨i6,?_⟩
  refine⟨i+1,⟨rfl,trivial,wq rfl⟩,⟨h1,fun j hj=>?_⟩,(msr (by omega))⟩
  by_cases e:j=i
  ·subst e; exact h2
  exact ha j (by omega)
 have h1:i=l.length:=by have:=dF h1; omega
 subst h1
 exact r1I rfl (zal [] ha).symm
theorem zkf (l:List (List Int)) (g:FuncId) (c0:D) (p:List Int->Bool) (hn:l.length<=1000000) (hp:∀ i,i<l.length->Spec PP g [.d (lI (l.getD i [])),.d c0] [B (p (l.getD i []))]):Spec PP 54 [.d (lII l),.d (cloB g [c0])] [B (l.any p)]:=by
 refine sA Tryz.func54 ?_
 refine cP (zke l g c0 p hn hp) rfl rfl ?_
 refine r1B rfl ?_
 rw[kN,qD]
 exact zbc p l []
theorem zpD (l:List Fit) (g:FuncId) (c0:D) (p:Fit->Bool) (hn:l.length<=1000000) (hp:∀ i,i<l.length->Spec PP g [(l.getD i default).v,.d c0] [B (p (l.getD i default))]):Spec PP 75 [.d (lFt l),.d (cloB g [c0])] [B (l.any p)]:=by
 have hx:Spec PP 133 [.d (lFt l),.d (cloB g [c0])] [N (idxL p l)]:=by
  refine sA Tryz.func133 ?_
  refine LoopOb.of (σ:=Nat) (fun i=>([(0,.d (lFt l)),(1,.d (cloB g [c0])),(6,.d (lFt l)),(7,.d (I l.length)),(8,.d (I i))],[])) (fun i=>i<=l.length /\ ∀ j,j<i->p (l.getD j default)=false) (fun i=>l.length - i) 0
   ⟨rfl,trivial,wq rfl⟩ z0L fun i hi=>?_
  obtain⟨hi,ha⟩:=hi
  apply bY <;> intro h1
  ·have h1:i<l.length:=by have:=dT h1; omega
   refine⟨⟨rfl,by omega,by omega⟩,?_⟩
   refine cP (hp i h1) rfl rfl ?_
   apply bY <;> intro h2
   ·exact r1I rfl (zai default h1 h2 ha).symm
   refine⟨i6,?_⟩
   refine⟨i+1,⟨rfl,trivial,wq rfl⟩,⟨h1,fun j hj=>?_⟩,(msr (by omega))⟩
   by_cases e:j=i
   ·subst e; exact h2
   exact ha j (by omega)
  have h1:i=l.length:=by have:=dF h1; omega
  subst h1
  exact r1I rfl (zal default ha).symm
 refine sA Tryz.func75 ?_
 refine cP hx rfl rfl ?_
 refine r1B rfl ?_
 rw[kN,qD]
 exact zbc p l default
theorem zo8 {a b:List Int} {n:Nat} {g:Nat->Nat->D} (hn:n=a.length) (hg:∀ i,i<b.length->g i 0=I (b.getD i 0)):D.eqv (.slc 1 (n+b.length) (appRow n (rowI a) g)) (.slc 1 (a++b).length (rowI (a++b))):=by
 subst hn
 refine⟨by simp,.inr ⟨rfl,fun i hi j hj=>?_⟩⟩
 obtain rfl:j=0:=by omega
 show D.eqv (appRow a.length (rowI a) g i 0) (I ((a++b).getD i 0))
 unfold appRow
 by_cases h:i<a.length
 ·rw[kH h,hZ,jJ h,<- hZ]
  exact dE _
 rw[kG h,hg _ (by have hi:i<a.length+b.length:=hi; omega),hZ (l:=a++b),jK (by omega),<- hZ]
 exact dE _
theorem zbM {p:List (List Int)} {i:Nat} (h:i<p.length):(p.take (i+1)).flatten=(p.take i).flatten++p.getD i []:=by
 rw[zaG h [],List.flatten_append]; simp
theorem zfL (p:List (List Int)) (i:Nat):(p.take i).flatten.length<=p.flatten.length:=by
 have:p.flatten.length=(p.take i).flatten.length+(p.drop i).flatten.length:=by rw[<- jR,<- List.flatten_append,List.take_append_drop]
 omega
theorem zll (ids:List Int) (p:List (List Int)) (hp:p.length<=1000000) (hf:p.flatten.length<=1000000):Spec PP 52 [.d (lI ids),.d (lII p)] [B (divB ids p)]:=by
 refine sA Tryz.func52 ?_
 refine LoopOb.of (σ:=Nat) (fun i=>([(0,.d (lI ids)),(1,.d (lII p)),(5,.own 5),(8,.d (lII p)),(9,.d (I p.length)),(10,.d (I i))],[(5,.row 3 1 (p.take i).flatten.length (rowI (p.take i).flatten))])) (fun i=>i<=p.length /\ ∀ j,j<i->setB (p.getD j [])=true/\fstB p j=true) (fun i=>p.length - i) 0
  ⟨rfl,⟨obR rfl ⟨rfl,.inl rfl⟩,trivial⟩,wq rfl⟩ z0L fun i hi=>?_
 obtain⟨hi,ha⟩:=hi
 have hl:=zfL p i
 apply bY <;> intro h1
 ·have h1:i<p.length:=by have:=dT h1; omega
  have hs1:(p.getD i []).length<=1000000:=by
   have:=zfL p (i+1)
   rw[zbM h1,jR] at this
   omega
  have no:¬ (setB (p.getD i [])=true/\fstB p i=true)->divB ids p=false:=fun h=>by
   unfold divB
   rw[Bool.and_eq_false_iff]; left
   rw[qK]
   intro hh
   have:=jC.1 hh i (kI.2 h1)
   rw[jP] at this
   exact h this
  refine⟨⟨rfl,by omega,by omega⟩,?_⟩
  refine oL (List.range 20) (FzOb.no ?_)
  refine oP (zfF (p.getD i []) hs1) rfl rfl ?_
  apply bY <;> intro h2
  ·have h2:setB (p.getD i [])=false:=by simpa using h2
   repeat first | apply sT | apply sF
   exact r1B rfl (no fun h=>by rw[h2] at h; cases h.1).symm
  have h2:setB (p.getD i [])=true:=by simpa using h2
  have l2:=(zbF h2).2
  have l2':0<(p.getD ((i:Nat):Int).toNat []).length:=l2
  repeat first | apply sT | apply sF
  have cont:fstB p i=true->(∀ j,j<i+1->setB (p.getD j [])=true/\fstB p j=true):=fun h j hj=>by
   by_cases e:j=i
   ·subst e; exact⟨h2,h⟩
   exact ha j (by omega)
  have mx:(p.take i).flatten.length+(p.getD i []).length<=1000000:=by
   have:=zfL p (i+1)
   rw[zbM h1,jR] at this
   omega
  have mx':(p.take i).flatten.length+(p.getD ((i:Nat):Int).toNat []).length<=1000000:=mx
  apply bY <;> intro h3
  ·have h3:0<i:=by have:=dT h3; omega
   have ei:((i:Int) - 1).toNat=i - 1:=by omega
   have l3:=(zbF (ha (i - 1) (by omega)).1).2
   repeat first | apply sT | apply sF
   refine⟨⟨rfl,by omega,by omega⟩,?_⟩
   refine⟨i6,?_⟩
   refine⟨⟨rfl,by omega,by omega⟩,?_⟩
   refine⟨⟨rfl,by omega,by rw[ei]; show (0:Int)<((p.getD (i - 1) []).length:Int); omega⟩,?_⟩
   repeat first | apply sT | apply sF
   apply bY <;> intro h4
   ·have h4:(p.getD i []).getD 0 0<=(p.getD (i - 1) []).getD 0 0:=by have h4:=dT h4; rw[ei] at h4; exact h4
    repeat first | apply sT | apply sF
    refine r1B rfl (no fun h=>?_).symm
    have:=h.2
    unfold fstB at this
    rw[jH (by omega:¬ i=0),jae] at this
    have:=kJ this
    omega
   have h4:(p.getD (i - 1) []).getD 0 0<(p.getD i []).getD 0 0:=by have h4:=dF h4; rw[ei] at h4; have:¬ (p.getD i []).getD 0 0<=(p.getD (i - 1) []).getD 0 0:=h4; omega
   repeat first | apply sT | apply sF
   refine⟨⟨.inr rfl,by unfold maxLen; omega,by show ((p.take i).flatten.length+(p.getD ((i:Nat):Int).toNat []).length) * 8<=140737488355328; omega⟩,?_⟩
   refine⟨i6,?_⟩
   refine⟨i+1,⟨rfl,⟨obR rfl ?_,trivial⟩,wq rfl⟩,⟨h1,cont (by unfold fstB; rw[jG h4,kR])⟩,msr h1⟩
   rw[zbM h1]
   exact zo8 rfl fun _ _=>rfl
  have h3:i=0:=by have:=dF h3; omega
  repeat first | apply sT | apply sF
  refine⟨⟨.inr rfl,by unfold maxLen; omega,by show ((p.take i).flatten.length+(p.getD ((i:Nat):Int).toNat []).length) * 8<=140737488355328; omega⟩,?_⟩
  refine⟨i6,?_⟩
  refine⟨i+1,⟨rfl,⟨obR rfl ?_,trivial⟩,wq rfl⟩,⟨h1,cont (by unfold fstB; rw[jG h3]; rfl)⟩,msr h1⟩
  rw[zbM h1]
  exact zo8 rfl fun _ _=>rfl
 have h1:i=p.length:=by have:=dF h1; omega
 subst h1
 rw[jZ]
 have hs:(p.flatten.mergeSort fun x y=>decide (x<=y)).length=p.flatten.length:=qM _
 refine CallSt.rw' rfl (zid p.flatten hf) ⟨⟨[],.tmp 39,[],[],rfl,rfl,rfl,rfl,rfl,rfl,rfl⟩⟩ rfl ?_
 refine CallSt.pureE (s_EqI (p.flatten.mergeSort fun x y=>decide (x<=y)) ids (by omega)) rfl ⟨⟨hs.symm,.inr ⟨rfl,fun i _ j _=>dE _⟩⟩,dE _,trivial⟩ rfl ?_
 refine r1B rfl ?_
 have:(List.range p.length).all (fun i=>setB (p.getD i []) && fstB p i)=true:=jC.2 fun j hj=>by
  obtain⟨a1,a2⟩:=ha j (kI.1 hj)
  rw[a1,a2]; rfl
 unfold divB
 rw[this,kS]
theorem zst {d:Day} (h:DayOk d) (s:List Int) (hs:s.length<=1000000):Spec PP 55 [.d (lI s),.d (capB d.ds)] [B (!posB d s)]:=by
 refine sA Tryz.func55 ?_
 refine CallSt.ro (zfE h s hs) rfl rfl ?_
 refine r1B rfl ?_
 unfold posB
 cases hl:(plsD d s).length with
 | zero=>rfl
 | succ n=>simp; omega
theorem zc9 (d:Day) (p:List (List Int)) (hn:d.R.length<=1000000) (hp:p.length<=1000000) (hf:p.flatten.length<=1000000):Spec PP 18 [d.v,.d (lII p)] [.d (.int .i64 (cprR d p))]:=by
 refine sA Tryz.func18 ?_
 refine cP (zdQ d hn) rfl rfl ?_
 unfold cprR
 apply bY <;> intro h0
 ·rw[kH (by simpa using h0)]
  exact r1I rfl rfl
 have h0:dayE d=0:=by simpa using h0
 have ok:=zc6 h0
 rw[kG (fun hh=>hh h0)]
 refine CallSt.ro (zbb d hn) rfl rfl ?_
 refine cP (zll (sigL d.R) p hp hf) rfl rfl ?_
 have hm:∀ i,i<p.length->(p.getD i []).length<=1000000:=fun i hi=>by
  have:=zfL p (i+1)
  rw[zbM hi,jR] at this
  omega
 apply bY <;> intro h1
 ·have h1:divB (sigL d.R) p=false:=by simpa using h1
  rw[h1,kZ,kG (by decide)]
  repeat first | apply sT | apply sF
  exact r1I rfl rfl
 have h1:divB (sigL d.R) p=true:=by simpa using h1
 rw[h1,kS]
 refine CallSt.fzE [2] (zkf p 55 (capB d.ds) (fun s=>!posB d s) hp fun i hi=>zst ok _ (hm i hi)) rfl ⟨dE _,⟨rfl,rfl,fun j hj=>by obtain rfl:j=0:=qL.1 hj; exact dE _⟩,trivial⟩ rfl ?_
 repeat first | apply sT | apply sF
 apply bY <;> intro h2
 ·have h2:(p.any fun s=>!posB d s)=true:=h2
  have:¬ p.all (posB d)=true:=fun h=>by
   obtain⟨s,hs1,hs2⟩:=kP.1 h2
   rw[jC.1 h s hs1] at hs2; cases hs2
  rw[kG this]
  exact r1I rfl rfl
 have h2:(p.any fun s=>!posB d s)=false:=h2
 have:p.all (posB d)=true:=jC.2 fun s hs=>by
  have:=jan.1 h2 s hs
  simpa using this
 rw[kH this]
 exact r1I rfl rfl
theorem zss (l:List Int) (f:Fit) (hl:l.length<=1000000) (hf:f.IDs.length<=1000000):Spec PP 110 [f.v,.d (capB [lI l])] [B (partB l f.IDs)]:=by
 refine sA Tryz.func110 ?_
 refine cP (zlj l f.IDs hl hf) rfl rfl ?_
 exact r1B rfl rfl
structure JnOk (j:Jns):Prop where
  F:j.F.length<=1000000
  M:j.M.length<=1000000
  f:∀ f∈j.F,f.IDs.length<=1000000
  m:∀ m∈j.M,m.IDs.length<=1000000/\m.R.length<=1000000
theorem JnOk.get {j:Jns} (h:JnOk j) {i:Nat} (hi:i<j.F.length):(j.F.getD i default).IDs.length<=1000000:=by
 refine h.f _ ?_
 rw[hZ,kF hi]; exact kM hi
theorem j_has {j:Jns} (h:JnOk j) (l:List Int) (hl:l.length<=1000000):Spec PP 46 [j.v,.d (lI l)] [B (hasB j.F l)]:=by
 refine sA Tryz.func46 ?_
 refine CallSt.fzE [3] (zpD j.F 110 (capB [lI l]) (fun f=>partB l f.IDs) h.F fun i hi=>zss l _ hl (h.get hi)) rfl ⟨dE _,⟨rfl,rfl,fun j hj=>by obtain rfl:j=0:=qL.1 hj; exact dE _⟩,trivial⟩ rfl ?_
 exact r1B rfl rfl
abbrev hasD (j:Jns):D:=.bnd 46 2 (getD' [lFt j.F,lMs j.M])
theorem zsr {j:Jns} (h:JnOk j):PosC (hasD j) (hasB j.F):=.bnd _ _ _ rfl fun s hs=>j_has h s (by omega)
theorem zm8 (F:List Fit) (ids:List Int) (hi:ids.length<=7):(prtF F ids).length<=877:=zkB _ _ hi
theorem zqw {j:Jns} (h:JnOk j) (ids:List Int) (hi:ids.length<=7):Spec PP 44 [.d (cloB 107 [capB [lI ids],posD (hasD j)])] [.d (lPP (bstL (prtF j.F ids)))]:=
 zoK _ _ _ _ (by have:=zm8 j.F ids hi; omega) (zcn ids (hasD j) (hasB j.F) hi (zsr h))
theorem zqy (ids : List Int) {j : Jns} (h : JnOk j) (hi : ids.length <= 1000000) : Spec PP 16 [.d (lI ids), j.v] [N (leaR ids j).1, .d (.int .i64 (leaR ids j).2)] := by
  refine sA Tryz.func16 ?_
  have hF := h.F
  unfold leaR
  by_cases c1 : 7 < ids.length \/ 127 < j.F.length
  · rw [kH c1]
    apply bY <;> intro h1
    · repeat first | apply sT | apply sF
      exact ⟨rtI rfl rfl, rtI rfl rfl, trivial⟩
    have h1 : ¬ 7 < ids.length := by have := dF h1; omega
    repeat first | apply sT | apply sF
    refine Split.yes (jG (show (127 : Int) < (j.F.length : Int) by omega)) ?_
    exact ⟨rtI rfl rfl, rtI rfl rfl, trivial⟩
  rw [kG c1]
  refine Split.no (jH (show ¬ (7 : Int) < (ids.length : Int) by omega)) ?_
  repeat first | apply sT | apply sF
  refine Split.no (jH (show ¬ (127 : Int) < (j.F.length : Int) by omega)) ?_
  repeat first | apply sT | apply sF
  by_cases c2 : risB ids = false
  · rw [kH c2]
    have hl : 0 < ids.length := Nat.pos_of_ne_zero fun e => by
      rw [jaQ.1 e] at c2; cases c2
    have hs : setB ids = false := by unfold setB; rw [c2]; rfl
    refine Split.yes (jG (show (0 : Int) < (ids.length : Int) by omega)) ?_
    refine cP (zfF ids hi) rfl rfl ?_
    rw [hs]
    repeat first | apply sT | apply sF
    exact ⟨rtI rfl rfl, rtI rfl rfl, trivial⟩
  rw [kG c2]
  unfold fewL
  by_cases c3 : 0 < ids.length
  all_goals first
    | (refine Split.yes (jG (show (0 : Int) < (ids.length : Int) by omega)) ?_
       have hs : setB ids = true := by
         unfold setB
         rw [jG c3, wE]
         simpa using c2
       refine cP (zfF ids hi) rfl rfl ?_
       rw [hs])
    | refine Split.no (jH (show ¬ (0 : Int) < (ids.length : Int) by omega)) ?_
  all_goals
    repeat first | apply sT | apply sF
    refine CallSt.ro (zc0 ids (hasD j) (.inr ⟨_, _, _, rfl⟩)) rfl rfl ?_
    refine CallSt.ro (zqw h ids (by omega)) rfl rfl ?_
    apply bY <;> intro h1
    · have h1 : (bstL (prtF j.F ids)).length = 0 := by
        have : ((bstL (prtF j.F ids)).length : Int) = 0 := by simpa using h1
        omega
      rw [kH h1]
      exact ⟨rtI rfl rfl, rtI rfl rfl, trivial⟩
    have h1 : ¬ (bstL (prtF j.F ids)).length = 0 := fun e => by
      have : ¬ ((bstL (prtF j.F ids)).length : Int) = 0 := by simpa using h1
      exact this (by rw [e]; rfl)
    rw [kG h1]
    refine ⟨⟨rfl, by omega, by show (0 : Int) < ((bstL (prtF j.F ids)).length : Int); omega⟩, ?_⟩
    exact ⟨rtI rfl rfl, rtI rfl rfl, trivial⟩
def btsR (all s:List Int):Nat × Bool:=if (setB s && partB s all)=true then (bitS all s,true) else (0,false)
theorem zi7 (all:List Int):bitS all []=0:=by
 apply ja2
 intro j
 rw[zbS,Nat.zero_testBit]; simp
theorem gdI {l:List Int} {i:Nat} (h:i<l.length):l.getD i 0=l[i]:=by rw[hZ,kF h]; rfl
theorem zn8 {all s:List Int} (hr:all.Pairwise (· < ·)) {i k:Nat} (hi:i<s.length) (hk:k<all.length) (e:all.getD k 0=s.getD i 0) (hs:∀ j,j<i->s.getD j 0<s.getD i 0):bitS all (s.take (i+1))=bitS all (s.take i)+2 ^ k:=by
 have hlt:bitS all (s.take i)<2 ^ k:=Nat.lt_pow_two_of_testBit _ fun j hj=>by
  rw[zbS,Bool.and_eq_false_iff]
  by_cases hjn:j<all.length
  ·right
   rw[qK]
   intro hc
   obtain⟨q,hq,eq⟩:=kL (kD.1 hc)
   rw[jQ] at hq
   rw[ja0] at eq
   have h1:=hs q (by omega)
   rw[gdI (show q<s.length by omega),eq,<- e] at h1
   by_cases ej:k=j
   ·subst ej; omega
   have:=qC.1 hr k j hk hjn (by omega)
   rw[gdI hjn,gdI hk] at h1
   omega
  left; exact jH hjn
 rw[zkN hlt]
 apply ja2
 intro j
 rw[zgT,zbS,zbS,zaG hi 0]
 by_cases hjn:j<all.length
 ·rw[jG hjn,kS,kS,kN,jX,kD,kD,qR,kO,qD,<- e]
  refine or_congr jbi ⟨fun h=>?_,fun h=>by rw[h]⟩
  rw[gdI hjn,gdI hk] at h
  exact (zdK (za0 hr) hjn hk h).symm
 rw[jH hjn,kZ,kZ,jae]
 exact (jH (by omega)).symm
theorem zn7 {all:List Int} (h:all.length<=7) (s:List Int):bitS all s<128:=jN (zq7 all s) (wI (by decide) h)
theorem zpN (all s:List Int) (hr:all.Pairwise (· < ·)) (h7:all.length<=7) (hs:s.length<=1000000):Spec PP 84 [.d (lI all),.d (lI s)] [N ((btsR all s).1:Nat),B (btsR all s).2]:=by
 refine sA Tryz.func84 ?_
 refine LoopOb.of (σ:=Nat) (fun i=>([(0,.d (lI all)),(1,.d (lI s)),(6,.d (I (bitS all (s.take i):Nat))),(7,.d (I i))],[])) (fun i=>i<=s.length/\(∀ j,j<i->all.contains (s.getD j 0)=true) /\ ∀ j,j+1<i->s.getD j 0<s.getD (j+1) 0) (fun i=>s.length - i) 0
  ⟨rfl,trivial,avQ rfl,avQ rfl,avQ (by rw[List.take_zero,zi7]; rfl),avQ rfl,trivial⟩ ⟨jF _,fun j hj=>by omega,fun j hj=>by omega⟩ fun i hi=>?_
 obtain⟨hi,ha,hb⟩:=hi
 have hlt:∀ i',i'<i+1->(∀ j,j+1<i'+1->s.getD j 0<s.getD (j+1) 0) -> ∀ j,j<i'->s.getD j 0<s.getD i' 0:=fun i' _ h j hj=>by
  have:∀ k,j+k+1<=i'->s.getD j 0<s.getD (j+k+1) 0:=by
   intro k
   induction k with
   | zero=>intro hk; exact h j (by omega)
   | succ k ih=>
   intro hk
   have h1:=ih (by omega)
   have h2:=h (j+k+1) (by omega)
   show s.getD j 0<s.getD (j+k+1+1) 0
   omega
  have:=this (i' - j - 1) (by omega)
  rwa [show j+(i' - j - 1)+1=i' by omega] at this
 have no:∀ j,j<s.length->(all.contains (s.getD j 0)=false \/ (0<j/\s.getD j 0<=s.getD (j - 1) 0))->btsR all s=(0,false):=fun j hj h=>by
  unfold btsR
  rw[kG]
  intro hh
  rw[jP] at hh
  rcases h with h | ⟨h0,h⟩
  ·have:=jC.1 hh.2 (s.getD j 0) (zfJ hj)
   rw[h] at this; cases this
  have:=qC.1 (zbF hh.1).1 (j - 1) j (by omega) hj (by omega)
  rw[gdI hj,gdI (show j - 1<s.length by omega)] at h
  omega
 apply bY <;> intro h1
 ·have h1:i<s.length:=by have:=dT h1; omega
  refine⟨⟨rfl,by omega,by omega⟩,?_⟩
  have hI:=zjk all (s.getD i 0) (by omega)
  have hin:=zsw all (s.getD i 0)
  by_cases h2:all.contains (s.getD i 0)=false
  ·refine cP hI rfl rfl ?_
   refine oL (List.range 18) (FzOb.no ?_)
   refine Split.yes (show decide (idxL (· == (s.getD i 0)) all<0)=true by rw[hin,h2]; rfl) ?_
   repeat first | apply sT | apply sF
   rw[no i h1 (.inl h2)]
   exact⟨rtI rfl rfl,rtB rfl rfl,trivial⟩
  have h2:all.contains (s.getD i 0)=true:=by simpa using h2
  obtain⟨k,hk,ek,ek2⟩:=zoV h2
  rw[ek] at hI
  refine cP hI rfl rfl ?_
  refine oL (List.range 18) (FzOb.no ?_)
  refine Split.no (jH (show ¬ ((k:Nat):Int)<0 by omega)) ?_
  have go:(∀ j,j+1<i+1->s.getD j 0<s.getD (j+1) 0)->bitS all (s.take (i+1))=bitS all (s.take i)+2 ^ k:=fun h=>zn8 hr h1 hk ek2 (hlt i (Nat.lt_succ_self i) h)
  have hx:=zn7 h7 (s.take i)
  have es:IntKind.wrap .i64 (1 * 2 ^ (min ((k:Nat):Int).toNat (IntKind.bits .i64)))=((2 ^ k:Nat):Int):=bShl (by omega)
  have h2k:2 ^ k<=128:=jM (wI (j:=7) (by decide) (by omega)) (by decide)
  generalize 2 ^ k=P at es go h2k
  repeat first | apply sT | apply sF
  apply bY <;> intro h3
  ·have h3:0<i:=by have:=dT h3; omega
   have ei:((i:Int) - 1).toNat=i - 1:=by omega
   repeat first | apply sT | apply sF
   refine⟨⟨rfl,by omega,by omega⟩,?_⟩
   refine⟨i6,?_⟩
   refine⟨⟨rfl,by omega,by omega⟩,?_⟩
   repeat first | apply sT | apply sF
   apply bY <;> intro h4
   ·have h4:s.getD i 0<=s.getD (i - 1) 0:=by have h4:=dT h4; rw[ei] at h4; exact h4
    repeat first | apply sT | apply sF
    rw[no i h1 (.inr ⟨h3,h4⟩)]
    exact⟨rtI rfl rfl,rtB rfl rfl,trivial⟩
   have h4:s.getD (i - 1) 0<s.getD i 0:=by have h4:=dF h4; rw[ei] at h4; have:¬ s.getD i 0<=s.getD (i - 1) 0:=h4; omega
   have hb':∀ j,j+1<i+1->s.getD j 0<s.getD (j+1) 0:=fun j hj=>by
    by_cases e:j+1=i
    ·obtain rfl:j=i - 1:=by omega
     rw[show i - 1+1=i by omega]; exact h4
    exact hb j (by omega)
   repeat first | apply sT | apply sF
   refine⟨by omega,?_⟩
   refine⟨by rw[es]; exact i6,?_⟩
   refine⟨i6,?_⟩
   refine⟨i+1,⟨rfl,trivial,avQ rfl,avQ rfl,avI rfl (by rw[es,go hb']; omega),avQ rfl,trivial⟩,⟨h1,fun j hj=>?_,hb'⟩,msr h1⟩
   by_cases e:j=i
   ·subst e; exact h2
   exact ha j (by omega)
  have h3:i=0:=by have:=dF h3; omega
  have hb':∀ j,j+1<i+1->s.getD j 0<s.getD (j+1) 0:=fun j hj=>by omega
  repeat first | apply sT | apply sF
  refine⟨by omega,?_⟩
  refine⟨by rw[es]; exact i6,?_⟩
  refine⟨i6,?_⟩
  refine⟨i+1,⟨rfl,trivial,avQ rfl,avQ rfl,avI rfl (by rw[es,go hb']; omega),avQ rfl,trivial⟩,⟨h1,fun j hj=>?_,hb'⟩,msr h1⟩
  by_cases e:j=i
  ·subst e; exact h2
  exact ha j (by omega)
 have h1:i=s.length:=by have:=dF h1; omega
 subst h1
 have hp:partB s all=true:=jC.2 fun x hx=>by
  obtain⟨j,hj,rfl⟩:=kL hx
  have:=ha j hj
  rwa [gdI hj] at this
 have hrs:risB s=true:=by
  unfold risB
  refine jC.2 fun j hj=>jG ?_
  have:=kI.1 hj
  exact hb j (by omega)
 have hsb:setB s=decide (0<s.length):=by unfold setB; rw[hrs,kS]
 rw[jZ]
 have er:btsR all s=(bitS all s,decide (0<s.length)):=by
  unfold btsR
  rw[hsb,hp,wE]
  by_cases h0:0<s.length
  ·rw[kH (jG h0),jG h0]
  have e0:s=[]:=jaQ.1 (by omega)
  rw[kG (by rw[jH h0]; decide),jH h0,e0,zi7]
 rw[er]
 exact⟨rtI rfl rfl,rtB rfl (kT.2 (by omega)),trivial⟩
def ixK (ids:List Int) (p:List (List Int)) (i k:Nat):List Int:=ids.map fun x=>if x∈(p.getD i []).take k then (i:Int) else whr p x i
def ixI (ids:List Int) (p:List (List Int)) (i:Nat):List Int:=ids.map fun x=>whr p x i
theorem zlr (ids:List Int) (p:List (List Int)) (i k:Nat):(ixK ids p i k).length=ids.length:=kV _
theorem zfG (ids:List Int) (p:List (List Int)) (i:Nat):(ixI ids p i).length=ids.length:=kV _
theorem znB (ids:List Int) (p:List (List Int)) (i:Nat):ixK ids p i 0=ixI ids p i:=by
 unfold ixK ixI
 refine kY fun x _=>?_
 rw[List.take_zero,kG (by simp)]
theorem zqA (ids:List Int) (p:List (List Int)) (i:Nat):ixK ids p i (p.getD i []).length=ixI ids p (i+1):=by
 unfold ixK ixI
 refine kY fun x _=>?_
 rw[jZ]; rfl
theorem zhx {ids:List Int} {p:List (List Int)} {i k m:Nat} (h:m<ids.length):(ixK ids p i k).getD m 0=if ids.getD m 0∈(p.getD i []).take k then (i:Int) else whr p (ids.getD m 0) i:=by
 unfold ixK
 rw[hZ,jU,kF h,gdI h]; rfl
def pldR (ids:List Int) (p:List (List Int)):List Int × Bool:=if plcB ids p=true then (ixI ids p p.length,fndB ids p) else ([],false)
theorem zqK (ids:List Int) (p:List (List Int)):fndB ids p = !(ixI ids p p.length).contains (-1):=by
 rw[kN,jY,qK]
 unfold fndB ixI
 rw[jC]
 constructor
 ·intro h hc
  obtain⟨x,hx,e⟩:=kK.1 (kD.1 hc)
  have:=kJ (h x hx)
  omega
 intro h x hx
 refine jG (Int.not_lt.1 fun hn=>h (kD.2 (kK.2 ⟨x,hx,?_⟩)))
 have:=(zop p x p.length).1
 omega
theorem zkl (ids : List Int) (p : List (List Int)) (hr : ids.Pairwise (· < ·)) (h7 : ids.length <= 7) (hp : p.length <= 1000000) (hs : ∀ i, i < p.length -> (p.getD i []).length <= 1000000) : Spec PP 123 [.d (lI ids), .d (lII p)] [.d (lI (pldR ids p).1), B (pldR ids p).2] := by
  refine sA Tryz.func123 ?_
  have et : ((ids.length : Nat) : Int).toNat = ids.length := qO _
  refine ⟨⟨by omega, rfl, by rw [et]; show ids.length * 1 <= 16777216; omega, by rw [et]; show ids.length * 8 <= 140737488355328; omega⟩, ?_⟩
  refine LoopOb.of (σ := Nat) (fun i => ([(0, .d (lI ids)), (1, .d (lII p)), (6, .own 15), (7, .d (I i))], [(15, .row 3 1 ids.length (fun m _ => I (if m < i then -1 else 0)))])) (fun i => i <= ids.length) (fun i => ids.length - i) 0
    ⟨rfl, ⟨obR rfl ⟨et, .inr ⟨rfl, fun m hm j hj => by obtain rfl : j = 0 := qL.1 hj; exact ⟨rfl, (kG (qI _)).symm⟩⟩⟩, trivial⟩, wq rfl⟩ (jF _) fun i hi => ?_
  have hi : i <= ids.length := hi
  apply bY <;> intro h1
  · have h1 : i < ids.length := by have := dT h1; omega
    refine ⟨⟨by omega, by omega⟩, ⟨by omega, ?_⟩⟩
    refine ⟨i6, ?_⟩
    refine ⟨i + 1, ⟨rfl, ⟨obR rfl ⟨rfl, .inr ⟨rfl, fun m hm j hj => ?_⟩⟩, trivial⟩, wq rfl⟩, h1, msr h1⟩
    obtain rfl : j = 0 := qL.1 hj
    show D.eqv (storeRow (fun m _ => I (if m < i then -1 else 0)) ((i : Nat) : Int).toNat 0 [I (-1)] m 0) (I (if m < i + 1 then -1 else 0))
    unfold storeRow
    by_cases e : m = i
    · subst e
      rw [kH ⟨rfl, jE _, by simp⟩, kH (Nat.lt_succ_self _)]
      exact ⟨rfl, rfl⟩
    rw [kG fun hh => e hh.1]
    by_cases e2 : m < i
    · rw [kH (show m < i + 1 by omega)]; exact ⟨rfl, kH e2⟩
    rw [kG (show ¬ m < i + 1 by omega)]; exact ⟨rfl, kG e2⟩
  have h1 : i = ids.length := by have := dF h1; omega
  subst h1
  refine LoopOb.of (σ := Nat) (fun i => ([(0, .d (lI ids)), (1, .d (lII p)), (6, .own 15), (8, .d (I i))], [(15, .row 3 1 (ixI ids p i).length (rowI (ixI ids p i)))])) (fun i => i <= p.length /\ ∀ j, j < i -> plc1 ids p j = true) (fun i => p.length - i) 0
    ⟨rfl, ⟨obR rfl ⟨(zfG ids p 0).symm, .inr ⟨rfl, fun m hm j hj => ?_⟩⟩, trivial⟩, wq rfl⟩ ⟨jF _, fun j hj => by omega⟩ fun i hi => ?_
  · obtain rfl : j = 0 := qL.1 hj
    have hm : m < ids.length := hm
    show D.eqv (I (if m < ids.length then -1 else 0)) (I ((ixI ids p 0).getD m 0))
    rw [kH hm]
    unfold ixI
    rw [hZ, jU, kF hm]
    exact ⟨rfl, rfl⟩
  obtain ⟨hi, ha⟩ := hi
  have no : ∀ j, j < p.length -> plc1 ids p j = false -> pldR ids p = ([], false) := fun j hj h => by
    unfold pldR
    rw [kG]
    intro hh
    have := jC.1 hh j (kI.2 hj)
    rw [h] at this; cases this
  have gt : ∀ j, plc1 ids p j = true -> setB (p.getD j []) = true := fun j h => by
    unfold plc1 at h
    rw [jP, jP, jP] at h
    exact h.1.1.1
  apply bY <;> intro h1
  · have h1 : i < p.length := by have := dT h1; omega
    have hsi := hs i h1
    refine ⟨⟨rfl, by omega, by omega⟩, ?_⟩
    have hB := zpN ids (p.getD i []) hr h7 hsi
    have wk : D.eqv (.slc 1 (ixI ids p i).length (rowI (ixI ids p i))) (.slc 1 (ixI ids p i).length (rowI (ixI ids p i))) := dE _
    by_cases h2 : (setB (p.getD i []) && partB (p.getD i []) ids) = false
    · have e : btsR ids (p.getD i []) = (0, false) := by unfold btsR; rw [h2]; rfl
      rw [e] at hB
      refine cP hB rfl rfl ?_
      refine oL (List.range 22) (FzOb.no ?_)
      repeat first | apply sT | apply sF
      rw [no i h1 (by unfold plc1; rw [h2]; rfl)]
      exact ⟨⟨_, _, _, _, rfl, rfl, .inl rfl⟩, rtB rfl rfl, trivial⟩
    have h2 : (setB (p.getD i []) && partB (p.getD i []) ids) = true := by simpa using h2
    have e : btsR ids (p.getD i []) = (bitS ids (p.getD i []), true) := by unfold btsR; rw [h2]; rfl
    rw [e] at hB
    have h2' := h2
    rw [jP] at h2'
    have l2 := zbF h2'.1
    have l2' : 0 < (p.getD ((i : Nat) : Int).toNat []).length := l2.2
    refine cP hB rfl rfl ?_
    refine oL (List.range 22) (FzOb.no ?_)
    repeat first | apply sT | apply sF
    have hN : plc1 ids p i = (fstB p i && (p.getD i []).all fun x => decide (whr p x i < 0)) := by unfold plc1; rw [h2, kS]
    by_cases hf : fstB p i = false
    · have hn := no i h1 (by rw [hN, hf]; rfl)
      unfold fstB at hf
      rw [qG] at hf
      have h3 : 0 < i := by have := qT hf.1; omega
      have ei : ((i : Int) - 1).toNat = i - 1 := by omega
      have l3 : 0 < (p.getD ((i : Int) - 1).toNat []).length := by rw [ei]; exact (zbF (gt (i - 1) (ha (i - 1) (by omega)))).2
      refine Split.yes (jG (show (0 : Int) < ((i : Nat) : Int) by omega)) ?_
      repeat first | apply sT | apply sF
      refine ⟨⟨rfl, by omega, by omega⟩, ?_⟩
      refine ⟨⟨rfl, by omega, by omega⟩, ?_⟩
      refine ⟨i6, ?_⟩
      refine ⟨⟨rfl, by omega, by omega⟩, ?_⟩
      refine ⟨⟨rfl, by omega, by omega⟩, ?_⟩
      repeat first | apply sT | apply sF
      refine Split.yes (jG ?_) ?_
      · have := qT hf.2
        show (p.getD i []).getD 0 0 <= (p.getD ((i : Int) - 1).toNat []).getD 0 0
        rw [ei]; omega
      repeat first | apply sT | apply sF
      rw [hn]
      exact ⟨⟨_, _, _, _, rfl, rfl, .inl rfl⟩, rtB rfl rfl, trivial⟩
    have hf : fstB p i = true := by simpa using hf
    rcases jaf i with h3 | h3
    all_goals first
      | refine Split.no (jH (show ¬ (0 : Int) < ((i : Nat) : Int) by omega)) ?_
      | (have ei : ((i : Int) - 1).toNat = i - 1 := by omega
         have l3 : 0 < (p.getD ((i : Int) - 1).toNat []).length := by rw [ei]; exact (zbF (gt (i - 1) (ha (i - 1) (by omega)))).2
         refine Split.yes (jG (show (0 : Int) < ((i : Nat) : Int) by omega)) ?_
         repeat first | apply sT | apply sF
         refine ⟨⟨rfl, by omega, by omega⟩, ?_⟩
         refine ⟨⟨rfl, by omega, by omega⟩, ?_⟩
         refine ⟨i6, ?_⟩
         refine ⟨⟨rfl, by omega, by omega⟩, ?_⟩
         refine ⟨⟨rfl, by omega, by omega⟩, ?_⟩
         repeat first | apply sT | apply sF
         have f1 : (p.getD (i - 1) []).getD 0 0 < (p.getD i []).getD 0 0 := by
           unfold fstB at hf
           rw [jH (by omega : ¬ i = 0), jae] at hf
           exact kJ hf
         have f2 : ¬ (p.getD i []).getD 0 0 <= (p.getD ((i : Int) - 1).toNat []).getD 0 0 := by rw [ei]; omega
         refine Split.no (jH f2) ?_)
    all_goals
      repeat first | apply sT | apply sF
      refine LoopOb.of (σ := Nat) (fun k => ([(0, .d (lI ids)), (1, .d (lII p)), (6, .own 15), (8, .d (I i)), (11, .d (I k))], [(15, .row 3 1 (ixK ids p i k).length (rowI (ixK ids p i k)))])) (fun k => k <= (p.getD i []).length /\ ∀ j, j < k -> whr p ((p.getD i []).getD j 0) i < 0) (fun k => (p.getD i []).length - k) 0
        ⟨rfl, ⟨obR rfl (by rw [znB]; exact dE _), trivial⟩, wq rfl⟩ ⟨jF _, fun j hj => by omega⟩ fun k hk => ?_
      obtain ⟨hk, hw⟩ := hk
      refine ⟨⟨rfl, by omega, by omega⟩, ?_⟩
      apply bY <;> intro h4
      · have h4 : k < (p.getD i []).length := by have h4 : ((k : Nat) : Int) < ((p.getD i []).length : Int) := dT h4; omega
        have h4' : k < (p.getD ((i : Nat) : Int).toNat []).length := h4
        have hx : ids.contains ((p.getD i []).getD k 0) = true := jC.1 h2'.2 _ (zfJ h4)
        obtain ⟨m, hm, em, ex⟩ := zoV hx
        have hI := zjk ids ((p.getD i []).getD k 0) (by omega)
        rw [em] at hI
        have hnt : ∀ q, q < ids.length -> (ids.getD q 0 ∈ (p.getD i []).take (k + 1) ↔ ids.getD q 0 ∈ (p.getD i []).take k \/ q = m) := fun q hq => by
          rw [zaG h4 0, qR, kO, <- ex]
          refine or_congr jbi ⟨fun h => ?_, fun h => by rw [h]⟩
          rw [gdI hq, gdI hm] at h
          exact zdK (za0 hr) hq hm h
        have hmk : ids.getD m 0 ∉ (p.getD i []).take k := fun h => by
          rw [ex] at h
          obtain ⟨q, hq, eq⟩ := kL h
          rw [jQ] at hq
          rw [ja0, gdI h4] at eq
          have := zdK (za0 l2.1) (show q < (p.getD i []).length by omega) h4 eq
          omega
        have hg : (ixK ids p i k).getD m 0 = whr p ((p.getD i []).getD k 0) i := by rw [zhx hm, kG hmk, ex]
        have hg' : (ixK ids p i k).getD ((m : Nat) : Int).toNat 0 = whr p ((p.getD i []).getD k 0) i := hg
        have hxl := zlr ids p i k
        have hxl' := zlr ids p i (k + 1)
        refine ⟨⟨rfl, by omega, by omega⟩, ?_⟩
        refine ⟨⟨rfl, by omega, by omega⟩, ?_⟩
        refine cP hI rfl rfl ?_
        refine ⟨⟨by omega, by omega⟩, ⟨by omega, ?_⟩⟩
        by_cases h5 : whr p ((p.getD i []).getD k 0) i < 0
        · refine Split.no (jH (show ¬ (0 : Int) <= (ixK ids p i k).getD ((m : Nat) : Int).toNat 0 by rw [hg']; omega)) ?_
          refine ⟨⟨by omega, by omega⟩, ⟨by omega, ?_⟩⟩
          refine ⟨i6, ?_⟩
          refine ⟨k + 1, ⟨rfl, ⟨obR rfl ⟨by rw [hxl, hxl'], .inr ⟨rfl, fun q hq j hj => ?_⟩⟩, trivial⟩, wq rfl⟩, ⟨h4, fun j hj => ?_⟩, msr h4⟩
          · obtain rfl : j = 0 := qL.1 hj
            have hq : q < ids.length := by rw [<- hxl]; exact hq
            show D.eqv (storeRow (rowI (ixK ids p i k)) ((m : Nat) : Int).toNat 0 [I ((i : Nat) : Int)] q 0) (I ((ixK ids p i (k + 1)).getD q 0))
            rw [zhx hq]
            unfold storeRow
            by_cases e : q = m
            · rw [kH (by rw [e]; exact ⟨rfl, jE _, by simp⟩), kH ((hnt q hq).2 (.inr e))]
              exact ⟨rfl, rfl⟩
            rw [kG fun hh => e hh.1]
            show D.eqv (I ((ixK ids p i k).getD q 0)) _
            rw [zhx hq]
            by_cases e2 : ids.getD q 0 ∈ (p.getD i []).take k
            · rw [kH e2, kH ((hnt q hq).2 (.inl e2))]; exact ⟨rfl, rfl⟩
            rw [kG e2, kG fun hh => ((hnt q hq).1 hh).elim e2 e]; exact ⟨rfl, rfl⟩
          by_cases e : j = k
          · subst e; exact h5
          exact hw j (by omega)
        refine Split.yes (jG (show (0 : Int) <= (ixK ids p i k).getD ((m : Nat) : Int).toNat 0 by rw [hg']; omega)) ?_
        rw [no i h1 (by
          rw [hN, hf, kS, qK]
          intro hh
          exact h5 (kJ (jC.1 hh _ (zfJ h4))))]
        exact ⟨⟨_, _, _, _, rfl, rfl, .inl rfl⟩, rtB rfl rfl, trivial⟩
      have h4 : k = (p.getD i []).length := by have h4 : ¬ ((k : Nat) : Int) < ((p.getD i []).length : Int) := dF h4; omega
      subst h4
      refine ⟨i6, ?_⟩
      refine ⟨i + 1, ⟨rfl, ⟨obR rfl (by rw [zqA]; exact dE _), trivial⟩, wq rfl⟩, ⟨h1, fun j hj => ?_⟩, msr h1⟩
      by_cases e : j = i
      · subst e
        rw [hN, hf, kS]
        refine jC.2 fun x hx => jG ?_
        obtain ⟨q, hq, rfl⟩ := kL hx
        have := hw q hq
        rwa [gdI hq] at this
      exact ha j (by omega)
  have h1 : i = p.length := by have := dF h1; omega
  subst h1
  have hB : plcB ids p = true := jC.2 fun j hj => ha j (kI.1 hj)
  have e : pldR ids p = (ixI ids p p.length, fndB ids p) := by unfold pldR; rw [kH hB]
  rw [e, zqK]
  have hl := zfG ids p p.length
  refine CallSt.pureE (zjk (ixI ids p p.length) (-1) (by omega)) rfl ⟨dE _, ⟨rfl, rfl⟩, trivial⟩ rfl ?_
  exact ⟨⟨_, _, _, _, rfl, dE _⟩, rtB rfl (zsw _ _), trivial⟩
def canR (f:Nat->Bool) (ids:List Int) (p:List (List Int)):List Int × Bool:=if (divB ids p && (bitX (ixP ids p)).all f)=true then (ixI ids p p.length,true) else ([],false)
theorem zlL {ids:List Int} (hr:ids.Pairwise (· < ·)) {p:List (List Int)} (h:divB ids p=true):plcB ids p=true/\fndB ids p=true:=by
 rw[zlK hr,jP] at h; exact h
theorem zsp {ids:List Int} {p:List (List Int)} (h:fndB ids p=true):D.eqv (lI (ixI ids p p.length)) (lN (ixP ids p)):=by
 refine⟨by rw[zfG,zcN],.inr ⟨rfl,fun m hm j hj=>?_⟩⟩
 obtain rfl:j=0:=qL.1 hj
 rw[zfG] at hm
 show D.eqv (I ((ixI ids p p.length).getD m 0)) (I (((ixP ids p).getD m 0:Nat):Int))
 rw[zlq hm]
 unfold ixI
 rw[hZ,jU,kF hm,gdI hm]
 have:=kJ (jC.1 h ids[m] (kM hm))
 exact⟨rfl,(Int.toNat_of_nonneg this).symm⟩
theorem zrH (f:Nat->Bool) (ids:List Int) (p:List (List Int)) (hr:ids.Pairwise (· < ·)) (h7:ids.length<=7) (hp:p.length<=1000000) (hs:∀ i,i<p.length->(p.getD i []).length<=1000000):Spec PP 58 [.d (lBo (2 ^ ids.length) f),.d (lI ids),.d (lII p)] [.d (lI (canR f ids p).1),B (canR f ids p).2]:=by
 refine sA Tryz.func58 ?_
 have hP:=zkl ids p hr h7 hp hs
 by_cases hd:divB ids p=true
 ·obtain⟨d1,d2⟩:=zlL hr hd
  have e1:pldR ids p=(ixI ids p p.length,true):=by unfold pldR; rw[kH d1,d2]
  rw[e1] at hP
  have hR:=zoT hr d1 d2
  have hL:=zcN ids p
  have hb:=zgU hR (by omega)
  have hlt:∀ m∈bitX (ixP ids p),0<m/\m<2 ^ ids.length:=fun m hm=>by have:=zbm _ _ m hm; rw[hL] at this; exact this
  have hO:=zdE (ixP ids p) hR (by omega)
  generalize hBX:bitX (ixP ids p)=b at hO hb hlt
  refine CallSt.ro hP rfl rfl ?_
  repeat first | apply sT | apply sF
  refine CallSt.fzE [] hO rfl ⟨zsp d2,trivial⟩ rfl ?_
  refine LoopOb.of (σ:=Nat) (fun i=>([(0,.d (lBo (2 ^ ids.length) f)),(8,.d (lI (ixI ids p p.length))),(10,.d (lN b)),(11,.d (I i))],[])) (fun i=>i<=b.length /\ ∀ j,j<i->f (b.getD j 0)=true) (fun i=>b.length - i) 0
   ⟨rfl,trivial,wq rfl⟩ ⟨jF _,fun j hj=>by omega⟩ fun i hi=>?_
  obtain⟨hi,ha⟩:=hi
  apply bY <;> intro h1
  ·have h1:i<b.length:=by have:=dT h1; omega
   have hm:=hlt (b.getD i 0) (by rw[hZ,kF h1]; exact kM h1)
   refine⟨⟨rfl,by omega,by omega⟩,?_⟩
   refine⟨⟨rfl,by omega,by show ((b.getD i 0:Nat):Int)<((2 ^ ids.length:Nat):Int); omega⟩,?_⟩
   by_cases h2:f (b.getD i 0)=true
   ·refine Split.no (show (!f (b.getD i 0))=false by rw[h2]; rfl) ?_
    refine⟨i6,?_⟩
    refine⟨i+1,⟨rfl,trivial,wq rfl⟩,⟨h1,fun j hj=>?_⟩,msr h1⟩
    by_cases e:j=i
    ·subst e; exact h2
    exact ha j (by omega)
   refine Split.yes (show (!f (b.getD i 0))=true by rw[qK.2 h2]; rfl) ?_
   have e:canR f ids p=([],false):=by
    unfold canR
    rw[kG]
    intro hh
    rw[jP,hBX] at hh
    exact h2 (jC.1 hh.2 _ (by rw[hZ,kF h1]; exact kM h1))
   rw[e]
   exact⟨⟨_,_,_,_,rfl,rfl,.inl rfl⟩,rtB rfl rfl,trivial⟩
  have h1:i=b.length:=by have:=dF h1; omega
  subst h1
  have e:canR f ids p=(ixI ids p p.length,true):=by
   unfold canR
   rw[hd,hBX,kS,kH]
   refine jC.2 fun m hm=>?_
   obtain⟨j,hj,rfl⟩:=kL hm
   have:=ha j hj
   rwa [hZ,kF hj] at this
  rw[e]
  exact⟨dE _,rtB rfl rfl,trivial⟩
 have e:canR f ids p=([],false):=by unfold canR; rw[qK.2 hd]; rfl
 rw[e]
 have e1:(pldR ids p).2=false:=by
  unfold pldR
  rw[zlK hr] at hd
  split
  ·rename_i h1
   rw[h1,kS] at hd
   simpa using hd
  rfl
 refine CallSt.ro hP rfl rfl ?_
 refine Split.yes (by rw[e1]; rfl) ?_
 exact⟨⟨_,_,_,_,rfl,rfl,.inl rfl⟩,rtB rfl rfl,trivial⟩
theorem zol {ids:List Int} (hr:ids.Pairwise (· < ·)) {p:List (List Int)} (hd:divB ids p=true) {f:Nat->Bool} {q:List Int->Bool} (h:∀ m,0<m->m<2 ^ ids.length->f m=q (memb ids m)):(bitX (ixP ids p)).all f=p.all q:=by
 obtain⟨d1,d2⟩:=zlL hr hd
 have hlt:∀ m∈bitX (ixP ids p),0<m/\m<2 ^ ids.length:=fun m hm=>by have:=zbm _ _ m hm; rw[zcN] at this; exact this
 conv=>rhs; rw[<- zmH hr d1 d2]
 unfold setX
 rw[List.all_map,kN,jC,jC]
 refine forall_congr' fun m=>forall_congr' fun hm=>?_
 rw[h m (hlt m hm).1 (hlt m hm).2]; exact jbi
theorem zsY {ids:List Int} (hr:ids.Pairwise (· < ·)) {p:List (List Int)} {f:Nat->Bool} {q:List Int->Bool} (h:∀ m,0<m->m<2 ^ ids.length->f m=q (memb ids m)):(canR f ids p).2=(divB ids p && p.all q):=by
 unfold canR
 cases hd:divB ids p with
 | false=>rfl
 | true=>
 rw[kS,zol hr hd h]
 cases p.all q <;> rfl
theorem zcG (d:Day) (p:List (List Int)) (hn:d.R.length<=1000000) (hp:p.length<=1000000) (hs:∀ i,i<p.length->(p.getD i []).length<=1000000):Spec PP 19 [d.v,.d (lII p)] [.d (.int .i64 (cprR d p))]:=by
 refine sA Tryz.func19 ?_
 refine cP (zmX d hn) rfl rfl ?_
 unfold cprR
 apply bY <;> intro h0
 ·rw[kH (by simpa using h0)]
  exact r1I rfl rfl
 have h0:dayE d=0:=by simpa using h0
 have ok:=zc6 h0
 have h7:=sig7 ok
 rw[kG (fun hh=>hh h0)]
 refine oL (List.range 11) (FzOb.no ?_)
 refine CallOb.ro (zpM ok) rfl rfl ?_
 refine CallOb.ro (zie d hn) rfl rfl ?_
 have hc:=zrH (fitX d) (sigL d.R) p ok.lt h7 hp hs
 have he:=zsY (p:=p) (q:=posB d) ok.lt (fun m m1 m2=>zqL h0 m1 m2)
 refine CallOb.ro hc rfl rfl ?_
 rw[<- he]
 cases hb:(canR (fitX d) (sigL d.R) p).2 with
 | true=>
  refine Split.no rfl ?_
  exact r1I rfl rfl
 | false=>
 refine Split.yes rfl ?_
 exact r1I rfl rfl
def midB (F:List Fit) (ids:List Int) (m i q:Nat):Bool:=if q=m then hasB (F.take i) (memb ids m) else decide (q<m) && tbX (hasB F) ids q
abbrev rowBo (p:Nat->Bool):Nat->Nat->D:=fun q _=>.bool (p q)
theorem znG {F:List Fit} {l:List Int} {i:Nat} (h:i<F.length):hasB (F.take (i+1)) l=(hasB (F.take i) l || partB l (F.getD i default).IDs):=by
 unfold hasB
 rw[zaG h default,List.any_append]; simp
theorem zdA {n:Nat} {f g:Nat->Bool} (h:∀ q,q<n->f q=g q):D.eqv (.slc 1 n (rowBo f)) (.slc 1 n (rowBo g)):=⟨rfl,.inr ⟨rfl,fun q hq j hj=>by
 show D.eqv (.bool (f q)) (.bool (g q))
 rw[h q hq]; exact dE _⟩⟩
theorem zgf {n m:Nat} {f g:Nat->Bool} {b:Bool} (hm:g m=b) (h:∀ q,q<n->q≠m->f q=g q):D.eqv (.slc 1 n (storeRow (rowBo f) ((m:Nat):Int).toNat 0 [.bool b])) (.slc 1 n (rowBo g)):=⟨rfl,.inr ⟨rfl,fun q hq j hj=>by
 obtain rfl:j=0:=by omega
 show D.eqv (storeRow (rowBo f) ((m:Nat):Int).toNat 0 [.bool b] q 0) (.bool (g q))
 unfold storeRow
 by_cases e:q=m
 ·rw[kH (by rw[e]; exact⟨rfl,jE _,by simp⟩),e,hm]; exact dE _
 rw[kG fun hh=>e hh.1]
 show D.eqv (.bool (f q)) _
 rw[h q hq e]; exact dE _⟩⟩
theorem zjj (ids:List Int) {t:Jns} (hj:JnOk t) (h7:ids.length<=7):Spec PP 50 [.d (lI ids),t.v] [.d (lBo (2 ^ ids.length) (tbX (hasB t.F) ids))]:=by
 have es:IntKind.wrap .i64 (1 * 2 ^ (min ((ids.length:Nat):Int).toNat (IntKind.bits .i64)))=((2 ^ ids.length:Nat):Int):=bShl h7
 have hp:2 ^ ids.length<=128:=jM (wI (j:=7) (by decide) (by omega)) (by decide)
 have h1p:1<=2 ^ ids.length:=Nat.one_le_two_pow
 have hF:=hj.F
 refine sA Tryz.func50 ?_
 refine⟨by omega,?_⟩
 have et:(IntKind.wrap .i64 (1 * 2 ^ (min ((ids.length:Nat):Int).toNat (IntKind.bits .i64)))).toNat=2 ^ ids.length:=by rw[es]; exact qO _
 refine⟨⟨by rw[es]; omega,rfl,by rw[et]; show 2 ^ ids.length * 1<=16777216; omega,by rw[et]; show 2 ^ ids.length * 1<=140737488355328; omega⟩,?_⟩
 refine LoopOb.of (σ:=Nat) (fun m=>([(0,.d (lI ids)),(3,.box 3 0),(5,.own 14),(6,.d (I m))],[(3,.box ([lFt t.F,lMs t.M].map AV.d)),(14,.row 4 1 (2 ^ ids.length) (rowBo fun i=>decide (i<m) && tbX (hasB t.F) ids i))])) (fun m=>1<=m/\m<=2 ^ ids.length) (fun m=>2 ^ ids.length - m) 1
  ⟨rfl,⟨obD [lFt t.F,lMs t.M] rfl,obR rfl ⟨et,.inr ⟨rfl,fun i hi j hj=>?_⟩⟩,trivial⟩,wq rfl⟩ ⟨jE _,h1p⟩ fun m hm=>?_
 ·obtain rfl:j=0:=qL.1 hj
  show D.eqv (.bool false) (.bool (decide (i<1) && tbX (hasB t.F) ids i))
  have:(decide (i<1) && tbX (hasB t.F) ids i)=false:=by
   unfold tbX
   by_cases e:i=0
   ·subst e; rfl
   rw[jH (by omega),kZ]
  rw[this]
  rfl
 obtain⟨hm,hm2⟩:=hm
 apply bY <;> intro h1
 ·have h1:m<2 ^ ids.length:=by have:=dT h1; omega
  have hml:(memb ids m).length<=7:=jM (zba _ _ _) h7
  refine CallSt.ro (zgg ids m h7 (by omega)) rfl rfl ?_
  refine LoopOb.of (σ:=Nat) (fun i=>([(0,.d (lI ids)),(3,.box 3 0),(5,.own 14),(6,.d (I m)),(7,.d (lI (memb ids m))),(8,.d (I i))],[(3,.box ([lFt t.F,lMs t.M].map AV.d)),(14,.row 4 1 (2 ^ ids.length) (rowBo (midB t.F ids m i)))])) (fun i=>i<=t.F.length) (fun i=>t.F.length - i) 0
   ⟨rfl,⟨obD [lFt t.F,lMs t.M] rfl,obR rfl (zdA fun q hq=>?_),trivial⟩,wq rfl⟩ (jF _) fun i hi=>?_
  ·unfold midB
   by_cases e:q=m
   ·rw[kH e,e,jH (Nat.lt_irrefl m),List.take_zero]; rfl
   rw[kG e]
  have hi:i<=t.F.length:=hi
  apply bY <;> intro h2
  ·have h2:i<t.F.length:=by have:=dT h2; omega
   have hf:=hj.get h2
   refine LoopOb.of (σ:=Nat) (fun k=>([(0,.d (lI ids)),(3,.box 3 0),(5,.own 14),(6,.d (I m)),(7,.d (lI (memb ids m))),(8,.d (I i)),(9,.d (.bool (partB ((memb ids m).take k) (t.F.getD i default).IDs))),(10,.d (I k))],[(3,.box ([lFt t.F,lMs t.M].map AV.d)),(14,.row 4 1 (2 ^ ids.length) (rowBo (midB t.F ids m i)))])) (fun k=>k<=(memb ids m).length) (fun k=>(memb ids m).length - k) 0
    ⟨rfl,⟨obD [lFt t.F,lMs t.M] rfl,obR rfl (dE _),trivial⟩,wq rfl⟩ (jF _) fun k hk=>?_
   have hk:k<=(memb ids m).length:=hk
   apply bY <;> intro h3
   ·have h3:k<(memb ids m).length:=by have:=dT h3; omega
    have ps:partB ((memb ids m).take (k+1)) (t.F.getD i default).IDs=(partB ((memb ids m).take k) (t.F.getD i default).IDs && (t.F.getD i default).IDs.contains ((memb ids m).getD k 0)):=by
     unfold partB
     rw[zaG h3 0,List.all_append]; simp
    refine oL (List.range 16) (FzOb.no ?_)
    apply bY <;> intro h4
    ·have h4:partB ((memb ids m).take k) (t.F.getD i default).IDs=true:=h4
     refine⟨⟨rfl,by omega,by omega⟩,?_⟩
     refine⟨⟨rfl,by omega,by omega⟩,?_⟩
     refine oP (zjk (t.F.getD i default).IDs ((memb ids m).getD k 0) hf) rfl rfl ?_
     repeat first | apply sT | apply sF
     refine⟨i6,?_⟩
     refine⟨k+1,⟨rfl,⟨obD [lFt t.F,lMs t.M] rfl,obR rfl (dE _),trivial⟩,avQ rfl,avQ rfl,avQ rfl,avQ rfl,avQ rfl,avQ rfl,avQ ?_,avQ rfl,trivial⟩,h3,msr h3⟩
     rw[ps,h4,kS,<- zhz]; rfl
    have h4:partB ((memb ids m).take k) (t.F.getD i default).IDs=false:=h4
    repeat first | apply sT | apply sF
    refine⟨i6,?_⟩
    refine⟨k+1,⟨rfl,⟨obD [lFt t.F,lMs t.M] rfl,obR rfl (dE _),trivial⟩,avQ rfl,avQ rfl,avQ rfl,avQ rfl,avQ rfl,avQ rfl,avQ ?_,avQ rfl,trivial⟩,h3,msr h3⟩
    rw[ps,h4,kZ]; rfl
   have h3:k=(memb ids m).length:=by have:=dF h3; omega
   subst h3
   rw[jZ]
   have hv:midB t.F ids m i ((m:Nat):Int).toNat=hasB (t.F.take i) (memb ids m):=kH rfl
   have nx:midB t.F ids m (i+1) m=(hasB (t.F.take i) (memb ids m) || partB (memb ids m) (t.F.getD i default).IDs):=by
    unfold midB
    rw[kH rfl,znG h2]
   refine⟨⟨by omega,by omega⟩,⟨by omega,?_⟩⟩
   apply bY <;> intro h4
   ·have h4:hasB (t.F.take i) (memb ids m)=true:=by rw[<- hv]; exact h4
    repeat first | apply sT | apply sF
    refine⟨⟨by omega,by omega⟩,⟨by omega,?_⟩⟩
    refine⟨i6,?_⟩
    refine⟨i+1,⟨rfl,⟨obD [lFt t.F,lMs t.M] rfl,obR rfl (zgf (by rw[nx,h4,qN]) fun q hq e=>?_),trivial⟩,wq rfl⟩,h2,msr h2⟩
    unfold midB
    rw[kG e,kG e]
   have h4:hasB (t.F.take i) (memb ids m)=false:=by rw[<- hv]; exact h4
   repeat first | apply sT | apply sF
   refine⟨⟨by omega,by omega⟩,⟨by omega,?_⟩⟩
   refine⟨i6,?_⟩
   refine⟨i+1,⟨rfl,⟨obD [lFt t.F,lMs t.M] rfl,obR rfl (zgf (by rw[nx,h4,jae]) fun q hq e=>?_),trivial⟩,wq rfl⟩,h2,msr h2⟩
   unfold midB
   rw[kG e,kG e]
  have h2:i=t.F.length:=by have:=dF h2; omega
  subst h2
  refine⟨i6,?_⟩
  refine⟨m+1,⟨rfl,⟨obD [lFt t.F,lMs t.M] rfl,obR rfl (zdA fun q hq=>?_),trivial⟩,wq rfl⟩,⟨by omega,h1⟩,(show 2 ^ ids.length - (m+1)<2 ^ ids.length - m by omega)⟩
  unfold midB
  by_cases e:q=m
  ·rw[kH e,e,jG (Nat.lt_succ_self m),kS,jZ]
   unfold tbX
   rw[jG (by omega:0<m),kS]
  rw[kG e,show decide (q<m+1)=decide (q<m) from kT.2 (by omega)]
 have h1:m=2 ^ ids.length:=by have:=dF h1; omega
 subst h1
 refine⟨⟨_,_,_,_,rfl,zdA fun q hq=>?_⟩,trivial⟩
 rw[jG hq,kS]
theorem zmW (ids:List Int) {t:Jns} (hj:JnOk t) (hi:ids.length<=1000000):Spec PP 17 [.d (lI ids),t.v] [N (leaR ids t).1,.d (.int .i64 (leaR ids t).2)]:=by
 refine sA Tryz.func17 ?_
 have hF:=hj.F
 by_cases c1:7<ids.length \/ 127<t.F.length
 ·have e:leaR ids t=(0,2):=by unfold leaR; rw[kH c1]
  rw[e]
  apply bY <;> intro h1
  ·repeat first | apply sT | apply sF
   exact⟨rtI rfl rfl,rtI rfl rfl,trivial⟩
  have h1:¬ 7<ids.length:=by have:=dF h1; omega
  repeat first | apply sT | apply sF
  refine Split.yes (jG (show (127:Int)<(t.F.length:Int) by omega)) ?_
  exact⟨rtI rfl rfl,rtI rfl rfl,trivial⟩
 refine Split.no (jH (show ¬ (7:Int)<(ids.length:Int) by omega)) ?_
 repeat first | apply sT | apply sF
 refine Split.no (jH (show ¬ (127:Int)<(t.F.length:Int) by omega)) ?_
 repeat first | apply sT | apply sF
 refine cP (zko ids hi) rfl rfl ?_
 apply bY <;> intro h2
 ·have h2:risB ids=false:=by simpa using h2
  have e:leaR ids t=(0,1):=by unfold leaR; rw[kG c1,kH h2]
  rw[e]
  exact⟨rtI rfl rfl,rtI rfl rfl,trivial⟩
 have h2:¬ risB ids=false:=by
  have:risB ids=true:=by simpa using h2
  rw[this]; decide
 rw[zqk c1 h2]
 have h7:ids.length<=7:=by omega
 refine CallSt.ro (zjj ids hj h7) rfl rfl ?_
 refine CallSt.ro (zrI (tbX (hasB t.F) ids) _ h7) rfl rfl ?_
 refine cP (zkm _ (zsA h7) (zsB h7)) rfl rfl ?_
 apply bY <;> intro h3
 ·rw[kH (dT h3)]
  exact⟨rtI rfl rfl,rtI rfl rfl,trivial⟩
 rw[kG (dF h3)]
 exact⟨rtI rfl rfl,rtI rfl rfl,trivial⟩
def ptot (p:List (List Int)):Nat:=(p.map fun s=>s.length+1).sum
theorem zgk {p:List (List Int)} {i:Nat} (h:i<p.length):ptot (p.take (i+1))=ptot (p.take i)+((p.getD i []).length+1):=by
 unfold ptot
 rw[zaG h [],jT,List.sum_append]; simp
theorem zkA (p:List (List Int)) (i:Nat):ptot (p.take i)<=ptot p:=by
 have:ptot p=ptot (p.take i)+ptot (p.drop i):=by
  unfold ptot
  rw[<- List.sum_append,<- jT,List.take_append_drop]
 omega
theorem zfg:∀ (p:List (List Int)),p.length<=ptot p/\p.flatten.length<=ptot p
 | []=>⟨jE _,jE _⟩
 | s :: p=>by
  have:=zfg p
  have e:ptot (s :: p)=s.length+1+ptot p:=by unfold ptot; simp
  rw[e,List.flatten_cons,jR,ja4]
  omega
theorem zim {p:List (List Int)} {i:Nat} (h:i<p.length):(p.getD i []).length<=ptot p:=by
 have h1:=zkA p (i+1)
 rw[zgk h] at h1
 omega
theorem zf4 (p:List (List Int)) (hp:ptot p<=4000000):Spec PP 14 [.d (lII p)] [B (decide (ptot p<=60))]:=by
 have hl:=(zfg p).1
 refine sA Tryz.func14 ?_
 refine LoopOb.of (σ:=Nat) (fun i=>([(0,.d (lII p)),(3,.d (I (ptot (p.take i):Nat))),(4,.d (I i))],[])) (fun i=>i<=p.length) (fun i=>p.length - i) 0
  ⟨rfl,trivial,wq rfl⟩ (jF _) fun i hi=>?_
 have hi:i<=p.length:=hi
 have ht:=zkA p i
 apply bY <;> intro h1
 ·have h1:i<p.length:=by have:=dT h1; omega
  have hm:=zim h1
  have hm':(p.getD ((i:Nat):Int).toNat []).length<=ptot p:=hm
  refine⟨⟨rfl,by omega,by omega⟩,?_⟩
  refine⟨i6,?_⟩
  refine⟨i6,?_⟩
  refine⟨i6,?_⟩
  refine⟨i+1,⟨rfl,trivial,avQ rfl,avI rfl ?_,avQ rfl,trivial⟩,h1,msr h1⟩
  rw[zgk h1]
  show ((ptot (p.take i):Nat):Int)+(((p.getD i []).length:Nat):Int)+1=_
  omega
 have h1:i=p.length:=by have:=dF h1; omega
 subst h1
 refine r1B rfl ?_
 rw[jZ]
 exact kT.2 (by omega)
def tabS (j:Jns):Prop:=(∀ i,i<j.F.length->(j.F.getD i default).IDs.length<=20)/\(∀ i,i<j.M.length->(j.M.getD i default).IDs.length<=20/\(j.M.getD i default).R.length<=200)/\j.F.length<=140/\j.M.length<=140
noncomputable instance (j:Jns):Decidable (tabS j):=Classical.propDecidable _
theorem zpv {j:Jns} (h:tabS j):JnOk j:=by
 obtain⟨a,b,c,e⟩:=h
 refine⟨by omega,by omega,fun f hf=>?_,fun m hm=>?_⟩
 ·obtain⟨i,hi,rfl⟩:=kL hf
  have:=a i hi
  rw[hZ,kF hi] at this
  exact jM this (by decide)
 obtain⟨i,hi,rfl⟩:=kL hm
 have:=b i hi
 rw[hZ,kF hi] at this
 exact⟨jM this.1 (by decide),jM this.2 (by decide)⟩
theorem zmm (j:Jns) (hj:j.F.length<=maxLen/\j.M.length<=maxLen):Spec PP 15 [j.v] [B (decide (tabS j))]:=by
 obtain⟨hF,hM⟩:=hj
 unfold maxLen at hF hM
 refine sA Tryz.func15 ?_
 refine LoopOb.of (σ:=Nat) (fun i=>([(1,.box 1 0),(3,.d (I i))],[(1,.box ([lFt j.F,lMs j.M].map AV.d))])) (fun i=>i<=j.F.length /\ ∀ q,q<i->(j.F.getD q default).IDs.length<=20) (fun i=>j.F.length - i) 0
  ⟨rfl,⟨obD [lFt j.F,lMs j.M] rfl,trivial⟩,wq rfl⟩ ⟨jF _,fun q hq=>by omega⟩ fun i hi=>?_
 obtain⟨hi,ha⟩:=hi
 apply bY <;> intro h1
 ·have h1:i<j.F.length:=by have:=dT h1; omega
  refine⟨⟨rfl,by omega,by omega⟩,?_⟩
  apply bY <;> intro h2
  ·have h2:20<(j.F.getD i default).IDs.length:=by have h2:(20:Int)<(((j.F.getD i default).IDs.length:Nat):Int):=dT h2; omega
   refine r1B rfl (jH fun h=>?_).symm
   have:=h.1 i h1
   omega
  have h2:(j.F.getD i default).IDs.length<=20:=by have h2:¬ (20:Int)<(((j.F.getD i default).IDs.length:Nat):Int):=dF h2; omega
  refine⟨i6,?_⟩
  refine⟨i+1,⟨rfl,⟨obD [lFt j.F,lMs j.M] rfl,trivial⟩,wq rfl⟩,⟨h1,fun q hq=>?_⟩,msr h1⟩
  by_cases e:q=i
  ·subst e; exact h2
  exact ha q (by omega)
 have h1:i=j.F.length:=by have:=dF h1; omega
 subst h1
 refine LoopOb.of (σ:=Nat) (fun i=>([(1,.box 1 0),(4,.d (I i))],[(1,.box ([lFt j.F,lMs j.M].map AV.d))])) (fun i=>i<=j.M.length /\ ∀ q,q<i->(j.M.getD q default).IDs.length<=20/\(j.M.getD q default).R.length<=200) (fun i=>j.M.length - i) 0
  ⟨rfl,⟨obD [lFt j.F,lMs j.M] rfl,trivial⟩,wq rfl⟩ ⟨jF _,fun q hq=>by omega⟩ fun i hi=>?_
 obtain⟨hi,hb⟩:=hi
 apply bY <;> intro h1
 ·have h1:i<j.M.length:=by have:=dT h1; omega
  refine⟨⟨rfl,by omega,by omega⟩,?_⟩
  apply bY <;> intro h2
  ·have h2:20<(j.M.getD i default).IDs.length:=by have h2:(20:Int)<(((j.M.getD i default).IDs.length:Nat):Int):=dT h2; omega
   repeat first | apply sT | apply sF
   refine r1B rfl (jH fun h=>?_).symm
   have:=(h.2.1 i h1).1
   omega
  have h2:(j.M.getD i default).IDs.length<=20:=by have h2:¬ (20:Int)<(((j.M.getD i default).IDs.length:Nat):Int):=dF h2; omega
  repeat first | apply sT | apply sF
  refine⟨⟨rfl,by omega,by omega⟩,?_⟩
  repeat first | apply sT | apply sF
  apply bY <;> intro h3
  ·have h3:200<(j.M.getD i default).R.length:=by have h3:(200:Int)<(((j.M.getD i default).R.length:Nat):Int):=dT h3; omega
   refine r1B rfl (jH fun h=>?_).symm
   have:=(h.2.1 i h1).2
   omega
  have h3:(j.M.getD i default).R.length<=200:=by have h3:¬ (200:Int)<(((j.M.getD i default).R.length:Nat):Int):=dF h3; omega
  refine⟨i6,?_⟩
  refine⟨i+1,⟨rfl,⟨obD [lFt j.F,lMs j.M] rfl,trivial⟩,wq rfl⟩,⟨h1,fun q hq=>?_⟩,msr h1⟩
  by_cases e:q=i
  ·subst e; exact⟨h2,h3⟩
  exact hb q (by omega)
 have h1:i=j.M.length:=by have:=dF h1; omega
 subst h1
 apply bY <;> intro h2
 ·have h2:j.F.length<=140:=by have:=dT h2; omega
  repeat first | apply sT | apply sF
  refine r1B rfl (kT.2 ⟨fun h=>⟨ha,hb,h2,by omega⟩,fun h=>?_⟩)
  have:=h.2.2.2
  omega
 have h2:¬ j.F.length<=140:=by have:=dF h2; omega
 repeat first | apply sT | apply sF
 exact r1B rfl (jH fun h=>h2 h.2.2.1).symm
theorem s_JoinLeasts (d:Day) (p:List (List Int)) (ids:List Int) (j:Jns) (hp:ptot p<=4000000) (hj:j.F.length<=maxLen/\j.M.length<=maxLen):Spec PP 4 [d.v,.d (lII p),.d (lI ids),j.v] [B true]:=by
 refine sA Tryz.func4 ?_
 refine cP zpj rfl rfl ?_
 refine cP (zri d) rfl rfl ?_
 apply bY <;> intro h0
 ·repeat first | apply sT | apply sF
  exact r1B rfl rfl
 have hf:few7 d:=by simpa using h0
 have hn:=zsQ hf
 repeat first | apply sT | apply sF
 refine cP (zf4 p hp) rfl rfl ?_
 repeat first | apply sT | apply sF
 apply bY <;> intro h1
 ·repeat first | apply sT | apply sF
  exact r1B rfl rfl
 have h1:ptot p<=60:=by simpa using h1
 repeat first | apply sT | apply sF
 apply bY <;> intro h2
 ·repeat first | apply sT | apply sF
  exact r1B rfl rfl
 have h2:ids.length<=20:=by have h2:¬ (20:Int)<((ids.length:Nat):Int):=dF h2; omega
 repeat first | apply sT | apply sF
 refine cP (zmm j hj) rfl rfl ?_
 repeat first | apply sT | apply sF
 apply bY <;> intro h3
 ·repeat first | apply sT | apply sF
  exact r1B rfl rfl
 have h3:tabS j:=by simpa using h3
 have ok:=zpv h3
 have pl:=zfg p
 refine cP (zqy ids ok (by omega)) rfl rfl ?_
 refine cP (zmW ids ok (by omega)) rfl rfl ?_
 refine oL (List.range 21) (FzOb.no ?_)
 repeat first | apply sT | apply sF
 refine oP (zc9 d p (by omega) (by omega) (by omega)) rfl rfl ?_
 refine oP (zcG d p (by omega) (by omega) fun i hi=>by have:=zim hi; omega) rfl rfl ?_
 repeat first | apply sT | apply sF
 refine Split.yes (by simp) ?_
 repeat first | apply sT | apply sF
 refine Split.yes (by simp) ?_
 repeat first | apply sT | apply sF
 exact r1B rfl (by simp)
end Go.Pg
