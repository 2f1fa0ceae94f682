/- Texts joined and shortened by program. -/
import Derived.Test.YtcgbaefojdoicaaGreatKE
import Derived.Test.YtcgbaefojdoicaaGreatKA
import Derived.Test.YtcgbaefojdoicaaGreatKD
import Derived.Test.YtcgbaefojdoicaaGreatKC
set_option maxHeartbeats 4000000
set_option linter.all false
namespace Go.Pg
open Go.Proofs Go.RowKit
theorem fitG {α:Type} [Inhabited α] {k:Nat} {sh:Nat->Sh} {at_:α->Nat->D} {x:D} (H:∀ g:Nat->D,(∀ j,j<k->Fits (sh j) (g j)) -> ∃ a:α,∀ j,j<k->D.eqv (g j) (at_ a j)) (h:Fits (.sl k sh) x):∃ l:List α,l.length<=maxLen/\D.eqv x (.slc k l.length fun i=>at_ (l.getD i default)):=by
 obtain⟨n,f,rfl,hn,hf⟩:=h
 have q:∀ i,i<n -> ∃ a:α,∀ j,j<k->D.eqv (f i j) (at_ a j):=fun i hi=>H (f i) (hf i hi)
 refine⟨(List.range n).map fun i=>if h:i<n then Classical.choose (q i h) else default,by simpa using hn,by simp,.inr ⟨rfl,fun i hi j hj=>?_⟩⟩
 have e:(((List.range n).map fun i=>if h:i<n then Classical.choose (q i h) else default).getD i default)=Classical.choose (q i hi):=by
  rw[hX,jU,qH hi]
  show (if h:i<n then Classical.choose (q i h) else default)=_
  rw[dif_pos hi]
 dsimp only
 rw[e]
 exact jac (q i hi) j hj
theorem znG {x:D} (h:Fits (shI 1) x):∃ l:List Int,D.eqv x (lI l):=fitI (α:=Int) (at_:=fun a _=>I a) (fun g=>g 0) (fun g j hj=>by
 match j,hj with
 | 0,_=>rfl) h
abbrev shII:Sh:=.sl 1 fun j=>shSl.getD' [shI 1] j
theorem fitII {x:D} (h:Fits shII x):∃ l:List (List Int),l.length<=maxLen/\D.eqv x (lII l):=fitG (α:=List Int) (at_:=fun a _=>lI a) (fun g hg=>by
 obtain⟨l,hl⟩:=znG (hg 0 (by decide))
 refine⟨l,fun j hj=>?_⟩
 match j,hj with
 | 0,_=>exact hl) h
theorem rep_lII {w:World} {ok:Nat->Prop} {x:D} {v:Value} (hr:Rep1 w ok (.d x) v) (h:All2 Fits [shII] [x]):∃ l:List (List Int),Rep1 w ok (.d (lII l)) v:=by
 cases h with
 | cons h _=>
 obtain⟨l,-,e⟩:=fitII h
 exact⟨l,Rep.eqv hr e⟩
structure Jns where
  F:List Fit
  M:List Mis
abbrev Jns.v (j:Jns):V1:=.agg [lFt j.F,lMs j.M]
abbrev shJns:List Sh:=[.sl 3 fun j=>shSl.getD' [shI 1,.int .i64,.int .i64] j,.sl 2 fun j=>shSl.getD' [shI 1,shI 3] j]
theorem rep_Jns {w:World} {ok:Nat->Prop} {xs:List D} {v:Value} (hr:Rep1 w ok (.agg xs) v) (h:All2 Fits shJns xs):∃ d:Jns,(d.F.length<=maxLen/\d.M.length<=maxLen)/\Rep1 w ok d.v v:=by
 obtain⟨vs,e,hv⟩:=hr
 cases h with | cons h0 h=>
 cases h with | cons h1 h=>
 cases h
 obtain⟨F,bF,eF⟩:=fitG (α:=Fit) (at_:=Fit.at) (fun g hg=>by
  obtain⟨l,hl⟩:=znG (hg 0 (by decide))
  obtain⟨a,-,ha⟩:=hg 1 (by decide)
  obtain⟨b,-,hb⟩:=hg 2 (by decide)
  refine⟨⟨l,⟨a,b⟩⟩,fun j hj=>?_⟩
  match j,hj with
  | 0,_=>exact hl
  | 1,_=>rw[ha]; exact⟨rfl,rfl⟩
  | 2,_=>rw[hb]; exact⟨rfl,rfl⟩) h0
 obtain⟨M,bM,eM⟩:=fitG (α:=Mis) (at_:=Mis.at) (fun g hg=>by
  obtain⟨l,hl⟩:=znG (hg 0 (by decide))
  obtain⟨r,hr⟩:=fitI (α:=Rsn) (at_:=Rsn.at) (fun g=>⟨⟨g 0,g 1⟩,g 2⟩) (fun g j hj=>by
   match j,hj with
   | 0,_=>rfl
   | 1,_=>rfl
   | 2,_=>rfl) (hg 1 (by decide))
  refine⟨⟨l,r⟩,fun j hj=>?_⟩
  match j,hj with
  | 0,_=>exact hl
  | 1,_=>exact hr) h1
 exact⟨⟨F,M⟩,⟨bF,bM⟩,vs,e,rep_aggE hv ⟨eF,eM,trivial⟩⟩
abbrev shVdt:List Sh:=[.int .i64,shII,shII]
theorem rep_Vdt {w:World} {ok:Nat->Prop} {xs:List D} {v:Value} (hr:Rep1 w ok (.agg xs) v) (h:All2 Fits shVdt xs):∃ d:Vdt,Rep1 w ok d.v v:=by
 obtain⟨vs,e,hv⟩:=hr
 cases h with | cons h0 h=>
 cases h with | cons h1 h=>
 cases h with | cons h2 h=>
 cases h
 obtain⟨n0,-,rfl⟩:=h0
 obtain⟨T,-,eT⟩:=fitII h1
 obtain⟨A,-,eA⟩:=fitII h2
 exact⟨⟨n0,T,A⟩,vs,e,rep_aggE hv ⟨⟨rfl,rfl⟩,eT,eA,trivial⟩⟩
end Go.Pg
set_option maxRecDepth 100000
namespace Go.Pg
open Go.Proofs Go.RowKit Go.Sort Go.Shelf
theorem s_EqI (a b:List Int) (hn:a.length<=1000000):Spec PP 118 [.d (lI a),.d (lI b)] [B (decide (a=b))]:=by
 refine sA Tryz.func118 ?_
 apply bY <;> intro h1
 ·have h1:a.length≠b.length:=by
   have:¬ (a.length:Int)=b.length:=by simpa using h1
   omega
  refine r1B rfl ?_
  exact (jH fun e=>h1 (by rw[e])).symm
 have h1:a.length=b.length:=by
  have:(a.length:Int)=b.length:=by simpa using h1
  omega
 refine LoopOb.of (σ:=Nat) (fun i=>([(0,.d (lI a)),(1,.d (lI b)),(12,.d (I a.length)),(13,.d (I i))],[])) (fun i=>i<=a.length/\a.take i=b.take i) (fun i=>a.length - i) 0 ⟨rfl,trivial,wq rfl⟩ ⟨jF _,rfl⟩ fun i hi=>?_
 obtain⟨i1,i2⟩:=hi
 apply bY <;> intro h2
 ·have h2:i<a.length:=by have:=dT h2; omega
  refine oL (List.range 9) (FzOb.no ?_)
  refine⟨⟨rfl,by omega,by omega⟩,?_⟩
  refine⟨⟨rfl,by omega,by omega⟩,?_⟩
  apply bY <;> intro h3
  ·have h3:¬ a.getD i 0=b.getD i 0:=by simpa using h3
   refine r1B rfl ?_
   refine (jH fun e=>?_).symm
   subst e
   exact h3 rfl
  have h3:a.getD i 0=b.getD i 0:=by simpa using h3
  refine⟨i6,?_⟩
  refine⟨i+1,⟨rfl,trivial,wq rfl⟩,⟨h2,?_⟩,msr h2⟩
  rw[zaP h2 0,zaP (by omega) 0,i2,h3]
 have h2:i=a.length:=by have:=dF h2; omega
 subst h2
 refine r1B rfl ?_
 rw[jZ,h1,jZ] at i2
 exact (jG i2).symm
theorem ziH (l:List (List Int)) (g:FuncId) (c0:D) (p:List Int->Bool) (hn:l.length<=1000000) (hp:∀ i,i<l.length->Spec PP g [.d (lI (l.getD i [])),.d c0] [B (p (l.getD i []))]):Spec PP 119 [.d (lII l),.d (cloB g [c0])] [N (idxL p l)]:=by
 refine sA Tryz.func119 ?_
 refine LoopOb.of (σ:=Nat) (fun i=>([(0,.d (lII l)),(1,.d (cloB g [c0])),(6,.d (lII l)),(7,.d (I l.length)),(8,.d (I i))],[])) (fun i=>i<=l.length /\ ∀ j,j<i->p (l.getD j [])=false) (fun i=>l.length - i) 0
  ⟨rfl,trivial,wq rfl⟩ z0L fun i hi=>?_
 obtain⟨hi,ha⟩:=hi
 apply bY <;> intro h1
 ·have h1:i<l.length:=by have:=dT h1; omega
  refine⟨⟨rfl,by omega,by omega⟩,?_⟩
  refine cP (hp i h1) rfl rfl ?_
  apply bY <;> intro h2
  ·exact r1I rfl (zaB [] h1 h2 ha).symm
  refine⟨i6,?_⟩
  refine⟨i+1,⟨rfl,trivial,wq rfl⟩,⟨h1,fun j hj=>?_⟩,(msr (by omega))⟩
  by_cases e:j=i
  ·subst e; exact h2
  exact ha j (by omega)
 have h1:i=l.length:=by have:=dF h1; omega
 subst h1
 exact r1I rfl (zaC [] ha).symm
theorem ziI (l:List (List Int)) (g:FuncId) (c0:D) (p:List Int->Bool) (hn:l.length<=1000000) (hp:∀ i,i<l.length->Spec PP g [.d (lI (l.getD i [])),.d c0] [B (p (l.getD i []))]):Spec PP 54 [.d (lII l),.d (cloB g [c0])] [B (l.any p)]:=by
 refine sA Tryz.func54 ?_
 refine cP (ziH l g c0 p hn hp) rfl rfl ?_
 refine r1B rfl ?_
 rw[kS,qA]
 exact zbX p l []
theorem zmu {a b:List Int} {n:Nat} {g:Nat->Nat->D} (hn:n=a.length) (hg:∀ i,i<b.length->g i 0=I (b.getD i 0)):D.eqv (.slc 1 (n+b.length) (appRow n (rowI a) g)) (.slc 1 (a++b).length (rowI (a++b))):=by
 subst hn
 refine⟨by simp,.inr ⟨rfl,fun i hi j hj=>?_⟩⟩
 obtain rfl:j=0:=by omega
 show D.eqv (appRow a.length (rowI a) g i 0) (I ((a++b).getD i 0))
 unfold appRow
 by_cases h:i<a.length
 ·rw[kG h,hX,jJ h,<- hX]
  exact dE _
 rw[kF h,hg _ (by have hi:i<a.length+b.length:=hi; omega),hX (l:=a++b),jK (by omega),<- hX]
 exact dE _
theorem zbw {p:List (List Int)} {i:Nat} (h:i<p.length):(p.take (i+1)).flatten=(p.take i).flatten++p.getD i []:=by
 rw[zaP h [],List.flatten_append]; simp
theorem zeW (p:List (List Int)) (i:Nat):(p.take i).flatten.length<=p.flatten.length:=by
 have:p.flatten.length=(p.take i).flatten.length+(p.drop i).flatten.length:=by rw[<- jR,<- List.flatten_append,List.take_append_drop]
 omega
theorem zjA (ids:List Int) (p:List (List Int)) (hp:p.length<=1000000) (hf:p.flatten.length<=1000000):Spec PP 52 [.d (lI ids),.d (lII p)] [B (divB ids p)]:=by
 refine sA Tryz.func52 ?_
 refine LoopOb.of (σ:=Nat) (fun i=>([(0,.d (lI ids)),(1,.d (lII p)),(5,.own 5),(8,.d (lII p)),(9,.d (I p.length)),(10,.d (I i))],[(5,.row 3 1 (p.take i).flatten.length (rowI (p.take i).flatten))])) (fun i=>i<=p.length /\ ∀ j,j<i->setB (p.getD j [])=true/\fstB p j=true) (fun i=>p.length - i) 0
  ⟨rfl,⟨obR rfl ⟨rfl,.inl rfl⟩,trivial⟩,wq rfl⟩ z0L fun i hi=>?_
 obtain⟨hi,ha⟩:=hi
 have hl:=zeW p i
 apply bY <;> intro h1
 ·have h1:i<p.length:=by have:=dT h1; omega
  have hs1:(p.getD i []).length<=1000000:=by
   have:=zeW p (i+1)
   rw[zbw h1,jR] at this
   omega
  have no:¬ (setB (p.getD i [])=true/\fstB p i=true)->divB ids p=false:=fun h=>by
   unfold divB
   rw[Bool.and_eq_false_iff]; left
   rw[qY]
   intro hh
   have:=jC.1 hh i (kI.2 h1)
   rw[jP] at this
   exact h this
  refine⟨⟨rfl,by omega,by omega⟩,?_⟩
  refine oL (List.range 20) (FzOb.no ?_)
  refine oP (zjz (p.getD i []) hs1) rfl rfl ?_
  apply bY <;> intro h2
  ·have h2:setB (p.getD i [])=false:=by simpa using h2
   repeat first | apply sT | apply sF
   exact r1B rfl (no fun h=>by rw[h2] at h; cases h.1).symm
  have h2:setB (p.getD i [])=true:=by simpa using h2
  have l2:=(zdd h2).2
  have l2':0<(p.getD ((i:Nat):Int).toNat []).length:=l2
  repeat first | apply sT | apply sF
  have cont:fstB p i=true->(∀ j,j<i+1->setB (p.getD j [])=true/\fstB p j=true):=fun h j hj=>by
   by_cases e:j=i
   ·subst e; exact⟨h2,h⟩
   exact ha j (by omega)
  have mx:(p.take i).flatten.length+(p.getD i []).length<=1000000:=by
   have:=zeW p (i+1)
   rw[zbw h1,jR] at this
   omega
  have mx':(p.take i).flatten.length+(p.getD ((i:Nat):Int).toNat []).length<=1000000:=mx
  apply bY <;> intro h3
  ·have h3:0<i:=by have:=dT h3; omega
   have ei:((i:Int) - 1).toNat=i - 1:=by omega
   have l3:=(zdd (ha (i - 1) (by omega)).1).2
   repeat first | apply sT | apply sF
   refine⟨⟨rfl,by omega,by omega⟩,?_⟩
   refine⟨i6,?_⟩
   refine⟨⟨rfl,by omega,by omega⟩,?_⟩
   refine⟨⟨rfl,by omega,by rw[ei]; show (0:Int)<((p.getD (i - 1) []).length:Int); omega⟩,?_⟩
   repeat first | apply sT | apply sF
   apply bY <;> intro h4
   ·have h4:(p.getD i []).getD 0 0<=(p.getD (i - 1) []).getD 0 0:=by have h4:=dT h4; rw[ei] at h4; exact h4
    repeat first | apply sT | apply sF
    refine r1B rfl (no fun h=>?_).symm
    have:=h.2
    unfold fstB at this
    rw[jH (by omega:¬ i=0),jaV] at this
    have:=kL this
    omega
   have h4:(p.getD (i - 1) []).getD 0 0<(p.getD i []).getD 0 0:=by have h4:=dF h4; rw[ei] at h4; have:¬ (p.getD i []).getD 0 0<=(p.getD (i - 1) []).getD 0 0:=h4; omega
   repeat first | apply sT | apply sF
   refine⟨⟨.inr rfl,by unfold maxLen; omega,by show ((p.take i).flatten.length+(p.getD ((i:Nat):Int).toNat []).length) * 8<=140737488355328; omega⟩,?_⟩
   refine⟨i6,?_⟩
   refine⟨i+1,⟨rfl,⟨obR rfl ?_,trivial⟩,wq rfl⟩,⟨h1,cont (by unfold fstB; rw[jG h4,qD])⟩,msr h1⟩
   rw[zbw h1]
   exact zmu rfl fun _ _=>rfl
  have h3:i=0:=by have:=dF h3; omega
  repeat first | apply sT | apply sF
  refine⟨⟨.inr rfl,by unfold maxLen; omega,by show ((p.take i).flatten.length+(p.getD ((i:Nat):Int).toNat []).length) * 8<=140737488355328; omega⟩,?_⟩
  refine⟨i6,?_⟩
  refine⟨i+1,⟨rfl,⟨obR rfl ?_,trivial⟩,wq rfl⟩,⟨h1,cont (by unfold fstB; rw[jG h3]; rfl)⟩,msr h1⟩
  rw[zbw h1]
  exact zmu rfl fun _ _=>rfl
 have h1:i=p.length:=by have:=dF h1; omega
 subst h1
 rw[jZ]
 have hs:(p.flatten.mergeSort fun x y=>decide (x<=y)).length=p.flatten.length:=qC _
 refine CallSt.rw' rfl (zgS p.flatten hf) ⟨⟨[],.tmp 39,[],[],rfl,rfl,rfl,rfl,rfl,rfl,rfl⟩⟩ rfl ?_
 refine CallSt.pureE (s_EqI (p.flatten.mergeSort fun x y=>decide (x<=y)) ids (by omega)) rfl ⟨⟨hs.symm,.inr ⟨rfl,fun i _ j _=>dE _⟩⟩,dE _,trivial⟩ rfl ?_
 refine r1B rfl ?_
 have:(List.range p.length).all (fun i=>setB (p.getD i []) && fstB p i)=true:=jC.2 fun j hj=>by
  obtain⟨a1,a2⟩:=ha j (kI.1 hj)
  rw[a1,a2]; rfl
 unfold divB
 rw[this,qX]
theorem zo6 {d:Day} (h:DayOk d) (s:List Int) (hs:s.length<=1000000):Spec PP 55 [.d (lI s),.d (capB d.ds)] [B (!posB d s)]:=by
 refine sA Tryz.func55 ?_
 refine CallSt.ro (zeQ h s hs) rfl rfl ?_
 refine r1B rfl ?_
 unfold posB
 cases hl:(plsD d s).length with
 | zero=>rfl
 | succ n=>simp; omega
theorem zcR (d:Day) (p:List (List Int)) (hn:d.R.length<=1000000) (hp:p.length<=1000000) (hf:p.flatten.length<=1000000):Spec PP 18 [d.v,.d (lII p)] [.d (.int .i64 (cprR d p))]:=by
 refine sA Tryz.func18 ?_
 refine cP (zbW d hn) rfl rfl ?_
 unfold cprR
 apply bY <;> intro h0
 ·rw[kG (by simpa using h0)]
  exact r1I rfl rfl
 have h0:dayE d=0:=by simpa using h0
 have ok:=za7 h0
 rw[kF (fun hh=>hh h0)]
 refine CallSt.ro (za0 d hn) rfl rfl ?_
 refine cP (zjA (sigL d.R) p hp hf) rfl rfl ?_
 have hm:∀ i,i<p.length->(p.getD i []).length<=1000000:=fun i hi=>by
  have:=zeW p (i+1)
  rw[zbw hi,jR] at this
  omega
 apply bY <;> intro h1
 ·have h1:divB (sigL d.R) p=false:=by simpa using h1
  rw[h1,wG,kF (by decide)]
  repeat first | apply sT | apply sF
  exact r1I rfl rfl
 have h1:divB (sigL d.R) p=true:=by simpa using h1
 rw[h1,qX]
 refine CallSt.fzE [2] (ziI p 55 (capB d.ds) (fun s=>!posB d s) hp fun i hi=>zo6 ok _ (hm i hi)) rfl ⟨dE _,⟨rfl,rfl,fun j hj=>by obtain rfl:j=0:=wF.1 hj; exact dE _⟩,trivial⟩ rfl ?_
 repeat first | apply sT | apply sF
 apply bY <;> intro h2
 ·have h2:(p.any fun s=>!posB d s)=true:=h2
  have:¬ p.all (posB d)=true:=fun h=>by
   obtain⟨s,hs1,hs2⟩:=kN.1 h2
   rw[jC.1 h s hs1] at hs2; cases hs2
  rw[kF this]
  exact r1I rfl rfl
 have h2:(p.any fun s=>!posB d s)=false:=h2
 have:p.all (posB d)=true:=jC.2 fun s hs=>by
  have:=jaj.1 h2 s hs
  simpa using this
 rw[kG this]
 exact r1I rfl rfl
structure JnOk (j:Jns):Prop where
  F:j.F.length<=1000000
  M:j.M.length<=1000000
  f:∀ f∈j.F,f.IDs.length<=1000000
  m:∀ m∈j.M,m.IDs.length<=1000000/\m.R.length<=1000000
theorem JnOk.get {j:Jns} (h:JnOk j) {i:Nat} (hi:i<j.F.length):(j.F.getD i default).IDs.length<=1000000:=by
 refine h.f _ ?_
 rw[hX,hZ hi]; exact kK hi
def ptot (p:List (List Int)):Nat:=(p.map fun s=>s.length+1).sum
theorem zfo {p:List (List Int)} {i:Nat} (h:i<p.length):ptot (p.take (i+1))=ptot (p.take i)+((p.getD i []).length+1):=by
 unfold ptot
 rw[zaP h [],jT,List.sum_append]; simp
theorem ziS (p:List (List Int)) (i:Nat):ptot (p.take i)<=ptot p:=by
 have:ptot p=ptot (p.take i)+ptot (p.drop i):=by
  unfold ptot
  rw[<- List.sum_append,<- jT,List.take_append_drop]
 omega
theorem zeC:∀ (p:List (List Int)),p.length<=ptot p/\p.flatten.length<=ptot p
 | []=>⟨jE _,jE _⟩
 | s :: p=>by
  have:=zeC p
  have e:ptot (s :: p)=s.length+1+ptot p:=by unfold ptot; simp
  rw[e,List.flatten_cons,jR,jaC]
  omega
theorem zkZ {p:List (List Int)} {i:Nat} (h:i<p.length):(p.getD i []).length<=ptot p:=by
 have h1:=ziS p (i+1)
 rw[zfo h] at h1
 omega
theorem zfc (p:List (List Int)) (hp:ptot p<=4000000):Spec PP 14 [.d (lII p)] [B (decide (ptot p<=60))]:=by
 have hl:=(zeC p).1
 refine sA Tryz.func14 ?_
 refine LoopOb.of (σ:=Nat) (fun i=>([(0,.d (lII p)),(3,.d (I (ptot (p.take i):Nat))),(4,.d (I i))],[])) (fun i=>i<=p.length) (fun i=>p.length - i) 0
  ⟨rfl,trivial,wq rfl⟩ (jF _) fun i hi=>?_
 have hi:i<=p.length:=hi
 have ht:=ziS p i
 apply bY <;> intro h1
 ·have h1:i<p.length:=by have:=dT h1; omega
  have hm:=zkZ h1
  have hm':(p.getD ((i:Nat):Int).toNat []).length<=ptot p:=hm
  refine⟨⟨rfl,by omega,by omega⟩,?_⟩
  refine⟨i6,?_⟩
  refine⟨i6,?_⟩
  refine⟨i6,?_⟩
  refine⟨i+1,⟨rfl,trivial,avQ rfl,avI rfl ?_,avQ rfl,trivial⟩,h1,msr h1⟩
  rw[zfo h1]
  show ((ptot (p.take i):Nat):Int)+(((p.getD i []).length:Nat):Int)+1=_
  omega
 have h1:i=p.length:=by have:=dF h1; omega
 subst h1
 refine r1B rfl ?_
 rw[jZ]
 exact qJ.2 (by omega)
theorem znF (k:Nat) (l:List (List (List Int))):(l.filter fun p=>p.length==k).length=(fltP (k:Int) l).length:=by
 unfold fltP
 congr 1
 refine List.filter_congr fun p _=>?_
 rw[kS,jap,jap]
 omega
theorem gdP {l:List (List (List Int))} {i:Nat} (h:i<l.length):l.getD i []=l[i]:=by rw[hX,hZ h]; rfl
theorem par_0 {d:Day} (h:dayE d=0) {k:Nat} (hk:k<=7):paR d (k:Int)=(fltP (k:Int) (parts d),0):=by
 unfold paR
 rw[kF (fun hh=>hh h),kF]
 unfold within
 rw[jG (by omega),jG (by omega)]; decide
theorem znd {d:Day} (h:dayE d=0) (k:Int):(fltP k (parts d)).Nodup:=(ziT (za7 h).lt _).sublist jaN
theorem s_JoinCounts (d:Day) (a:Int) (ha:0<=a/\a<=255) (p:List (List Int)) (hp:ptot p<=4000000):Spec PP 6 [d.v,.d (.int .u8 a),.d (lII p)] [B true]:=by
 obtain⟨s,rfl⟩:=Int.eq_ofNat_of_zero_le ha.1
 refine zep [12,14,21] Tryz.func6 rfl (by kernel_rfl) rfl ?_
 refine cP zmB rfl rfl ?_
 refine cP (zod d) rfl rfl ?_
 apply bY <;> intro h0
 ·repeat first | apply sT | apply sF
  exact r1B rfl rfl
 have hf:few7 d:=by simpa using h0
 have hn:=zpn hf
 repeat first | apply sT | apply sF
 refine cP (zfc p hp) rfl rfl ?_
 repeat first | apply sT | apply sF
 apply bY <;> intro h1
 ·exact r1B rfl rfl
 have h1:ptot p<=60:=by simpa using h1
 have pl:=zeC p
 refine CallSt.ro (znv d (by omega)) rfl rfl ?_
 by_cases hd:dayE d=0
 ·have ec:cnR d=(cntL (sigL d.R).length (parts d),0):=by unfold cnR; rw[kF (fun hh=>hh hd)]
  have ok:=za7 hd
  have h7:=sig7 ok
  have hPl:=zbq ok
  have hPm:=fun x (hx:x∈parts d)=>zfq ok hx
  have hPle:=fun x (hx:x∈parts d)=>zg1 hx
  have hPc:=fun x=>znP hd x
  have hpar:=fun k (hk:k<=7)=>par_0 hd (k:=k) hk
  have hnod:=fun k=>znd hd k
  have hfew:=zpm hd
  have hCP:=fun x (h1:x.length<=1000000) (h2:x.flatten.length<=1000000)=>zcR d x (by omega) h1 h2
  have hPr:=fun k=>zfA d k (by omega)
  have hFw:=zeS d (by omega)
  rw[ec]
  generalize parts d=P at *
  have hcl:=zhs (sigL d.R).length P
  have hcg:=fun k (hk:k<(sigL d.R).length+1)=>zci (l:=P) hk
  generalize cntL (sigL d.R).length P=C at *
  repeat first | apply sT | apply sF
  refine Split.no (by rw[hcl]; simp; omega) ?_
  have hq:s % ((sigL d.R).length+1)<(sigL d.R).length+1:=jai _ (by omega)
  have eq:(IntKind.wrap .i64 ((s:Nat):Int)).tmod ((C.length:Nat):Int)=((s % ((sigL d.R).length+1):Nat):Int):=by
   rw[zbD (by exact i6),hcl]
   rfl
  generalize hQ:s % ((sigL d.R).length+1)=q at hq eq
  have hA:=hPr (q:Int)
  rw[hpar q (by omega)] at hA
  have hAl:(fltP (q:Int) P).length<=P.length:=qF _ _
  have hAm:∀ x∈fltP (q:Int) P,x∈P/\x.length=q:=fun x hx=>by
   obtain⟨a1,a2⟩:=kO.1 hx
   have a2:((x.length:Nat):Int)=(q:Int):=by simpa using a2
   exact⟨a1,by omega⟩
  have hAn:=hnod (q:Int)
  have hCq:C.getD q 0=(((fltP (q:Int) P).length:Nat):Int):=by rw[hcg q hq,znF]
  generalize fltP (q:Int) P=A at hA hAl hAm hAn hCq
  rw[<- eq] at hA
  refine⟨by show ((C.length:Nat):Int)≠0; rw[hcl]; omega,?_⟩
  refine CallSt.ro hA rfl rfl ?_
  apply two_
  ·intro key
   rcases hfew with⟨f2,p0,hp0,f1,fmin⟩ | ⟨f2,fnil⟩
   ·have ef:fewR d=(((p0.length:Nat):Int),0):=Prod.ext f1 f2
    have hl0:=hPle p0 hp0
    have hC0:=hcg p0.length (by omega)
    have hpos:0<(P.filter fun p=>p.length==p0.length).length:=List.length_pos_of_mem (kO.2 ⟨hp0,by simp⟩)
    rw[ef] at hFw
    refine cP hFw rfl rfl ?_
    refine CutOb.at [(2,.d (lII p)),(3,.box 3 0),(7,.d (.bool true)),(8,.d (lI C)),(10,.d (I q)),(11,.d (lPP A)),(12,.d (.int .i64 0)),(13,.d (I (p0.length:Nat))),(14,.d (.int .i64 0))] [(3,.box (d.ds.map AV.d))] ⟨rfl,⟨obD d.ds rfl,trivial⟩,avQ rfl,avQ rfl,avQ rfl,avQ rfl,avI rfl eq,avQ rfl,avQ rfl,avQ rfl,avQ rfl,trivial⟩ ?_
    repeat first | apply sT | apply sF
    refine⟨⟨rfl,by omega,by show (q:Int)<((C.length:Nat):Int); rw[hcl]; omega⟩,?_⟩
    have e1:((((A.length:Nat):Int) != C.getD ((q:Nat):Int).toNat 0))=false:=by
     rw[show ((q:Nat):Int).toNat=q from wE q,hCq]; simp
    repeat first | apply sT | apply sF
    refine Split.no e1 ?_
    repeat first | apply sT | apply sF
    refine⟨⟨rfl,by omega,by show ((p0.length:Nat):Int)<((C.length:Nat):Int); rw[hcl]; omega⟩,?_⟩
    have e2:(C.getD ((p0.length:Nat):Int).toNat 0==0)=false:=by
     rw[show ((p0.length:Nat):Int).toNat=p0.length from wE _,hC0]; exact jak.2 (by omega)
    repeat first | apply sT | apply sF
    refine Split.no e2 ?_
    repeat first | apply sT | apply sF
    apply bY <;> intro h3
    ·have h3:q<p0.length:=by have h3:((q:Nat):Int)<((p0.length:Nat):Int):=dT h3; omega
     have hA0:A.length=0:=by
      refine Nat.eq_zero_of_not_pos fun h=>?_
      obtain⟨x,hx⟩:=List.exists_mem_of_length_pos h
      obtain⟨x1,x2⟩:=hAm x hx
      have:=fmin x x1
      omega
     repeat first | apply sT | apply sF
     refine Split.no (jH (show ¬ (0:Int)<((A.length:Nat):Int) by omega)) ?_
     repeat first | apply sT | apply sF
     refine CutOb.at [(2,.d (lII p)),(3,.box 3 0),(7,.d (.bool true)),(10,.d (I q)),(11,.d (lPP A))] [(3,.box (d.ds.map AV.d))] ⟨rfl,⟨obD d.ds rfl,trivial⟩,wq rfl⟩ ?_
     exact key.out
    repeat first | apply sT | apply sF
    refine CutOb.at [(2,.d (lII p)),(3,.box 3 0),(7,.d (.bool true)),(10,.d (I q)),(11,.d (lPP A))] [(3,.box (d.ds.map AV.d))] ⟨rfl,⟨obD d.ds rfl,trivial⟩,wq rfl⟩ ?_
    exact key.out
   have ef:fewR d=((fewR d).1,9):=Prod.ext rfl f2
   have hA0:A.length=0:=by
    refine Nat.eq_zero_of_not_pos fun h=>?_
    obtain⟨x,hx⟩:=List.exists_mem_of_length_pos h
    obtain⟨x1,x2⟩:=hAm x hx
    rw[fnil] at x1; cases x1
   rw[ef] at hFw
   generalize (fewR d).1=f1 at hFw
   refine cP hFw rfl rfl ?_
   refine CutOb.at [(2,.d (lII p)),(3,.box 3 0),(7,.d (.bool true)),(8,.d (lI C)),(10,.d (I q)),(11,.d (lPP A)),(12,.d (.int .i64 0)),(13,.d (I f1)),(14,.d (.int .i64 9))] [(3,.box (d.ds.map AV.d))] ⟨rfl,⟨obD d.ds rfl,trivial⟩,avQ rfl,avQ rfl,avQ rfl,avQ rfl,avI rfl eq,avQ rfl,avQ rfl,avQ rfl,avQ rfl,trivial⟩ ?_
   repeat first | apply sT | apply sF
   refine⟨⟨rfl,by omega,by show (q:Int)<((C.length:Nat):Int); rw[hcl]; omega⟩,?_⟩
   have e1:((((A.length:Nat):Int) != C.getD ((q:Nat):Int).toNat 0))=false:=by
    rw[show ((q:Nat):Int).toNat=q from wE q,hCq]; simp
   repeat first | apply sT | apply sF
   refine Split.no e1 ?_
   repeat first | apply sT | apply sF
   refine Split.no (jH (show ¬ (0:Int)<((A.length:Nat):Int) by omega)) ?_
   repeat first | apply sT | apply sF
   refine CutOb.at [(2,.d (lII p)),(3,.box 3 0),(7,.d (.bool true)),(10,.d (I q)),(11,.d (lPP A))] [(3,.box (d.ds.map AV.d))] ⟨rfl,⟨obD d.ds rfl,trivial⟩,wq rfl⟩ ?_
   exact key.out
  have inA:∀ i,i<A.length->A.getD i []∈A:=fun i h=>by rw[gdP h]; exact kK h
  refine LoopOb.of (σ:=Nat) (fun i=>([(2,.d (lII p)),(3,.box 3 0),(7,.d (.bool true)),(10,.d (I q)),(11,.d (lPP A)),(15,.d (I i))],[(3,.box (d.ds.map AV.d))])) (fun i=>i<=A.length) (fun i=>A.length - i) 0
   ⟨rfl,⟨obD d.ds rfl,trivial⟩,wq rfl⟩ (jF _) fun i hi=>?_
  have hi:i<=A.length:=hi
  apply bY <;> intro h2
  ·have h2:i<A.length:=by have:=dT h2; omega
   obtain⟨x1,x2⟩:=hAm _ (inA i h2)
   obtain⟨x3,x4⟩:=hPm _ x1
   have x5:(A.getD i []).flatten.length<=1000000:=by
    have:∀ (l:List (List Int)),(∀ s∈l,s.length<=8)->l.flatten.length<=8 * l.length:=by
     intro l
     induction l with
     | nil=>intro _; exact jE _
     | cons s l ih=>
     intro h
     have h1:=ih fun s hs=>h s (wJ _ hs)
     have h2:=h s (wI ..)
     rw[List.flatten_cons,jR,jaC]; omega
    have:=this _ x4
    omega
   have hc:=hCP (A.getD i []) (by omega) x5
   rw[(hPc _).1 x1] at hc
   refine oL (List.range 16) (FzOb.no ?_)
   refine⟨⟨rfl,by omega,by omega⟩,?_⟩
   refine Split.no (show ((((A.getD i []).length:Nat):Int) != ((q:Nat):Int))=false by rw[x2]; simp) ?_
   refine⟨⟨rfl,by omega,by omega⟩,?_⟩
   refine oP hc rfl rfl ?_
   repeat first | apply sT | apply sF
   refine oL (List.range 14) (FzOb.no ?_)
   apply bY <;> intro h3
   ·have h3:0<i:=by have:=dT h3; omega
    have ei:((i:Int) - 1).toNat=i - 1:=by omega
    have hs:=zio (A.getD i []) (A.getD ((i:Int) - 1).toNat []) (by omega) (fun s hs=>by have:=x4 s hs; omega)
    have hne:decide (A.getD i []=A.getD ((i:Int) - 1).toNat [])=false:=jH fun e=>by
     rw[ei,gdP h2,gdP (show i - 1<A.length by omega)] at e
     have:=zgh hAn h2 (show i - 1<A.length by omega) e
     omega
    rw[hne] at hs
    refine⟨⟨rfl,by omega,by omega⟩,?_⟩
    refine⟨i6,?_⟩
    refine⟨⟨rfl,by omega,by omega⟩,?_⟩
    refine oP hs rfl rfl ?_
    repeat first | apply sT | apply sF
    refine⟨i6,?_⟩
    exact⟨i+1,⟨rfl,⟨obD d.ds rfl,trivial⟩,wq rfl⟩,h2,msr h2⟩
   repeat first | apply sT | apply sF
   refine⟨i6,?_⟩
   exact⟨i+1,⟨rfl,⟨obD d.ds rfl,trivial⟩,wq rfl⟩,h2,msr h2⟩
  refine CutOb.at [(2,.d (lII p)),(3,.box 3 0),(7,.d (.bool true))] [(3,.box (d.ds.map AV.d))] ⟨rfl,⟨obD d.ds rfl,trivial⟩,wq rfl⟩ ?_
  refine cP (hCP p (by omega) (by omega)) rfl rfl ?_
  apply bY <;> intro h3
  ·exact r1B rfl rfl
  have h3:cprR d p=0:=by simpa using h3
  have hpP:=(hPc p).2 h3
  have hp7:=hPle p hpP
  have hB:=hPr (p.length:Nat)
  rw[hpar p.length (by omega)] at hB
  have hpB:p∈fltP (p.length:Nat) P:=kO.2 ⟨hpP,by simp⟩
  have hBl:(fltP (p.length:Nat) P).length<=P.length:=qF _ _
  have hBm:∀ x∈fltP (p.length:Nat) P,x∈P:=fun x hx=>(kO.1 hx).1
  generalize fltP (p.length:Nat) P=B at hB hpB hBl hBm
  refine CallSt.ro hB rfl rfl ?_
  refine LoopOb.of (σ:=Nat) (fun i=>([(2,.d (lII p)),(3,.box 3 0),(7,.d (.bool true)),(16,.d (lPP B)),(17,.d (.int .i64 0)),(18,.d (I i))],[(3,.box (d.ds.map AV.d))])) (fun i=>i<=B.length /\ ∀ j,j<i->B.getD j []≠p) (fun i=>B.length - i) 0
   ⟨rfl,⟨obD d.ds rfl,trivial⟩,wq rfl⟩ ⟨jF _,fun j hj=>by omega⟩ fun i hi=>?_
  obtain⟨hi,hno⟩:=hi
  apply bY <;> intro h4
  ·have h4:i<B.length:=by have:=dT h4; omega
   obtain⟨x3,x4⟩:=hPm _ (hBm _ (show B.getD i []∈B by rw[gdP h4]; exact kK h4))
   refine⟨⟨rfl,by omega,by omega⟩,?_⟩
   refine cP (zio (B.getD i []) p (by omega) (fun s hs=>by have:=x4 s hs; omega)) rfl rfl ?_
   apply bY <;> intro h5
   ·repeat first | apply sT | apply sF
    exact r1B rfl rfl
   have h5:¬ B.getD i []=p:=jbd h5
   refine⟨i6,?_⟩
   refine⟨i+1,⟨rfl,⟨obD d.ds rfl,trivial⟩,wq rfl⟩,⟨h4,fun j hj=>?_⟩,msr h4⟩
   by_cases e:j=i
   ·subst e; exact h5
   exact hno j (by omega)
  have h4:i=B.length:=by have:=dF h4; omega
  subst h4
  obtain⟨j,hj,e⟩:=kM hpB
  exact absurd (by rw[gdP hj]; exact e) (hno j hj)
 have ec:cnR d=([],dayE d):=by unfold cnR; rw[kG hd]
 rw[ec]
 refine Split.yes (by simpa using hd) ?_
 repeat first | apply sT | apply sF
 exact r1B rfl rfl
end Go.Pg
