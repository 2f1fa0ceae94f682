/- Lemmas, joined by program. -/
import Derived.Test.YtcgbaefojdoicaaGreatTE
set_option maxHeartbeats 4000000
set_option linter.all false
namespace Go.Pg
open Go.Proofs Go.RowKit
theorem fitG {α:Type} [Inhabited α] {k:Nat} {sh:Nat->Sh} {at_:α->Nat->D} {x:D} (H:∀ g:Nat->D,(∀ j,j<k->Fits (sh j) (g j)) -> ∃ a:α,∀ j,j<k->D.eqv (g j) (at_ a j)) (h:Fits (.sl k sh) x):∃ l:List α,l.length<=maxLen/\D.eqv x (.slc k l.length fun i=>at_ (l.getD i default)):=by
 obtain⟨n,f,rfl,hn,hf⟩:=h
 have q:∀ i,i<n -> ∃ a:α,∀ j,j<k->D.eqv (f i j) (at_ a j):=fun i hi=>H (f i) (hf i hi)
 refine⟨(List.range n).map fun i=>if h:i<n then Classical.choose (q i h) else default,by simpa using hn,by simp,.inr ⟨rfl,fun i hi j hj=>?_⟩⟩
 have e:(((List.range n).map fun i=>if h:i<n then Classical.choose (q i h) else default).getD i default)=Classical.choose (q i hi):=by
  rw[hZ,jU,qZ hi]
  show (if h:i<n then Classical.choose (q i h) else default)=_
  rw[dif_pos hi]
 dsimp only
 rw[e]
 exact jav (q i hi) j hj
theorem zqY {x:D} (h:Fits (shI 1) x):∃ l:List Int,D.eqv x (lI l):=fitI (α:=Int) (at_:=fun a _=>I a) (fun g=>g 0) (fun g j hj=>by
 match j,hj with
 | 0,_=>rfl) h
abbrev shII:Sh:=.sl 1 fun j=>shSl.getD' [shI 1] j
theorem zqZ {x:D} (h:Fits shII x):∃ l:List (List Int),l.length<=maxLen/\D.eqv x (lII l):=fitG (α:=List Int) (at_:=fun a _=>lI a) (fun g hg=>by
 obtain⟨l,hl⟩:=zqY (hg 0 (by decide))
 refine⟨l,fun j hj=>?_⟩
 match j,hj with
 | 0,_=>exact hl) h
theorem rep_lII {w:World} {ok:Nat->Prop} {x:D} {v:Value} (hr:Rep1 w ok (.d x) v) (h:All2 Fits [shII] [x]):∃ l:List (List Int),Rep1 w ok (.d (lII l)) v:=by
 cases h with
 | cons h _=>
 obtain⟨l,-,e⟩:=zqZ h
 exact⟨l,Rep.eqv hr e⟩
structure Jns where
  F:List Fit
  M:List Mis
abbrev Jns.v (j:Jns):V1:=.agg [lFt j.F,lMs j.M]
abbrev shJns:List Sh:=[.sl 3 fun j=>shSl.getD' [shI 1,.int .i64,.int .i64] j,.sl 2 fun j=>shSl.getD' [shI 1,shI 3] j]
theorem rep_Jns {w:World} {ok:Nat->Prop} {xs:List D} {v:Value} (hr:Rep1 w ok (.agg xs) v) (h:All2 Fits shJns xs):∃ d:Jns,(d.F.length<=maxLen/\d.M.length<=maxLen)/\Rep1 w ok d.v v:=by
 obtain⟨vs,e,hv⟩:=hr
 cases h with | cons h0 h=>
 cases h with | cons h1 h=>
 cases h
 obtain⟨F,bF,eF⟩:=fitG (α:=Fit) (at_:=Fit.at) (fun g hg=>by
  obtain⟨l,hl⟩:=zqY (hg 0 (by decide))
  obtain⟨a,-,ha⟩:=hg 1 (by decide)
  obtain⟨b,-,hb⟩:=hg 2 (by decide)
  refine⟨⟨l,⟨a,b⟩⟩,fun j hj=>?_⟩
  match j,hj with
  | 0,_=>exact hl
  | 1,_=>rw[ha]; exact⟨rfl,rfl⟩
  | 2,_=>rw[hb]; exact⟨rfl,rfl⟩) h0
 obtain⟨M,bM,eM⟩:=fitG (α:=Mis) (at_:=Mis.at) (fun g hg=>by
  obtain⟨l,hl⟩:=zqY (hg 0 (by decide))
  obtain⟨r,hr⟩:=fitI (α:=Rsn) (at_:=Rsn.at) (fun g=>⟨⟨g 0,g 1⟩,g 2⟩) (fun g j hj=>by
   match j,hj with
   | 0,_=>rfl
   | 1,_=>rfl
   | 2,_=>rfl) (hg 1 (by decide))
  refine⟨⟨l,r⟩,fun j hj=>?_⟩
  match j,hj with
  | 0,_=>exact hl
  | 1,_=>exact hr) h1
 exact⟨⟨F,M⟩,⟨bF,bM⟩,vs,e,zdk hv ⟨eF,eM,trivial⟩⟩
abbrev shVdt:List Sh:=[.int .i64,shII,shII]
theorem rep_Vdt {w:World} {ok:Nat->Prop} {xs:List D} {v:Value} (hr:Rep1 w ok (.agg xs) v) (h:All2 Fits shVdt xs):∃ d:Vdt,Rep1 w ok d.v v:=by
 obtain⟨vs,e,hv⟩:=hr
 cases h with | cons h0 h=>
 cases h with | cons h1 h=>
 cases h with | cons h2 h=>
 cases h
 obtain⟨n0,-,rfl⟩:=h0
 obtain⟨T,-,eT⟩:=zqZ h1
 obtain⟨A,-,eA⟩:=zqZ h2
 exact⟨⟨n0,T,A⟩,vs,e,zdk hv ⟨⟨rfl,rfl⟩,eT,eA,trivial⟩⟩
end Go.Pg
set_option maxRecDepth 100000
namespace Go.Pg
open Go.Proofs Go.RowKit Go.Sort Go.Shelf
theorem zg8 (ids s:List Int):∀ i j,(bitA ids s i).testBit j=(decide (j<i) && s.contains (ids.getD j 0))
 | 0,j=>by show (0:Nat).testBit j=_; simp
 | i+1,j=>by
  have ih:=zg8 ids s i
  rw[zcE]
  by_cases e:s.contains (ids.getD i 0)=true
  ·rw[kI e,zg6,ih]
   by_cases e2:i=j
   ·subst e2; rw[e,jG (rfl:i=i),jG (Nat.lt_succ_self i),kV]; rfl
   rw[jH e2,jat]
   congr 1
   exact k9.2 (by omega)
  rw[kG e,ih]
  by_cases e2:i=j
  ·subst e2
   rw[Bool.not_eq_true] at e
   rw[e,kU,kU]
  congr 1
  exact k9.2 (by omega)
theorem zbq (ids s:List Int) (j:Nat):(bitS ids s).testBit j=(decide (j<ids.length) && s.contains (ids.getD j 0)):=zg8 ids s ids.length j
theorem zf9 (ids s:List Int):bitS ids s<2 ^ ids.length:=Nat.lt_pow_two_of_testBit _ fun j hj=>by
 rw[zbq,jH (by omega),kP]
theorem zn3 {l:List Int} {i:Nat} (h:i<l.length):l.getD i 0∈l:=by rw[hZ,kH h]; exact kW h
theorem zdQ {ids s:List Int} (hr:ids.Pairwise (· < ·)) (h1:setB s=true) (h2:partB s ids=true):memb ids (bitS ids s)=s/\0<bitS ids s:=by
 have hs:=zoL h1
 have key:memb ids (bitS ids s)=s:=by
  refine zqE (hr.sublist (zdo ids _)) hs.1 fun x=>⟨fun hx=>?_,fun hx=>?_⟩
  ·obtain⟨k,hk,rfl⟩:=kQ ((zdo ids _).subset hx)
   have e:ids.getD k 0=ids[k]:=by rw[hZ,kH hk]; rfl
   rw[<- e] at hx ⊢
   have:=(zbr (zba hr) hk).1 hx
   rw[zbq,jP] at this
   exact kD.1 this.2
  have:=kD.1 (jC.1 h2 x hx)
  obtain⟨k,hk,rfl⟩:=kQ this
  have e:ids.getD k 0=ids[k]:=by rw[hZ,kH hk]; rfl
  rw[<- e] at hx ⊢
  refine (zbr (zba hr) hk).2 ?_
  rw[zbq,jG hk,kD.2 hx]; rfl
 refine⟨key,Nat.pos_of_ne_zero fun e=>?_⟩
 rw[e,zlr] at key
 rw[<- key] at hs
 exact absurd hs.2 (by simp)
theorem zgx {ids:List Int} (hr:ids.Pairwise (· < ·)) {k b:Nat} (hk:k<2 ^ ids.length) (hb:b<2 ^ ids.length):partB (memb ids k) (memb ids b)=decide (k &&& b=k):=by
 rw[kN,kS,zbE]
 unfold partB
 rw[jC]
 constructor
 ·intro h i hi
  have hl:=zg7 hk hi
  exact (zbr (zba hr) hl).1 (kD.1 (h _ ((zbr (zba hr) hl).2 hi)))
 intro h x hx
 obtain⟨i,hi,rfl⟩:=kQ ((zdo ids _).subset hx)
 have e:ids.getD i 0=ids[i]:=by rw[hZ,kH hi]; rfl
 rw[<- e] at hx ⊢
 exact kD.2 ((zbr (zba hr) hi).2 (h i ((zbr (zba hr) hi).1 hx)))
def alwQ (d:Day) (f:Fit) (r:Rpt):Bool:=decide ((alwR d.s (brnD d f.IDs) r f.At).2=0) && (alwR d.s (brnD d f.IDs) r f.At).1
def shoB (d:Day) (ids:List Int):Bool:=decide ((brnD d ids).To - (brnD d ids).From<=d.Long)
def ckFt (d:Day) (f:Fit):Bool:=setB f.IDs && partB f.IDs (sigL d.R) && (shoB d f.IDs && (lstD d f.IDs).all (alwQ d f))
def ckMs (d:Day) (m:Mis):Bool:=setB m.IDs && partB m.IDs (sigL d.R) && (if shoB d m.IDs=true then decide (chkR d.s (brnD d m.IDs) (lstD d m.IDs) [] m.R=0) else decide (m.R.length=0))
def hasB (F:List Fit) (l:List Int):Bool:=F.any fun f=>partB l f.IDs
def fndM (M:List Mis) (l:List Int):Bool:=M.any fun m=>partB m.IDs l
def stT (ids:List Int) (j:Jns) (k:Nat):Bool:=hasB j.F (memb ids k) || fndM j.M (memb ids k)
def allT (ids:List Int) (j:Jns):Bool:=(List.range (2 ^ ids.length)).all fun k=>decide (k=0) || stT ids j k
def ctbE (d:Day) (j:Jns):Int:=if dayE d≠0 then dayE d else if 127<j.F.length \/ 127<j.M.length then 2 else if (j.F.all (ckFt d) && j.M.all (ckMs d))=false then 8 else if allT (sigL d.R) j=false then 8 else 0
theorem zsJ {l:List Int} {x:Int} (h:l.contains x=true):∃ i:Nat,i<l.length/\idxL (· == x) l=(i:Int)/\l.getD i 0=x:=by
 rcases idxL_cases (· == x) l 0 with⟨e,h1⟩ | ⟨i,hi,e,h1,_⟩
 ·have:=zj2 l x
  rw[e,h] at this
  cases this
 exact⟨i,hi,e,eq_of_beq h1⟩
theorem zkJ (l:List Fit) (g:FuncId) (c0:D) (p:Fit->Bool) (hn:l.length<=1000000) (hp:∀ i,i<l.length->Spec PP g [(l.getD i default).v,.d c0] [B (p (l.getD i default))]):Spec PP 75 [.d (lFt l),.d (cloB g [c0])] [B (l.any p)]:=by
 have hx:Spec PP 133 [.d (lFt l),.d (cloB g [c0])] [N (idxL p l)]:=by
  refine sA Tryz.func133 ?_
  refine lOf (σ:=Nat) (fun i=>([(0,.d (lFt l)),(1,.d (cloB g [c0])),(6,.d (lFt l)),(7,.d (I l.length)),(8,.d (I i))],[])) (fun i=>i<=l.length /\ ∀ j,j<i->p (l.getD j default)=false) (fun i=>l.length - i) 0
   ⟨rfl,trivial,wq rfl⟩ z0L fun i hi=>?_
  obtain⟨hi,ha⟩:=hi
  apply bY <;> intro h1
  ·have h1:i<l.length:=by have:=dT h1; omega
   refine⟨⟨rfl,by omega,by omega⟩,?_⟩
   refine cP (hp i h1) rfl rfl ?_
   apply bY <;> intro h2
   ·exact r1I rfl (zai default h1 h2 ha).symm
   refine⟨i6,?_⟩
   refine⟨i+1,⟨rfl,trivial,wq rfl⟩,⟨h1,fun j hj=>?_⟩,(msr (by omega))⟩
   by_cases e:j=i
   ·subst e; exact h2
   exact ha j (by omega)
  have h1:i=l.length:=by have:=dF h1; omega
  subst h1
  exact r1I rfl (zaj default ha).symm
 refine sA Tryz.func75 ?_
 refine cP hx rfl rfl ?_
 refine r1B rfl ?_
 rw[kN,kS]
 exact za9 p l default
theorem zsE (l:List Int) (f:Fit) (hl:l.length<=1000000) (hf:f.IDs.length<=1000000):Spec PP 110 [f.v,.d (capB [lI l])] [B (partB l f.IDs)]:=by
 refine sA Tryz.func110 ?_
 refine cP (zeV l f.IDs hl hf) rfl rfl ?_
 exact r1B rfl rfl
structure JnOk (j:Jns):Prop where
  F:j.F.length<=1000000
  M:j.M.length<=1000000
  f:∀ f∈j.F,f.IDs.length<=1000000
  m:∀ m∈j.M,m.IDs.length<=1000000/\m.R.length<=1000000
theorem JnOk.get {j:Jns} (h:JnOk j) {i:Nat} (hi:i<j.F.length):(j.F.getD i default).IDs.length<=1000000:=by
 refine h.f _ ?_
 rw[hZ,kH hi]; exact kW hi
theorem j_has {j:Jns} (h:JnOk j) (l:List Int) (hl:l.length<=1000000):Spec PP 46 [j.v,.d (lI l)] [B (hasB j.F l)]:=by
 refine sA Tryz.func46 ?_
 refine fEq [3] (zkJ j.F 110 (capB [lI l]) (fun f=>partB l f.IDs) h.F fun i hi=>zsE l _ hl (h.get hi)) rfl ⟨dE _,⟨rfl,rfl,fun j hj=>by obtain rfl:j=0:=wE.1 hj; exact dE _⟩,trivial⟩ rfl ?_
 exact r1B rfl rfl
def btsR (all s:List Int):Nat × Bool:=if (setB s && partB s all)=true then (bitS all s,true) else (0,false)
theorem zjz (all:List Int):bitS all []=0:=by
 apply jaz
 intro j
 rw[zbq,Nat.zero_testBit]; simp
theorem gdI {l:List Int} {i:Nat} (h:i<l.length):l.getD i 0=l[i]:=by rw[hZ,kH h]; rfl
theorem zop {all s:List Int} (hr:all.Pairwise (· < ·)) {i k:Nat} (hi:i<s.length) (hk:k<all.length) (e:all.getD k 0=s.getD i 0) (hs:∀ j,j<i->s.getD j 0<s.getD i 0):bitS all (s.take (i+1))=bitS all (s.take i)+2 ^ k:=by
 have hlt:bitS all (s.take i)<2 ^ k:=Nat.lt_pow_two_of_testBit _ fun j hj=>by
  rw[zbq,Bool.and_eq_false_iff]
  by_cases hjn:j<all.length
  ·right
   rw[kX]
   intro hc
   obtain⟨q,hq,eq⟩:=kQ (kD.1 hc)
   rw[jQ] at hq
   rw[jaR] at eq
   have h1:=hs q (by omega)
   rw[gdI (show q<s.length by omega),eq,<- e] at h1
   by_cases ej:k=j
   ·subst ej; omega
   have:=qQ.1 hr k j hk hjn (by omega)
   rw[gdI hjn,gdI hk] at h1
   omega
  left; exact jH hjn
 rw[zsq hlt]
 apply jaz
 intro j
 rw[zg6,zbq,zbq,zaK hi 0]
 by_cases hjn:j<all.length
 ·rw[jG hjn,kL,kL,kN,jX,kD,kD,qD,kT,kS,<- e]
  refine or_congr jbC ⟨fun h=>?_,fun h=>by rw[h]⟩
  rw[gdI hjn,gdI hk] at h
  exact (zhM (zba hr) hjn hk h).symm
 rw[jH hjn,kP,kP,wB]
 exact (jH (by omega)).symm
theorem zjA {all:List Int} (h:all.length<=7) (s:List Int):bitS all s<128:=jN (zf9 all s) (qT (by decide) h)
theorem zhv (all s:List Int) (hr:all.Pairwise (· < ·)) (h7:all.length<=7) (hs:s.length<=1000000):Spec PP 84 [.d (lI all),.d (lI s)] [N ((btsR all s).1:Nat),B (btsR all s).2]:=by
 refine sA Tryz.func84 ?_
 refine lOf (σ:=Nat) (fun i=>([(0,.d (lI all)),(1,.d (lI s)),(6,.d (I (bitS all (s.take i):Nat))),(7,.d (I i))],[])) (fun i=>i<=s.length/\(∀ j,j<i->all.contains (s.getD j 0)=true) /\ ∀ j,j+1<i->s.getD j 0<s.getD (j+1) 0) (fun i=>s.length - i) 0
  ⟨rfl,trivial,avQ rfl,avQ rfl,avQ (by rw[List.take_zero,zjz]; rfl),avQ rfl,trivial⟩ ⟨jF _,fun j hj=>by omega,fun j hj=>by omega⟩ fun i hi=>?_
 obtain⟨hi,ha,hb⟩:=hi
 have hlt:∀ i',i'<i+1->(∀ j,j+1<i'+1->s.getD j 0<s.getD (j+1) 0) -> ∀ j,j<i'->s.getD j 0<s.getD i' 0:=fun i' _ h j hj=>by
  have:∀ k,j+k+1<=i'->s.getD j 0<s.getD (j+k+1) 0:=by
   intro k
   induction k with
   | zero=>intro hk; exact h j (by omega)
   | succ k ih=>
   intro hk
   have h1:=ih (by omega)
   have h2:=h (j+k+1) (by omega)
   show s.getD j 0<s.getD (j+k+1+1) 0
   omega
  have:=this (i' - j - 1) (by omega)
  rwa [show j+(i' - j - 1)+1=i' by omega] at this
 have no:∀ j,j<s.length->(all.contains (s.getD j 0)=false \/ (0<j/\s.getD j 0<=s.getD (j - 1) 0))->btsR all s=(0,false):=fun j hj h=>by
  unfold btsR
  rw[kG]
  intro hh
  rw[jP] at hh
  rcases h with h | ⟨h0,h⟩
  ·have:=jC.1 hh.2 (s.getD j 0) (zn3 hj)
   rw[h] at this; cases this
  have:=qQ.1 (zoL hh.1).1 (j - 1) j (by omega) hj (by omega)
  rw[gdI hj,gdI (show j - 1<s.length by omega)] at h
  omega
 apply bY <;> intro h1
 ·have h1:i<s.length:=by have:=dT h1; omega
  refine⟨⟨rfl,by omega,by omega⟩,?_⟩
  have hI:=zp5 all (s.getD i 0) (by omega)
  have hin:=in_lt all (s.getD i 0)
  by_cases h2:all.contains (s.getD i 0)=false
  ·refine cP hI rfl rfl ?_
   refine oN 18 ?_
   refine sYe (show decide (idxL (· == (s.getD i 0)) all<0)=true by rw[hin,h2]; rfl) ?_
   repeat first | apply sT | apply sF
   rw[no i h1 (.inl h2)]
   exact⟨rtI rfl rfl,rtB rfl rfl,trivial⟩
  have h2:all.contains (s.getD i 0)=true:=by simpa using h2
  obtain⟨k,hk,ek,ek2⟩:=zsJ h2
  rw[ek] at hI
  refine cP hI rfl rfl ?_
  refine oN 18 ?_
  refine sNo (jH (show ¬ ((k:Nat):Int)<0 by omega)) ?_
  have go:(∀ j,j+1<i+1->s.getD j 0<s.getD (j+1) 0)->bitS all (s.take (i+1))=bitS all (s.take i)+2 ^ k:=fun h=>zop hr h1 hk ek2 (hlt i (Nat.lt_succ_self i) h)
  have hx:=zjA h7 (s.take i)
  have es:IntKind.wrap .i64 (1 * 2 ^ (min ((k:Nat):Int).toNat (IntKind.bits .i64)))=((2 ^ k:Nat):Int):=bShl (by omega)
  have h2k:2 ^ k<=128:=jM (qT (j:=7) (by decide) (by omega)) (by decide)
  generalize 2 ^ k=P at es go h2k
  repeat first | apply sT | apply sF
  apply bY <;> intro h3
  ·have h3:0<i:=by have:=dT h3; omega
   have ei:((i:Int) - 1).toNat=i - 1:=by omega
   repeat first | apply sT | apply sF
   refine⟨⟨rfl,by omega,by omega⟩,?_⟩
   refine⟨i6,?_⟩
   refine⟨⟨rfl,by omega,by omega⟩,?_⟩
   repeat first | apply sT | apply sF
   apply bY <;> intro h4
   ·have h4:s.getD i 0<=s.getD (i - 1) 0:=by have h4:=dT h4; rw[ei] at h4; exact h4
    repeat first | apply sT | apply sF
    rw[no i h1 (.inr ⟨h3,h4⟩)]
    exact⟨rtI rfl rfl,rtB rfl rfl,trivial⟩
   have h4:s.getD (i - 1) 0<s.getD i 0:=by have h4:=dF h4; rw[ei] at h4; have:¬ s.getD i 0<=s.getD (i - 1) 0:=h4; omega
   have hb':∀ j,j+1<i+1->s.getD j 0<s.getD (j+1) 0:=fun j hj=>by
    by_cases e:j+1=i
    ·obtain rfl:j=i - 1:=by omega
     rw[show i - 1+1=i by omega]; exact h4
    exact hb j (by omega)
   repeat first | apply sT | apply sF
   refine⟨by omega,?_⟩
   refine⟨by rw[es]; exact i6,?_⟩
   refine⟨i6,?_⟩
   refine⟨i+1,⟨rfl,trivial,avQ rfl,avQ rfl,avI rfl (by rw[es,go hb']; omega),avQ rfl,trivial⟩,⟨h1,fun j hj=>?_,hb'⟩,msr h1⟩
   by_cases e:j=i
   ·subst e; exact h2
   exact ha j (by omega)
  have h3:i=0:=by have:=dF h3; omega
  have hb':∀ j,j+1<i+1->s.getD j 0<s.getD (j+1) 0:=fun j hj=>by omega
  repeat first | apply sT | apply sF
  refine⟨by omega,?_⟩
  refine⟨by rw[es]; exact i6,?_⟩
  refine⟨i6,?_⟩
  refine⟨i+1,⟨rfl,trivial,avQ rfl,avQ rfl,avI rfl (by rw[es,go hb']; omega),avQ rfl,trivial⟩,⟨h1,fun j hj=>?_,hb'⟩,msr h1⟩
  by_cases e:j=i
  ·subst e; exact h2
  exact ha j (by omega)
 have h1:i=s.length:=by have:=dF h1; omega
 subst h1
 have hp:partB s all=true:=jC.2 fun x hx=>by
  obtain⟨j,hj,rfl⟩:=kQ hx
  have:=ha j hj
  rwa [gdI hj] at this
 have hrs:risB s=true:=by
  unfold risB
  refine jC.2 fun j hj=>jG ?_
  have:=kJ.1 hj
  exact hb j (by omega)
 have hsb:setB s=decide (0<s.length):=by unfold setB; rw[hrs,kL]
 rw[jZ]
 have er:btsR all s=(bitS all s,decide (0<s.length)):=by
  unfold btsR
  rw[hsb,hp,wL]
  by_cases h0:0<s.length
  ·rw[kI (jG h0),jG h0]
  have e0:s=[]:=ja5.1 (by omega)
  rw[kG (by rw[jH h0]; decide),jH h0,e0,zjz]
 rw[er]
 exact⟨rtI rfl rfl,rtB rfl (k9.2 (by omega)),trivial⟩
abbrev rowBo (p:Nat->Bool):Nat->Nat->D:=fun q _=>.bool (p q)
theorem zn0 {F:List Fit} {l:List Int} {i:Nat} (h:i<F.length):hasB (F.take (i+1)) l=(hasB (F.take i) l || partB l (F.getD i default).IDs):=by
 unfold hasB
 rw[zaK h default,List.any_append]; simp
theorem zco {n:Nat} {f g:Nat->Bool} (h:∀ q,q<n->f q=g q):D.eqv (.slc 1 n (rowBo f)) (.slc 1 n (rowBo g)):=⟨rfl,.inr ⟨rfl,fun q hq j hj=>by
 show D.eqv (.bool (f q)) (.bool (g q))
 rw[h q hq]; exact dE _⟩⟩
theorem zcn {n m:Nat} {f g:Nat->Bool} {b:Bool} (hm:g m=b) (h:∀ q,q<n->q≠m->f q=g q):D.eqv (.slc 1 n (storeRow (rowBo f) ((m:Nat):Int).toNat 0 [.bool b])) (.slc 1 n (rowBo g)):=⟨rfl,.inr ⟨rfl,fun q hq j hj=>by
 obtain rfl:j=0:=by omega
 show D.eqv (storeRow (rowBo f) ((m:Nat):Int).toNat 0 [.bool b] q 0) (.bool (g q))
 unfold storeRow
 by_cases e:q=m
 ·rw[kI (by rw[e]; exact⟨rfl,jE _,by simp⟩),e,hm]; exact dE _
 rw[kG fun hh=>e hh.1]
 show D.eqv (.bool (f q)) _
 rw[h q hq e]; exact dE _⟩⟩
theorem zel {α:Type} {q:α->Bool} (l:List α):(!l.any fun s=>!q s)=l.all q:=by
 rw[kN,jY,jan,jC]
 refine forall_congr' fun x=>forall_congr' fun _=>?_
 simp
theorem zpX (l:List Rpt) (g:FuncId) (c0 c1 c2:D) (p:Rpt->Bool) (hn:l.length<=1000000) (hp:∀ i,i<l.length->Spec PP g [(l.getD i default).v,.d c0,.d c1,.d c2] [B (p (l.getD i default))]):Spec PP 116 [.d (lR l),.d (cloB g [c0,c1,c2])] [B (l.any p)]:=by
 have hx:Spec PP 154 [.d (lR l),.d (cloB g [c0,c1,c2])] [N (idxL p l)]:=by
  refine sA Tryz.func154 ?_
  refine lOf (σ:=Nat) (fun i=>([(0,.d (lR l)),(1,.d (cloB g [c0,c1,c2])),(6,.d (lR l)),(7,.d (I l.length)),(8,.d (I i))],[])) (fun i=>i<=l.length /\ ∀ j,j<i->p (l.getD j default)=false) (fun i=>l.length - i) 0
   ⟨rfl,trivial,wq rfl⟩ z0L fun i hi=>?_
  obtain⟨hi,ha⟩:=hi
  apply bY <;> intro h1
  ·have h1:i<l.length:=by have:=dT h1; omega
   refine⟨⟨rfl,by omega,by omega⟩,?_⟩
   refine cP (hp i h1) rfl rfl ?_
   apply bY <;> intro h2
   ·exact r1I rfl (zai default h1 h2 ha).symm
   refine⟨i6,?_⟩
   refine⟨i+1,⟨rfl,trivial,wq rfl⟩,⟨h1,fun j hj=>?_⟩,(msr (by omega))⟩
   by_cases e:j=i
   ·subst e; exact h2
   exact ha j (by omega)
  have h1:i=l.length:=by have:=dF h1; omega
  subst h1
  exact r1I rfl (zaj default ha).symm
 refine sA Tryz.func116 ?_
 refine cP hx rfl rfl ?_
 refine r1B rfl ?_
 rw[kN,kS]
 exact za9 p l default
theorem zpY (l:List Mis) (g:FuncId) (c0:D) (p:Mis->Bool) (hn:l.length<=1000000) (hp:∀ i,i<l.length->Spec PP g [(l.getD i default).v,.d c0] [B (p (l.getD i default))]):Spec PP 78 [.d (lMs l),.d (cloB g [c0])] [B (l.any p)]:=by
 have hx:Spec PP 136 [.d (lMs l),.d (cloB g [c0])] [N (idxL p l)]:=by
  refine sA Tryz.func136 ?_
  refine lOf (σ:=Nat) (fun i=>([(0,.d (lMs l)),(1,.d (cloB g [c0])),(6,.d (lMs l)),(7,.d (I l.length)),(8,.d (I i))],[])) (fun i=>i<=l.length /\ ∀ j,j<i->p (l.getD j default)=false) (fun i=>l.length - i) 0
   ⟨rfl,trivial,wq rfl⟩ z0L fun i hi=>?_
  obtain⟨hi,ha⟩:=hi
  apply bY <;> intro h1
  ·have h1:i<l.length:=by have:=dT h1; omega
   refine⟨⟨rfl,by omega,by omega⟩,?_⟩
   refine cP (hp i h1) rfl rfl ?_
   apply bY <;> intro h2
   ·exact r1I rfl (zai default h1 h2 ha).symm
   refine⟨i6,?_⟩
   refine⟨i+1,⟨rfl,trivial,wq rfl⟩,⟨h1,fun j hj=>?_⟩,(msr (by omega))⟩
   by_cases e:j=i
   ·subst e; exact h2
   exact ha j (by omega)
  have h1:i=l.length:=by have:=dF h1; omega
  subst h1
  exact r1I rfl (zaj default ha).symm
 refine sA Tryz.func78 ?_
 refine cP hx rfl rfl ?_
 refine r1B rfl ?_
 rw[kN,kS]
 exact za9 p l default
abbrev Fit.ds (f:Fit):List D:=[lI f.IDs,I f.At.X,I f.At.Y]
theorem zsF (d:Day) (b:Brn) (f:Fit) (r:Rpt):Spec PP 134 [r.v,.d (capB d.ds),.d (capB b.ds),.d (capB f.ds)] [B (!(decide ((alwR d.s b r f.At).2=0) && (alwR d.s b r f.At).1))]:=by
 refine sA Tryz.func134 ?_
 have h:=znO d.s b r f.At
 generalize alwR d.s b r f.At=x at h ⊢
 refine cP h rfl rfl ?_
 apply bY <;> intro h1
 ·have h1:¬ x.2=0:=by simpa using h1
  repeat first | apply sT | apply sF
  refine r1B rfl ?_
  rw[jH h1]; rfl
 have h1:x.2=0:=by simpa using h1
 repeat first | apply sT | apply sF
 refine r1B rfl ?_
 rw[jG h1,kL]
theorem j_fit {d:Day} (h:DayOk d) (f:Fit) (hf:f.IDs.length<=1000000):Spec PP 77 [d.v,f.v] [B (ckFt d f)]:=by
 have hn:=h.n
 have h7:=sig7 h
 refine sA Tryz.func77 ?_
 refine oN 12 ?_
 refine oP (zhS f.IDs hf) rfl rfl ?_
 unfold ckFt
 cases h1:setB f.IDs with
 | false=>
  repeat first | apply sT | apply sF
  exact r1B rfl rfl
 | true=>
 repeat first | apply sT | apply sF
 refine oRo (zaR d (by omega)) rfl rfl ?_
 refine oP (zeV f.IDs (sigL d.R) hf (by omega)) rfl rfl ?_
 cases h2:partB f.IDs (sigL d.R) with
 | false=>
  repeat first | apply sT | apply sF
  exact r1B rfl rfl
 | true=>
 repeat first | apply sT | apply sF
 refine cP (zgJ d f.IDs (by omega) hf) rfl rfl ?_
 refine cP (zdX d (brnD d f.IDs) (zei h f.IDs)) rfl rfl ?_
 cases h3:shoB d f.IDs with
 | false=>
  have h3:decide ((brnD d f.IDs).To - (brnD d f.IDs).From<=d.Long)=false:=h3
  refine sNo h3 ?_
  repeat first | apply sT | apply sF
  exact r1B rfl rfl
 | true=>
 have h3:decide ((brnD d f.IDs).To - (brnD d f.IDs).From<=d.Long)=true:=h3
 refine sYe h3 ?_
 repeat first | apply sT | apply sF
 refine cR (zgI d f.IDs (by omega) hf) rfl rfl ?_
 refine fEq [2,5,3] (zpX (lstD d f.IDs) 134 (capB d.ds) (capB (brnD d f.IDs).ds) (capB f.ds) (fun r=>!alwQ d f r) (by have:=zfH d f.IDs; omega) fun i hi=>zsF d (brnD d f.IDs) f _) rfl ⟨dE _,⟨rfl,rfl,fun j hj=>by
  match j,hj with
  | 0,_=>exact dE _
  | 1,_=>exact dE _
  | 2,_=>exact dE _⟩,trivial⟩ rfl ?_
 repeat first | apply sT | apply sF
 refine r1B rfl ?_
 rw[zel]; rfl
theorem j_ct1 {d:Day} (h:DayOk d) (f:Fit) (hf:f.IDs.length<=1000000):Spec PP 76 [f.v,.d (capB d.ds)] [B (!ckFt d f)]:=by
 refine sA Tryz.func76 ?_
 refine cR (j_fit h f hf) rfl rfl ?_
 exact r1B rfl rfl
theorem znR {d:Day} (h:DayOk d) (m:Mis) (hf:m.IDs.length<=1000000) (hr:m.R.length<=1000000):Spec PP 80 [d.v,m.v] [B (ckMs d m)]:=by
 have hn:=h.n
 have h7:=sig7 h
 refine sA Tryz.func80 ?_
 refine oN 12 ?_
 refine oP (zhS m.IDs hf) rfl rfl ?_
 unfold ckMs
 cases h1:setB m.IDs with
 | false=>
  repeat first | apply sT | apply sF
  exact r1B rfl rfl
 | true=>
 repeat first | apply sT | apply sF
 refine oRo (zaR d (by omega)) rfl rfl ?_
 refine oP (zeV m.IDs (sigL d.R) hf (by omega)) rfl rfl ?_
 cases h2:partB m.IDs (sigL d.R) with
 | false=>
  repeat first | apply sT | apply sF
  exact r1B rfl rfl
 | true=>
 repeat first | apply sT | apply sF
 refine cP (zgJ d m.IDs (by omega) hf) rfl rfl ?_
 refine cP (zdX d (brnD d m.IDs) (zei h m.IDs)) rfl rfl ?_
 cases h3:shoB d m.IDs with
 | false=>
  have h3:decide ((brnD d m.IDs).To - (brnD d m.IDs).From<=d.Long)=false:=h3
  refine sYe (show (!decide ((brnD d m.IDs).To - (brnD d m.IDs).From<=d.Long))=true by rw[h3]; rfl) ?_
  refine r1B rfl ?_
  rw[kG (by decide)]
  simp only[kL]
  rw[kN,jaE,kS]
  omega
 | true=>
 have h3:decide ((brnD d m.IDs).To - (brnD d m.IDs).From<=d.Long)=true:=h3
 refine sNo (show (!decide ((brnD d m.IDs).To - (brnD d m.IDs).From<=d.Long))=false by rw[h3]; rfl) ?_
 refine oN 12 ?_
 refine oRo (zgI d m.IDs (by omega) hf) rfl rfl ?_
 refine CallOb.pureE (zhQ d.s (brnD d m.IDs) (lstD d m.IDs) [] m.R (jF _) hr) rfl ⟨zaa _,zaa _,dE _,rfl,dE _,trivial⟩ rfl ?_
 refine r1B rfl ?_
 rw[kI rfl]
 simp only[kL]
 rw[kN,jaE,kS]
theorem j_ct2 {d:Day} (h:DayOk d) (m:Mis) (hf:m.IDs.length<=1000000) (hr:m.R.length<=1000000):Spec PP 79 [m.v,.d (capB d.ds)] [B (!ckMs d m)]:=by
 refine sA Tryz.func79 ?_
 refine cR (znR h m hf hr) rfl rfl ?_
 exact r1B rfl rfl
theorem JnOk.getM {j:Jns} (h:JnOk j) {i:Nat} (hi:i<j.M.length):(j.M.getD i default).IDs.length<=1000000/\(j.M.getD i default).R.length<=1000000:=by
 refine h.m _ ?_
 rw[hZ,kH hi]; exact kW hi
abbrev Jns.ds (j:Jns):List D:=[lFt j.F,lMs j.M]
theorem zje {M:List Mis} {l:List Int} {i:Nat} (h:i<M.length):fndM (M.take (i+1)) l=(fndM (M.take i) l || partB (M.getD i default).IDs l):=by
 unfold fndM
 rw[zaK h default,List.any_append]; simp
theorem zc6 (d:Day) {j:Jns} (hj:JnOk j) (hn:d.R.length<=1000000):Spec PP 28 [d.v,j.v] [.d (.int .i64 (ctbE d j))]:=by
 have hF:=hj.F
 have hM:=hj.M
 refine sA Tryz.func28 ?_
 refine cP (zdZ d hn) rfl rfl ?_
 unfold ctbE
 apply bY <;> intro h0
 ·rw[kI (by simpa using h0)]
  exact r1I rfl rfl
 have h0:dayE d=0:=by simpa using h0
 have ok:=zaZ h0
 have h7:=sig7 ok
 rw[kG (fun hh=>hh h0)]
 by_cases c1:127<j.F.length \/ 127<j.M.length
 ·rw[kI c1]
  apply bY <;> intro h1
  ·repeat first | apply sT | apply sF
   exact r1I rfl rfl
  have h1:¬ 127<j.F.length:=by have:=dF h1; omega
  repeat first | apply sT | apply sF
  refine sYe (jG (show (127:Int)<(j.M.length:Int) by omega)) ?_
  exact r1I rfl rfl
 rw[kG c1]
 refine sNo (jH (show ¬ (127:Int)<(j.F.length:Int) by omega)) ?_
 repeat first | apply sT | apply sF
 refine sNo (jH (show ¬ (127:Int)<(j.M.length:Int) by omega)) ?_
 refine fEq [2] (zkJ j.F 76 (capB d.ds) (fun f=>!ckFt d f) hF fun i hi=>j_ct1 ok _ (hj.get hi)) rfl ⟨dE _,⟨rfl,rfl,fun j hj=>by obtain rfl:j=0:=wE.1 hj; exact dE _⟩,trivial⟩ rfl ?_
 cases c2:j.F.all (ckFt d) with
 | false=>
  have e2:(j.F.any fun f=>!ckFt d f)=true:=by have:=zel (q:=ckFt d) j.F; rw[c2] at this; simpa using this
  refine sYe e2 ?_
  repeat first | apply sT | apply sF
  rw[kP,kI rfl]
  exact r1I rfl rfl
 | true=>
 have e2:(j.F.any fun f=>!ckFt d f)=false:=by have:=zel (q:=ckFt d) j.F; rw[c2] at this; simpa using this
 refine sNo e2 ?_
 repeat first | apply sT | apply sF
 refine pEq (zpY j.M 79 (capB d.ds) (fun m=>!ckMs d m) hM fun i hi=>j_ct2 ok _ (hj.getM hi).1 (hj.getM hi).2) rfl ⟨dE _,⟨rfl,rfl,fun j hj=>by
  obtain rfl:j=0:=wE.1 hj
  refine⟨rfl,fun q hq=>?_⟩
  show D.eqv (getD' d.ds (0+q)) (getD' d.ds q)
  rw[qF]; exact dE _⟩,trivial⟩ rfl ?_
 repeat first | apply sT | apply sF
 cases c3:j.M.all (ckMs d) with
 | false=>
  have e3:(j.M.any fun m=>!ckMs d m)=true:=by have:=zel (q:=ckMs d) j.M; rw[c3] at this; simpa using this
  refine sYe e3 ?_
  rw[kI (show (true && false)=false from rfl)]
  exact r1I rfl rfl
 | true=>
 have e3:(j.M.any fun m=>!ckMs d m)=false:=by have:=zel (q:=ckMs d) j.M; rw[c3] at this; simpa using this
 refine sNo e3 ?_
 rw[kG (by decide)]
 have es:IntKind.wrap .i64 (1 * 2 ^ (min (((sigL d.R).length:Nat):Int).toNat (IntKind.bits .i64)))=((2 ^ (sigL d.R).length:Nat):Int):=bShl h7
 have hp:2 ^ (sigL d.R).length<=128:=jM (qT (j:=7) (by decide) (by omega)) (by decide)
 have h1p:1<=2 ^ (sigL d.R).length:=Nat.one_le_two_pow
 refine cR (zaR d hn) rfl rfl ?_
 refine lOf (σ:=Nat) (fun m=>([(3,.box 3 0),(6,.d (lI (sigL d.R))),(7,.d (I m))],[(3,.box (j.ds.map AV.d))])) (fun m=>1<=m/\m<=2 ^ (sigL d.R).length /\ ∀ k,0<k->k<m->stT (sigL d.R) j k=true) (fun m=>2 ^ (sigL d.R).length - m) 1
  ⟨rfl,⟨obD j.ds rfl,trivial⟩,wq rfl⟩ ⟨jE _,h1p,fun k a b=>by omega⟩ fun m hm=>?_
 obtain⟨hm,hm2,ha⟩:=hm
 refine⟨by omega,?_⟩
 apply bY <;> intro h1
 ·have h1:m<2 ^ (sigL d.R).length:=by have h1:=dT h1; rw[es] at h1; omega
  have next:stT (sigL d.R) j m=true -> ∀ k,0<k->k<m+1->stT (sigL d.R) j k=true:=fun h k k1 k2=>by
   by_cases e:k=m
   ·subst e; exact h
   exact ha k k1 (by omega)
  have hml:(memb (sigL d.R) m).length<=7:=jM (zaG _ _ _) h7
  have hms:2 ^ (sigL d.R).length - (m+1)<2 ^ (sigL d.R).length - m:=by omega
  refine cR (zdY (sigL d.R) m h7 (by omega)) rfl rfl ?_
  refine cP (j_has hj (memb (sigL d.R) m) (by omega)) rfl rfl ?_
  apply bY <;> intro h2
  ·refine⟨i6,?_⟩
   exact⟨m+1,⟨rfl,⟨obD j.ds rfl,trivial⟩,wq rfl⟩,⟨by omega,h1,next (by unfold stT; rw[h2]; rfl)⟩,hms⟩
  refine lOf (σ:=Nat) (fun i=>([(3,.box 3 0),(6,.d (lI (sigL d.R))),(7,.d (I m)),(8,.d (lI (memb (sigL d.R) m))),(52,.d (lMs j.M)),(53,.d (I j.M.length)),(54,.d (I i))],[(3,.box (j.ds.map AV.d))])) (fun i=>i<=j.M.length/\fndM (j.M.take i) (memb (sigL d.R) m)=false) (fun i=>j.M.length - i) 0
   ⟨rfl,⟨obD j.ds rfl,trivial⟩,wq rfl⟩ ⟨jF _,rfl⟩ fun i hi=>?_
  obtain⟨hi,hf⟩:=hi
  apply bY <;> intro h3
  ·have h3:i<j.M.length:=by have:=dT h3; omega
   have hs:=zje (l:=memb (sigL d.R) m) h3
   rw[hf,wB] at hs
   refine⟨⟨rfl,by omega,by omega⟩,?_⟩
   refine cP (zeV (j.M.getD i default).IDs (memb (sigL d.R) m) (hj.getM h3).1 (by omega)) rfl rfl ?_
   apply bY <;> intro h4
   ·refine⟨i6,?_⟩
    refine⟨m+1,⟨rfl,⟨obD j.ds rfl,trivial⟩,wq rfl⟩,⟨by omega,h1,next ?_⟩,hms⟩
    unfold stT
    rw[jX]; right
    refine kO.2 ⟨j.M.getD i default,?_,h4⟩
    rw[hZ,kH h3]; exact kW h3
   refine⟨i6,?_⟩
   exact⟨i+1,⟨rfl,⟨obD j.ds rfl,trivial⟩,wq rfl⟩,⟨h3,by rw[hs]; exact h4⟩,msr h3⟩
  have h3:i=j.M.length:=by have:=dF h3; omega
  subst h3
  rw[jZ] at hf
  have e:allT (sigL d.R) j=false:=by
   rw[kX]
   intro hh
   have:=jC.1 hh m (kJ.2 h1)
   rw[jH (by omega),wB] at this
   unfold stT at this
   rw[h2,hf] at this
   cases this
  rw[kI e]
  exact r1I rfl rfl
 have h1:m=2 ^ (sigL d.R).length:=by have h1:=dF h1; rw[es] at h1; omega
 subst h1
 have e:allT (sigL d.R) j=true:=jC.2 fun k hk=>by
  by_cases k0:k=0
  ·subst k0; rfl
  rw[ha k (by omega) (kJ.1 hk),kV]
 rw[kG (by rw[e]; decide)]
 exact r1I rfl rfl
theorem zhw (l:List Rpt) (id:Int) (hn:l.length<=1000000):Spec PP 193 [.d (lR l),N id] [N (rptI l id)]:=by
 refine sA Tryz.func193 ?_
 refine lOf (σ:=Nat) (fun i=>([(0,.d (lR l)),(1,.d (I id)),(5,.d (I i))],[])) (fun i=>i<=l.length /\ ∀ j,j<i->((l.getD j default).ID==id)=false) (fun i=>l.length - i) 0
  ⟨rfl,trivial,wq rfl⟩ z0L fun i hi=>?_
 obtain⟨hi,ha⟩:=hi
 apply bY <;> intro h1
 ·have h1:i<l.length:=by have:=dT h1; omega
  refine⟨⟨rfl,by omega,by omega⟩,?_⟩
  apply bY <;> intro h2
  ·refine r1I rfl ?_
   exact (zai (p:=fun r:Rpt=>r.ID==id) default h1 h2 ha).symm
  refine⟨i6,?_⟩
  refine⟨i+1,⟨rfl,trivial,wq rfl⟩,⟨h1,fun j hj=>?_⟩,(msr (by omega))⟩
  by_cases e:j=i
  ·subst e; exact h2
  exact ha j (by omega)
 have h1:i=l.length:=by have:=dF h1; omega
 subst h1
 refine r1I rfl ?_
 exact (zaj (p:=fun r:Rpt=>r.ID==id) default ha).symm
def cs2 (s:Svc) (l:List Rpt) (L:List (Nat->Bool)) (ps:List Place) (rs:List Rsn) (n:Nat) (q:Nat × Nat):Option (Nat × Nat):=
 if inB s ps q.1 n=true then (if 0<=fstI L n then none else some (q.1+1,q.2))
 else if outB s rs q.2 n=false then none
 else if rptI l (rs.getD q.2 default).R<0 \/ L.getD (rptI l (rs.getD q.2 default).R).toNat default n=true then none else some (q.1,q.2+1)
def ck2 (s:Svc) (l:List Rpt) (L:List (Nat->Bool)) (ps:List Place) (rs:List Rsn):Nat->Option (Nat × Nat)
 | 0=>some (0,0)
 | n+1=>(ck2 s l L ps rs n).bind (cs2 s l L ps rs n)
def ck2E (s:Svc) (l:List Rpt) (L:List (Nat->Bool)) (ps:List Place) (rs:List Rsn):Bool:=
 match ck2 s l L ps rs s.n with
 | none=>false
 | some q=>decide (ps.length<=q.1) && decide (rs.length<=q.2)
section
variable {s:Svc} {l:List Rpt} {L:List (Nat->Bool)} {ps:List Place} {rs:List Rsn}
theorem zjk {n:Nat} {q:Nat × Nat} (h:inB s ps q.1 n≠outB s rs q.2 n):cs2 s l L ps rs n q=cks s l L ps rs n q:=by
 unfold cs2 cks
 rw[kG h]
 cases hi:inB s ps q.1 n with
 | true=>rfl
 | false=>
 cases ho:outB s rs q.2 n with
 | true=>rfl
 | false=>rw[hi,ho] at h; exact absurd rfl h
theorem zfZ:∀ {n:Nat} {q:Nat × Nat},ckR s l L ps rs n=some q->ck2 s l L ps rs n=some q
 | 0,q,h=>h
 | n+1,q,h=>by
  have h:(ckR s l L ps rs n).bind (cks s l L ps rs n)=some q:=h
  cases hc:ckR s l L ps rs n with
  | none=>rw[hc] at h; cases h
  | some p=>
  rw[hc] at h
  have h:cks s l L ps rs n p=some q:=h
  show (ck2 s l L ps rs n).bind _=_
  rw[zfZ hc]
  show cs2 s l L ps rs n p=some q
  rw[zjk (fun e=>by rw[zph e] at h; cases h),h]
theorem zle {n:Nat} {w:Nat} (h:outB s rs w n=true):w<rs.length/\(rs.getD w default).At=plc s.c.M n:=by
 unfold outB at h
 rw[jP,kS,kS] at h
 exact h
theorem zg0 (hw:0<s.c.M.w):∀ {n:Nat} {q:Nat × Nat},ckR s l L ps rs n=none->ck2 s l L ps rs n=some q -> ∃ k,k<n/\q.2<rs.length/\(rs.getD q.2 default).At=plc s.c.M k
 | 0,q,h,_=>by cases h
 | n+1,q,h,h2=>by
  have h2:(ck2 s l L ps rs n).bind (cs2 s l L ps rs n)=some q:=h2
  cases hc:ckR s l L ps rs n with
  | some p=>
   rw[zfZ hc] at h2
   have h2:cs2 s l L ps rs n p=some q:=h2
   have h:cks s l L ps rs n p=none:=by
    have h:(ckR s l L ps rs n).bind (cks s l L ps rs n)=none:=h
    rw[hc] at h; exact h
   by_cases e:inB s ps p.1 n=outB s rs p.2 n
   ·cases hi:inB s ps p.1 n with
    | true=>
     rw[hi] at e
     obtain⟨g1,g2⟩:=zle e.symm
     unfold cs2 at h2
     rw[kI hi] at h2
     split at h2
     ·cases h2
     ·cases h2
      exact⟨n,by omega,g1,g2⟩
    | false=>
     rw[hi] at e
     unfold cs2 at h2
     rw[kG (by rw[hi]; decide),kI e.symm] at h2
     cases h2
   ·rw[zjk e,h] at h2; cases h2
  | none=>
  cases hc2:ck2 s l L ps rs n with
  | none=>rw[hc2] at h2; cases h2
  | some p=>
  rw[hc2] at h2
  have h2:cs2 s l L ps rs n p=some q:=h2
  obtain⟨k,g1,g2,g3⟩:=zg0 hw hc hc2
  unfold cs2 at h2
  split at h2
  ·split at h2
   ·cases h2
   cases h2
   exact⟨k,by omega,g2,g3⟩
  split at h2
  ·cases h2
  rename_i ho
  have ho:outB s rs p.2 n=true:=by simpa using ho
  have:=zqq hw (g3.symm.trans (zle ho).2)
  omega
theorem zs8 (hw:0<s.c.M.w):ck2E s l L ps rs=ckE s l L ps rs:=by
 unfold ck2E ckE
 cases hc:ckR s l L ps rs s.n with
 | some q=>rw[zfZ hc]
 | none=>
 cases hc2:ck2 s l L ps rs s.n with
 | none=>rfl
 | some q=>
 obtain⟨k,-,g2,-⟩:=zg0 hw hc hc2
 show (decide (ps.length<=q.1) && decide (rs.length<=q.2))=false
 rw[jH (show ¬ rs.length<=q.2 by omega),kU]
theorem zjp {n:Nat} (h:ck2 s l L ps rs n=none):∀ m,n<=m->ck2 s l L ps rs m=none
 | 0,hm=>by
  have:n=0:=by omega
  rw[this] at h; exact h
 | m+1,hm=>by
  by_cases e:n=m+1
  ·rw[<- e]; exact h
  have:=zjp h m (by omega)
  show (ck2 s l L ps rs m).bind _=none
  rw[this]; rfl
theorem zs7 {n:Nat} {q:Nat × Nat} (hq:ck2 s l L ps rs n=some q) (hn:n<s.n) (h:cs2 s l L ps rs n q=none):ck2E s l L ps rs=false:=by
 have h1:ck2 s l L ps rs (n+1)=none:=by
  show (ck2 s l L ps rs n).bind _=none
  rw[hq]; exact h
 unfold ck2E
 rw[zjp h1 s.n (by omega)]
theorem zmb {n:Nat} {q q':Nat × Nat} (hq:ck2 s l L ps rs n=some q) (h:cs2 s l L ps rs n q=some q'):ck2 s l L ps rs (n+1)=some q':=by
 show (ck2 s l L ps rs n).bind _=_
 rw[hq]; exact h
theorem zpi:∀ {n:Nat} {q:Nat × Nat},ck2 s l L ps rs n=some q->q.1<=n/\q.2<=n
 | 0,q,h=>by cases h; exact⟨jE _,jE _⟩
 | n+1,q,h=>by
  have h:(ck2 s l L ps rs n).bind (cs2 s l L ps rs n)=some q:=h
  cases hc:ck2 s l L ps rs n with
  | none=>rw[hc] at h; cases h
  | some p=>
  rw[hc] at h
  have h:cs2 s l L ps rs n p=some q:=h
  obtain⟨h1,h2⟩:=zpi hc
  unfold cs2 at h
  split at h
  ·split at h
   ·cases h
   cases h; exact⟨by dsimp only; omega,by dsimp only; omega⟩
  split at h
  ·cases h
  split at h
  ·cases h
  cases h; exact⟨by dsimp only; omega,by dsimp only; omega⟩
end
theorem zpc {s:Svc} {ps:List Place} {a n:Nat} (h:a<ps.length):inB s ps a n=decide (ps.getD a default=plc s.c.M n):=by unfold inB; rw[jG h,kL]
theorem zsI {s:Svc} {ps:List Place} {a n:Nat} (h:¬ a<ps.length):inB s ps a n=false:=by unfold inB; rw[jH h,kP]
theorem zld {s:Svc} {rs:List Rsn} {a n:Nat} (h:a<rs.length):outB s rs a n=decide ((rs.getD a default).At=plc s.c.M n):=by unfold outB; rw[jG h,kL]
theorem zqu {s:Svc} {rs:List Rsn} {a n:Nat} (h:¬ a<rs.length):outB s rs a n=false:=by unfold outB; rw[jH h,kP]
theorem zgt (s:Svc) (b:Brn) (l:List Rpt) (ps:List Place) (rs:List Rsn) (hp:ps.length<=1000000) (hr:rs.length<=1000000):Spec PP 141 [s.v,b.v,.d (lR l),.d (lP ps),.d (lRs rs)] [.d (.int .i64 (chkR s b l ps rs))]:=by
 refine zbG [15] Tryz.func141 rfl (by kernel_rfl) rfl ?_
 refine cP (zeP s b l) rfl rfl ?_
 apply bY <;> intro h0
 ·have h0:givE s b l≠0:=by simpa using h0
  refine r1I rfl ?_
  unfold chkR; rw[kI h0]
 have h0:givE s b l=0:=by simpa using h0
 have ok:=zda h0
 have hv:=ok.s.c.m
 have hT:=ok.s.c.t
 have hl:=ok.n
 have hw0:0<s.c.M.w:=by
  obtain⟨bw,bh,-,-⟩:=zaf hv
  show 0<s.c.M.W.toNat
  omega
 have e1:chkR s b l ps rs=if ck2E s l (l.map (alwP s b)) ps rs=true then 0 else 8:=by unfold chkR; rw[kG (fun hh=>hh h0),zs8 hw0]
 have hn:s.n<=2401:=zb2 hv
 have hml:=zdp s.c.M s.n
 refine cR (zoQ s l (by omega) hl (fun i hi=>zkL (ok.r i hi).2)) rfl rfl ?_
 refine cR (zoR s hv) rfl rfl ?_
 rw[e1]
 refine lOf (σ:=Nat × Nat × Nat) (fun p=>([(2,.d (lR l)),(3,.d (lP ps)),(4,.d (lRs rs)),(5,.box 5 0),(6,.box 6 0),(12,.d (lM s l)),(13,.d (lP (mapK s.c.M s.n))),(14,.d (I p.2.1)),(15,.d (I p.2.2)),(16,.d (I p.1))],[(5,.box (s.ds.map AV.d)),(6,.box (b.ds.map AV.d))])) (fun p=>p.1<=s.n/\ck2 s l (l.map (alwP s b)) ps rs p.1=some p.2) (fun p=>s.n - p.1) (0,0,0)
  ⟨rfl,⟨obD s.ds rfl,obD b.ds rfl,trivial⟩,wq rfl⟩ ⟨jF _,rfl⟩ fun⟨n,q⟩ ⟨hn1,hI⟩=>?_
 dsimp only at hn1 hI ⊢
 have hle:=zpi hI
 apply bY <;> intro h1
 ·have h1:n<s.n:=by have:=dT h1; rw[hml] at this; omega
  have hg:=ziV (m:=s.c.M) h1
  have stop:cs2 s l (l.map (alwP s b)) ps rs n q=none->(8:Int)=if ck2E s l (l.map (alwP s b)) ps rs=true then 0 else 8:=fun h=>by rw[kG (by rw[zs7 hI h1 h]; decide)]
  have mu:s.n - (n+1)<s.n - n:=by omega
  refine oN 15 ?_
  apply two_
  ·intro key
   have back:inB s ps q.1 n=false->Key _:=fun h=>key
   apply bY <;> intro h2
   ·have h2:q.1<ps.length:=by have:=dT h2; omega
    refine⟨⟨rfl,by omega,by omega⟩,⟨⟨rfl,by omega,by rw[hml]; omega⟩,?_⟩⟩
    repeat first | apply sT | apply sF
    apply bY <;> intro h3
    ·have h3:inB s ps q.1 n=true:=by
      rw[zpc h2,<- hg]
      exact (eqPW (ps.getD q.1 default) ((mapK s.c.M s.n).getD n default)).symm.trans h3
     refine⟨i6,?_⟩
     refine oN 9 ?_
     refine⟨⟨rfl,by omega,by rw[hml]; omega⟩,?_⟩
     refine CallOb.pureE (ziz s b l (plc s.c.M n) hl) rfl ⟨zaa _,zaa _,dE _,zbz (jI Place.X hg) (jI Place.Y hg),trivial⟩ rfl ?_
     rw[zjb h1]
     have ec:cs2 s l (l.map (alwP s b)) ps rs n q=if 0<=fstI (l.map (alwP s b)) n then none else some (q.1+1,q.2):=by unfold cs2; rw[kI h3]
     apply bY <;> intro h4
     ·have h4:0<=fstI (l.map (alwP s b)) n:=dT h4
      refine r1I rfl ?_
      exact stop (by rw[ec,kI h4])
     have h4:¬ 0<=fstI (l.map (alwP s b)) n:=dF h4
     refine⟨i6,?_⟩
     exact⟨(n+1,q.1+1,q.2),⟨rfl,⟨obD s.ds rfl,obD b.ds rfl,trivial⟩,wq rfl⟩,⟨h1,zmb hI (by rw[ec,kG h4])⟩,mu⟩
    have h3:inB s ps q.1 n=false:=by
     rw[zpc h2,<- hg]
     exact (eqPW (ps.getD q.1 default) ((mapK s.c.M s.n).getD n default)).symm.trans h3
    refine kAt [(2,.d (lR l)),(3,.d (lP ps)),(4,.d (lRs rs)),(5,.box 5 0),(6,.box 6 0),(12,.d (lM s l)),(13,.d (lP (mapK s.c.M s.n))),(14,.d (I q.1)),(15,.d (I q.2)),(16,.d (I n))] [(5,.box (s.ds.map AV.d)),(6,.box (b.ds.map AV.d))] ?_ ?_
    ·exact⟨rfl,⟨obD s.ds rfl,obD b.ds rfl,trivial⟩,wq rfl⟩
    revert h3
    exact key.out
   have h2:¬ q.1<ps.length:=by have:=dF h2; omega
   have h3:inB s ps q.1 n=false:=zsI h2
   repeat first | apply sT | apply sF
   refine kAt [(2,.d (lR l)),(3,.d (lP ps)),(4,.d (lRs rs)),(5,.box 5 0),(6,.box 6 0),(12,.d (lM s l)),(13,.d (lP (mapK s.c.M s.n))),(14,.d (I q.1)),(15,.d (I q.2)),(16,.d (I n))] [(5,.box (s.ds.map AV.d)),(6,.box (b.ds.map AV.d))] ?_ ?_
   ·exact⟨rfl,⟨obD s.ds rfl,obD b.ds rfl,trivial⟩,wq rfl⟩
   revert h3
   exact key.out
  intro h3
  have ec:cs2 s l (l.map (alwP s b)) ps rs n q=if outB s rs q.2 n=false then none else if rptI l (rs.getD q.2 default).R<0 \/ (l.map (alwP s b)).getD (rptI l (rs.getD q.2 default).R).toNat default n=true then none else some (q.1,q.2+1):=by
   unfold cs2; rw[kG (by rw[h3]; decide)]
  refine oN 16 ?_
  apply bY <;> intro h2
  ·have h2:¬ q.2<rs.length:=by
    have:(rs.length:Int)<=q.2:=dT h2
    omega
   repeat first | apply sT | apply sF
   refine r1I rfl ?_
   exact stop (by rw[ec,kI (zqu h2)])
  have h2:q.2<rs.length:=by
   have:¬ (rs.length:Int)<=q.2:=dF h2
   omega
  refine⟨⟨rfl,by omega,by omega⟩,⟨⟨rfl,by omega,by rw[hml]; omega⟩,?_⟩⟩
  repeat first | apply sT | apply sF
  apply bY <;> intro h4
  ·have h4:outB s rs q.2 n=false:=by
    rw[zld h2,<- hg,<- eqPW]
    exact jY _ ▸ h4
   refine r1I rfl ?_
   exact stop (by rw[ec,kI h4])
  have h4:outB s rs q.2 n=true:=by
   rw[zld h2,<- hg,<- eqPW]
   exact qR _ ▸ h4
  rw[kG (by rw[h4]; decide)] at ec
  refine⟨⟨rfl,by omega,by omega⟩,?_⟩
  refine cP (zhw l (rs.getD q.2 default).R (by omega)) rfl rfl ?_
  refine⟨i6,?_⟩
  refine oN 16 ?_
  apply bY <;> intro h5
  ·have h5:rptI l (rs.getD q.2 default).R<0:=dT h5
   repeat first | apply sT | apply sF
   refine r1I rfl ?_
   exact stop (by rw[ec,kI (.inl h5)])
  have h5:¬ rptI l (rs.getD q.2 default).R<0:=dF h5
  obtain⟨h6,h7⟩:=zkM h5
  have hmx:max (rptI l (rs.getD q.2 default).R) 0=rptI l (rs.getD q.2 default).R:=by omega
  have eal:(l.map (alwP s b)).getD (rptI l (rs.getD q.2 default).R).toNat default n=allB s b (l.getD (rptI l (rs.getD q.2 default).R).toNat default) (plc s.c.M n):=by
   have e0:=mapDs (s:=s) (b:=b) (l:=l) (js:=rptI l (rs.getD q.2 default).R) ⟨h7,by omega⟩
   rw[e0]
   show (decide (n<s.n) && allB s b _ (plc s.c.M n))=_
   rw[jG h1,kL]
  rw[eal] at ec
  refine⟨⟨rfl,by show 0<=max (rptI l (rs.getD q.2 default).R) 0; omega,by show max (rptI l (rs.getD q.2 default).R) 0<(l.length:Int); omega⟩,⟨⟨rfl,by omega,by rw[hml]; omega⟩,?_⟩⟩
  have ha:=zdJ s b (l.getD (rptI l (rs.getD q.2 default).R).toNat default) (plc s.c.M n)
  rw[<- hmx] at ha
  refine CallOb.pureE ha rfl ⟨zaa _,zaa _,zaa _,zbz (jI Place.X hg) (jI Place.Y hg),trivial⟩ rfl ?_
  rw[hmx]
  repeat first | apply sT | apply sF
  apply bY <;> intro h8
  ·have h8:allB s b (l.getD (rptI l (rs.getD q.2 default).R).toNat default) (plc s.c.M n)=true:=h8
   refine r1I rfl ?_
   exact stop (by rw[ec,kI (.inr h8)])
  have h8:allB s b (l.getD (rptI l (rs.getD q.2 default).R).toNat default) (plc s.c.M n)=false:=h8
  refine⟨i6,?_⟩
  exact⟨(n+1,q.1,q.2+1),⟨rfl,⟨obD s.ds rfl,obD b.ds rfl,trivial⟩,wq rfl⟩,⟨h1,zmb hI (by rw[ec,kG (fun h=>h.elim h5 (fun g=>by rw[h8] at g; cases g))])⟩,mu⟩
 have h1:n=s.n:=by have:=dF h1; rw[hml] at this; omega
 subst h1
 have ee:ck2E s l (l.map (alwP s b)) ps rs=(decide (ps.length<=q.1) && decide (rs.length<=q.2)):=by unfold ck2E; rw[hI]
 apply bY <;> intro h1
 ·have h1:q.1<ps.length:=by have:=dT h1; omega
  repeat first | apply sT | apply sF
  refine r1I rfl ?_
  rw[ee,jH (show ¬ ps.length<=q.1 by omega),kP,kG (by decide)]
 have h1:¬ q.1<ps.length:=by have:=dF h1; omega
 repeat first | apply sT | apply sF
 apply bY <;> intro h2
 ·have h2:q.2<rs.length:=by have:=dT h2; omega
  refine r1I rfl ?_
  rw[ee,jH (show ¬ rs.length<=q.2 by omega),kU,kG (by decide)]
 have h2:¬ q.2<rs.length:=by have:=dF h2; omega
 refine r1I rfl ?_
 rw[ee,jG (show ps.length<=q.1 by omega),jG (show rs.length<=q.2 by omega)]; rfl
end Go.Pg
