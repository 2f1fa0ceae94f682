/- Lemmas, joined by program. -/
import Derived.Test.YtpkmlacgjfhdkaaGreatAA
import Derived.Deep.Slices
import Derived.Deep.Fields
import Derived.ChangeSame
import Derived.OpenShut
import Derived.ProofKit
import Derived.ChangeOld
import Derived.Below
set_option maxHeartbeats 4000000
set_option linter.all false
set_option maxRecDepth 100000
namespace Go.Pg
open Go.Proofs Go.RowKit Go.Sort Go.Shelf
end Go.Pg
namespace Go.Pg
open Go.RowKit Go.ChangeShapes Go.WideShapes Go.Deep
section
variable {H:Type} {enc:TypeId × Value->H} {P:Program} {w:World} {base:Nat} {spare:Nat->Bool} {held:Bool}
theorem zqh {n:Int} (h:(Lit.int .i64 n).wf=true):-9223372036854775808<=n/\n<=9223372036854775807:=by
 have h:(decide (IntKind.min .i64<=n) && decide (n<=IntKind.max .i64))=true:=h
 simp only[jP,kA] at h
 exact h
def IntFs (P:Program) (fs:Array Field):Prop:=∀ (j:Nat) (f:Field),fs[j]?=some f->P.underlying f.type=some (.int .i64)
theorem open_aggI {r:Reach} {b0:Nat} {t:TypeId} {fs:Array Field} {v:Value} {d:DataW H} {p:List MemPlace} (hs:P.underlying t=some (.struct fs)) (hone:oneCellFields P fs=true) (hC:P.cellsOf t=fs.size) (hI:IntFs P fs)
  (hv:Value.okWide P w r b0 t v) (h:DataW.Trod enc P w base spare held t v d p) :
  ∃ ns:List Int,ns.length=fs.size/\(∀ n∈ns,-9223372036854775808<=n/\n<=9223372036854775807)/\v = .agg (ns.map (Value.int .i64)).toArray:=by
 obtain⟨cs,rfl,hsz⟩:=okWide_struct hs hv
 obtain⟨l⟩:=cs
 have hl:l.length=fs.size:=by simpa [hC] using hsz
 obtain⟨fuel,hf⟩:=h
 obtain⟨xs,n,_,hx,_,hlen,hg⟩:=DataW.trod_struct hs hf
 have key:∀ j,j<l.length -> ∃ n:Int,l[j]?=some (.int .i64 n)/\(Lit.int .i64 n).wf=true:=fun j hj=>by
  have hjf:fs[j]?=some (fs[j]'(by omega)):=qR (by omega)
  obtain⟨o0,k0⟩:=hone_of hone j _ hjf
  have h1:=hg j _ hjf
  rw[o0,k0] at h1
  have hxs:xs[j]?=some (xs[j]'(by omega)):=kH (by omega)
  rw[hxs] at h1
  obtain⟨n,hc,_,hw⟩:=DataW.trod_int (hI j _ hjf) h1
  refine⟨n,?_,hw⟩
  have:(l.drop j).take 1=[.int .i64 n]:=by simpa [Value.cells] using hc
  rw[qH hj] at this
  have h3:l[j]=Value.int .i64 n:=(List.cons.inj this).1
  rw[kH hj,h3]
 have:∀ l:List Value,(∀ j,j<l.length -> ∃ n:Int,l[j]?=some (.int .i64 n)/\(Lit.int .i64 n).wf=true) -> ∃ ns:List Int,ns.length=l.length/\(∀ n∈ns,-9223372036854775808<=n/\n<=9223372036854775807)/\l=ns.map (Value.int .i64):=by
  intro l
  induction l with
  | nil=>intro _; exact⟨[],rfl,by simp,rfl⟩
  | cons u r ih=>
  intro hk
  obtain⟨n,h1,h2⟩:=hk 0 (by simp)
  obtain⟨ns,h3,h4,h5⟩:=ih fun j hj=>by simpa using hk (j+1) (by simpa using hj)
  refine⟨n :: ns,by simp[h3],fun m hm=>?_,?_⟩
  ·rcases kL.1 hm with rfl | hm
   ·exact zqh h2
   exact h4 m hm
  simp only[List.getElem?_cons_zero,jO] at h1
  rw[h1,h5]; rfl
 obtain⟨ns,h1,h2,h3⟩:=this l key
 exact⟨ns,by omega,h2,by rw[h3]⟩
theorem all2I {ok:Nat->Prop} (ns:List Int):All2 (Rep w ok) (ns.map I) (ns.map (Value.int .i64)):=by
 induction ns with
 | nil=>exact .nil
 | cons n r ih=>exact .cons rfl ih
end
section
variable {w:World} {ok:Nat->Prop} {len:Nat} {g:Nat->Nat->Int} {v:Value}
theorem rep_aggI (ns:List Int):Rep1 w ok (.agg (ns.map I)) (.agg (ns.map (Value.int .i64)).toArray):=⟨_,rfl,all2I ns⟩
end
inductive Sh where
  | int (k:IntKind)
  | sl (k:Nat) (f:Nat->Sh)
def Fits:Sh->D->Prop
 | .int k,x=>∃ n:Int,(k.min<=n/\n<=k.max)/\x = .int k n
 | .sl k s,x=>∃ (n:Nat) (f:Nat->Nat->D),x = .slc k n f/\n<=maxLen /\ ∀ i,i<n -> ∀ j,j<k->Fits (s j) (f i j)
def GdS (w:World) (s:Sh) (v:Value):Prop:=∃ x:D,Rep w (fun b=>b<w.heap.size) x v/\Fits s x
def shFs (cells:TypeId->Nat) (g:TypeId->Option (List Sh)):Nat->List Field->Option (List Sh)
 | _,[]=>some []
 | off,f :: r=>(g f.type).bind fun a=>bif f.offset==off && a.length==cells f.type then (shFs cells g (off+a.length) r).map fun b=>a++b else none
def shSt (P:Program) (g:TypeId->Option (List Sh)) (t:TypeId) (fs:Array Field):Option (List Sh):=(shFs P.cellsOf g 0 fs.toList).bind fun ks=>bif ks.length==P.cellsOf t then some ks else none
def shSl (P:Program) (g:TypeId->Option (List Sh)) (e:TypeId):Option (List Sh):=(g e).bind fun ks=>bif ks.length==P.cellsOf e then some [.sl ks.length fun j=>getD' ks j] else none
where getD':List Sh->Nat->Sh
 | [],_=>.int .i64
 | x :: _,0=>x
 | _ :: r,j+1=>getD' r j
def shOf (P:Program):Nat->TypeId->Option (List Sh)
 | 0,_=>none
 | n+1,t=>match P.underlying t with
  | some (.int k)=>some [.int k]
  | some (.slice e)=>shSl P (shOf P n) e
  | some (.struct fs)=>shSt P (shOf P n) t fs
  | _=>none
theorem zmE {l:List Sh} {j:Nat} (h:j<l.length):l[j]?=some (shSl.getD' l j):=by
 induction l generalizing j with
 | nil=>cases h
 | cons x r ih=>cases j with
  | zero=>rfl
  | succ j=>simpa [shSl.getD'] using ih (by simpa using h)
theorem All2.app' {α β:Type} {R:α->β->Prop} {a c:List α} {b d:List β} (h1:All2 R a b) (h2:All2 R c d):All2 R (a++c) (b++d):=by
 induction h1 with
 | nil=>exact h2
 | cons h _ ih=>exact .cons h ih
theorem zp0 {w:World} {a:Addr} {v:Value} (h:w.cell? a=some v):a.block<w.heap.size:=by
 rcases qT a.block w.heap.size with h1 | h1
 ·exact h1
 simp only[World.cell?,jac h1] at h
 cases h
theorem wf_kind {k:IntKind} {n:Int} (h:(Lit.int k n).wf=true):k.min<=n/\n<=k.max:=by
 have h:(decide (IntKind.min k<=n) && decide (n<=IntKind.max k))=true:=h
 simp only[jP,kA] at h
 exact h
section
variable {H:Type} {enc:TypeId × Value->H} {P:Program} {w:World} {base:Nat} {spare:Nat->Bool} {held:Bool}
theorem zgi {g:TypeId->Option (List Sh)} {n:Nat} {cs:List Value}
  (ih:∀ t ks,g t=some ks -> ∀ cs x,DataW.trod enc P w base spare held n t cs=some x->All2 (GdS w) ks cs) :
  ∀ (r:List Field) (off:Nat) (ks:List Sh),shFs P.cellsOf g off r=some ks->(∀ f∈r,∃ x,DataW.trod enc P w base spare held n f.type ((cs.drop f.offset).take (P.cellsOf f.type))=some x)->All2 (GdS w) ks ((cs.drop off).take ks.length)
 | [],off,ks,h,_=>by
  simp only[shFs,jO] at h
  subst h
  exact .nil
 | f :: r,off,ks,h,hx=>by
  unfold shFs at h
  obtain⟨a,ha,h⟩:=ja9.1 h
  cases hc:f.offset==off && a.length==P.cellsOf f.type with
  | false=>rw[hc] at h; cases h
  | true=>
  rw[hc] at h
  obtain⟨b,hb,rfl⟩:=Option.map_eq_some_iff.1 (show (shFs P.cellsOf g (off+a.length) r).map (fun b=>a++b)=some ks from h)
  simp only[jP,qP] at hc
  obtain⟨x,h1⟩:=hx f (jal ..)
  rw[hc.1,<- hc.2] at h1
  have g1:=ih _ _ ha _ _ h1
  have g2:=zgi ih r (off+a.length) b hb fun f hf=>hx f (kO _ hf)
  rw[jR,List.take_add,List.drop_drop]
  exact g1.app' g2
theorem zfp:∀ (n:Nat) (t:TypeId) (ks:List Sh),shOf P n t=some ks -> ∀ (fuel:Nat) (cs:List Value) (x:DataW H × List MemPlace),DataW.trod enc P w base spare held fuel t cs=some x->All2 (GdS w) ks cs
 | 0,_,_,h,_,_,_,_=>by cases h
 | n+1,t,ks,h,fuel,cs,x,ht=>by
  unfold shOf at h
  split at h
  ·rename_i k hu
   simp only[jO] at h
   subst h
   obtain⟨m,rfl,_,hw⟩:=DataW.trod_int hu ht
   exact .cons ⟨.int k m,rfl,m,wf_kind hw,rfl⟩ .nil
  ·rename_i e hu
   unfold shSl at h
   obtain⟨ks',hk,h⟩:=ja9.1 h
   cases hc:ks'.length==P.cellsOf e with
   | false=>rw[hc] at h; cases h
   | true=>
   rw[hc] at h
   simp only[kJ,jO] at h
   subst h
   have hc:=qP.1 hc
   obtain⟨v,rfl⟩:∃ v,cs=[v]:=by
    rcases open_slice hu ht with⟨rfl,_⟩ | ⟨ad,len,cap,m,n',D,Pl,rfl,_⟩
    ·exact⟨_,rfl⟩
    exact⟨_,rfl⟩
   refine .cons ?_ .nil
   rcases open_slice hu ht with⟨h1,_⟩ | ⟨ad,len,cap,m,n',D,Pl,h1,hb,hl,hm,hmm,hx,hi⟩
   ·cases h1
    exact⟨.slc ks'.length 0 fun _ _=>.nil,.inl ⟨rfl,rfl⟩,0,_,rfl,by unfold maxLen; omega,fun i hi=>absurd hi (wC _)⟩
   cases h1
   have key:∀ i,i<len -> ∀ j,j<ks'.length -> ∃ v,w.cell? (ad.add (i * ks'.length+j))=some v/\GdS w (shSl.getD' ks' j) v:=fun i him j hjl=>by
    obtain⟨cs',hcc,ht'⟩:=hi i (by rw[hmm]; split <;> omega)
    have hg:=zfp n e ks' hk _ _ _ ht'
    obtain⟨_,hcl,hat⟩:=World.cells?_some hcc
    obtain⟨v,hv,hgv⟩:=hg.get j _ (zmE hjl)
    refine⟨v,?_,hgv⟩
    rw[<- Go.Deep.add_add,hc]
    rw[hat j (by omega)]; exact hv
   refine⟨.slc ks'.length len fun i j=>if h:i<len/\j<ks'.length then Classical.choose (jae (key i h.1 j h.2)).2 else .nil,.inr ⟨ad,cap,rfl,hl,hm,fun i hi j hj=>?_⟩,len,_,rfl,by omega,fun i hi j hj=>?_⟩
   ·have hs:=jae (key i hi j hj)
    have hs2:=jae hs.2
    refine⟨?_,_,hs.1,?_⟩
    ·have:=zp0 hs.1
     rwa [zaK] at this
    dsimp only; rw[dif_pos ⟨hi,hj⟩]; exact hs2.1
   dsimp only; rw[dif_pos ⟨hi,hj⟩]
   exact (jae (jae (key i hi j hj)).2).2
  ·rename_i fs hu
   unfold shSt at h
   obtain⟨ks',hk,h⟩:=ja9.1 h
   cases hc:ks'.length==P.cellsOf t with
   | false=>rw[hc] at h; cases h
   | true=>
   rw[hc] at h
   simp only[kJ,jO] at h
   subst h
   obtain⟨xs,m,rfl,_,hl,hlen,hf⟩:=DataW.trod_struct hu ht
   have key:=zgi (cs:=cs) (n:=m) (fun t ks h cs x hx=>zfp n t ks h m cs x hx) fs.toList 0 ks' hk fun f hf'=>by
    obtain⟨i,hi,rfl⟩:=wG hf'
    have hi':i<fs.size:=by simpa using hi
    have h1:=hf i fs[i] (qR hi')
    rw[kH (show i<xs.length by omega)] at h1
    exact⟨_,by simpa using h1⟩
   rw[List.drop_zero,List.take_of_length_le (by have:=qP.1 hc; omega)] at key
   exact key
  cases h
theorem zd4:∀ {ks:List Sh} {cs:List Value},All2 (GdS w) ks cs -> ∃ xs:List D,All2 (Rep w (fun b=>b<w.heap.size)) xs cs/\All2 Fits ks xs
 | [],[],.nil=>⟨[],.nil,.nil⟩
 | _ :: _,_ :: _,.cons ⟨x,h1,h2⟩ h=>by
  obtain⟨xs,h3,h4⟩:=zd4 h
  exact⟨x :: xs,.cons h1 h3,.cons h2 h4⟩
theorem openS {r:Reach} {b0:Nat} (n:Nat) {t:TypeId} {fs:Array Field} {ks:List Sh} {v:Value} {d:DataW H} {p:List MemPlace} (hs:P.underlying t=some (.struct fs)) (hk:shOf P n t=some ks)
  (hv:Value.okWide P w r b0 t v) (h:DataW.Trod enc P w base spare held t v d p):∃ xs:List D,Rep1 w (fun b=>b<w.heap.size) (.agg xs) v/\All2 Fits ks xs:=by
 obtain⟨cs,rfl,hsz⟩:=okWide_struct hs hv
 obtain⟨fuel,hf⟩:=h
 obtain⟨xs,h1,h2⟩:=zd4 (zfp n t ks hk fuel _ _ (by simpa [Value.cells] using hf))
 exact⟨xs,⟨cs.toList,by simp,h1⟩,h2⟩
theorem openL {r:Reach} {b0:Nat} (n:Nat) {t e:TypeId} {ks:List Sh} {v:Value} {d:DataW H} {p:List MemPlace} (hs:P.underlying t=some (.slice e)) (hk:shOf P (n+1) t=some ks)
  (hv:Value.okWide P w r b0 t v) (h:DataW.Trod enc P w base spare held t v d p):∃ x:D,Rep1 w (fun b=>b<w.heap.size) (.d x) v/\All2 Fits ks [x]:=by
 obtain⟨a,len,cap,rfl⟩:=okWide_slice hs hv
 obtain⟨fuel,hf⟩:=h
 obtain⟨xs,h1,h2⟩:=zd4 (zfp (n+1) t ks hk fuel _ _ (by simpa [Value.cells] using hf))
 cases h1 with
 | cons h h'=>cases h'; exact⟨_,h,h2⟩
end
theorem fitsL {α:Type} [Inhabited α] {k:Nat} {at_:α->Nat->D} {s:Nat->Sh} {x:D} (mkα:(Nat->Int)->α) (hi:∀ j,j<k->s j = .int .i64) (hk:∀ g:Nat->Int,∀ j,j<k->at_ (mkα g) j=I (g j)) (h:Fits (.sl k s) x) :
  ∃ l:List α,l.length<=maxLen/\(∀ a∈l,∃ g:Nat->Int,a=mkα g /\ ∀ j,j<k -> -9223372036854775808<=g j/\g j<=9223372036854775807)/\D.eqv x (.slc k l.length fun i=>at_ (l.getD i default)):=by
 obtain⟨n,f,rfl,hn,hf⟩:=h
 have key:∀ i,i<n -> ∀ j,j<k -> ∃ z:Int,(-9223372036854775808<=z/\z<=9223372036854775807)/\f i j=I z:=fun i hi' j hj=>by
  have h1:=hf i hi' j hj
  rw[hi j hj] at h1
  exact h1
 let g:Nat->Nat->Int:=fun i j=>if h:i<n/\j<k then Classical.choose (key i h.1 j h.2) else 0
 have hg:∀ i,i<n -> ∀ j,j<k->(-9223372036854775808<=g i j/\g i j<=9223372036854775807)/\f i j=I (g i j):=fun i hi' j hj=>by
  have e:g i j=Classical.choose (key i hi' j hj):=dif_pos ⟨hi',hj⟩
  rw[e]
  exact jae (key i hi' j hj)
 refine⟨(List.range n).map fun i=>mkα (g i),by simpa using hn,fun a ha=>?_,by simp,.inr ⟨rfl,fun i hi' j hj=>?_⟩⟩
 ·obtain⟨i,hi',rfl⟩:=kI.1 ha
  exact⟨g i,rfl,fun j hj=>(hg i (kK.1 hi') j hj).1⟩
 have e:((List.range n).map fun i=>mkα (g i)).getD i default=mkα (g i):=by
  rw[hU,jU,qG hi']; rfl
 show D.eqv (f i j) (at_ (((List.range n).map fun i=>mkα (g i)).getD i default) j)
 rw[e,hk _ j hj,(hg i hi' j hj).2]
 exact⟨rfl,rfl⟩
end Go.Pg
namespace Go.Pg
open Go.Proofs Go.RowKit
theorem avBl {s:St} {ob:Nat->Option Ob} {v:AV} {a b:Bool} (h:v = .d (.bool a)) (e:a=b):AVle s ob v (.d (.bool b)):=by subst h; subst e; exact dE _
theorem zmq {T:List Twr} {id:Int} (h:¬ towI T id<0):towG T id=(T.getD (towI T id).toNat default,true):=by unfold towG; rw[kF h]
theorem zqz (a p:Place) (z sl:Int):(-1000<=(shwS a p z sl).Lo/\(shwS a p z sl).Lo<=5000)/\(-1000<=(shwS a p z sl).Hi/\(shwS a p z sl).Hi<=5000):=by
 unfold shwS
 split
 ·rename_i h
  unfold shwB at h
  simp only[jP,jY,qB,zaa] at h
  obtain⟨⟨⟨⟨h1,h2⟩,h3⟩,h4⟩,h5⟩:=h
  obtain⟨⟨d1,d2⟩,n1,n2⟩:=zbM h1 h2 h3
  dsimp only
  generalize (bear a p).1=n at *
  generalize (bear a p).2=d at *
  have q:∀ m:Int,-400<=m/\m<=400 -> -400 * d<=n+m * d/\n+m * d<=4000 * d:=fun m hm=>by
   have a:=jV hm.1 (kQ d1)
   have b:=jV hm.2 (kQ d1)
   omega
  have u1:=q (z - sl) (by omega)
  have u2:=q (z+sl) (by omega)
  refine⟨⟨?_,?_⟩,?_,?_⟩
  ·have:=jan (a:=-(n+(z - sl) * d)) (b:=400) d1 (by omega); omega
  ·have:=(jaj (a:=-4000) (b:=-(n+(z - sl) * d)) d1).2 (by omega); omega
  ·have:=(jaj (a:=-400) (b:=n+(z+sl) * d) d1).2 (by omega); omega
  have:=jan (a:=n+(z+sl) * d) (b:=4000) d1 (by omega); omega
 decide
def tolB (s:Svc) (b:Brn) (p:Place) (z:Int) (r:Rpt):Bool:=
 if r.Kind=1 then lookB s b r p && shwB (towG s.c.T r.Tower).1.At p z r.Slack && decide ((r.From - (shwS (towG s.c.T r.Tower).1.At p z r.Slack).Lo) % 3600<=(shwS (towG s.c.T r.Tower).1.At p z r.Slack).Hi - (shwS (towG s.c.T r.Tower).1.At p z r.Slack).Lo)
 else !lookB s b r p || !shwB (towG s.c.T r.Tower).1.At p z r.Slack || decide ((r.To - r.From) % 3600<((shwS (towG s.c.T r.Tower).1.At p z r.Slack).Lo - r.From) % 3600+(shwS (towG s.c.T r.Tower).1.At p z r.Slack).Hi - (shwS (towG s.c.T r.Tower).1.At p z r.Slack).Lo)
def atK (s:Svc) (r:Rpt) (i:Nat):Place:=if (towI s.c.T r.Tower).toNat<i then (towG s.c.T r.Tower).1.At else ⟨0,0⟩
theorem zmp {s:Svc} (h:CtryOk s.c) {id:Int} {i:Nat} (hi:i<s.c.T.length) (h0:¬ towI s.c.T id<0):(s.c.T.getD i default).ID=id ↔ i=(towI s.c.T id).toNat:=by
 rcases idxL_cases (fun t:Twr=>t.ID==id) s.c.T default with⟨e,-⟩ | ⟨m,hm,e,e1,e2⟩
 ·exact absurd (show towI s.c.T id<0 by unfold towI; rw[e]; decide) h0
 have e:towI s.c.T id=m:=e
 rw[e,wH]
 have e1:(s.c.T.getD m default).ID=id:=by simpa using e1
 constructor
 ·intro g
  rcases jai i m with g1 | g1 | g1
  ·have t:=e2 i g1
   rw[g] at t; simp at t
  ·exact g1
  have:=h.d i hi
  rw[ja8] at this
  have m2:s.c.T.getD m default∈s.c.T.take i:=by
   have q:(s.c.T.take i).getD m default=s.c.T.getD m default:=by
    rw[hU,jS,kG g1,<- hU]
   rw[<- q]
   exact gd1 (by rw[jQ]; omega) default
  exact absurd (by rw[e1,g]; simp) (this _ m2)
 rintro rfl; exact e1
theorem zns {r:Rpt} (h:frmB r=true):0<=r.From/\r.From<=3599:=by
 unfold frmB at h
 simp only[jP,jY] at h
 have h2:=h.1
 unfold frmC at h2
 simp only[kU,kY] at h2
 exact zaa.1 h2.1.2
@[irreducible] def fraction (f:Frac):Bool:=within f.Den 1 2097152 && within f.Num (-2199023255552) 2199023255552 && ((gcdL [f.Num,f.Den]:Int)==1)
theorem zbe (f:Frac):Spec PP 104 [f.v] [B (fraction f)]:=by
 refine sA Tryz.func104 ?_
 repeat' first
  | refine sT ?_
  | refine sF ?_
  | refine bY (fun _=>?_) (fun _=>?_)
  | refine cP (zbo _ _ _) rfl rfl ?_
  | refine pEq (zoR [f.Num,f.Den] ?_ ?_) rfl (zdu rfl rfl) rfl ?_
  | refine r1B rfl ?_
 ·intro n hn
  simp only[zaa] at *
  simp only[kL,qQ,jaM] at hn
  omega
 ·exact jD rfl
 all_goals (unfold fraction; simp_all)
@[irreducible] def cmpC (p q:Corner):Int:=if valid p=true/\valid q=true then orL [ord (p.X * q.Den) (q.X * p.Den),ord (p.Y * q.Den) (q.Y * p.Den)] else 0
theorem zlA (p q:Corner):SpecD PP 160 [p.v,q.v] [N (cmpC p q)]:=by
 refine zaO Tryz.func160 rfl (by kernel_rfl) rfl ?_
 by_cases hp:valid p=true
 ·by_cases hq:valid q=true
  ·have gp:=zaH hp
   have gq:=zaH hq
   have h1:=mulB gp.x (b:=q.Den) (y:=2097152) (by have:=gq.d; omega)
   have h2:=mulB gq.x (b:=p.Den) (y:=2097152) (by have:=gp.d; omega)
   have h3:=mulB gp.y (b:=q.Den) (y:=2097152) (by have:=gq.d; omega)
   have h4:=mulB gq.y (b:=p.Den) (y:=2097152) (by have:=gp.d; omega)
   refine cP (zc0 p) rfl rfl ?_
   rw[hp]
   refine sF ?_
   refine cP (zc0 q) rfl rfl ?_
   rw[hq]
   refine sF (sF ?_)
   refine oN 25 ?_
   refine⟨i6,⟨i6,?_⟩⟩
   refine oP (zhH _ _) rfl rfl ?_
   refine⟨i6,⟨i6,?_⟩⟩
   refine oP (zhH _ _) rfl rfl ?_
   refine CallOb.pureE (d_or [_,_] ?_) rfl (zdu rfl rfl) rfl ?_
   ·exact jD rfl
   refine r1I rfl ?_
   unfold cmpC
   rw[kG ⟨hp,hq⟩]
  refine cP (zc0 p) rfl rfl ?_
  rw[hp]
  refine sF ?_
  refine cP (zc0 q) rfl rfl ?_
  rw[wI.2 hq]
  refine sF (sT (r1I rfl ?_))
  unfold cmpC
  rw[kF fun h=>hq h.2]
 refine cP (zc0 p) rfl rfl ?_
 rw[wI.2 hp]
 refine sT (sT (sT (r1I rfl ?_)))
 unfold cmpC
 rw[kF fun h=>hp h.1]
@[irreducible] def less (a b:Frac):Int:=if fraction a=true/\fraction b=true then ord (a.Num * b.Den) (b.Num * a.Den) else 0
theorem zcu {f:Frac} (h:fraction f=true):(1<=f.Den/\f.Den<=2097152)/\(-2199023255552<=f.Num/\f.Num<=2199023255552):=by
 unfold fraction at h
 simp only[jP,zaa] at h
 exact h.1
theorem zqI (a b:Frac):Spec PP 138 [a.v,b.v] [N (less a b)]:=by
 refine sA Tryz.func138 ?_
 by_cases hp:fraction a=true
 ·by_cases hq:fraction b=true
  ·have ga:=zcu hp
   have gb:=zcu hq
   have h1:=mulB ga.2 (b:=b.Den) (y:=2097152) (by omega)
   have h2:=mulB gb.2 (b:=a.Den) (y:=2097152) (by omega)
   refine cP (zbe a) rfl rfl ?_
   rw[hp]
   refine sF ?_
   refine cP (zbe b) rfl rfl ?_
   rw[hq]
   refine sF (sF ?_)
   refine⟨i6,⟨i6,?_⟩⟩
   refine cP (zft _ _) rfl rfl ?_
   refine r1I rfl ?_
   unfold less
   rw[kG ⟨hp,hq⟩]
  refine cP (zbe a) rfl rfl ?_
  rw[hp]
  refine sF ?_
  refine cP (zbe b) rfl rfl ?_
  rw[wI.2 hq]
  refine sF (sT (r1I rfl ?_))
  unfold less
  rw[kF fun h=>hq h.2]
 refine cP (zbe a) rfl rfl ?_
 rw[wI.2 hp]
 refine sT (sT (sT (r1I rfl ?_)))
 unfold less
 rw[kF fun h=>hp h.1]
@[irreducible] def det (g h:Half):Int:=g.A * h.B - h.A * g.B
theorem zlz {g h:Half} (hg:okH g) (hh:okH h):-2000000<=det g h/\det g h<=2000000:=by
 have h1:=mulB hg.a hh.b
 have h2:=mulB hh.a hg.b
 unfold det
 omega
theorem zoS (g h:Half) (hg:okH g) (hh:okH h):Spec PP 141 [g.v,h.v] [N (det g h)]:=by
 have h1:=mulB hg.a hh.b
 have h2:=mulB hh.a hg.b
 refine sA Tryz.func141 ?_
 refine⟨i6,⟨i6,⟨i6,?_⟩⟩⟩
 refine r1I rfl ?_
 unfold det; rfl
@[irreducible] def lowest (x y d:Int):Corner:=let g:Int:=if d<0 then -gcdL [x,y,d] else gcdL [x,y,d]; ⟨x.tdiv g,y.tdiv g,d.tdiv g⟩
theorem zdD {a g b:Int} (ha:-b<=a/\a<=b):-b<=a.tdiv g/\a.tdiv g<=b:=by
 have h:(a.tdiv g).natAbs<=a.natAbs:=by rw[Int.natAbs_tdiv]; exact Nat.div_le_self _ _
 omega
theorem zmG (x y d:Int) (hx:-1073741824<=x/\x<=1073741824) (hy:-1073741824<=y/\y<=1073741824) (hd:-1073741824<=d/\d<=1073741824) (h0:d≠0) :
  Spec PP 179 [.agg [I x,I y,I d]] [(lowest x y d).v]:=by
 have hg:0<gcdL [x,y,d]:=by
  simp only[gcdL,qX,List.foldl_nil]
  exact Nat.gcd_pos_of_pos_right _ (by omega)
 have hg':gcdL [x,y,d]<=1073741824:=by
  have:gcdL [x,y,d]<=d.natAbs:=by
   simp only[gcdL,qX,List.foldl_nil]
   exact Nat.gcd_le_right _ (by omega)
  omega
 have b1:=fun g=>zdD (g:=g) hx
 have b2:=fun g=>zdD (g:=g) hy
 have b3:=fun g=>zdD (g:=g) hd
 refine sA Tryz.func179 ?_
 refine⟨⟨by decide,by decide⟩,⟨⟨by decide,by decide⟩,⟨⟨by decide,by decide⟩,?_⟩⟩⟩
 refine pEq (zoR [x,y,d] ?_ ?_) rfl (ziP rfl rfl rfl) rfl ?_
 ·intro n hn
  simp only[kL,qQ,jaM] at hn
  omega
 ·exact jD rfl
 refine⟨⟨by decide,by decide⟩,?_⟩
 apply bY <;> intro h1
 ·have h1:d<0:=dT h1
  refine⟨i6,?_⟩
  refine oN 14 ?_
  refine⟨⟨by decide,by decide⟩,⟨⟨by omega,zhy (b1 _)⟩,⟨⟨by decide,by decide⟩,⟨⟨by omega,zhy (b2 _)⟩,⟨⟨by decide,by decide⟩,⟨⟨by omega,zhy (b3 _)⟩,?_⟩⟩⟩⟩⟩⟩
  refine r1C rfl rfl rfl rfl rfl rfl (zjw ?_ ?_ ?_) <;> (unfold lowest; simp only[kG h1])
 have h1:¬ d<0:=dF h1
 refine oN 14 ?_
 refine⟨⟨by decide,by decide⟩,⟨⟨by omega,zhy (b1 _)⟩,⟨⟨by decide,by decide⟩,⟨⟨by omega,zhy (b2 _)⟩,⟨⟨by decide,by decide⟩,⟨⟨by omega,zhy (b3 _)⟩,?_⟩⟩⟩⟩⟩⟩
 refine r1C rfl rfl rfl rfl rfl rfl (zjw ?_ ?_ ?_) <;> (unfold lowest; simp only[kF h1])
@[irreducible] def crossing (g h:Half):Corner:=lowest (g.C * h.B - h.C * g.B) (g.A * h.C - h.A * g.C) (det g h)
theorem zjd (g h:Half) (hg:okH g) (hh:okH h) (hd:det g h≠0):Spec PP 158 [g.v,h.v] [(crossing g h).v]:=by
 have h1:=mulB hg.c hh.b
 have h2:=mulB hh.c hg.b
 have h3:=mulB hg.a hh.c
 have h4:=mulB hh.a hg.c
 have h5:=zlz hg hh
 refine sA Tryz.func158 ?_
 refine oN 28 ?_
 refine⟨i6,⟨i6,⟨i6,⟨i6,⟨i6,⟨i6,?_⟩⟩⟩⟩⟩⟩
 refine oP (zoS g h hg hh) rfl rfl ?_
 refine oP (zmG (g.C * h.B - h.C * g.B) (g.A * h.C - h.A * g.C) (det g h) (by omega) (by omega) (by omega) hd) rfl rfl ?_
 refine r1C rfl rfl rfl rfl rfl rfl (zjw ?_ ?_ ?_) <;> (unfold crossing; rfl)
abbrev Form:=Place
structure okF (f:Form):Prop where
  x:-1000<=f.X/\f.X<=1000
  y:-1000<=f.Y/\f.Y<=1000
theorem zeU {f:Form} (h:slope f.X f.Y=true):okF f:=by
 unfold slope at h
 simp only[jP,zaa] at h
 exact⟨h.1,h.2⟩
@[irreducible] def value (f:Form) (p:Corner):Frac:=let n:=f.X * p.X+f.Y * p.Y; let g:Int:=gcdL [n,p.Den]; ⟨n.tdiv g,p.Den.tdiv g⟩
theorem zfr (f:Form) (p:Corner) (hf:okF f) (hp:okC p):Spec PP 107 [f.v,p.v] [(value f p).v]:=by
 have h1:=mulB hf.x hp.x
 have h2:=mulB hf.y hp.y
 have hd:=hp.d
 have hg:0<gcdL [f.X * p.X+f.Y * p.Y,p.Den]:=by
  simp only[gcdL,qX,List.foldl_nil]
  exact Nat.gcd_pos_of_pos_right _ (by omega)
 have b1:=fun g=>zdD (g:=g) (a:=f.X * p.X+f.Y * p.Y) (b:=2147483648000) (by omega)
 have b2:=fun g=>zdD (g:=g) (a:=p.Den) (b:=1073741824) (by omega)
 refine sA Tryz.func107 ?_
 refine⟨i6,⟨i6,⟨i6,?_⟩⟩⟩
 refine pEq (zoR [f.X * p.X+f.Y * p.Y,p.Den] ?_ ?_) rfl (zdu rfl rfl) rfl ?_
 ·intro n hn
  simp only[kL,qQ,jaM] at hn
  rcases hn with rfl | rfl <;> omega
 ·exact jD rfl
 refine oN 9 ?_
 refine⟨⟨by omega,zam (by have:=b1 (gcdL [f.X * p.X+f.Y * p.Y,p.Den]); omega) (by have:=b1 (gcdL [f.X * p.X+f.Y * p.Y,p.Den]); omega)⟩,⟨⟨by omega,zhy (b2 _)⟩,?_⟩⟩
 refine r1C rfl rfl rfl rfl rfl rfl (zec ?_ ?_) <;> (unfold value; rfl)
theorem zha:Spec PP 136 [] [.agg [I (-1),I 0,I 0,I 1,I 0,I 48,I 0,I (-1),I 0,I 0,I 1,I 48]]:=by
 refine sA Tryz.func136 ?_
 refine r1C rfl rfl rfl rfl rfl rfl ?_
 exact zab _
def sidesL:List Half:=[⟨-1,0,0⟩,⟨1,0,48⟩,⟨0,-1,0⟩,⟨0,1,48⟩]
def outsideL:List Num->Corner->Int
 | [],_=>-5
 | x :: r,p=>if lies x.h p=true then outsideL r p else x.n
theorem zdH (l:List Num) (p:Corner) (hl:∀ x∈l,okH x.h) (hp:okC p) (hn:l.length<=1000000):Spec PP 96 [slN l,p.v] [N (outsideL l p)]:=by
 refine sA Tryz.func96 ?_
 refine lOf (σ:=Nat) (fun i=>([(3,.box 3 0),(7,avOf (slN l)),(8,.d (I l.length)),(9,.d (I i))],[(3,.box [.d (I p.X),.d (I p.Y),.d (I p.Den)])])) (fun i=>i<=l.length/\outsideL (l.drop i) p=outsideL l p) (fun i=>l.length - i) 0 ⟨rfl,⟨obD [I p.X,I p.Y,I p.Den] rfl,trivial⟩,⟨rfl,rfl⟩,wq rfl⟩ ⟨jF _,rfl⟩ fun i hi=>?_
 obtain⟨hi,ho⟩:=hi
 apply bY <;> intro h1
 ·have h1:i<l.length:=by simpa using h1
  have hd:l.drop i=l.getD i default :: l.drop (i+1):=by
   rw[qH h1,hU,kH h1]; rfl
  rw[hd] at ho
  refine⟨⟨rfl,by omega,by omega⟩,?_⟩
  refine cP (zqC (l.getD i default).h p (hl _ (gd1 h1 default)) hp) rfl rfl ?_
  apply bY <;> intro h2
  ·have h2:lies (l.getD i default).h p=false:=by simpa using h2
   refine r1I rfl ?_
   rw[<- ho]; simp only[outsideL,h2]; rfl
  have h2:lies (l.getD i default).h p=true:=by simpa using h2
  refine⟨i6,?_⟩
  refine⟨i+1,⟨rfl,⟨obD [I p.X,I p.Y,I p.Den] rfl,trivial⟩,⟨rfl,rfl⟩,wq rfl⟩,⟨h1,?_⟩,?_⟩
  ·rw[<- ho]; simp only[outsideL,h2,jaR]
  show l.length - (i+1)<l.length - i
  omega
 have h1:i=l.length:=by
  have:¬ i<l.length:=by simpa using h1
  omega
 refine r1I rfl ?_
 rw[<- ho,h1,List.drop_length]; rfl
def allAt (l:List Half) (i:Nat):Num:=if i<l.length then ⟨i,l.getD i default⟩ else ⟨-1 - ((i:Int) - l.length),sidesL.getD (i - l.length) default⟩
def allL (l:List Half):List Num:=(List.range (l.length+4)).map (allAt l)
theorem zcn (l:List Half) (i:Nat):allAt l (l.length+i)=⟨-1 - (i:Int),sidesL.getD i default⟩:=by
 unfold allAt
 rw[kF (by omega),Nat.add_sub_cancel_left]
 congr 1
 omega
theorem zcm (l:List Half):(allL l).length=l.length+4:=by simp[allL]
theorem zqe (l:List Half) {i:Nat} (h:i<l.length+4):(allL l).getD i default=allAt l i:=by
 unfold allL
 rw[hU,jU,qG h]
 rfl
theorem app1 {k n:Nat} {f f' g:Nat->Nat->D} (hf:∀ i,i<n -> ∀ j,j<k->D.eqv (f i j) (f' i j)) (hg:∀ j,j<k->D.eqv (g 0 j) (f' n j)):D.eqv (.slc k (n+1) (appRow n f g)) (.slc k (n+1) f'):=by
 refine⟨rfl,.inr ⟨rfl,fun i hi j hj=>?_⟩⟩
 unfold appRow
 by_cases h:i<n
 ·rw[kG h]; exact hf i h j hj
 obtain rfl:i=n:=by omega
 rw[kF h,kE]; exact hg j hj
theorem zmH (l:List Half) (hn:l.length<=1000000):Spec PP 97 [slH l] [slN (allL l)]:=by
 refine sA Tryz.func97 ?_
 refine lOf (σ:=Nat) (fun i=>([(3,.own 3),(8,avOf (slH l)),(9,.d (I l.length)),(10,.d (I i))],[(3,.row 237 4 i fun m=>(allAt l m).at)])) (fun i=>i<=l.length) (fun i=>l.length - i) 0 ⟨rfl,⟨obR rfl ⟨rfl,.inl rfl⟩,trivial⟩,rfl,wq rfl⟩ (jF _) fun i hi=>?_
 apply bY <;> intro h1
 ·have h1:i<l.length:=by simpa using h1
  refine⟨⟨rfl,by omega,by omega⟩,?_⟩
  refine⟨⟨.inr rfl,by unfold maxLen; omega,by show (i+1) * 32<=140737488355328; omega⟩,?_⟩
  refine⟨i6,?_⟩
  have e:allAt l i=⟨i,l.getD i default⟩:=kG h1
  refine⟨i+1,⟨rfl,⟨obR rfl (app1 (fun _ _ _ _=>dE _) fun j hj=>?_),trivial⟩,rfl,wq rfl⟩,h1,?_⟩
  ·rw[e]
   match j,hj with
   | 0,_=>exact⟨rfl,rfl⟩
   | 1,_=>exact⟨rfl,rfl⟩
   | 2,_=>exact⟨rfl,rfl⟩
   | 3,_=>exact⟨rfl,rfl⟩
  show l.length - (i+1)<l.length - i
  omega
 have h1:i=l.length:=by
  have:¬ i<l.length:=by simpa using h1
  omega
 subst h1
 refine cP zha rfl rfl ?_
 refine lOf (σ:=Nat) (fun i=>([(3,.own 3),(22,.agg [I (-1),I 0,I 0,I 1,I 0,I 48,I 0,I (-1),I 0,I 0,I 1,I 48]),(23,.d (I i))],[(3,.row 237 4 (l.length+i) fun m=>(allAt l m).at)])) (fun i=>i<=4) (fun i=>4 - i) 0 ⟨rfl,⟨obR rfl (dE _),trivial⟩,rfl,avA rfl (zab _),avR _ rfl,trivial⟩ (jF _) fun i hi=>?_
 apply bY <;> intro h1
 ·have h1:i<4:=by have:=dT h1; omega
  obtain rfl | rfl | rfl | rfl:i=0 \/ i=1 \/ i=2 \/ i=3:=by omega
  ·refine⟨⟨by decide,by decide⟩,?_⟩
   refine⟨zam (by decide) (by decide),?_⟩
   refine⟨⟨.inr rfl,by unfold maxLen; omega,by show (l.length+0+1) * 32<=140737488355328; omega⟩,?_⟩
   refine⟨zam (by decide) (by decide),?_⟩
   have e:allAt l l.length=_:=zcn l 0
   refine⟨0+1,⟨rfl,⟨obR rfl (app1 (fun _ _ _ _=>dE _) fun j hj=>?_),trivial⟩,rfl,avA rfl (zab _),avI rfl rfl,trivial⟩,by decide,by decide⟩
   rw[e]
   match j,hj with
   | 0,_=>exact⟨rfl,rfl⟩
   | 1,_=>exact⟨rfl,rfl⟩
   | 2,_=>exact⟨rfl,rfl⟩
   | 3,_=>exact⟨rfl,rfl⟩
  ·refine⟨⟨by decide,by decide⟩,?_⟩
   refine⟨zam (by decide) (by decide),?_⟩
   refine⟨⟨.inr rfl,by unfold maxLen; omega,by show (l.length+1+1) * 32<=140737488355328; omega⟩,?_⟩
   refine⟨zam (by decide) (by decide),?_⟩
   have e:=zcn l 1
   refine⟨1+1,⟨rfl,⟨obR rfl (app1 (fun _ _ _ _=>dE _) fun j hj=>?_),trivial⟩,rfl,avA rfl (zab _),avI rfl rfl,trivial⟩,by decide,by decide⟩
   rw[e]
   match j,hj with
   | 0,_=>exact⟨rfl,rfl⟩
   | 1,_=>exact⟨rfl,rfl⟩
   | 2,_=>exact⟨rfl,rfl⟩
   | 3,_=>exact⟨rfl,rfl⟩
  ·refine⟨⟨by decide,by decide⟩,?_⟩
   refine⟨zam (by decide) (by decide),?_⟩
   refine⟨⟨.inr rfl,by unfold maxLen; omega,by show (l.length+2+1) * 32<=140737488355328; omega⟩,?_⟩
   refine⟨zam (by decide) (by decide),?_⟩
   have e:=zcn l 2
   refine⟨2+1,⟨rfl,⟨obR rfl (app1 (fun _ _ _ _=>dE _) fun j hj=>?_),trivial⟩,rfl,avA rfl (zab _),avI rfl rfl,trivial⟩,by decide,by decide⟩
   rw[e]
   match j,hj with
   | 0,_=>exact⟨rfl,rfl⟩
   | 1,_=>exact⟨rfl,rfl⟩
   | 2,_=>exact⟨rfl,rfl⟩
   | 3,_=>exact⟨rfl,rfl⟩
  refine⟨⟨by decide,by decide⟩,?_⟩
  refine⟨zam (by decide) (by decide),?_⟩
  refine⟨⟨.inr rfl,by unfold maxLen; omega,by show (l.length+3+1) * 32<=140737488355328; omega⟩,?_⟩
  refine⟨zam (by decide) (by decide),?_⟩
  have e:=zcn l 3
  refine⟨3+1,⟨rfl,⟨obR rfl (app1 (fun _ _ _ _=>dE _) fun j hj=>?_),trivial⟩,rfl,avA rfl (zab _),avI rfl rfl,trivial⟩,by decide,by decide⟩
  rw[e]
  match j,hj with
  | 0,_=>exact⟨rfl,rfl⟩
  | 1,_=>exact⟨rfl,rfl⟩
  | 2,_=>exact⟨rfl,rfl⟩
  | 3,_=>exact⟨rfl,rfl⟩
 have h1:i=4:=by have:=dF h1; omega
 subst h1
 refine⟨?_,trivial⟩
 refine⟨_,_,_,_,rfl,?_⟩
 refine⟨(zcm l).symm,.inr ⟨rfl,fun i hi j hj=>?_⟩⟩
 show D.eqv ((allAt l i).at j) (((allL l).getD i default).at j)
 rw[zqe l hi]
 exact dE _
end Go.Pg
namespace Go.Pg
open Go.Proofs Go.RowKit Go.Sort Go.Shelf
theorem ord_spec (a b:Int):(ord a b = -1/\a<b) \/ (ord a b=1/\b<a) \/ (ord a b=0/\a=b):=by
 unfold ord
 by_cases h1:a<b
 ·exact .inl ⟨kG h1,h1⟩
 by_cases h2:b<a
 ·exact .inr (.inl ⟨by rw[kF h1,kG h2],h2⟩)
 exact .inr (.inr ⟨by rw[kF h1,kF h2],by omega⟩)
def ltC (p q:Corner):Prop:=p.X * q.Den<q.X * p.Den \/ (p.X * q.Den=q.X * p.Den/\p.Y * q.Den<q.Y * p.Den)
instance (p q:Corner):Decidable (ltC p q):=by unfold ltC; infer_instance
theorem zhM {p q:Corner} (hp:valid p=true) (hq:valid q=true):cmpC p q<0 ↔ ltC p q:=by
 unfold cmpC ltC
 rw[kG ⟨hp,hq⟩]
 simp only[orL]
 rcases ord_spec (p.X * q.Den) (q.X * p.Den) with⟨e,h⟩ | ⟨e,h⟩ | ⟨e,h⟩ <;> rcases ord_spec (p.Y * q.Den) (q.Y * p.Den) with⟨e',h'⟩ | ⟨e',h'⟩ | ⟨e',h'⟩ <;> rw[e,e'] <;> simp <;> omega
theorem zby {a b c x y z:Int} (hy:0<y) (hx:0<x) (hz:0<z) (h1:a * y<=b * x) (h2:b * z<=c * y):a * z<=c * x:=by
 have e1:a * y * z<=b * x * z:=jV h1 (by omega)
 have e2:b * z * x<=c * y * x:=jV h2 (by omega)
 have e3:(a * z) * y<=(c * x) * y:=by
  have q1:a * y * z=a * z * y:=by rw[Int.mul_assoc,jau y z,<- Int.mul_assoc]
  have q2:b * x * z=b * z * x:=by rw[Int.mul_assoc,jau x z,<- Int.mul_assoc]
  have q3:c * y * x=c * x * y:=by rw[Int.mul_assoc,jau y x,<- Int.mul_assoc]
  omega
 exact Int.le_of_mul_le_mul_right e3 hy
def leC (p q:Corner):Prop:=p.X * q.Den<q.X * p.Den \/ (p.X * q.Den=q.X * p.Den/\p.Y * q.Den<=q.Y * p.Den)
theorem zaX {p q:Corner}:¬ ltC p q ↔ leC q p:=by unfold ltC leC; omega
theorem zbU {p q r:Corner} (hp:0<p.Den) (hq:0<q.Den) (hr:0<r.Den) (h1:leC p q) (h2:leC q r):leC p r:=by
 have hx:=zby (a:=p.X) (b:=q.X) (c:=r.X) hq hp hr (by unfold leC at h1; omega) (by unfold leC at h2; omega)
 unfold leC at *
 by_cases hlt:p.X * r.Den<r.X * p.Den
 ·exact .inl hlt
 have hE:p.X * r.Den=r.X * p.Den:=by omega
 have e1:p.X * q.Den=q.X * p.Den:=by
  have:=zby (a:=q.X) (b:=r.X) (c:=p.X) hr hq hp (by omega) (by omega)
  omega
 have e2:q.X * r.Den=r.X * q.Den:=by
  have:=zby (a:=r.X) (b:=p.X) (c:=q.X) hp hr hq (by omega) (by omega)
  omega
 have y1:p.Y * q.Den<=q.Y * p.Den:=by omega
 have y2:q.Y * r.Den<=r.Y * q.Den:=by omega
 exact .inr ⟨hE,zby hq hp hr y1 y2⟩
theorem leC_total (p q:Corner):leC p q \/ leC q p:=by unfold leC; omega
theorem zf4 {p:Corner} (h:valid p=true):Nat.gcd (Nat.gcd p.X.natAbs p.Y.natAbs) p.Den.natAbs=1:=by
 unfold valid at h
 simp only[jP,qP] at h
 have:=h.2
 simp only[gcdL,qX,List.foldl_nil,Nat.gcd_zero_left] at this
 exact_mod_cast this
theorem zbV {p q:Corner} (hp:valid p=true) (hq:valid q=true) (h1:leC p q) (h2:leC q p):p=q:=by
 have dp:=(zaH hp).d
 have dq:=(zaH hq).d
 have ex:p.X * q.Den=q.X * p.Den:=by unfold leC at *; omega
 have ey:p.Y * q.Den=q.Y * p.Den:=by unfold leC at *; omega
 have nx:p.X.natAbs * q.Den.natAbs=q.X.natAbs * p.Den.natAbs:=by rw[<- Int.natAbs_mul,<- Int.natAbs_mul,ex]
 have ny:p.Y.natAbs * q.Den.natAbs=q.Y.natAbs * p.Den.natAbs:=by rw[<- Int.natAbs_mul,<- Int.natAbs_mul,ey]
 have g1:Nat.gcd (Nat.gcd (p.X.natAbs * q.Den.natAbs) (p.Y.natAbs * q.Den.natAbs)) (p.Den.natAbs * q.Den.natAbs)=q.Den.natAbs:=by
  rw[Nat.gcd_mul_right,Nat.gcd_mul_right,zf4 hp,Nat.one_mul]
 have g2:Nat.gcd (Nat.gcd (q.X.natAbs * p.Den.natAbs) (q.Y.natAbs * p.Den.natAbs)) (q.Den.natAbs * p.Den.natAbs)=p.Den.natAbs:=by
  rw[Nat.gcd_mul_right,Nat.gcd_mul_right,zf4 hq,Nat.one_mul]
 rw[nx,ny,qS p.Den.natAbs,g2] at g1
 have ed:p.Den=q.Den:=by omega
 have hx:p.X=q.X:=by
  rw[ed] at ex
  exact Int.eq_of_mul_eq_mul_right (by omega) ex
 have hy:p.Y=q.Y:=by
  rw[ed] at ey
  exact Int.eq_of_mul_eq_mul_right (by omega) ey
 cases p; cases q; simp_all
abbrev VC:={ p:Corner // valid p=true }
instance:Inhabited VC:=⟨⟨⟨0,0,1⟩,by unfold valid within; decide⟩⟩
def VI:Ints VC 3 where
  lst p:=[p.1.X,p.1.Y,p.1.Den]
  len _:=rfl
  at_ p:=p.1.at
  hat p j hj:=by
    match j,hj with
    | 0,_=>rfl
    | 1,_=>rfl
    | 2,_=>rfl
def cmpV (p q:VC):Int:=cmpC p.1 q.1
theorem zb0 (p q:VC):ltOf cmpV p q=decide (ltC p.1 q.1):=by
 unfold ltOf cmpV
 exact decide_eq_decide.2 (zhM p.2 q.2)
theorem VC.den (p:VC):0<p.1.Den:=by have:=(zaH p.2).d; omega
theorem swoV:SWO (ltOf cmpV) where
  irrefl x:=by rw[zb0]; simp[ltC]
  trans x y z h1 h2:=by
    rw[zb0] at *
    simp only[kA] at *
    refine Classical.not_not.1 fun hn=>?_
    rw[zaX] at hn
    have h3:leC x.1 y.1:=by unfold ltC at h1; unfold leC; omega
    exact (zaX.2 (zbU z.den x.den y.den hn h3)) h2
  ntrans x y z h1 h2:=by
    rw[zb0] at *
    simp only[qB] at *
    rw[zaX] at *
    exact zbU z.den y.den x.den h2 h1
theorem totV (x y:VC) (h1:ltOf cmpV x y=false) (h2:ltOf cmpV y x=false):x=y:=by
 rw[zb0] at *
 simp only[qB] at *
 rw[zaX] at *
 exact Subtype.ext (zbV x.2 y.2 h2 h1)
theorem aggC:∀ w,(isAgg (Tryz.sortC_ren.t 24)).run PP w = .ok true w:=fun _=>by kernel_rfl
theorem sizC:∀ w,(Go.sizeOf (Tryz.sortC_ren.t 24)).run PP w = .ok 3 w:=fun _=>by kernel_rfl
theorem zo0 (l:List VC) (hn:l.length<=1000000):SpecR PP 159 [] [.d (.fn 160)] 109 3 l.length (VI.row l) (VI.row (l.mergeSort fun x y=>!(ltOf cmpV) y x)) []:=
 zeG VI Tryz.sortC ⟨_,Tryz.func159,by kernel_rfl,by kernel_rfl⟩ aggC sizC cmpV swoV totV 160 (fun x y=>zlA x.1 y.1) 109 l hn
abbrev Num.v (x:Num):V1:=.agg [I x.n,I x.h.A,I x.h.B,I x.h.C]
def Num.val (x:Num):Value:=.agg #[.int .i64 x.n,.int .i64 x.h.A,.int .i64 x.h.B,.int .i64 x.h.C]
def rowPh (l:List Num) (i k:Nat):List (Num × Num):=(List.range k).filterMap fun k=>if det (l.getD k default).h (l.getD i default).h=0 then none else some (l.getD k default,l.getD i default)
def upP (l:List Num) (i:Nat):List (Num × Num):=(List.range i).flatMap fun i=>rowPh l i i
def pairsL (l:List Num):List (Num × Num):=upP l l.length
theorem zcF (l:List Num) (i k:Nat):rowPh l i (k+1)=rowPh l i k++(if det (l.getD k default).h (l.getD i default).h=0 then [] else [(l.getD k default,l.getD i default)]):=by
 unfold rowPh
 rw[jad,List.filterMap_append]
 congr 1
 by_cases h:det (l.getD k default).h (l.getD i default).h=0
 ·rw[kG h,List.filterMap_cons_none (by rw[kG h])]; rfl
 rw[kF h,List.filterMap_cons_some (by rw[kF h])]; rfl
theorem zdm (l:List Num) (i:Nat):upP l (i+1)=upP l i++rowPh l i i:=by
 unfold upP
 rw[jad,jax]
 simp
theorem zmJ (l:List Num) (i:Nat):∀ {k m:Nat},k<=m->rowPh l i k <+: rowPh l i m:=fun {k m} h=>by
 obtain⟨d,rfl⟩:=Nat.exists_eq_add_of_le h
 induction d with
 | zero=>exact List.prefix_rfl
 | succ d ih=>exact (ih (by omega)).trans (by rw[<- jah,zcF]; exact List.prefix_append _ _)
theorem zoC (l:List Num):∀ {k m:Nat},k<=m->upP l k <+: upP l m:=fun {k m} h=>by
 obtain⟨d,rfl⟩:=Nat.exists_eq_add_of_le h
 induction d with
 | zero=>exact List.prefix_rfl
 | succ d ih=>exact (ih (by omega)).trans (by rw[<- jah,zdm]; exact List.prefix_append _ _)
theorem zdP (l:List Num) {i k:Nat} (hi:i<l.length) (hk:k<i) (hd:det (l.getD k default).h (l.getD i default).h≠0):(pairsL l)[(upP l i).length+(rowPh l i k).length]?=some (l.getD k default,l.getD i default):=by
 have h1:rowPh l i (k+1) <+: rowPh l i i:=zmJ l i hk
 have h2:upP l (i+1) <+: pairsL l:=zoC l hi
 rw[zcF,kF hd] at h1
 rw[zdm] at h2
 obtain⟨r1,h1⟩:=h1
 obtain⟨r2,h2⟩:=h2
 rw[<- h2,<- h1]
 simp
def Num.sl (l:List Num):D:=.slc 4 l.length fun i=>(l.getD i default).at
def pairsEnc (x:Num × Num):List V1:=[x.1.v,x.2.v]
theorem zia (l:List Num) (hl:∀ x∈l,okH x.h) (hn:l.length<=1000000):SeqC PP 163 1 (fun _=>.ptr 1 fun _=>Num.sl l) pairsEnc (pairsL l):=by
 refine zfq Tryz.func163 rfl (by kernel_rfl) rfl rfl pairsEnc _ fun y=>?_
 refine lOf (σ:=Nat) (fun i=>([(G,.gho (some (upP l i).length)),(0,.yl y),(1,.roe 1 fun _=>Num.sl l),(7,avOf (slN l)),(8,.d (I l.length)),(9,.d (I i))],[])) (fun i=>i<=l.length) (fun i=>l.length - i) 0 ⟨rfl,trivial,wq rfl⟩ (jF _) fun i hi=>?_
 apply bY <;> intro h1
 ·have h1:i<l.length:=by simpa using h1
  refine⟨⟨rfl,by omega,by omega⟩,?_⟩
  refine⟨⟨.inr rfl,by omega,by omega⟩,?_⟩
  refine lOf (σ:=Nat) (fun k=>([(G,.gho (some ((upP l i).length+(rowPh l i k).length))),(0,.yl y),(1,.roe 1 fun _=>Num.sl l),(4,.roe 4 (l.getD i default).at),(7,avOf (slN l)),(8,.d (I l.length)),(9,.d (I i)),(16,.d (.slc 4 i fun i=>(l.getD i default).at)),(17,.d (I i)),(18,.d (I k))],[])) (fun k=>k<=i) (fun k=>i - k) 0 ⟨rfl,trivial,avQ rfl,avQ rfl,avQ rfl,avBx rfl rfl rfl rfl (eqv4 rfl (dE _) (dE _) (dE _) (dE _)),avQ rfl,avQ rfl,avQ rfl,avE rfl ⟨by omega,.inr ⟨rfl,fun _ _ _ _=>dE _⟩⟩,avI rfl (by omega),avQ rfl,trivial⟩ (jF _) fun k hk=>?_
  apply bY <;> intro h2
  ·have h2:k<i:=by simpa using h2
   have hok1:=hl _ (gd1 (show k<l.length by omega) default)
   have hok2:=hl _ (gd1 h1 default)
   refine⟨⟨rfl,by omega,by omega⟩,?_⟩
   refine cP (zoS (l.getD k default).h (l.getD i default).h hok1 hok2) rfl rfl ?_
   apply bY <;> intro h3
   ·have h3:det (l.getD k default).h (l.getD i default).h≠0:=by simpa using h3
    refine CallSt.yd (d:=32) [(0,.yl y),(1,.roe 1 fun _=>Num.sl l),(4,.roe 4 (l.getD i default).at),(7,avOf (slN l)),(8,.d (I l.length)),(9,.d (I i)),(16,.d (.slc 4 i fun i=>(l.getD i default).at)),(17,.d (I i)),(18,.d (I k)),(28,.d (.bool true))] rfl rfl rfl rfl ⟨rfl,trivial,wq rfl⟩ (zdP l h1 h2 h3) rfl rfl ?_ ?_
    ·refine sT ?_
     refine sF ?_
     refine⟨i6,?_⟩
     refine⟨k+1,⟨rfl,trivial,avG rfl ?_,wq rfl⟩,h2,?_⟩
     ·rw[zcF,kF h3]; simp; omega
     show i - (k+1)<i - k
     omega
    refine sT ?_
    refine sT ?_
    exact .inr rfl
   have h3:det (l.getD k default).h (l.getD i default).h=0:=by simpa using h3
   refine sF ?_
   refine sF ?_
   refine⟨i6,?_⟩
   refine⟨k+1,⟨rfl,trivial,avG rfl ?_,wq rfl⟩,h2,?_⟩
   ·rw[zcF,kG h3]; simp
   show i - (k+1)<i - k
   omega
  have h2:k=i:=by
   have:¬ k<i:=by simpa using h2
   omega
  subst h2
  refine⟨i6,?_⟩
  refine⟨k+1,⟨rfl,trivial,avG rfl ?_,wq rfl⟩,h1,?_⟩
  ·rw[zdm]; simp
  show l.length - (k+1)<l.length - k
  omega
 have h1:i=l.length:=by
  have:¬ i<l.length:=by simpa using h1
  omega
 subst h1
 exact .inl rfl
abbrev pairsClo (l:List Num):D:=.clo 163 1 fun _=>.ptr 1 fun _=>Num.sl l
theorem zkg (l:List Num):Spec PP 139 [slN l] [.d (pairsClo l)]:=by
 refine sA Tryz.func139 ?_
 refine⟨⟨rfl,rfl,fun j hj=>?_⟩,trivial⟩
 obtain rfl:j=0:=by omega
 exact⟨_,rfl,rfl,_,_,rfl,rfl,rfl,fun j hj=>(by
  cases jaV.1 hj
  exact dE _)⟩
abbrev Uh (n:Int):D:=.int .u64 n
abbrev NU (n:Int):V1:=.d (Uh n)
theorem znD (a:Int):SpecD PP 186 [NU a] [B false]:=by
 refine zaO Tryz.func186 rfl (by kernel_rfl) rfl ?_
 refine r1B rfl ?_
 simp
theorem zrs (a b:Int):SpecD PP 166 [NU a,NU b] [N (ord a b)]:=by
 refine zaO Tryz.func166 rfl (by kernel_rfl) rfl ?_
 repeat' first
  | refine sT ?_
  | refine sF ?_
  | refine bY (fun _=>?_) (fun _=>?_)
  | refine cP (znD _) rfl rfl ?_
  | refine r1I rfl ?_
 all_goals (unfold ord; simp_all)
 all_goals omega
theorem znC (a b:Int):SpecD PP 146 [NU a,NU b] [N (ord a b)]:=by
 refine zaO Tryz.func146 rfl (by kernel_rfl) rfl ?_
 refine cP (zrs a b) rfl rfl ?_
 exact r1I rfl rfl
theorem zib (a b:Int):Spec PP 146 [NU a,NU b] [N (ord a b)]:=(znC a b).of
theorem zpS (x y:Nat) (hx:x<18446744073709551616) (hy:y<18446744073709551616):SpecD PP 143 [NU x,NU y] [NU ((x * y / 18446744073709551616:Nat):Int),NU ((x * y % 18446744073709551616:Nat):Int)]:=
 zg5 Tryz.mul64 ⟨_,Tryz.func143,by kernel_rfl,by kernel_rfl⟩ x y hx hy
def hiW (n:Int):Int:=((n.natAbs / 18446744073709551616:Nat):Int)
def loW (n:Int):Int:=((n.natAbs % 18446744073709551616:Nat):Int)
abbrev wide (n:Int):V1:=.agg [I (ord n 0),Uh (hiW n),Uh (loW n)]
theorem zpd (a b:Int):ord a 0 * ord b 0=ord (a * b) 0:=by
 unfold ord
 rcases Int.lt_trichotomy a 0 with h | h | h <;> rcases Int.lt_trichotomy b 0 with g | g | g
 ·have:=Int.mul_pos_of_neg_of_neg h g; rw[kG h,kG g,kF (by omega),kG this]; rfl
 ·subst g; simp
 ·have:=Int.mul_neg_of_neg_of_pos h g; rw[kG h,kF (by omega),kG g,kG this]; rfl
 ·subst h; simp
 ·subst h; simp
 ·subst h; simp
 ·have:=Int.mul_neg_of_pos_of_neg h g; rw[kF (by omega),kG h,kG g,kG this]; rfl
 ·subst g; simp
 have:=qI h g; rw[kF (by omega),kG h,kF (by omega),kG g,kF (by omega),kG this]; rfl
theorem absW {a:Int} (h:-9223372036854775807<=a/\a<=9223372036854775807):IntKind.u64.wrap (max a (-a))=(a.natAbs:Int):=by
 have e:max a (-a)=(a.natAbs:Int):=by omega
 rw[e]
 show ((a.natAbs:Int) % 2 ^ 64)=_
 omega
theorem zgn (a b:Int):-1<=ord a b/\ord a b<=1:=by
 unfold ord; split
 ·omega
 split <;> omega
theorem zfs (a b:Int) (ha:-9223372036854775807<=a/\a<=9223372036854775807) (hb:-9223372036854775807<=b/\b<=9223372036854775807):Spec PP 105 [N a,N b] [wide (a * b)]:=by
 refine sA Tryz.func105 ?_
 refine⟨i6,⟨i6,?_⟩⟩
 refine pEq (zpS a.natAbs b.natAbs (by omega) (by omega)).of rfl ⟨⟨rfl,absW ha⟩,⟨rfl,absW hb⟩,trivial⟩ rfl ?_
 refine cP (zft a 0) rfl rfl ?_
 refine cP (zft b 0) rfl rfl ?_
 have h1:=zgn a 0
 have h2:=zgn b 0
 have h3:=mulB h1 h2
 refine⟨i6,?_⟩
 refine r1C rfl rfl rfl rfl rfl rfl (zjw (zpd a b) ?_ ?_)
 ·unfold hiW; rw[Int.natAbs_mul]
 unfold loW; rw[Int.natAbs_mul]
theorem zpe (a b c d:Nat) (hb:b<18446744073709551616) (hd:d<18446744073709551616):orL [ord a c,ord b d]=ord (18446744073709551616 * a+b) (18446744073709551616 * c+d):=by
 simp only[orL]
 unfold ord
 rcases jai a c with h | h | h
 ·rw[kG (show (a:Int)<c by omega),kF (by decide),kG (by omega)]
 ·subst h
  rw[kF (show ¬ (a:Int)<a by omega),kF (show ¬ (a:Int)<a by omega),kG rfl]
  rcases jai b d with g | g | g
  ·rw[kG (show (b:Int)<d by omega),kF (by decide),kG (by omega)]
  ·subst g; simp
  rw[kF (show ¬ (b:Int)<d by omega),kG (show (d:Int)<b by omega),kF (by decide),kF (by omega),kG (by omega)]
 rw[kF (show ¬ (a:Int)<c by omega),kG (show (c:Int)<a by omega),kF (by decide),kF (by omega),kG (by omega)]
theorem zpf (m n:Int):orL [ord (hiW m) (hiW n),ord (loW m) (loW n)]=ord m.natAbs n.natAbs:=by
 have h1:=jar m.natAbs 18446744073709551616
 have h2:=jar n.natAbs 18446744073709551616
 unfold hiW loW
 rw[zpe _ _ _ _ (jaq _ (by decide)) (jaq _ (by decide))]
 congr 1 <;> omega
theorem ziw (m n:Int):(if ord m 0=ord n 0 then ord m 0 * orL [ord (hiW m) (hiW n),ord (loW m) (loW n)] else ord (ord m 0) (ord n 0))=ord m n:=by
 rw[zpf]
 rcases Int.lt_trichotomy m 0 with h | h | h <;> rcases Int.lt_trichotomy n 0 with g | g | g
 all_goals
  first
   | have e1:ord m 0 = -1:=by unfold ord; rw[kG h]
   | have e1:ord m 0=0:=by subst h; unfold ord; rfl
   | have e1:ord m 0=1:=by unfold ord; rw[kF (by omega),kG h]
  first
   | have e2:ord n 0 = -1:=by unfold ord; rw[kG g]
   | have e2:ord n 0=0:=by subst g; unfold ord; rfl
   | have e2:ord n 0=1:=by unfold ord; rw[kF (by omega),kG g]
  rw[e1,e2]
  unfold ord
  (repeat' split) <;> omega
theorem zn4 (m n:Int):Spec PP 106 [wide m,wide n] [N (ord m n)]:=by
 refine sA Tryz.func106 ?_
 apply bY <;> intro h1
 ·have h1:ord m 0≠ord n 0:=by simpa using h1
  refine cP (zft _ _) rfl rfl ?_
  refine r1I rfl ?_
  rw[<- ziw m n,kF h1]
 have h1:ord m 0=ord n 0:=by simpa using h1
 refine oN 16 ?_
 refine oP (zib _ _) rfl rfl ?_
 refine oP (zib _ _) rfl rfl ?_
 refine CallOb.pureE (s_or [_,_] ?_) rfl (zdu rfl rfl) rfl ?_
 ·exact jD rfl
 have hb:∀ x y:Int,(-1<=x/\x<=1)->(-1<=y/\y<=1) -> -1<=orL [x,y]/\orL [x,y]<=1:=fun x y hx hy=>by
  simp only[orL]; split
  ·split <;> omega
  omega
 have h3:=mulB (zgn m 0) (hb _ _ (zgn (hiW m) (hiW n)) (zgn (loW m) (loW n)))
 refine⟨i6,?_⟩
 refine r1I rfl ?_
 rw[<- ziw m n,kG h1]
def dXh (a b:Corner):Int:=b.X * a.Den - a.X * b.Den
def dYh (a b:Corner):Int:=b.Y * a.Den - a.Y * b.Den
@[irreducible] def turn (a b c:Corner):Int:=ord (dXh a b * dYh a c) (dYh a b * dXh a c)
theorem zqB (a b c:Corner) (ha:okC a) (hb:okC b) (hc:okC c):Spec PP 182 [a.v,b.v,c.v] [N (turn a b c)]:=by
 have da:=ha.d
 have db:=hb.d
 have dc:=hc.d
 have h1:=mulB hb.x (b:=a.Den) (y:=2097152) (by omega)
 have h2:=mulB ha.x (b:=b.Den) (y:=2097152) (by omega)
 have h3:=mulB hb.y (b:=a.Den) (y:=2097152) (by omega)
 have h4:=mulB ha.y (b:=b.Den) (y:=2097152) (by omega)
 have h5:=mulB hc.x (b:=a.Den) (y:=2097152) (by omega)
 have h6:=mulB ha.x (b:=c.Den) (y:=2097152) (by omega)
 have h7:=mulB hc.y (b:=a.Den) (y:=2097152) (by omega)
 have h8:=mulB ha.y (b:=c.Den) (y:=2097152) (by omega)
 refine sA Tryz.func182 ?_
 refine oN 24 ?_
 refine⟨i6,⟨i6,⟨i6,⟨i6,⟨i6,⟨i6,?_⟩⟩⟩⟩⟩⟩
 refine oN 24 ?_
 refine⟨i6,⟨i6,⟨i6,⟨i6,⟨i6,⟨i6,?_⟩⟩⟩⟩⟩⟩
 refine cP (zfs (b.X * a.Den - a.X * b.Den) (c.Y * a.Den - a.Y * c.Den) (by omega) (by omega)) rfl rfl ?_
 refine cP (zfs (b.Y * a.Den - a.Y * b.Den) (c.X * a.Den - a.X * c.Den) (by omega) (by omega)) rfl rfl ?_
 refine cP (zn4 _ _) rfl rfl ?_
 refine r1I rfl ?_
 unfold turn dXh dYh; rfl
abbrev rowC (l:List Corner):Nat->Nat->D:=fun i=>(l.getD i default).at
theorem avS {s:St} {ob:Nat->Option Ob} {v:AV} {i k lo n lo' n':Nat} (h:v = .sub i k lo n) (e1:lo=lo') (e2:n=n'):AVle s ob v (.sub i k lo' n'):=by subst h; exact⟨rfl,rfl,e1,e2⟩
theorem zlp (l:List Corner) (m j:Nat):(rowC l m j).flat=true:=by
 show ((l.getD m default).at j).flat=true
 unfold Corner.at; split <;> rfl
theorem ziC (l:List Corner) (hn:l.length<=1000000):SpecO PP 183 [slC l] 109 3 l.length (rowC l):=by
 refine zba Tryz.func183 rfl (by kernel_rfl) rfl ?_
 refine fun b hb=>?_
 apply bY <;> intro h1
 ·have h0:=hb h1
  refine⟨rfl,rfl,h0.symm,fun i hi=>?_⟩
  omega
 refine⟨⟨.inr rfl,by unfold maxLen; omega,by show (0+l.length) * 24<=140737488355328; omega⟩,?_⟩
 refine⟨rfl,rfl,k9 _,fun i hi j hj=>?_⟩
 exact dE _
@[irreducible] def keepC (l:List Corner) (i:Nat):Bool:=i==0 || !(l.getD i default==l.getD (i - 1) default)
@[irreducible] def compP (l:List Corner) (j:Nat):List Corner:=((List.range j).filter (keepC l)).map fun i=>l.getD i default
@[irreducible] def compL (l:List Corner):List Corner:=compP l l.length
theorem zcc (l:List Corner) (i:Nat):keepC l i=(i==0 || !(l.getD i default==l.getD (i - 1) default)):=by unfold keepC; rfl
theorem keep0 (l:List Corner) {i:Nat} (h:i<1):keepC l i=true:=by
 obtain rfl:i=0:=by omega
 unfold keepC; rfl
theorem zcg (l:List Corner) (j:Nat):compP l (j+1)=compP l j++(if keepC l j=true then [l.getD j default] else []):=by
 unfold compP
 rw[jad,kX,jT]
 congr 1
 by_cases h:keepC l j=true
 ·rw[kG h]; simp[h]
 rw[kF h]; simp[h]
theorem zlE (l:List Corner) (j:Nat):(compP l j).length<=j:=by
 unfold compP
 rw[qA]
 exact jM (jam _ _) (by simp)
theorem zeg (l:List Corner) {j:Nat} (hj:j<=l.length) (h:∀ i,i<j->keepC l i=true):compP l j=l.take j:=by
 induction j with
 | zero=>simp[compP]
 | succ j ih=>rw[zcg,kG (h j (by omega)),ih (by omega) fun i hi=>h i (by omega),za6 (by omega) default]
theorem eqC (p q:Corner):(p.X==q.X && (p.Y==q.Y && (p.Den==q.Den && true)))=(p==q):=by
 rw[wD]
 simp only[jP,qP,and_true]
 constructor
 ·rintro⟨h1,h2,h3⟩; cases p; cases q; simp_all
 rintro rfl; exact⟨rfl,rfl,rfl⟩
theorem zbx {α:Type} (m:List α) (k i:Nat) (p d:α) (hk:k<m.length):(m.set k p).getD i d=if i=k then p else m.getD i d:=by
 rw[hU,List.getElem?_set,hU]
 by_cases h:k=i
 ·subst h; simp[hk]
 rw[kF h,kF fun e=>h e.symm]
theorem setC {m:List Corner} {n k k':Nat} {p q:Corner} (hk:k<m.length) (e1:k'=k) (e2:q=p):D.eqv (.slc 3 n (storeRow (rowC m) k' 0 [I q.X,I q.Y,I q.Den])) (.slc 3 n (rowC (m.set k p))):=by
 subst e1; subst e2
 refine⟨rfl,.inr ⟨rfl,fun i hi j hj=>?_⟩⟩
 show D.eqv (storeRow (rowC m) k' 0 [I q.X,I q.Y,I q.Den] i j) (((m.set k' q).getD i default).at j)
 rw[zbx m k' i q default hk]
 unfold storeRow
 by_cases h:i=k'
 ·rw[kG h,kG ⟨h,by omega,by simpa using hj⟩]
  match j,hj with
  | 0,_=>exact⟨rfl,rfl⟩
  | 1,_=>exact⟨rfl,rfl⟩
  | 2,_=>exact⟨rfl,rfl⟩
 rw[kF h,kF fun hh=>h hh.1]
 exact dE _
theorem zj5 (l:List Corner) (hn:l.length<=1000000):SpecT PP 162 [] [] 109 3 l.length (rowC l) (compL l).length (rowC (compL l)):=by
 refine zfk Tryz.func162 rfl (by kernel_rfl) (fun i _ j _=>zlp _ i j) rfl fun v=>?_
 apply bY <;> intro h1
 ·have h1:l.length<2:=by have:=dT h1; omega
  have e:compL l=l:=by
   unfold compL
   rw[zeg l (jE _) fun i hi=>?_,jZ]
   unfold keepC
   rcases jaN i with h | h
   ·subst h; rfl
   omega
  rw[e]
  exact⟨rfl,rfl,rfl,fun i hi j hj=>dE _⟩
 have h1:2<=l.length:=by have:=dF h1; omega
 refine lOf (σ:=Nat) (fun k=>([(0,.own 0),(3,.d (I k))],[(0,.row 109 3 l.length (rowC l))])) (fun k=>1<=k/\k<=l.length /\ ∀ i,i<k->keepC l i=true) (fun k=>l.length - k) 1 ⟨rfl,⟨obR rfl (dE _),trivial⟩,rfl,avR _ rfl,trivial⟩ ⟨jE _,by omega,fun i hi=>keep0 l hi⟩ fun k hk=>?_
 obtain⟨k1,k2,k3⟩:=hk
 apply bY <;> intro h2
 ·have h2:k<l.length:=by simpa using h2
  refine oN 10 ?_
  refine⟨⟨by omega,by omega⟩,⟨by omega,?_⟩⟩
  refine⟨i6,?_⟩
  refine⟨⟨by omega,by omega⟩,⟨by omega,?_⟩⟩
  apply bY <;> intro h3
  ·rw[eqC,wH,show ((k:Int) - 1).toNat=k - 1 by omega] at h3
   have hnk:keepC l k=false:=by simp only[zcc,h3]; simp; omega
   have ck:compP l (k+1)=l.take k:=by rw[zcg,kF (by rw[hnk]; decide),jaD,zeg l k2 k3]
   refine⟨⟨rfl,by omega,by omega⟩,?_⟩
   refine lOf (σ:=Nat × Nat × List Corner) (fun x=>([(0,.own 0),(3,.d (I x.2.1)),(4,.sub 0 3 k (l.length - k)),(5,.d (I (x.1 - k)))],[(0,.row 109 3 l.length (rowC x.2.2))]))
    (fun x=>k+1<=x.1/\x.1<=l.length/\x.2.2.length=l.length/\x.2.1<=x.1 - 1/\x.2.2.take x.2.1=compP l x.1 /\ ∀ i,x.1 - 1<=i->x.2.2.getD i default=l.getD i default) (fun x=>l.length - x.1) (k+1,k,l)
    ⟨rfl,⟨obR rfl (dE _),trivial⟩,rfl,avI rfl rfl,avS rfl (wH k) (by rw[wH]),avI rfl ?_,trivial⟩ ⟨jE _,h2,rfl,by simp,ck.symm,fun _ _=>rfl⟩ fun x hx=>?_
   ·show (1:Int)=((k+1:Nat):Int) - k
    omega
   obtain⟨x1,x2,x3,x4,x5,x6⟩:=hx
   apply bY <;> intro g1
   ·have g1:x.1<l.length:=by have:=dT g1; omega
    refine oN 10 ?_
    refine⟨⟨by omega,by omega⟩,⟨by omega,?_⟩⟩
    refine⟨i6,?_⟩
    refine⟨⟨by omega,by omega⟩,⟨by omega,?_⟩⟩
    have e1:k+((x.1:Int) - k).toNat=x.1:=by omega
    have e2:k+((x.1:Int) - k - 1).toNat=x.1 - 1:=by omega
    apply bY <;> intro g2
    ·rw[eqC,e1,e2,x6 x.1 (by omega),x6 (x.1 - 1) (by omega)] at g2
     have hkj:keepC l x.1=true:=by simp only[zcc]; simp only[jX]; exact .inr g2
     refine⟨⟨by omega,by omega⟩,⟨by omega,?_⟩⟩
     refine⟨⟨by omega,by omega⟩,⟨by omega,?_⟩⟩
     refine⟨i6,?_⟩
     refine⟨i6,?_⟩
     refine⟨(x.1+1,x.2.1+1,x.2.2.set x.2.1 (l.getD x.1 default)),⟨rfl,⟨obR rfl (setC (by omega) (wH _) (by rw[e1,x6 _ (by omega)])),trivial⟩,rfl,avI rfl ?_,avS rfl rfl rfl,avI rfl ?_,trivial⟩,⟨by omega,by omega,by simp; omega,(show x.2.1+1<=x.1+1 - 1 by omega),?_,fun i hi=>?_⟩,?_⟩
     ·show (x.2.1:Int)+1=((x.2.1+1:Nat):Int)
      omega
     ·show (x.1:Int) - k+1=((x.1+1:Nat):Int) - k
      omega
     ·show (x.2.2.set x.2.1 (l.getD x.1 default)).take (x.2.1+1)=compP l (x.1+1)
      rw[zcg,kG hkj,za6 (i:=x.2.1) (by simp; omega) default,zbx _ _ _ _ _ (by omega),kG rfl,<- x5,List.take_set_of_le (jE _)]
     ·have hi:x.1+1 - 1<=i:=hi
      show (x.2.2.set x.2.1 (l.getD x.1 default)).getD i default=_
      rw[zbx _ _ _ _ _ (by omega),kF (by omega)]
      exact x6 i (by omega)
     show l.length - (x.1+1)<l.length - x.1
     omega
    rw[eqC,e1,e2,x6 x.1 (by omega),x6 (x.1 - 1) (by omega)] at g2
    have hkj:keepC l x.1=false:=by simp only[zcc]; simp only[kU]; exact⟨by simp; omega,g2⟩
    refine⟨i6,?_⟩
    refine⟨(x.1+1,x.2.1,x.2.2),⟨rfl,⟨obR rfl (dE _),trivial⟩,rfl,avI rfl rfl,avS rfl rfl rfl,avI rfl ?_,trivial⟩,⟨by omega,by omega,x3,(show x.2.1<=x.1+1 - 1 by omega),?_,fun i hi=>x6 i (by omega)⟩,?_⟩
    ·show (x.1:Int) - k+1=((x.1+1:Nat):Int) - k
     omega
    ·show x.2.2.take x.2.1=compP l (x.1+1)
     rw[zcg,kF (by rw[hkj]; decide),jaD,x5]
    show l.length - (x.1+1)<l.length - x.1
    omega
   have g1:x.1=l.length:=by have:=dF g1; omega
   refine⟨⟨rfl,by omega,by omega⟩,?_⟩
   refine⟨by omega,?_⟩
   refine⟨⟨by omega,by omega⟩,?_⟩
   refine⟨rfl,rfl,?_,fun i hi j hj=>?_⟩
   ·have:=jI List.length x5
    rw[jQ,g1] at this
    show (x.2.1:Int).toNat=_
    unfold compL
    omega
   have hk':x.2.1=(compL l).length:=by
    have:=jI List.length x5
    rw[jQ,g1] at this
    unfold compL
    omega
   have e3:(compL l).getD i default=x.2.2.getD i default:=by
    unfold compL
    rw[<- g1,<- x5,hU,jS,kG (by omega),<- hU]
   show D.eqv (clrRow (rowC x.2.2) (x.2.1:Int).toNat (l.length - (x.2.1:Int).toNat) _ i j) (((compL l).getD i default).at j)
   unfold clrRow
   rw[kF (by omega),e3]
   exact dE _
  rw[eqC,wH,show ((k:Int) - 1).toNat=k - 1 by omega] at h3
  refine⟨i6,?_⟩
  refine⟨k+1,⟨rfl,⟨obR rfl (dE _),trivial⟩,rfl,avI rfl (by omega),trivial⟩,⟨by omega,by omega,fun i hi=>?_⟩,?_⟩
  ·rcases qT i k with h | h
   ·exact k3 i h
   obtain rfl:i=k:=by omega
   simp only[zcc,h3]; simp
  show l.length - (k+1)<l.length - k
  omega
 have h2:k=l.length:=by
  have:¬ k<l.length:=by simpa using h2
  omega
 have e:compL l=l:=by
  unfold compL
  rw[zeg l (jE _) fun i hi=>k3 i (by omega),jZ]
 rw[e]
 exact⟨rfl,rfl,rfl,fun i hi j hj=>dE _⟩
def popR (p:Corner):List Corner->List Corner
 | b :: a :: r=>if turn a b p<=0 then popR p (a :: r) else b :: a :: r
 | s=>s
def stepR (st:List Corner) (p:Corner):List Corner:=p :: popR p st
@[irreducible] def chainR (l:List Corner):List Corner:=l.foldl stepR []
@[irreducible] def halfL (l:List Corner):List Corner:=(chainR l).tail.reverse
theorem ziq (p:Corner):∀ (st:List Corner),∀ q∈popR p st,q∈st
 | [],q,h=>h
 | [b],q,h=>h
 | b :: a :: r,q,h=>by
  simp only[popR] at h
  split at h
  ·exact kO _ (ziq p (a :: r) q h)
  exact h
theorem zir (p:Corner):∀ (st:List Corner),(popR p st).length<=st.length
 | []=>jE _
 | [b]=>jE _
 | b :: a :: r=>by
  simp only[popR]
  split
  ·have:=zir p (a :: r); simp only[jaz] at *; omega
  exact jE _
theorem zcw (l:List Corner) {i:Nat} (h:i<l.length):chainR (l.take (i+1))=stepR (chainR (l.take i)) (l.getD i default):=by
 unfold chainR
 rw[za6 h default,jaS]; rfl
theorem zei (l:List Corner):chainR (l.take 0)=[]:=by unfold chainR; simp
theorem zch (l:List Corner):∀ i,i<=l.length->(∀ q∈chainR (l.take i),q∈l)/\(chainR (l.take i)).length<=i
 | 0,_=>by rw[zei]; simp
 | i+1,h=>by
  rw[zcw l (by omega)]
  obtain⟨h1,h2⟩:=zch l i (by omega)
  refine⟨fun q hq=>?_,?_⟩
  ·rcases kL.1 hq with rfl | hq
   ·exact gd1 (by omega) default
   exact h1 q (ziq _ _ q hq)
  have:=zir (l.getD i default) (chainR (l.take i))
  show (popR _ _).length+1<=i+1
  omega
theorem zhg (a:Corner) (r:List Corner) {n:Nat} (h:n=r.length):(a :: r).reverse.getD n default=a:=by
 subst h
 rw[hU,List.reverse_cons,jK (by simp)]
 simp
theorem zmM (b a:Corner) (r:List Corner) {n:Nat} (h:n=r.length):(b :: a :: r).reverse.getD n default=a:=by
 subst h
 rw[hU,List.reverse_cons,jJ (by simp),<- hU]
 exact zhg a r rfl
theorem zfu (b:Corner) (r:List Corner) {i:Nat} (h:i<r.length):r.reverse.getD i default=(b :: r).reverse.getD i default:=by
 rw[List.reverse_cons,hU,hU,jJ (by simpa using h)]
theorem zn8 {st:List Corner} {p:Corner} {n:Nat} {g:Nat->Nat->D} (hn:n=st.length) (hg:∀ j,j<3->D.eqv (g 0 j) (p.at j)):D.eqv (.slc 3 (n+1) (appRow n (rowC st.reverse) g)) (.slc 3 (p :: st).length (rowC (p :: st).reverse)):=by
 subst hn
 refine app1 (fun i hi j hj=>?_) fun j hj=>?_
 ·show D.eqv ((st.reverse.getD i default).at j) (((p :: st).reverse.getD i default).at j)
  rw[zfu p st hi]
  exact dE _
 show D.eqv (g 0 j) (((p :: st).reverse.getD st.length default).at j)
 rw[zhg p st rfl]
 exact hg j hj
theorem eqAt (p:Corner):∀ j,j<3->D.eqv (rowOf 3 [I p.X,I p.Y,I p.Den] 0 j) (p.at j)
 | 0,_=>⟨rfl,rfl⟩
 | 1,_=>⟨rfl,rfl⟩
 | 2,_=>⟨rfl,rfl⟩
theorem zoa (l:List Corner) (hl:∀ q∈l,okC q) (h0:1<=l.length) (hn:l.length<=1000000):SpecO PP 181 [slC l] 109 3 (halfL l).length (rowC (halfL l)):=by
 refine zba Tryz.func181 rfl (by kernel_rfl) rfl ?_
 refine lOf (σ:=Nat × List Corner) (fun x=>([(0,avOf (slC l)),(3,.own 3),(6,avOf (slC l)),(7,.d (I l.length)),(8,.d (I x.1))],[(3,.row 109 3 x.2.length (rowC x.2.reverse))])) (fun x=>x.1<=l.length/\x.2=chainR (l.take x.1)/\(0<x.1->x.2 ≠ [])) (fun x=>l.length - x.1) (0,[])
  ⟨rfl,⟨obR rfl ⟨rfl,.inl rfl⟩,trivial⟩,wq rfl⟩ ⟨jF _,(zei l).symm,fun h=>absurd h (Nat.lt_irrefl 0)⟩ fun x hx=>?_
 obtain⟨x1,x2,x3⟩:=hx
 obtain⟨c1,c2⟩:=zch l x.1 x1
 apply bY <;> intro h1
 ·have h1:x.1<l.length:=by simpa using h1
  refine⟨⟨rfl,by omega,by omega⟩,?_⟩
  have hp:l.getD x.1 default∈l:=gd1 h1 default
  refine lOf (σ:=List Corner) (fun st=>([(0,avOf (slC l)),(3,.own 3),(5,.box 5 0),(6,avOf (slC l)),(7,.d (I l.length)),(8,.d (I x.1))],[(3,.row 109 3 st.length (rowC st.reverse)),(5,.box [.d (I (l.getD x.1 default).X),.d (I (l.getD x.1 default).Y),.d (I (l.getD x.1 default).Den)])])) (fun st=>popR (l.getD x.1 default) st=popR (l.getD x.1 default) x.2/\(∀ q∈st,q∈l)/\st.length<=l.length) (fun st=>st.length) x.2 ⟨rfl,⟨obR rfl (dE _),obD [I (l.getD x.1 default).X,I (l.getD x.1 default).Y,I (l.getD x.1 default).Den] rfl,trivial⟩,wq rfl⟩ ⟨rfl,by rw[x2]; exact c1,by rw[x2]; omega⟩ fun st hst=>?_
  obtain⟨s1,s2,s3⟩:=hst
  refine oN 20 ?_
  apply bY <;> intro h2
  ·have h2:1<st.length:=by have:=dT h2; omega
   refine⟨i6,?_⟩
   refine⟨⟨by omega,by omega⟩,⟨by omega,?_⟩⟩
   refine⟨i6,?_⟩
   refine⟨⟨by omega,by omega⟩,⟨by omega,?_⟩⟩
   obtain⟨b,a,r,rfl⟩:∃ b a r,st=b :: a :: r:=by
    match st,h2 with
    | b :: a :: r,_=>exact⟨b,a,r,rfl⟩
   have ga:(b :: a :: r).reverse.getD (((b :: a :: r).length:Int) - 2).toNat default=a:=zmM b a r (by simp; omega)
   have gb:(b :: a :: r).reverse.getD (((b :: a :: r).length:Int) - 1).toNat default=b:=zhg b (a :: r) (by simp)
   refine oP (zqB _ _ _ ?_ ?_ ?_) rfl rfl ?_
   ·rw[ga]; exact hl _ (s2 _ (by simp))
   ·rw[gb]; exact hl _ (s2 _ (by simp))
   ·exact hl _ hp
   refine sT ?_
   apply bY <;> intro h3
   ·have h3:turn a b (l.getD x.1 default)<=0:=by rw[ga,gb] at h3; exact dT h3
    refine⟨i6,?_⟩
    refine⟨⟨by omega,by omega⟩,?_⟩
    refine⟨a :: r,⟨rfl,⟨obR rfl ⟨?_,.inr ⟨rfl,fun i hi j hj=>?_⟩⟩,obD [I (l.getD x.1 default).X,I (l.getD x.1 default).Y,I (l.getD x.1 default).Den] rfl,trivial⟩,wq rfl⟩,⟨?_,fun q hq=>s2 q (kO _ hq),by simp at s3 ⊢; omega⟩,?_⟩
    ·simp
    ·show D.eqv (((b :: a :: r).reverse.getD i default).at j) (((a :: r).reverse.getD i default).at j)
     rw[zfu b (a :: r) (by simp at hi ⊢; omega)]
     exact dE _
    ·rw[<- s1]; simp only[popR,kG h3]
    show (a :: r).length<(b :: a :: r).length
    simp
   have h3:¬ turn a b (l.getD x.1 default)<=0:=by rw[ga,gb] at h3; exact dF h3
   have hst:popR (l.getD x.1 default) (b :: a :: r)=b :: a :: r:=by simp only[popR,kF h3]
   refine⟨⟨.inr rfl,by unfold maxLen; omega,by show ((b :: a :: r).length+1) * 24<=140737488355328; omega⟩,?_⟩
   refine⟨i6,?_⟩
   refine⟨(x.1+1,l.getD x.1 default :: (b :: a :: r)),⟨rfl,⟨obR rfl (zn8 rfl (eqAt _)),trivial⟩,wq rfl⟩,⟨h1,?_,fun _=>by simp⟩,?_⟩
   ·show l.getD x.1 default :: (b :: a :: r)=chainR (l.take (x.1+1))
    rw[zcw l h1,stepR,<- x2,<- s1,hst]
   show l.length - (x.1+1)<l.length - x.1
   omega
  have h2:st.length<=1:=by have:=dF h2; omega
  have hst:popR (l.getD x.1 default) st=st:=by
   match st,h2 with
   | [],_=>rfl
   | [b],_=>rfl
  refine sF ?_
  refine sF ?_
  refine⟨⟨.inr rfl,by unfold maxLen; omega,by show (st.length+1) * 24<=140737488355328; omega⟩,?_⟩
  refine⟨i6,?_⟩
  refine⟨(x.1+1,l.getD x.1 default :: st),⟨rfl,⟨obR rfl (zn8 rfl (eqAt _)),trivial⟩,wq rfl⟩,⟨h1,?_,fun _=>by simp⟩,?_⟩
  ·show l.getD x.1 default :: st=chainR (l.take (x.1+1))
   rw[zcw l h1,stepR,<- x2,<- s1,hst]
  show l.length - (x.1+1)<l.length - x.1
  omega
 have h1:x.1=l.length:=by
  have:¬ x.1<l.length:=by simpa using h1
  omega
 have hx2:x.2=chainR l:=by rw[x2,h1,jZ]
 obtain⟨p,st,hst⟩:∃ p st,x.2=p :: st:=by
  have:=x3 (by omega)
  match hx:x.2,this with
  | p :: st,_=>exact⟨p,st,rfl⟩
 have hlen:x.2.length=st.length+1:=by rw[hst]; rfl
 have hle:x.2.length<=l.length:=by rw[x2]; omega
 have hr:halfL l=st.reverse:=by unfold halfL; rw[<- hx2,hst]; rfl
 refine⟨i6,?_⟩
 refine⟨⟨by omega,by omega⟩,?_⟩
 refine⟨rfl,rfl,?_,fun i hi j hj=>?_⟩
 ·show ((x.2.length:Int) - 1).toNat=_
  rw[hr,List.length_reverse]; omega
 rw[hr,List.length_reverse] at hi
 show D.eqv ((x.2.reverse.getD i default).at j) (((halfL l).getD i default).at j)
 rw[hr,zfu p st hi,hst]
 exact dE _
theorem zcL (l:List Corner):(halfL l).length<=l.length:=by
 have:=(zch l l.length (jE _)).2
 rw[jZ] at this
 unfold halfL
 rw[List.length_reverse,List.length_tail]
 omega
@[irreducible] def hullL (l:List Corner):List Corner:=if l.length<3 then l else halfL l++halfL l.reverse
def CI:Ints Corner 3 where
  lst p:=[p.X,p.Y,p.Den]
  len _:=rfl
  at_ p:=p.at
  hat p j hj:=by
    match j,hj with
    | 0,_=>rfl
    | 1,_=>rfl
    | 2,_=>rfl
theorem zjf (l:List Corner) (hn:l.length<=1000000):SpecR PP 184 [] [] 109 3 l.length (rowC l) (rowC l.reverse) []:=
 zfl CI Tryz.revC ⟨_,Tryz.func184,by kernel_rfl,by kernel_rfl⟩ (fun _=>by kernel_rfl) (fun _=>by kernel_rfl) 109 l hn
theorem zqG (l:List Corner) (hl:∀ q∈l,okC q) (hn:l.length<=1000000):Spec PP 161 [slC l] [slC (hullL l)]:=by
 refine sA Tryz.func161 ?_
 apply bY <;> intro h1
 ·have h1:l.length<3:=by have:=dT h1; omega
  have e:hullL l=l:=by unfold hullL; rw[kG h1]
  rw[e]
  exact⟨dE _,trivial⟩
 have h1:¬ l.length<3:=by have:=dF h1; omega
 have e:hullL l=halfL l++halfL l.reverse:=by unfold hullL; rw[kF h1]
 have n1:=zcL l
 have n2:=zcL l.reverse
 rw[List.length_reverse] at n2
 refine CallSt.own (zoa l hl (by omega) hn) rfl rfl (fun m j _ _=>zlp _ m j) ?_
 refine CallSt.own (ziC (halfL l) (by omega)) rfl rfl (fun m j _ _=>zlp _ m j) ?_
 refine CallSt.own (ziC l hn) rfl rfl (fun m j _ _=>zlp _ m j) ?_
 refine CallSt.rw' rfl (zjf l hn) ⟨⟨[],.tmp 16,[],[],rfl,rfl,rfl,rfl,rfl,rfl,rfl⟩⟩ rfl ?_
 refine CallSt.ownE (zoa l.reverse (fun q hq=>hl q (List.mem_reverse.1 hq)) (by simp; omega) (by simp; omega)) rfl ⟨?_,trivial⟩ rfl (fun m j _ _=>zlp _ m j) ?_
 ·exact⟨by simp,.inr ⟨rfl,fun _ _ _ _=>dE _⟩⟩
 refine⟨⟨.inr rfl,by unfold maxLen; omega,by show ((halfL l).length+(halfL l.reverse).length) * 24<=140737488355328; omega⟩,?_⟩
 refine⟨⟨_,_,_,_,rfl,?_⟩,trivial⟩
 rw[e]
 refine⟨by simp,.inr ⟨rfl,fun i hi j hj=>?_⟩⟩
 show D.eqv (appRow (halfL l).length (rowC (halfL l)) (rowC (halfL l.reverse)) i j) (((halfL l++halfL l.reverse).getD i default).at j)
 unfold appRow
 by_cases h:i<(halfL l).length
 ·rw[kG h,hU,jJ h,<- hU]
  exact dE _
 rw[kF h,hU,jK (by omega),<- hU]
 exact dE _
theorem gcd3 (x y d:Int):gcdL [x,y,d]=Nat.gcd (Nat.gcd x.natAbs y.natAbs) d.natAbs:=by
 simp only[gcdL,qX,List.foldl_nil,Nat.gcd_zero_left]
theorem zgs {x y d:Int} (hd:d≠0) (bx:-1073741824<=x/\x<=1073741824) (by':-1073741824<=y/\y<=1073741824) (bd:-2097152<=d/\d<=2097152):valid (lowest x y d)=true:=by
 have hg:0<gcdL [x,y,d]:=by rw[gcd3]; exact Nat.gcd_pos_of_pos_right _ (by omega)
 have e1:=gcd3 x y d
 generalize hG:gcdL [x,y,d]=G' at *
 have d1:G' ∣ x.natAbs:=by rw[e1]; exact Nat.dvd_trans (Nat.gcd_dvd_left _ _) (Nat.gcd_dvd_left _ _)
 have d2:G' ∣ y.natAbs:=by rw[e1]; exact Nat.dvd_trans (Nat.gcd_dvd_left _ _) (Nat.gcd_dvd_right _ _)
 have d3:G' ∣ d.natAbs:=by rw[e1]; exact Nat.gcd_dvd_right _ _
 obtain⟨s,hs,hsa⟩:∃ s:Int,s=(if d<0 then -(G':Int) else (G':Int))/\s.natAbs=G':=⟨_,rfl,by split <;> omega⟩
 have hl:lowest x y d=⟨x.tdiv s,y.tdiv s,d.tdiv s⟩:=by
  unfold lowest
  rw[hs,hG]
 have ax:(x.tdiv s).natAbs=x.natAbs / G':=by rw[Int.natAbs_tdiv,hsa]; rfl
 have ay:(y.tdiv s).natAbs=y.natAbs / G':=by rw[Int.natAbs_tdiv,hsa]; rfl
 have ad:(d.tdiv s).natAbs=d.natAbs / G':=by rw[Int.natAbs_tdiv,hsa]; rfl
 have hpos:0<=d.tdiv s:=by
  rw[hs]
  split
  ·rename_i h
   exact Int.tdiv_nonneg_of_nonpos_of_nonpos (by omega) (by omega)
  exact Int.tdiv_nonneg (by omega) (by omega)
 have hd1:1<=d.natAbs / G':=(Nat.one_le_div_iff hg).2 (Nat.le_of_dvd (by omega) d3)
 have b1:x.natAbs / G'<=x.natAbs:=Nat.div_le_self _ _
 have b2:y.natAbs / G'<=y.natAbs:=Nat.div_le_self _ _
 have b3:d.natAbs / G'<=d.natAbs:=Nat.div_le_self _ _
 rw[hl]
 unfold valid
 simp only[jP,zaa,qP]
 refine⟨⟨⟨by omega,by omega⟩,by omega⟩,?_⟩
 rw[gcd3,ax,ay,ad,Nat.gcd_div d1 d2,Nat.gcd_div (Nat.dvd_gcd d1 d2) d3,<- e1,Nat.div_self hg]
 rfl
theorem zau {g h:Half} (hg:okH g) (hh:okH h) (hd:det g h≠0):valid (crossing g h)=true:=by
 have h1:=mulB hg.c hh.b
 have h2:=mulB hh.c hg.b
 have h3:=mulB hg.a hh.c
 have h4:=mulB hh.a hg.c
 have h5:=zlz hg hh
 unfold crossing
 exact zgs hd (by omega) (by omega) (by omega)
theorem zmK {l:List Num} {i k:Nat} {x:Num × Num} (hi:i<l.length) (hk:k<=i) (h:x∈rowPh l i k):x.1∈l/\x.2∈l/\det x.1.h x.2.h≠0:=by
 unfold rowPh at h
 obtain⟨j,hj,he⟩:=List.mem_filterMap.1 h
 have hj:=kK.1 hj
 split at he
 ·cases he
 rename_i hd
 cases he
 exact⟨gd1 (by omega) default,gd1 hi default,hd⟩
theorem zbv {l:List Num} {x:Num × Num} (h:x∈pairsL l):x.1∈l/\x.2∈l/\det x.1.h x.2.h≠0:=by
 unfold pairsL upP at h
 obtain⟨i,hi,hx⟩:=List.mem_flatMap.1 h
 exact zmK (kK.1 hi) (jE _) hx
theorem zmL (l:List Num) (i k:Nat):(rowPh l i k).length<=k:=by
 unfold rowPh
 exact jM (List.length_filterMap_le _ _) (by simp)
theorem zjZ (l:List Num) (m:Nat):∀ i,i<=m->(upP l i).length<=m * i
 | 0,_=>by simp[upP]
 | i+1,h=>by
  rw[zdm,jR,Nat.mul_succ]
  have:=zjZ l m i (by omega)
  have:=zmL l i i
  omega
theorem zeS (l:List Num):(pairsL l).length<=l.length * l.length:=zjZ l l.length l.length (jE _)
theorem zbN {l:List Half} (h:∀ x∈l,okH x):∀ x∈allL l,okH x.h:=fun x hx=>by
 unfold allL at hx
 obtain⟨i,hi,rfl⟩:=kI.1 hx
 have hi:=kK.1 hi
 unfold allAt
 by_cases hl:i<l.length
 ·rw[kG hl]; exact h _ (gd1 hl default)
 rw[kF hl]
 obtain h0 | h0 | h0 | h0:i - l.length=0 \/ i - l.length=1 \/ i - l.length=2 \/ i - l.length=3:=by omega
 ·rw[h0]; exact (show okH (sidesL.getD 0 default) from⟨by decide,by decide,by decide⟩)
 ·rw[h0]; exact (show okH (sidesL.getD 1 default) from⟨by decide,by decide,by decide⟩)
 ·rw[h0]; exact (show okH (sidesL.getD 2 default) from⟨by decide,by decide,by decide⟩)
 rw[h0]; exact (show okH (sidesL.getD 3 default) from⟨by decide,by decide,by decide⟩)
def ptV (l:List Half) (x:Num × Num):Option VC:=if h:valid (crossing x.1.h x.2.h)=true/\outsideL (allL l) (crossing x.1.h x.2.h) = -5 then some ⟨crossing x.1.h x.2.h,h.1⟩ else none
@[irreducible] def ptsV (l:List Half) (pre:List (Num × Num)):List VC:=pre.filterMap (ptV l)
theorem zik (l:List Half):ptsV l []=[]:=by unfold ptsV; rfl
theorem zmU {l:List Half} {pre:List (Num × Num)} {x:Num × Num} (hv:valid (crossing x.1.h x.2.h)=true) (h:outsideL (allL l) (crossing x.1.h x.2.h) = -5):ptsV l (pre ++ [x])=ptsV l pre ++ [⟨crossing x.1.h x.2.h,hv⟩]:=by
 unfold ptsV
 rw[List.filterMap_append]
 congr 1
 rw[List.filterMap_cons_some (b:=⟨crossing x.1.h x.2.h,hv⟩) (by unfold ptV; rw[dif_pos ⟨hv,h⟩])]
 rfl
theorem zo6 {l:List Half} {pre:List (Num × Num)} {x:Num × Num} (h:outsideL (allL l) (crossing x.1.h x.2.h) ≠ -5):ptsV l (pre ++ [x])=ptsV l pre:=by
 unfold ptsV
 rw[List.filterMap_append,List.filterMap_cons_none (by unfold ptV; rw[dif_neg fun hh=>h hh.2])]
 simp
theorem zfv (l:List Half) (pre:List (Num × Num)):(ptsV l pre).length<=pre.length:=by unfold ptsV; exact List.length_filterMap_le _ _
def sortV (l:List VC):List VC:=l.mergeSort fun x y=>!(ltOf cmpV) y x
@[irreducible] def sortedL (l:List Half):List Corner:=(sortV (ptsV l (pairsL (allL l)))).map fun p:VC=>p.1
@[irreducible] def cornersL (l:List Half):List Corner:=hullL (compL (sortedL l))
theorem SpecT.congrh {P:Program} {f:FuncId} {pre post:List V1} {e k n n':Nat} {g g0 g':Nat->Nat->D} (h:SpecT P f pre post e k n g0 n' g') (he:∀ m,m<n -> ∀ j,j<k->g m j=g0 m j):SpecT P f pre post e k n g n' g':=
 ⟨h.1,fun w ok vs us v xs h1 h2 h3 hr=>h.2 w ok vs us v xs h1 h2 h3 ⟨hr.own,hr.one,fun m hm j hj=>by rw[<- he m hm j hj]; exact hr.rep m hm j hj,hr.sep⟩⟩
theorem zrJ (l:List VC):∀ m,m<l.length -> ∀ j,j<3->VI.row l m j=rowC (l.map fun p:VC=>p.1) m j:=fun m hm j _=>by
 show (l.getD m default).1.at j=((l.map fun p:VC=>p.1).getD m default).at j
 rw[hU,hU,jU,kH hm]
 rfl
theorem zi6 (l:List VC) (hn:l.length<=1000000):SpecT PP 162 [] [] 109 3 l.length (VI.row l) (compL (l.map fun p:VC=>p.1)).length (rowC (compL (l.map fun p:VC=>p.1))):=by
 have h:=zj5 (l.map fun p:VC=>p.1) (by rw[qA]; exact hn)
 rw[qA] at h
 exact SpecT.congrh h (zrJ l)
def obPts (l:List Half) (pre:List (Num × Num)):List (Nat × Ob):=[(3,.box [.d (Num.sl (allL l))]),(4,.box [.own 26]),(26,.row 109 3 (ptsV l pre).length (VI.row (ptsV l pre)))]
theorem zcE (l:List VC):(sortV l).length=l.length:=jaC l
theorem zeh {l:List Corner} {q:Corner} (h:q∈compL l):q∈l:=by
 unfold compL compP at h
 obtain⟨i,hi,rfl⟩:=kI.1 h
 have:=kK.1 (qC.1 hi).1
 exact gd1 this default
theorem zgQ (l:List Corner):(compL l).length<=l.length:=by unfold compL; exact zlE l _
theorem zi7 (l:List VC) (hn:l.length<=1000000):SpecT PP 162 [] [] 109 3 l.length (VI.row (l.mergeSort fun x y=>!(ltOf cmpV) y x)) (compL ((sortV l).map fun p:VC=>p.1)).length (rowC (compL ((sortV l).map fun p:VC=>p.1))):=by
 have h:=zi6 (sortV l) (by rw[zcE]; exact hn)
 rw[zcE] at h
 exact h
theorem pushV {vs:List VC} {p:VC} {g:Nat->Nat->D} (hg:∀ j,j<3->D.eqv (g 0 j) (p.1.at j)):D.eqv (.slc 3 (vs.length+1) (appRow vs.length (VI.row vs) g)) (.slc 3 (vs ++ [p]).length (VI.row (vs ++ [p]))):=by
 rw[jR]
 refine app1 (fun i hi j hj=>?_) fun j hj=>?_
 ·show D.eqv ((vs.getD i default).1.at j) (((vs ++ [p]).getD i default).1.at j)
  have e:(vs ++ [p]).getD i default=vs.getD i default:=by rw[hU,jJ hi,<- hU]
  rw[e]
  exact dE _
 show D.eqv (g 0 j) (((vs ++ [p]).getD vs.length default).1.at j)
 rw[hU,jK (jE _),kE]
 exact hg j hj
theorem zkw (l:List Half):look (obPts l []) 26=some (.row 109 3 0 (VI.row (ptsV l []))):=by
 unfold obPts; rw[zik]; rfl
theorem obNh {s:St} {ob:Nat->Option Ob} {j e k:Nat} {f:Nat->Nat->D} {o:Option Ob} (h:o=some (.box [.nilsl])) (h1:s.ob j=none) (h2:ob j=some (.row e k 0 f)):Oble s ob o (.box [.own j]):=by
 subst h; exact⟨⟨h1,e,k,f,h2⟩,trivial⟩
theorem obOh {s:St} {ob:Nat->Option Ob} {j:Nat} {o:Option Ob} (h:o=some (.box [.own j])):Oble s ob o (.box [.own j]):=by
 subst h; exact⟨rfl,trivial⟩
theorem obZh {s:St} {ob:Nat->Option Ob} {e k n:Nat} {f:Nat->Nat->D} {o:Option Ob} (h:o=none) (h1:n=0):Oble s ob o (.row e k n f):=by
 subst h; exact h1
theorem zkj (l:List Half) (hl:∀ x∈l,okH x) (hn:l.length<=60):Spec PP 137 [slH l] [slC (cornersL l)]:=by
 have hall:=zbN hl
 have hlen:=zcm l
 have hpl:(pairsL (allL l)).length<=64 * 64:=jM (zeS _) (Nat.mul_le_mul (by omega) (by omega))
 refine sA Tryz.func137 ?_
 refine cR (zmH l (by omega)) rfl rfl ?_
 refine cR (zkg (allL l)) rfl rfl ?_
 refine CodeOb.rangeAt (zia (allL l) hall (by omega)) rfl (fun _=>rfl) (by decide) [(3,.box 3 0),(4,.box 4 0)] [(4,0)] (obPts l) rfl (fun _=>rfl) ?_ (Iv:=fun _=>True) trivial (fun v pre x hx _=>?_) (fun _=>?_)
 ·exact⟨rfl,⟨obD [Num.sl (allL l)] rfl,obNh rfl rfl (zkw l),obZh rfl (by rw[zik]; rfl),trivial⟩,wq rfl⟩
 ·have hxm:x∈pairsL (allL l):=hx.subset (by simp)
  obtain⟨m1,m2,m3⟩:=zbv hxm
  have o1:=hall _ m1
  have o2:=hall _ m2
  have hv:=zau o1 o2 m3
  have hpre:(ptsV l pre).length<=64 * 64:=jM (zfv l pre) (by have:=hx.length_le; simp at this; omega)
  refine cP (zjd x.1.h x.2.h o1 o2 m3) rfl rfl ?_
  refine cP (zdH (allL l) (crossing x.1.h x.2.h) hall (zaH hv) (by omega)) rfl rfl ?_
  apply bY <;> intro h1
  ·have h1:outsideL (allL l) (crossing x.1.h x.2.h) = -5:=by simpa using h1
   refine⟨⟨.inr rfl,by unfold maxLen; omega,by show ((ptsV l pre).length+1) * 24<=140737488355328; omega⟩,?_⟩
   refine⟨trivial,rfl,⟨obD [Num.sl (allL l)] rfl,?_,?_,trivial⟩,wq rfl⟩
   ·exact obOh rfl
   exact obR rfl (by rw[zmU hv h1]; exact pushV (eqAt _))
  have h1:outsideL (allL l) (crossing x.1.h x.2.h) ≠ -5:=by simpa using h1
  exact⟨trivial,rfl,⟨obD [Num.sl (allL l)] rfl,obOh rfl,obR rfl (by rw[zo6 h1]; exact dE _),trivial⟩,wq rfl⟩
 have hpts:(ptsV l (pairsL (allL l))).length<=64 * 64:=jM (zfv l _) hpl
 have e:cornersL l=hullL (compL ((sortV (ptsV l (pairsL (allL l)))).map fun p:VC=>p.1)):=by unfold cornersL sortedL; rfl
 have hcl:=zgQ ((sortV (ptsV l (pairsL (allL l)))).map fun p:VC=>p.1)
 rw[qA,zcE] at hcl
 refine CallSt.rw' rfl (zo0 (ptsV l (pairsL (allL l))) (by omega)) ⟨⟨[],.tmp 27,[.func 160],[],rfl,rfl,rfl,rfl,rfl,rfl,rfl⟩⟩ rfl ?_
 refine CallSt.tk rfl (zi7 (ptsV l (pairsL (allL l))) (by omega)) ⟨⟨[],.tmp 29,[],[],rfl,rfl,rfl,rfl,rfl,rfl,rfl⟩⟩ rfl ?_
 refine CallSt.fz [26] (zqG (compL ((sortV (ptsV l (pairsL (allL l)))).map fun p:VC=>p.1)) (fun q hq=>?_) (by omega)) rfl rfl ?_
 ·obtain⟨p,_,rfl⟩:=kI.1 (zeh hq)
  exact zaH p.2
 rw[e]
 exact⟨dE _,trivial⟩
theorem zaJ {l:List Half} (h:checkL l=0):l.length<=40/\(∀ x∈l,fit x=true) /\ ∀ x∈l,okH x:=by
 unfold checkL at h
 split at h
 ·cases h
 split at h
 ·rename_i h1 h2
  have h3:∀ x∈l,fit x=true:=jC.1 h2
  exact⟨by omega,h3,fun x hx=>zq4 (h3 x hx)⟩
 cases h
def inP (L:List Num) (x y:Nat):Bool:=outsideL L ⟨x,y,1⟩ == -5
def most (h:Half):Int:=max (max (max h.A (-h.A)) h.B) (-h.B)
@[irreducible] def opp (g h:Half):Bool:=det g h==0 && decide (g.A * h.A+g.B * h.B<0)
@[irreducible] def scS (g h:Half):Int:=if opp g h=true then most h else 0
@[irreducible] def scT (g h:Half):Int:=if opp g h=true then most g else 0
@[irreducible] def two (g h:Num):Option (List Use):=if opp g.h h.h=true/\scS g.h h.h * g.h.C+scT g.h h.h * h.h.C<0 then some [⟨g.n,scS g.h h.h⟩,⟨h.n,scT g.h h.h⟩] else none
@[irreducible] def flip (n m:Int):Int:=if n<0 then -m else m
abbrev cut (L:List Num) (i:Nat):D:=.slc 4 i fun i=>(L.getD i default).at
theorem zfO {n m:Int} (h:n<0):flip n m = -m:=by unfold flip; rw[kG h]
theorem zfN {n m:Int} (h:¬ n<0):flip n m=m:=by unfold flip; rw[kF h]
abbrev rowU (l:List Use):Nat->Nat->D:=fun i=>(l.getD i default).at
theorem zro (l:List Use) (m j:Nat):(rowU l m j).flat=true:=by
 show ((l.getD m default).at j).flat=true
 unfold Use.at; split <;> rfl
theorem setU {m:List Use} {n k k':Nat} {p q:Use} (hk:k<m.length) (e1:k'=k) (e2:q=p):D.eqv (.slc 2 n (storeRow (rowU m) k' 0 [I q.H,I q.T])) (.slc 2 n (rowU (m.set k p))):=by
 subst e1; subst e2
 refine⟨rfl,.inr ⟨rfl,fun i hi j hj=>?_⟩⟩
 show D.eqv (storeRow (rowU m) k' 0 [I q.H,I q.T] i j) (((m.set k' q).getD i default).at j)
 rw[zbx m k' i q default hk]
 unfold storeRow
 by_cases h:i=k'
 ·rw[kG h,kG ⟨h,by omega,by simpa using hj⟩]
  match j,hj with
  | 0,_=>exact⟨rfl,rfl⟩
  | 1,_=>exact⟨rfl,rfl⟩
 rw[kF h,kF fun hh=>h hh.1]
 exact dE _
def IsIdx {α:Type} [Inhabited α] (p:α->Bool) (l:List α) (r:Int):Prop:=
 (r = -1 /\ ∀ i,i<l.length->p (l.getD i default)=false) \/ (∃ i:Nat,r=i/\i<l.length/\p (l.getD i default)=true /\ ∀ m,m<i->p (l.getD m default)=false)
theorem IsIdx.hit {α:Type} [Inhabited α] {p:α->Bool} {l:List α} {r:Int} (h:IsIdx p l r) {i:Nat} (hi:i<l.length) (h1:p (l.getD i default)=true) (h2:∀ m,m<i->p (l.getD m default)=false):r=i:=by
 rcases h with⟨_,h4⟩ | ⟨j,rfl,h4,h5,h6⟩
 ·rw[h4 i hi] at h1; cases h1
 rcases jai i j with h | h | h
 ·rw[h6 i h] at h1; cases h1
 ·rw[h]
 rw[h2 j h] at h5; cases h5
theorem IsIdx.miss {α:Type} [Inhabited α] {p:α->Bool} {l:List α} {r:Int} (h:IsIdx p l r) (h2:∀ m,m<l.length->p (l.getD m default)=false):r = -1:=by
 rcases h with⟨h3,_⟩ | ⟨j,rfl,h4,h5,h6⟩
 ·exact h3
 rw[h2 j h4] at h5; cases h5
theorem znj {α:Type} [Inhabited α] (p:α->Bool) (l:List α):∃ r,IsIdx p l r:=by
 have:∀ n,n<=l.length->(∀ m,m<n->p (l.getD m default)=false) \/ ∃ i:Nat,i<l.length/\p (l.getD i default)=true /\ ∀ m,m<i->p (l.getD m default)=false:=by
  intro n
  induction n with
  | zero=>exact fun _=>.inl fun m hm=>absurd hm (wC _)
  | succ n ih=>
  intro hn
  rcases ih (by omega) with h | h
  ·cases hp:p (l.getD n default) with
   | true=>exact .inr ⟨n,by omega,hp,h⟩
   | false=>
    refine .inl fun m hm=>?_
    rcases qT m n with h1 | h1
    ·exact h m h1
    obtain rfl:m=n:=by omega
    exact hp
  exact .inr h
 rcases this l.length (jE _) with h | ⟨i,h1,h2,h3⟩
 ·exact⟨-1,.inl ⟨rfl,h⟩⟩
 exact⟨i,.inr ⟨i,rfl,h1,h2,h3⟩⟩
theorem zmF (p:Use->Bool) (g:FuncId) (hg:∀ u,Spec PP g [u.v] [B (p u)]) (l:List Use) (hn:l.length<=1000000) (r:Int) (hr:IsIdx p l r):Spec PP 185 [slU l,.d (.fn g)] [N r]:=by
 refine sA Tryz.func185 ?_
 refine lOf (σ:=Nat) (fun i=>([(0,avOf (slU l)),(1,.d (.fn g)),(7,.d (I l.length)),(8,.d (I i))],[])) (fun i=>i<=l.length /\ ∀ m,m<i->p (l.getD m default)=false) (fun i=>l.length - i) 0 ⟨rfl,trivial,wq rfl⟩ z0L fun i hi=>?_
 obtain⟨i1,i2⟩:=hi
 apply bY <;> intro h1
 ·have h1:i<l.length:=by simpa using h1
  refine⟨⟨rfl,by omega,by omega⟩,?_⟩
  refine cP (hg (l.getD i default)) rfl rfl ?_
  apply bY <;> intro h2
  ·exact r1I rfl (hr.hit h1 h2 i2).symm
  refine⟨i6,?_⟩
  refine⟨i+1,⟨rfl,trivial,wq rfl⟩,⟨h1,fun m hm=>?_⟩,?_⟩
  ·rcases qT m i with h | h
   ·exact i2 m h
   obtain rfl:m=i:=by omega
   exact h2
  show l.length - (i+1)<l.length - i
  omega
 have h1:i=l.length:=by
  have:¬ i<l.length:=by simpa using h1
  omega
 exact r1I rfl (hr.miss fun m hm=>i2 m (by omega)).symm
@[irreducible] def filtP (p:Use->Bool) (l:List Use) (j:Nat):List Use:=((List.range j).filter fun i=>!p (l.getD i default)).map fun i=>l.getD i default
theorem ze0 (p:Use->Bool) (l:List Use):filtP p l 0=[]:=by unfold filtP; rfl
theorem zbf (p:Use->Bool) (l:List Use) (j:Nat):filtP p l (j+1)=filtP p l j++(if p (l.getD j default)=true then [] else [l.getD j default]):=by
 unfold filtP
 rw[jad,kX,jT]
 congr 1
 by_cases h:p (l.getD j default)=true
 ·rw[kG h,wB (by rw[h]; decide)]; rfl
 rw[kF h,wA (by rw[wI.2 h]; rfl)]; rfl
theorem zgI (p:Use->Bool) (l:List Use) {j:Nat} (hj:j<=l.length) (h:∀ i,i<j->p (l.getD i default)=false):filtP p l j=l.take j:=by
 induction j with
 | zero=>rw[ze0]; simp
 | succ j ih=>rw[zbf,kF (by rw[h j (by omega)]; decide),ih (by omega) fun i hi=>h i (by omega),za6 (by omega) default]
theorem zj4 (p:Use->Bool) (g:FuncId) (hg:∀ u,Spec PP g [u.v] [B (p u)]) (l:List Use) (hn:l.length<=1000000):SpecT PP 164 [] [.d (.fn g)] 250 2 l.length (rowU l) (filtP p l l.length).length (rowU (filtP p l l.length)):=by
 obtain⟨r,hr⟩:=znj p l
 refine zfk Tryz.func164 rfl (by kernel_rfl) (fun i _ j _=>zro _ i j) rfl fun v=>?_
 refine cP (zmF p g hg l hn r hr) rfl rfl ?_
 rcases hr with⟨rfl,h1⟩ | ⟨i,rfl,h1,h2,h3⟩
 ·refine sT ?_
  have e:filtP p l l.length=l:=by rw[zgI p l (jE _) h1,jZ]
  rw[e]
  exact⟨rfl,rfl,rfl,fun i hi j hj=>dE _⟩
 apply bY <;> intro h4
 ·have:(i:Int) = -1:=by simpa using h4
  omega
 have ck:filtP p l (i+1)=l.take i:=by rw[zbf,kG h2,jaD,zgI p l (by omega) h3]
 refine⟨i6,?_⟩
 refine lOf (σ:=Nat × Nat × List Use) (fun x=>([(0,.own 0),(1,.d (.fn g)),(5,.d (I x.2.1)),(6,.d (I x.1))],[(0,.row 250 2 l.length (rowU x.2.2))]))
  (fun x=>i+1<=x.1/\x.1<=l.length/\x.2.2.length=l.length/\x.2.1<=x.1 - 1/\x.2.2.take x.2.1=filtP p l x.1 /\ ∀ m,x.1<=m->x.2.2.getD m default=l.getD m default) (fun x=>l.length - x.1) (i+1,i,l)
  ⟨rfl,⟨obR rfl (dE _),trivial⟩,rfl,wq rfl⟩ ⟨jE _,h1,rfl,by simp,ck.symm,fun _ _=>rfl⟩ fun x hx=>?_
 obtain⟨x1,x2,x3,x4,x5,x6⟩:=hx
 apply bY <;> intro g1
 ·have g1:x.1<l.length:=by have:=dT g1; omega
  have e1:x.2.2.getD (x.1:Int).toNat default=l.getD x.1 default:=by rw[wH,x6 x.1 (jE _)]
  refine⟨⟨by omega,by omega⟩,⟨by omega,?_⟩⟩
  refine cP (hg (x.2.2.getD (x.1:Int).toNat default)) rfl rfl ?_
  apply bY <;> intro g2
  ·have g2:p (l.getD x.1 default)=false:=by rw[e1] at g2; simpa using g2
   refine⟨⟨by omega,by omega⟩,⟨by omega,?_⟩⟩
   refine⟨i6,?_⟩
   refine⟨i6,?_⟩
   refine⟨(x.1+1,x.2.1+1,x.2.2.set x.2.1 (l.getD x.1 default)),⟨rfl,⟨obR rfl (setU (by omega) (wH _) e1),trivial⟩,rfl,wq rfl⟩,⟨by omega,by omega,by simp; omega,(show x.2.1+1<=x.1+1 - 1 by omega),?_,fun m hm=>?_⟩,?_⟩
   ·show (x.2.2.set x.2.1 (l.getD x.1 default)).take (x.2.1+1)=filtP p l (x.1+1)
    rw[zbf,kF (by rw[g2]; decide),za6 (i:=x.2.1) (by simp; omega) default,zbx _ _ _ _ _ (by omega),kG rfl,<- x5,List.take_set_of_le (jE _)]
   ·have hm:x.1+1<=m:=hm
    show (x.2.2.set x.2.1 (l.getD x.1 default)).getD m default=_
    rw[zbx _ _ _ _ _ (by omega),kF (by omega)]
    exact x6 m (by omega)
   show l.length - (x.1+1)<l.length - x.1
   omega
  have g2:p (l.getD x.1 default)=true:=by rw[e1] at g2; simpa using g2
  refine⟨i6,?_⟩
  refine⟨(x.1+1,x.2.1,x.2.2),⟨rfl,⟨obR rfl (dE _),trivial⟩,rfl,wq rfl⟩,⟨by omega,by omega,x3,(show x.2.1<=x.1+1 - 1 by omega),?_,fun m hm=>x6 m (by have:x.1+1<=m:=hm; omega)⟩,?_⟩
  ·show x.2.2.take x.2.1=filtP p l (x.1+1)
   rw[zbf,kG g2,jaD,x5]
  show l.length - (x.1+1)<l.length - x.1
  omega
 have g1:x.1=l.length:=by have:=dF g1; omega
 have hk':x.2.1=(filtP p l l.length).length:=by
  have:=jI List.length x5
  rw[jQ,g1] at this
  omega
 refine⟨⟨rfl,by omega,by omega⟩,?_⟩
 refine⟨by omega,?_⟩
 refine⟨⟨by omega,by omega⟩,?_⟩
 refine⟨rfl,rfl,?_,fun i hi j hj=>?_⟩
 ·show (x.2.1:Int).toNat=_
  omega
 have e3:(filtP p l l.length).getD i default=x.2.2.getD i default:=by
  rw[<- g1,<- x5,hU,jS,kG (by omega),<- hU]
 show D.eqv (clrRow (rowU x.2.2) (x.2.1:Int).toNat (l.length - (x.2.1:Int).toNat) _ i j) (((filtP p l l.length).getD i default).at j)
 unfold clrRow
 rw[kF (by omega),e3]
 exact dE _
def unused (u:Use):Bool:=u.T==0
theorem zoP (u:Use):Spec PP 165 [u.v] [B (unused u)]:=by
 refine sA Tryz.func165 ?_
 exact r1B rfl rfl
@[irreducible] def usedL (l:List Use):List Use:=filtP unused l l.length
theorem zn1 (l:List Use) (hn:l.length<=1000000):SpecT PP 142 [] [] 250 2 l.length (rowU l) (usedL l).length (rowU (usedL l)):=by
 refine zfk Tryz.func142 rfl (by kernel_rfl) (fun i _ j _=>zro _ i j) rfl fun v=>?_
 refine CallSt.tk rfl (zj4 unused 165 zoP l hn) ⟨⟨[],.tmp 3,[.func 165],[],rfl,rfl,rfl,rfl,rfl,rfl,rfl⟩⟩ rfl ?_
 have e:usedL l=filtP unused l l.length:=by unfold usedL; rfl
 rw[e]
 exact⟨rfl,rfl,rfl,fun i hi j hj=>dE _⟩
structure Bound where
  V:Frac
  At:Corner
  Scale:Int
  Uses:List Use
  deriving DecidableEq,Inhabited
abbrev Bound.v (b:Bound):V1:=.agg [I b.V.Num,I b.V.Den,I b.At.X,I b.At.Y,I b.At.Den,I b.Scale,.slc 2 b.Uses.length (rowU b.Uses)]
def noBound:Bound:=⟨⟨0,0⟩,⟨0,0,0⟩,0,[]⟩
def stepB (f:Form) (a p:Corner):Corner:=if less (value f a) (value f p)<0 then p else a
@[irreducible] def bestTo (f:Form) (l:List Corner) (i:Nat):Corner:=(l.take i).foldl (stepB f) (l.getD 0 default)
@[irreducible] def bestAt (f:Form) (l:List Corner):Corner:=bestTo f l l.length
theorem zcx (f:Form) (l:List Corner):bestTo f l 0=l.getD 0 default:=by unfold bestTo; rfl
theorem zbL (f:Form) (l:List Corner) {i:Nat} (h:i<l.length):bestTo f l (i+1)=stepB f (bestTo f l i) (l.getD i default):=by
 unfold bestTo
 rw[za6 h default,jaS]; rfl
theorem zcl (f:Form) (l:List Corner) (h0:0<l.length):∀ i,i<=l.length->bestTo f l i∈l
 | 0,_=>by rw[zcx]; exact gd1 h0 default
 | i+1,h=>by
  rw[zbL f l (by omega)]
  unfold stepB
  split
  ·exact gd1 (by omega) default
  exact zcl f l h0 i (by omega)
@[irreducible] def usesB (f:Form) (a:Corner) (x:Num × Num):Option (Int × List Use):=
 if (tight x.1.h a=true/\tight x.2.h a=true)/\0<=flip (det x.1.h x.2.h) (f.X * x.2.h.B - f.Y * x.2.h.A)/\0<=flip (det x.1.h x.2.h) (f.Y * x.1.h.A - f.X * x.1.h.B) then
  some (flip (det x.1.h x.2.h) (det x.1.h x.2.h),usedL [⟨x.1.n,flip (det x.1.h x.2.h) (f.X * x.2.h.B - f.Y * x.2.h.A)⟩,⟨x.2.n,flip (det x.1.h x.2.h) (f.Y * x.1.h.A - f.X * x.1.h.B)⟩]) else none
theorem zb6 {f:Form} {a:Corner} {x:Num × Num} (h:¬ ((tight x.1.h a=true/\tight x.2.h a=true)/\0<=flip (det x.1.h x.2.h) (f.X * x.2.h.B - f.Y * x.2.h.A)/\0<=flip (det x.1.h x.2.h) (f.Y * x.1.h.A - f.X * x.1.h.B))):usesB f a x=none:=by unfold usesB; rw[kF h]
theorem zf7 {f:Form} {a:Corner} {x:Num × Num} {d s t:Int} (h1:tight x.1.h a=true) (h2:tight x.2.h a=true) (ed:flip (det x.1.h x.2.h) (det x.1.h x.2.h)=d) (es:flip (det x.1.h x.2.h) (f.X * x.2.h.B - f.Y * x.2.h.A)=s) (et:flip (det x.1.h x.2.h) (f.Y * x.1.h.A - f.X * x.1.h.B)=t) (h3:0<=s) (h4:0<=t) :
  usesB f a x=some (d,usedL [⟨x.1.n,s⟩,⟨x.2.n,t⟩]):=by
 subst ed es et; unfold usesB; rw[kG ⟨⟨h1,h2⟩,h3,h4⟩]
theorem zeR {α β:Type} {g:α->Option β} {pre:List α} {x:α} (h:pre.findSome? g=none) (hx:g x=none):(pre ++ [x]).findSome? g=none:=by
 rw[List.findSome?_append,h]; simp[hx]
theorem zkz {α β:Type} {g:α->Option β} {pre xs:List α} {x:α} {y:β} (hp:pre ++ [x] <+: xs) (h:pre.findSome? g=none) (hx:g x=some y):xs.findSome? g=some y:=by
 obtain⟨r,rfl⟩:=hp
 rw[List.findSome?_append,List.findSome?_append,h]; simp[hx]
@[irreducible] def bestE (l:List Half) (f:Form):Bound × Int:=
 if checkL l=0 then
  if slope f.X f.Y=true then
   if cornersL l=[] then (noBound,9)
   else if f=⟨0,0⟩ then (⟨value f (bestAt f (cornersL l)),bestAt f (cornersL l),1,[]⟩,0)
   else match (pairsL (allL l)).findSome? (usesB f (bestAt f (cornersL l))) with
    | some (d,u)=>(⟨value f (bestAt f (cornersL l)),bestAt f (cornersL l),d,u⟩,0)
    | none=>(⟨value f (bestAt f (cornersL l)),bestAt f (cornersL l),1,[]⟩,0)
  else (noBound,1)
 else (noBound,checkL l)
theorem ze6 {s:St} {ob:Nat->Option Ob}:∀ cs:List AV,avles s ob cs cs
 | []=>trivial
 | c :: cs=>⟨zaq s ob c,ze6 cs⟩
theorem obXh {s:St} {ob:Nat->Option Ob} {cs:List AV} {o:Option Ob} (h:o=some (.box cs)):Oble s ob o (.box cs):=by subst h; exact ze6 cs
theorem ob7 {s:St} {ob:Nat->Option Ob} {a b c d e f:AV} {i e' k n:Nat} {g:Nat->Nat->D} {y:D} {o:Option Ob} (h:o=some (.box [a,b,c,d,e,f,.own i])) (h1:s.ob i=some (.row e' k n g)) (h2:ob i=none) (q:D.eqv (.slc k n g) y):Oble s ob o (.box [a,b,c,d,e,f,.d y]):=by
 subst h
 exact⟨zaq _ _ _,zaq _ _ _,zaq _ _ _,zaq _ _ _,zaq _ _ _,zaq _ _ _,(by cases y <;> first | exact⟨h2,_,_,_,_,h1,q⟩ | trivial | exact q.elim),trivial⟩
theorem eqvB {a b c d e f:Int} {x y:D} (h:D.eqv x y):eqvs [I a,I b,I c,I d,I e,I f,x] [I a,I b,I c,I d,I e,I f,y]:=⟨dE _,dE _,dE _,dE _,dE _,dE _,h,trivial⟩
theorem zlu {a b c d e f:Int} {g':Nat->Nat->D}:eqvs [I a,I b,I c,I d,I e,I f,.nil] [I a,I b,I c,I d,I e,I f,.slc 2 ([]:List Use).length g']:=⟨dE _,dE _,dE _,dE _,dE _,dE _,rfl,trivial⟩
theorem zqL {a b c d:Int}:∀ m,m < [(⟨a,b⟩:Use),⟨c,d⟩].length -> ∀ j,j<2->rowOf 2 [I a,I b,I c,I d] m j=rowU [⟨a,b⟩,⟨c,d⟩] m j:=fun m hm j hj=>by
 match m,j,hm,hj with
 | 0,0,_,_=>rfl
 | 0,1,_,_=>rfl
 | 1,0,_,_=>rfl
 | 1,1,_,_=>rfl
theorem zef {l:List Half} (hl:∀ x∈l,okH x):∀ q∈cornersL l,valid q=true:=fun q hq=>by
 unfold cornersL at hq
 have sub:∀ {m:List Corner} {q:Corner},q∈hullL m->q∈m:=fun {m q} h=>by
  unfold hullL at h
  have hh:∀ {m:List Corner} {q:Corner},q∈halfL m->q∈m:=fun {m q} h=>by
   unfold halfL at h
   have:=(zch m m.length (jE _)).1 q
   rw[jZ] at this
   exact this (List.mem_of_mem_tail (List.mem_reverse.1 h))
  split at h
  ·exact h
  rcases qD.1 h with h | h
  ·exact hh h
  exact List.mem_reverse.1 (hh h)
 have h2:=zeh (sub hq)
 unfold sortedL at h2
 obtain⟨p,_,rfl⟩:=kI.1 h2
 exact p.2
theorem zgO {l:List Half} (hn:l.length<=60):(cornersL l).length<=8192:=by
 have hl:=zcm l
 have h1:(sortedL l).length<=4096:=by
  unfold sortedL
  rw[qA,zcE]
  exact jM (zfv l _) (jM (zeS _) (Nat.mul_le_mul (show (allL l).length<=64 by omega) (show (allL l).length<=64 by omega)))
 have h2:=zgQ (sortedL l)
 have h3:=zcL (compL (sortedL l))
 have h4:=zcL (compL (sortedL l)).reverse
 rw[List.length_reverse] at h4
 unfold cornersL hullL
 split
 ·omega
 rw[jR]; omega
theorem zqJ (l:List Half) (f:Form):Spec PP 99 [slH l,f.v] [(bestE l f).1.v,N (bestE l f).2]:=by
 refine sA Tryz.func99 ?_
 refine cP (zhc l) rfl rfl ?_
 apply bY <;> intro h0
 ·have h0:checkL l≠0:=by simpa using h0
  have e:bestE l f=(noBound,checkL l):=by unfold bestE; rw[kF h0]
  rw[e]
  exact r2CI rfl rfl rfl rfl rfl rfl rfl (zlu) rfl
 have h0:checkL l=0:=by simpa using h0
 obtain⟨n1,n2,n3⟩:=zaJ h0
 refine cP (zg9 f.X f.Y) rfl rfl ?_
 apply bY <;> intro hs
 ·have hs:¬ slope f.X f.Y=true:=by simpa using hs
  have e:bestE l f=(noBound,1):=by unfold bestE; rw[kG h0,kF hs]
  rw[e]
  exact r2CI rfl rfl rfl rfl rfl rfl rfl (zlu) rfl
 have hs:slope f.X f.Y=true:=by simpa using hs
 have of:=zeU hs
 refine cR (zkj l n3 (by omega)) rfl rfl ?_
 apply bY <;> intro hc
 ·have hc:cornersL l=[]:=by
   have:(cornersL l).length=0:=by simpa using hc
   exact jav.1 this
  have e:bestE l f=(noBound,9):=by unfold bestE; rw[kG h0,kG hs,kG hc]
  rw[e]
  exact r2CI rfl rfl rfl rfl rfl rfl rfl (zlu) rfl
 have hc:cornersL l ≠ []:=fun hh=>by rw[hh] at hc; cases hc
 have hpos:0<(cornersL l).length:=List.length_pos_iff.2 hc
 have hcl:=zgO (l:=l) (by omega)
 have hcv:=zef n3
 have hat:∀ i,i<=(cornersL l).length->okC (bestTo f (cornersL l) i):=fun i hi=>zaH (hcv _ (zcl f _ hpos i hi))
 refine⟨⟨rfl,by omega,by omega⟩,?_⟩
 refine lOf (σ:=Nat) (fun i=>([(0,avOf (slH l)),(3,.box 3 0),(4,.box 4 0),(7,avOf (slC (cornersL l))),(8,.box 8 0),(39,avOf (slC (cornersL l))),(40,.d (I (cornersL l).length)),(41,.d (I i))],[(3,.box [.d (I f.X),.d (I f.Y)]),(4,.box [.d (I 0),.d (I 0),.d (I 0),.d (I 0),.d (I 0),.d (I 0),.nilsl]),(8,.box [.d (I (bestTo f (cornersL l) i).X),.d (I (bestTo f (cornersL l) i).Y),.d (I (bestTo f (cornersL l) i).Den)])])) (fun i=>i<=(cornersL l).length) (fun i=>(cornersL l).length - i) 0
  ⟨rfl,⟨obXh rfl,obXh rfl,?_,trivial⟩,wq rfl⟩ (jF _) fun i hi=>?_
 ·rw[zcx]; exact obXh rfl
 apply bY <;> intro h1
 ·have h1:i<(cornersL l).length:=by simpa using h1
  refine⟨⟨rfl,by omega,by omega⟩,?_⟩
  refine oN 8 ?_
  refine oP (zfr f (bestTo f (cornersL l) i) of (hat i hi)) rfl rfl ?_
  refine oP (zfr f ((cornersL l).getD i default) of (zaH (hcv _ (gd1 h1 default)))) rfl rfl ?_
  refine oP (zqI _ _) rfl rfl ?_
  apply bY <;> intro h2
  ·have e:bestTo f (cornersL l) (i+1)=(cornersL l).getD i default:=by rw[zbL f _ h1]; unfold stepB; rw[kG (dT h2)]
   refine⟨i6,?_⟩
   refine⟨i+1,⟨rfl,⟨obXh rfl,obXh rfl,?_,trivial⟩,wq rfl⟩,h1,?_⟩
   ·rw[e]; exact obXh rfl
   show (cornersL l).length - (i+1)<(cornersL l).length - i
   omega
  have e:bestTo f (cornersL l) (i+1)=bestTo f (cornersL l) i:=by rw[zbL f _ h1]; unfold stepB; rw[kF (dF h2)]
  refine⟨i6,?_⟩
  refine⟨i+1,⟨rfl,⟨obXh rfl,obXh rfl,?_,trivial⟩,wq rfl⟩,h1,?_⟩
  ·rw[e]; exact obXh rfl
  show (cornersL l).length - (i+1)<(cornersL l).length - i
  omega
 have h1:i=(cornersL l).length:=by
  have:¬ i<(cornersL l).length:=by simpa using h1
  omega
 have eat:bestTo f (cornersL l) i=(bestAt f (cornersL l)):=by rw[h1]; unfold bestAt; rfl
 have oat:okC (bestAt f (cornersL l)):=by rw[<- eat]; exact hat i hi
 rw[eat]
 refine oN 7 ?_
 refine oP (zfr f (bestAt f (cornersL l)) of oat) rfl rfl ?_
 apply bY <;> intro hz
 ·have hz:f=⟨0,0⟩:=by
   simp only[jP,qP,and_true] at hz
   cases f; simp_all
  have e:bestE l f=(⟨value f (bestAt f (cornersL l)),(bestAt f (cornersL l)),1,[]⟩,0):=by unfold bestE; rw[kG h0,kG hs,kF hc,kG hz]
  rw[e]
  exact r2CI rfl rfl rfl rfl rfl rfl rfl (zlu) rfl
 have hz:f≠⟨0,0⟩:=fun hh=>by subst hh; cases hz
 have hall:=zbN n3
 have hlen:=zcm l
 refine cR (zmH l (by omega)) rfl rfl ?_
 refine cR (zkg (allL l)) rfl rfl ?_
 refine CodeOb.rangeAt (zia (allL l) hall (by omega)) rfl (fun _=>rfl) (by decide) [(3,.box 3 0),(4,.box 4 0),(8,.box 8 0),(11,.box 11 0)] [] (fun _=>[(3,.box [.d (I f.X),.d (I f.Y)]),(4,.box [.d (I 0),.d (I 0),.d (I 0),.d (I 0),.d (I 0),.d (I 0),.nilsl]),(8,.box [.d (I (bestAt f (cornersL l)).X),.d (I (bestAt f (cornersL l)).Y),.d (I (bestAt f (cornersL l)).Den)]),(11,.box [.d (I (value f (bestAt f (cornersL l))).Num),.d (I (value f (bestAt f (cornersL l))).Den),.d (I (bestAt f (cornersL l)).X),.d (I (bestAt f (cornersL l)).Y),.d (I (bestAt f (cornersL l)).Den),.d (I (1)),.d .nil])]) rfl (fun _=>rfl) ?_ (Iv:=fun pre=>pre.findSome? (usesB f (bestAt f (cornersL l)))=none) rfl (fun v pre x hx hI=>?_) (fun hI=>?_)
 ·exact⟨rfl,⟨obXh rfl,obXh rfl,obXh rfl,obXh rfl,trivial⟩,wq rfl⟩
 ·have hxm:x∈pairsL (allL l):=hx.subset (by simp)
  obtain⟨m1,m2,m3⟩:=zbv hxm
  have o1:=hall _ m1
  have o2:=hall _ m2
  have dd:=zlz o1 o2
  have b1:=mulB of.x o2.b
  have b2:=mulB of.y o2.a
  have b3:=mulB of.y o1.a
  have b4:=mulB of.x o1.b
  refine cP (zkf x.1.h (bestAt f (cornersL l)) o1 oat) rfl rfl ?_
  apply bY <;> intro h3
  ·have h3:tight x.1.h (bestAt f (cornersL l))=false:=by simpa using h3
   refine sT ?_
   refine sT ?_
   exact⟨zeR hI (zb6 fun hh=>by rw[hh.1.1] at h3; cases h3),rfl,⟨obXh rfl,obXh rfl,obXh rfl,obXh rfl,trivial⟩,wq rfl⟩
  have h3:tight x.1.h (bestAt f (cornersL l))=true:=by simpa using h3
  refine cP (zkf x.2.h (bestAt f (cornersL l)) o2 oat) rfl rfl ?_
  refine sF ?_
  apply bY <;> intro h4
  ·have h4:tight x.2.h (bestAt f (cornersL l))=false:=by simpa using h4
   exact⟨zeR hI (zb6 fun hh=>by rw[hh.1.2] at h4; cases h4),rfl,⟨obXh rfl,obXh rfl,obXh rfl,obXh rfl,trivial⟩,wq rfl⟩
  have h4:tight x.2.h (bestAt f (cornersL l))=true:=by simpa using h4
  refine cP (zoS x.1.h x.2.h o1 o2) rfl rfl ?_
  refine oN 28 ?_
  refine⟨i6,⟨i6,⟨i6,⟨i6,⟨i6,⟨i6,?_⟩⟩⟩⟩⟩⟩
  apply bY <;> intro h5
  ·have h5:det x.1.h x.2.h<0:=dT h5
   refine⟨i6,⟨i6,⟨i6,?_⟩⟩⟩
   have ed:flip (det x.1.h x.2.h) (det x.1.h x.2.h) = -det x.1.h x.2.h:=zfO h5
   have es:flip (det x.1.h x.2.h) (f.X * x.2.h.B - f.Y * x.2.h.A) = -(f.X * x.2.h.B - f.Y * x.2.h.A):=zfO h5
   have et:flip (det x.1.h x.2.h) (f.Y * x.1.h.A - f.X * x.1.h.B) = -(f.Y * x.1.h.A - f.X * x.1.h.B):=zfO h5
   apply bY <;> intro h6
   ·refine sT ?_
    apply bY <;> intro h7
    ·refine CallSt.tk rfl (SpecT.congrh (zn1 [⟨x.1.n,-(f.X * x.2.h.B - f.Y * x.2.h.A)⟩,⟨x.2.n,-(f.Y * x.1.h.A - f.X * x.1.h.B)⟩] (jD rfl)) zqL) ⟨⟨[],.tmp 135,[],[],rfl,rfl,rfl,rfl,rfl,rfl,rfl⟩⟩ rfl ?_
     have hf:=zkz hx hI (zf7 h3 h4 ed es et (dT h6) (dT h7))
     refine⟨[(3,.box [.d (I f.X),.d (I f.Y)]),(4,.box [.d (I 0),.d (I 0),.d (I 0),.d (I 0),.d (I 0),.d (I 0),.nilsl]),(8,.box [.d (I (bestAt f (cornersL l)).X),.d (I (bestAt f (cornersL l)).Y),.d (I (bestAt f (cornersL l)).Den)]),(11,.box [.d (I (value f (bestAt f (cornersL l))).Num),.d (I (value f (bestAt f (cornersL l))).Den),.d (I (bestAt f (cornersL l)).X),.d (I (bestAt f (cornersL l)).Y),.d (I (bestAt f (cornersL l)).Den),.d (I (-det x.1.h x.2.h)),.d (.slc 2 (usedL [⟨x.1.n,-(f.X * x.2.h.B - f.Y * x.2.h.A)⟩,⟨x.2.n,-(f.Y * x.1.h.A - f.X * x.1.h.B)⟩]).length (rowU (usedL [⟨x.1.n,-(f.X * x.2.h.B - f.Y * x.2.h.A)⟩,⟨x.2.n,-(f.Y * x.1.h.A - f.X * x.1.h.B)⟩])))])],rfl,⟨rfl,⟨obXh rfl,obXh rfl,obXh rfl,?_,trivial⟩,wq rfl⟩,?_⟩
     ·exact ob7 rfl rfl rfl (dE _)
     have e:bestE l f=(⟨value f (bestAt f (cornersL l)),(bestAt f (cornersL l)),-det x.1.h x.2.h,usedL [⟨x.1.n,-(f.X * x.2.h.B - f.Y * x.2.h.A)⟩,⟨x.2.n,-(f.Y * x.1.h.A - f.X * x.1.h.B)⟩]⟩,0):=by unfold bestE; rw[kG h0,kG hs,kF hc,kF hz,hf]
     rw[e]
     exact r2CI rfl rfl rfl rfl rfl rfl rfl (eqvB (dE _)) rfl
    exact⟨zeR hI (zb6 fun hh=>dF h7 (by rw[<- et]; exact hh.2.2)),rfl,⟨obXh rfl,obXh rfl,obXh rfl,obXh rfl,trivial⟩,wq rfl⟩
   refine sF ?_
   refine sF ?_
   exact⟨zeR hI (zb6 fun hh=>dF h6 (by rw[<- es]; exact hh.2.1)),rfl,⟨obXh rfl,obXh rfl,obXh rfl,obXh rfl,trivial⟩,wq rfl⟩
  have h5:¬ det x.1.h x.2.h<0:=dF h5
  have ed:flip (det x.1.h x.2.h) (det x.1.h x.2.h)=det x.1.h x.2.h:=zfN h5
  have es:flip (det x.1.h x.2.h) (f.X * x.2.h.B - f.Y * x.2.h.A)=(f.X * x.2.h.B - f.Y * x.2.h.A):=zfN h5
  have et:flip (det x.1.h x.2.h) (f.Y * x.1.h.A - f.X * x.1.h.B)=(f.Y * x.1.h.A - f.X * x.1.h.B):=zfN h5
  apply bY <;> intro h6
  ·refine sT ?_
   apply bY <;> intro h7
   ·refine CallSt.tk rfl (SpecT.congrh (zn1 [⟨x.1.n,(f.X * x.2.h.B - f.Y * x.2.h.A)⟩,⟨x.2.n,(f.Y * x.1.h.A - f.X * x.1.h.B)⟩] (jD rfl)) zqL) ⟨⟨[],.tmp 135,[],[],rfl,rfl,rfl,rfl,rfl,rfl,rfl⟩⟩ rfl ?_
    have hf:=zkz hx hI (zf7 h3 h4 ed es et (dT h6) (dT h7))
    refine⟨[(3,.box [.d (I f.X),.d (I f.Y)]),(4,.box [.d (I 0),.d (I 0),.d (I 0),.d (I 0),.d (I 0),.d (I 0),.nilsl]),(8,.box [.d (I (bestAt f (cornersL l)).X),.d (I (bestAt f (cornersL l)).Y),.d (I (bestAt f (cornersL l)).Den)]),(11,.box [.d (I (value f (bestAt f (cornersL l))).Num),.d (I (value f (bestAt f (cornersL l))).Den),.d (I (bestAt f (cornersL l)).X),.d (I (bestAt f (cornersL l)).Y),.d (I (bestAt f (cornersL l)).Den),.d (I (det x.1.h x.2.h)),.d (.slc 2 (usedL [⟨x.1.n,(f.X * x.2.h.B - f.Y * x.2.h.A)⟩,⟨x.2.n,(f.Y * x.1.h.A - f.X * x.1.h.B)⟩]).length (rowU (usedL [⟨x.1.n,(f.X * x.2.h.B - f.Y * x.2.h.A)⟩,⟨x.2.n,(f.Y * x.1.h.A - f.X * x.1.h.B)⟩])))])],rfl,⟨rfl,⟨obXh rfl,obXh rfl,obXh rfl,?_,trivial⟩,wq rfl⟩,?_⟩
    ·exact ob7 rfl rfl rfl (dE _)
    have e:bestE l f=(⟨value f (bestAt f (cornersL l)),(bestAt f (cornersL l)),det x.1.h x.2.h,usedL [⟨x.1.n,(f.X * x.2.h.B - f.Y * x.2.h.A)⟩,⟨x.2.n,(f.Y * x.1.h.A - f.X * x.1.h.B)⟩]⟩,0):=by unfold bestE; rw[kG h0,kG hs,kF hc,kF hz,hf]
    rw[e]
    exact r2CI rfl rfl rfl rfl rfl rfl rfl (eqvB (dE _)) rfl
   exact⟨zeR hI (zb6 fun hh=>dF h7 (by rw[<- et]; exact hh.2.2)),rfl,⟨obXh rfl,obXh rfl,obXh rfl,obXh rfl,trivial⟩,wq rfl⟩
  refine sF ?_
  refine sF ?_
  exact⟨zeR hI (zb6 fun hh=>dF h6 (by rw[<- es]; exact hh.2.1)),rfl,⟨obXh rfl,obXh rfl,obXh rfl,obXh rfl,trivial⟩,wq rfl⟩
 have e:bestE l f=(⟨value f (bestAt f (cornersL l)),(bestAt f (cornersL l)),1,[]⟩,0):=by unfold bestE; rw[kG h0,kG hs,kF hc,kF hz,hI]
 rw[e]
 exact r2CI rfl rfl rfl rfl rfl rfl rfl (zlu) rfl
@[irreducible] def upTo (n:Nat):List Int:=(List.range n).map fun i:Nat=>(i:Int)
theorem zmo (n:Nat):(upTo n).length=n:=by unfold upTo; simp
theorem zmn {n:Nat} {x:Int} (h:x∈upTo n):0<=x/\x<n:=by
 unfold upTo at h
 obtain⟨i,hi,rfl⟩:=kI.1 h
 have:=kK.1 hi
 omega
@[irreducible] def rmLh (l:List Int) (i:Nat):List Int:=l.take i++l.drop (i+1)
@[irreducible] def pickL (l:List Half) (js:List Int):List Half:=js.map fun j=>l.getD j.toNat default
theorem zkE (l:List Half) (js:List Int):(pickL l js).length=js.length:=by unfold pickL; simp
theorem zkD {l:List Half} {js:List Int} (hj:∀ j∈js,0<=j/\j<l.length):∀ x∈pickL l js,x∈l:=fun x hx=>by
 unfold pickL at hx
 obtain⟨j,hjm,rfl⟩:=kI.1 hx
 have:=hj j hjm
 exact gd1 (by omega) default
abbrev rowH (l:List Half):Nat->Nat->D:=fun i=>(l.getD i default).at
theorem zq3 {p:Place} (h:on p=true):(0<=p.X/\p.X<=48)/\(0<=p.Y/\p.Y<=48):=by
 unfold on at h
 simp only[jP,zaa] at h
 exact h
theorem zkO {p:Place} (h:on p=true):valid (ofP p)=true:=by
 have hb:=zq3 h
 have e:ofP p=⟨p.X,p.Y,1⟩:=by unfold ofP; rw[kG h]
 rw[e]
 unfold valid
 simp only[jP,zaa,qP]
 refine⟨⟨⟨by omega,by omega⟩,by omega⟩,?_⟩
 rw[gcd3]
 simp
end Go.Pg
