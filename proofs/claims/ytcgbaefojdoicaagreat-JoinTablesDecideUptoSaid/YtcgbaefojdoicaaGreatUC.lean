/- Lemmas, joined by program. -/
import Derived.Test.YtcgbaefojdoicaaGreatUB
import Derived.Deep.Slices
import Derived.Deep.Fields
import Derived.ChangeSame
import Derived.OpenShut
import Derived.ProofKit
import Derived.ChangeOld
import Derived.Below
set_option maxHeartbeats 4000000
set_option linter.all false
set_option maxRecDepth 100000
namespace Go.Pg
open Go.Proofs Go.RowKit
abbrev Hz.ds (x:Hz):List D:=[I x.From,I x.To,I x.Far]
end Go.Pg
namespace Go.Pg
open Go.Proofs Go.RowKit Go.Sort Go.Shelf
theorem znE {g:Int->Int->Int} (hg:∀ x y,g x y=0) (a b c d k:Int):crsH g a b c d k=0:=by
 unfold crsH
 simp only[hg,Int.mul_zero,Int.add_zero,ite_self]
theorem zgZ {m:Mp} (hm:∀ p,grd m p=0) (a b:Place):∀ (n:Nat) (k0 k1:Int),∀ p∈ptsF m a b n k0 k1,p.hi=0
 | 0,_,_,p,hp=>by cases hp
 | n+1,k0,k1,p,hp=>by
  unfold ptsF at hp
  split at hp
  ·split at hp
   ·rcases qB.1 hp with rfl | hp
    ·exact znE (g:=fun y x=>grd m ⟨x,y⟩) (fun _ _=>hm _) _ _ _ _ _
    exact zgZ hm a b n _ _ p hp
   rcases qB.1 hp with rfl | hp
   ·exact znE (g:=fun x y=>grd m ⟨x,y⟩) (fun _ _=>hm _) _ _ _ _ _
   exact zgZ hm a b n _ _ p hp
  cases hp
theorem zgn {m:Mp} (hm:∀ p,grd m p=0) (hv:validM m=true) {a b:Place} (ha:onM m a=true) (hb:onM m b=true) {ta tb:Int} (h1:0<=ta) (h2:0<=tb):freeB m a ta b tb=true:=by
 unfold freeB
 rw[jY,jai]
 intro p hp
 have ok:=znf hv ha hb p hp
 have h3:=zgZ hm a b _ _ _ p hp
 unfold ovrB abvI
 rw[h3,hm,hm]
 have k1:=jae (show 0<=p.n - p.k by have:=ok.k; omega) (show 0<=0+ta by omega)
 have k2:=jae ok.k.1 (show 0<=0+tb by omega)
 simp only[kA]
 omega
end Go.Pg
namespace Go.Pg
open Go.RowKit Go.ChangeShapes Go.WideShapes Go.Deep
section
variable {H:Type} {enc:TypeId × Value->H} {P:Program} {w:World} {base:Nat} {spare:Nat->Bool} {held:Bool}
theorem zpq {n:Int} (h:(Lit.int .i64 n).wf=true):-9223372036854775808<=n/\n<=9223372036854775807:=by
 have h:(decide (IntKind.min .i64<=n) && decide (n<=IntKind.max .i64))=true:=h
 simp only[jP,kA] at h
 exact h
def IntFs (P:Program) (fs:Array Field):Prop:=∀ (j:Nat) (f:Field),fs[j]?=some f->P.underlying f.type=some (.int .i64)
theorem open_aggI {r:Reach} {b0:Nat} {t:TypeId} {fs:Array Field} {v:Value} {d:DataW H} {p:List MemPlace} (hs:P.underlying t=some (.struct fs)) (hone:oneCellFields P fs=true) (hC:P.cellsOf t=fs.size) (hI:IntFs P fs)
  (hv:Value.okWide P w r b0 t v) (h:DataW.Trod enc P w base spare held t v d p) :
  ∃ ns:List Int,ns.length=fs.size/\(∀ n∈ns,-9223372036854775808<=n/\n<=9223372036854775807)/\v = .agg (ns.map (Value.int .i64)).toArray:=by
 obtain⟨cs,rfl,hsz⟩:=okWide_struct hs hv
 obtain⟨l⟩:=cs
 have hl:l.length=fs.size:=by simpa [hC] using hsz
 obtain⟨fuel,hf⟩:=h
 obtain⟨xs,n,_,hx,_,hlen,hg⟩:=DataW.trod_struct hs hf
 have key:∀ j,j<l.length -> ∃ n:Int,l[j]?=some (.int .i64 n)/\(Lit.int .i64 n).wf=true:=fun j hj=>by
  have hjf:fs[j]?=some (fs[j]'(by omega)):=qT (by omega)
  obtain⟨o0,k0⟩:=hone_of hone j _ hjf
  have h1:=hg j _ hjf
  rw[o0,k0] at h1
  have hxs:xs[j]?=some (xs[j]'(by omega)):=hZ (by omega)
  rw[hxs] at h1
  obtain⟨n,hc,_,hw⟩:=DataW.trod_int (hI j _ hjf) h1
  refine⟨n,?_,hw⟩
  have:(l.drop j).take 1=[.int .i64 n]:=by simpa [Value.cells] using hc
  rw[kZ hj] at this
  have h3:l[j]=Value.int .i64 n:=(List.cons.inj this).1
  rw[hZ hj,h3]
 have:∀ l:List Value,(∀ j,j<l.length -> ∃ n:Int,l[j]?=some (.int .i64 n)/\(Lit.int .i64 n).wf=true) -> ∃ ns:List Int,ns.length=l.length/\(∀ n∈ns,-9223372036854775808<=n/\n<=9223372036854775807)/\l=ns.map (Value.int .i64):=by
  intro l
  induction l with
  | nil=>intro _; exact⟨[],rfl,by simp,rfl⟩
  | cons u r ih=>
  intro hk
  obtain⟨n,h1,h2⟩:=hk 0 (by simp)
  obtain⟨ns,h3,h4,h5⟩:=ih fun j hj=>by simpa using hk (j+1) (by simpa using hj)
  refine⟨n :: ns,by simp[h3],fun m hm=>?_,?_⟩
  ·rcases qB.1 hm with rfl | hm
   ·exact zpq h2
   exact h4 m hm
  simp only[List.getElem?_cons_zero,jO] at h1
  rw[h1,h5]; rfl
 obtain⟨ns,h1,h2,h3⟩:=this l key
 exact⟨ns,by omega,h2,by rw[h3]⟩
theorem all2I {ok:Nat->Prop} (ns:List Int):All2 (Rep w ok) (ns.map I) (ns.map (Value.int .i64)):=by
 induction ns with
 | nil=>exact .nil
 | cons n r ih=>exact .cons rfl ih
end
section
variable {w:World} {ok:Nat->Prop} {len:Nat} {g:Nat->Nat->Int} {v:Value}
theorem rep_aggI (ns:List Int):Rep1 w ok (.agg (ns.map I)) (.agg (ns.map (Value.int .i64)).toArray):=⟨_,rfl,all2I ns⟩
end
inductive Sh where
  | int (k:IntKind)
  | sl (k:Nat) (f:Nat->Sh)
def Fits:Sh->D->Prop
 | .int k,x=>∃ n:Int,(k.min<=n/\n<=k.max)/\x = .int k n
 | .sl k s,x=>∃ (n:Nat) (f:Nat->Nat->D),x = .slc k n f/\n<=maxLen /\ ∀ i,i<n -> ∀ j,j<k->Fits (s j) (f i j)
def GdS (w:World) (s:Sh) (v:Value):Prop:=∃ x:D,Rep w (fun b=>b<w.heap.size) x v/\Fits s x
def shFs (cells:TypeId->Nat) (g:TypeId->Option (List Sh)):Nat->List Field->Option (List Sh)
 | _,[]=>some []
 | off,f :: r=>(g f.type).bind fun a=>bif f.offset==off && a.length==cells f.type then (shFs cells g (off+a.length) r).map fun b=>a++b else none
def shSt (P:Program) (g:TypeId->Option (List Sh)) (t:TypeId) (fs:Array Field):Option (List Sh):=(shFs P.cellsOf g 0 fs.toList).bind fun ks=>bif ks.length==P.cellsOf t then some ks else none
def shSl (P:Program) (g:TypeId->Option (List Sh)) (e:TypeId):Option (List Sh):=(g e).bind fun ks=>bif ks.length==P.cellsOf e then some [.sl ks.length fun j=>getD' ks j] else none
where getD':List Sh->Nat->Sh
 | [],_=>.int .i64
 | x :: _,0=>x
 | _ :: r,j+1=>getD' r j
def shOf (P:Program):Nat->TypeId->Option (List Sh)
 | 0,_=>none
 | n+1,t=>match P.underlying t with
  | some (.int k)=>some [.int k]
  | some (.slice e)=>shSl P (shOf P n) e
  | some (.struct fs)=>shSt P (shOf P n) t fs
  | _=>none
theorem shSl_get {l:List Sh} {j:Nat} (h:j<l.length):l[j]?=some (shSl.getD' l j):=by
 induction l generalizing j with
 | nil=>cases h
 | cons x r ih=>cases j with
  | zero=>rfl
  | succ j=>simpa [shSl.getD'] using ih (by simpa using h)
theorem All2.app' {α β:Type} {R:α->β->Prop} {a c:List α} {b d:List β} (h1:All2 R a b) (h2:All2 R c d):All2 R (a++c) (b++d):=by
 induction h1 with
 | nil=>exact h2
 | cons h _ ih=>exact .cons h ih
theorem cell_lt {w:World} {a:Addr} {v:Value} (h:w.cell? a=some v):a.block<w.heap.size:=by
 rcases jaq a.block w.heap.size with h1 | h1
 ·exact h1
 simp only[World.cell?,jab h1] at h
 cases h
theorem wf_kind {k:IntKind} {n:Int} (h:(Lit.int k n).wf=true):k.min<=n/\n<=k.max:=by
 have h:(decide (IntKind.min k<=n) && decide (n<=IntKind.max k))=true:=h
 simp only[jP,kA] at h
 exact h
section
variable {H:Type} {enc:TypeId × Value->H} {P:Program} {w:World} {base:Nat} {spare:Nat->Bool} {held:Bool}
theorem zfV {g:TypeId->Option (List Sh)} {n:Nat} {cs:List Value}
  (ih:∀ t ks,g t=some ks -> ∀ cs x,DataW.trod enc P w base spare held n t cs=some x->All2 (GdS w) ks cs) :
  ∀ (r:List Field) (off:Nat) (ks:List Sh),shFs P.cellsOf g off r=some ks->(∀ f∈r,∃ x,DataW.trod enc P w base spare held n f.type ((cs.drop f.offset).take (P.cellsOf f.type))=some x)->All2 (GdS w) ks ((cs.drop off).take ks.length)
 | [],off,ks,h,_=>by
  simp only[shFs,jO] at h
  subst h
  exact .nil
 | f :: r,off,ks,h,hx=>by
  unfold shFs at h
  obtain⟨a,ha,h⟩:=jbr.1 h
  cases hc:f.offset==off && a.length==P.cellsOf f.type with
  | false=>rw[hc] at h; cases h
  | true=>
  rw[hc] at h
  obtain⟨b,hb,rfl⟩:=Option.map_eq_some_iff.1 (show (shFs P.cellsOf g (off+a.length) r).map (fun b=>a++b)=some ks from h)
  simp only[jP,jam] at hc
  obtain⟨x,h1⟩:=hx f (jat ..)
  rw[hc.1,<- hc.2] at h1
  have g1:=ih _ _ ha _ _ h1
  have g2:=zfV ih r (off+a.length) b hb fun f hf=>hx f (jav _ hf)
  rw[jR,List.take_add,List.drop_drop]
  exact g1.app' g2
theorem ze4:∀ (n:Nat) (t:TypeId) (ks:List Sh),shOf P n t=some ks -> ∀ (fuel:Nat) (cs:List Value) (x:DataW H × List MemPlace),DataW.trod enc P w base spare held fuel t cs=some x->All2 (GdS w) ks cs
 | 0,_,_,h,_,_,_,_=>by cases h
 | n+1,t,ks,h,fuel,cs,x,ht=>by
  unfold shOf at h
  split at h
  ·rename_i k hu
   simp only[jO] at h
   subst h
   obtain⟨m,rfl,_,hw⟩:=DataW.trod_int hu ht
   exact .cons ⟨.int k m,rfl,m,wf_kind hw,rfl⟩ .nil
  ·rename_i e hu
   unfold shSl at h
   obtain⟨ks',hk,h⟩:=jbr.1 h
   cases hc:ks'.length==P.cellsOf e with
   | false=>rw[hc] at h; cases h
   | true=>
   rw[hc] at h
   simp only[kS,jO] at h
   subst h
   have hc:=jam.1 hc
   obtain⟨v,rfl⟩:∃ v,cs=[v]:=by
    rcases open_slice hu ht with⟨rfl,_⟩ | ⟨ad,len,cap,m,n',D,Pl,rfl,_⟩
    ·exact⟨_,rfl⟩
    exact⟨_,rfl⟩
   refine .cons ?_ .nil
   rcases open_slice hu ht with⟨h1,_⟩ | ⟨ad,len,cap,m,n',D,Pl,h1,hb,hl,hm,hmm,hx,hi⟩
   ·cases h1
    exact⟨.slc ks'.length 0 fun _ _=>.nil,.inl ⟨rfl,rfl⟩,0,_,rfl,by unfold maxLen; omega,fun i hi=>absurd hi (qI _)⟩
   cases h1
   have key:∀ i,i<len -> ∀ j,j<ks'.length -> ∃ v,w.cell? (ad.add (i * ks'.length+j))=some v/\GdS w (shSl.getD' ks' j) v:=fun i him j hjl=>by
    obtain⟨cs',hcc,ht'⟩:=hi i (by rw[hmm]; split <;> omega)
    have hg:=ze4 n e ks' hk _ _ _ ht'
    obtain⟨_,hcl,hat⟩:=World.cells?_some hcc
    obtain⟨v,hv,hgv⟩:=hg.get j _ (shSl_get hjl)
    refine⟨v,?_,hgv⟩
    rw[<- Go.Deep.add_add,hc]
    rw[hat j (by omega)]; exact hv
   refine⟨.slc ks'.length len fun i j=>if h:i<len/\j<ks'.length then Classical.choose (jas (key i h.1 j h.2)).2 else .nil,.inr ⟨ad,cap,rfl,hl,hm,fun i hi j hj=>?_⟩,len,_,rfl,by omega,fun i hi j hj=>?_⟩
   ·have hs:=jas (key i hi j hj)
    have hs2:=jas hs.2
    refine⟨?_,_,hs.1,?_⟩
    ·have:=cell_lt hs.1
     rwa [add_block] at this
    dsimp only; rw[dif_pos ⟨hi,hj⟩]; exact hs2.1
   dsimp only; rw[dif_pos ⟨hi,hj⟩]
   exact (jas (jas (key i hi j hj)).2).2
  ·rename_i fs hu
   unfold shSt at h
   obtain⟨ks',hk,h⟩:=jbr.1 h
   cases hc:ks'.length==P.cellsOf t with
   | false=>rw[hc] at h; cases h
   | true=>
   rw[hc] at h
   simp only[kS,jO] at h
   subst h
   obtain⟨xs,m,rfl,_,hl,hlen,hf⟩:=DataW.trod_struct hu ht
   have key:=zfV (cs:=cs) (n:=m) (fun t ks h cs x hx=>ze4 n t ks h m cs x hx) fs.toList 0 ks' hk fun f hf'=>by
    obtain⟨i,hi,rfl⟩:=kR hf'
    have hi':i<fs.size:=by simpa using hi
    have h1:=hf i fs[i] (qT hi')
    rw[hZ (show i<xs.length by omega)] at h1
    exact⟨_,by simpa using h1⟩
   rw[List.drop_zero,List.take_of_length_le (by have:=jam.1 hc; omega)] at key
   exact key
  cases h
theorem zdY:∀ {ks:List Sh} {cs:List Value},All2 (GdS w) ks cs -> ∃ xs:List D,All2 (Rep w (fun b=>b<w.heap.size)) xs cs/\All2 Fits ks xs
 | [],[],.nil=>⟨[],.nil,.nil⟩
 | _ :: _,_ :: _,.cons ⟨x,h1,h2⟩ h=>by
  obtain⟨xs,h3,h4⟩:=zdY h
  exact⟨x :: xs,.cons h1 h3,.cons h2 h4⟩
theorem openS {r:Reach} {b0:Nat} (n:Nat) {t:TypeId} {fs:Array Field} {ks:List Sh} {v:Value} {d:DataW H} {p:List MemPlace} (hs:P.underlying t=some (.struct fs)) (hk:shOf P n t=some ks)
  (hv:Value.okWide P w r b0 t v) (h:DataW.Trod enc P w base spare held t v d p):∃ xs:List D,Rep1 w (fun b=>b<w.heap.size) (.agg xs) v/\All2 Fits ks xs:=by
 obtain⟨cs,rfl,hsz⟩:=okWide_struct hs hv
 obtain⟨fuel,hf⟩:=h
 obtain⟨xs,h1,h2⟩:=zdY (ze4 n t ks hk fuel _ _ (by simpa [Value.cells] using hf))
 exact⟨xs,⟨cs.toList,by simp,h1⟩,h2⟩
theorem openL {r:Reach} {b0:Nat} (n:Nat) {t e:TypeId} {ks:List Sh} {v:Value} {d:DataW H} {p:List MemPlace} (hs:P.underlying t=some (.slice e)) (hk:shOf P (n+1) t=some ks)
  (hv:Value.okWide P w r b0 t v) (h:DataW.Trod enc P w base spare held t v d p):∃ x:D,Rep1 w (fun b=>b<w.heap.size) (.d x) v/\All2 Fits ks [x]:=by
 obtain⟨a,len,cap,rfl⟩:=okWide_slice hs hv
 obtain⟨fuel,hf⟩:=h
 obtain⟨xs,h1,h2⟩:=zdY (ze4 (n+1) t ks hk fuel _ _ (by simpa [Value.cells] using hf))
 cases h1 with
 | cons h h'=>cases h'; exact⟨_,h,h2⟩
end
theorem fitsL {α:Type} [Inhabited α] {k:Nat} {at_:α->Nat->D} {s:Nat->Sh} {x:D} (mkα:(Nat->Int)->α) (hi:∀ j,j<k->s j = .int .i64) (hk:∀ g:Nat->Int,∀ j,j<k->at_ (mkα g) j=I (g j)) (h:Fits (.sl k s) x) :
  ∃ l:List α,l.length<=maxLen/\(∀ a∈l,∃ g:Nat->Int,a=mkα g /\ ∀ j,j<k -> -9223372036854775808<=g j/\g j<=9223372036854775807)/\D.eqv x (.slc k l.length fun i=>at_ (l.getD i default)):=by
 obtain⟨n,f,rfl,hn,hf⟩:=h
 have key:∀ i,i<n -> ∀ j,j<k -> ∃ z:Int,(-9223372036854775808<=z/\z<=9223372036854775807)/\f i j=I z:=fun i hi' j hj=>by
  have h1:=hf i hi' j hj
  rw[hi j hj] at h1
  exact h1
 let g:Nat->Nat->Int:=fun i j=>if h:i<n/\j<k then Classical.choose (key i h.1 j h.2) else 0
 have hg:∀ i,i<n -> ∀ j,j<k->(-9223372036854775808<=g i j/\g i j<=9223372036854775807)/\f i j=I (g i j):=fun i hi' j hj=>by
  have e:g i j=Classical.choose (key i hi' j hj):=dif_pos ⟨hi',hj⟩
  rw[e]
  exact jas (key i hi' j hj)
 refine⟨(List.range n).map fun i=>mkα (g i),by simpa using hn,fun a ha=>?_,by simp,.inr ⟨rfl,fun i hi' j hj=>?_⟩⟩
 ·obtain⟨i,hi',rfl⟩:=kK.1 ha
  exact⟨g i,rfl,fun j hj=>(hg i (kJ.1 hi') j hj).1⟩
 have e:((List.range n).map fun i=>mkα (g i)).getD i default=mkα (g i):=by
  rw[hX,jU,qZ hi']; rfl
 show D.eqv (f i j) (at_ (((List.range n).map fun i=>mkα (g i)).getD i default) j)
 rw[e,hk _ j hj,(hg i hi' j hj).2]
 exact⟨rfl,rfl⟩
end Go.Pg
namespace Go.Pg
open Go.Proofs Go.RowKit
theorem zp3 {m:Mp} {y x:Nat} (hx:x<m.w):plc m (y * m.w+x)=⟨(x:Int),(y:Int)⟩:=by
 unfold plc
 have e1:(y * m.w+x) % m.w=x:=by rw[Nat.add_comm,Nat.add_mul_mod_self_right,jau hx]
 have e2:(y * m.w+x) / m.w=y:=by rw[Nat.add_comm,Nat.add_mul_div_right _ _ (by omega),ja7 hx,qD]
 rw[e1,e2]
theorem zog {s:Svc} {b:Brn} {l:List Rpt}:(rsnR s b l).1.length<=1000000:=by
 unfold rsnR
 split
 ·simp
 rename_i h0
 have h0:givE s b l=0:=jL h0
 obtain⟨bw,bh,-,-⟩:=zag (zcu h0).s.c.m
 have hn:s.n<=49 * 49:=Nat.mul_le_mul (by show s.c.M.W.toNat<=49; omega) (by show s.c.M.H.toNat<=49; omega)
 have:=ze7 s l (l.map (alwP s b)) s.n
 show (rsnK s l (l.map (alwP s b)) s.n).length<=1000000
 omega
end Go.Pg
namespace Go.Pg
open Go.Proofs Go.RowKit Go.Sort Go.Shelf
def brn2 (ids:List Int) (x:Int × Int) (r:Rpt):Int × Int:=if ids.contains r.ID=true then (min x.1 r.Tick,max x.2 r.Tick) else x
def brnT (ids:List Int) (l:List Rpt):Int × Int:=l.foldl (brn2 ids) (1048576,0)
def brn7 (d:Day) (ids:List Int):Brn:=⟨(brnT ids d.R).1,(brnT ids d.R).2,d.Rise⟩
theorem zla (ids:List Int) (l:List Rpt) {i:Nat} (h:i<l.length):brnT ids (l.take (i+1))=brn2 ids (brnT ids (l.take i)) (l.getD i default):=by
 unfold brnT
 rw[zaL h default,jap]; rfl
theorem ziq {d:Day} (h:DayOk d) (ids:List Int):∀ i,i<=d.R.length->if ((d.R.take i).any fun r=>ids.contains r.ID)=true then brnS ids (d.R.take i)=(true,(brnT ids (d.R.take i)).1,(brnT ids (d.R.take i)).2) else brnS ids (d.R.take i)=(false,0,0)/\brnT ids (d.R.take i)=(1048576,0)
 | 0,_=>by simp[brnS,brnT]
 | i+1,hi=>by
  have ih:=ziq h ids i (by omega)
  obtain⟨b1,b2⟩:=h.tick (show i<d.R.length by omega)
  have ea:((d.R.take (i+1)).any fun r=>ids.contains r.ID)=(((d.R.take i).any fun r=>ids.contains r.ID) || ids.contains (d.R.getD i default).ID):=by
   rw[zaL (by omega) default,List.any_append]; simp
  rw[zcD ids d.R (by omega),zla ids d.R (by omega),ea]
  generalize brnS ids (d.R.take i)=u at ih ⊢
  generalize brnT ids (d.R.take i)=v at ih ⊢
  cases ha:((d.R.take i).any fun r=>ids.contains r.ID) with
  | true=>
   rw[ha,kH rfl] at ih
   rw[kH (by rfl),ih]
   unfold brn1 brn2
   cases hc:ids.contains (d.R.getD i default).ID <;> rfl
  | false=>
  rw[ha,kG (by decide)] at ih
  obtain⟨rfl,rfl⟩:=ih
  cases hc:ids.contains (d.R.getD i default).ID with
  | true=>
   rw[kH (by rfl)]
   unfold brn1 brn2
   rw[kH hc,kH hc]
   show (true,min _ _,max _ _)=(true,min _ _,max _ _)
   congr 2
   ·show min (d.R.getD i default).Tick (d.R.getD i default).Tick=min 1048576 (d.R.getD i default).Tick
    omega
   ·show max (d.R.getD i default).Tick (d.R.getD i default).Tick=max 0 (d.R.getD i default).Tick
    omega
  | false=>
  rw[kG (by decide)]
  unfold brn1 brn2
  rw[kG (by rw[hc]; decide),kG (by rw[hc]; decide)]
  exact⟨rfl,rfl⟩
theorem zph {d:Day} (h:DayOk d) {ids:List Int} (ha:(d.R.any fun r=>ids.contains r.ID)=true):brn7 d ids=brnD d ids:=by
 have:=ziq h ids d.R.length (jE _)
 rw[jZ,kH ha] at this
 unfold brn7 brnD
 rw[this]
def tldL (d:Day) (ids:List Int):List Place:=if d.Long<(brn7 d ids).To - (brn7 d ids).From then [] else (plcR d.s (brn7 d ids) (lstD d ids)).1
abbrev leI (x y:Int):Bool:=decide (x<=y)
def Srt (l:List Int):Prop:=l.Pairwise fun x y=>leI x y=true
theorem zdB {l m:List Int} (h1:Srt l) (h2:Srt m) (hp:l.Perm m):l=m:=
 List.Perm.eq_of_pairwise (le:=fun x y=>leI x y=true) (fun a b _ _ h3 h4=>by
  have h3:=kN h3
  have h4:=kN h4
  omega) h1 h2 hp
theorem zhB (l:List Rpt):Srt (sigL l):=
 List.pairwise_mergeSort (le:=fun x y=>decide (x<=y)) (fun a b c h1 h2=>by
  have h1:=kN h1
  have h2:=kN h2
  exact jG (by omega)) (fun a b=>by
  rw[jX,kI,kI]
  omega) _
def insK (l:List Int) (x:Int) (k:Nat):List Int:=l.take k++x :: l.drop k
theorem zdT (l:List Int) (x:Int) (k:Nat):(insK l x k).Perm (l ++ [x]):=by
 unfold insK
 have h1:(l.take k++x :: l.drop k).Perm (x :: (l.take k++l.drop k)):=List.perm_middle
 rw[List.take_append_drop] at h1
 exact h1.trans (List.perm_append_comm (l₁:=[x]) (l₂:=l))
theorem zh6 {l:List Int} {x:Int} {k:Nat} (hk:k<=l.length) (hs:Srt l) (h1:∀ j,k<=j->j<l.length->x<l.getD j 0) (h2:0<k->l.getD (k - 1) 0<=x):Srt (insK l x k):=by
 have hd:=hs
 unfold Srt at hd
 rw[<- List.take_append_drop k l,List.pairwise_append] at hd
 obtain⟨d1,d2,d3⟩:=hd
 have g:∀ i j,i<j->j<l.length->l.getD i 0<=l.getD j 0:=fun i j hij hj=>by
  have:=kW.1 hs i j (by omega) hj hij
  have:=kN this
  rw[hX,hX,hZ hj,hZ (by omega)]
  exact this
 have lo:∀ y∈l.take k,y<=x:=fun y hy=>by
  obtain⟨j,hj,rfl⟩:=kR hy
  rw[jQ] at hj
  rw[List.getElem_take]
  have e:l[j]'(by omega)=l.getD j 0:=by rw[hX,hZ (by omega)]; rfl
  rw[e]
  have h3:=h2 (by omega)
  by_cases q:j=k - 1
  ·rw[q]; exact h3
  have:=g j (k - 1) (by omega) (by omega); omega
 have hi:∀ y∈l.drop k,x<=y:=fun y hy=>by
  obtain⟨j,hj,rfl⟩:=kR hy
  rw[wC] at hj
  rw[List.getElem_drop]
  have e:l[k+j]'(by omega)=l.getD (k+j) 0:=by rw[hX,hZ (by omega)]; rfl
  rw[e]
  have:=h1 (k+j) (by omega) (by omega)
  omega
 unfold Srt insK
 rw[List.pairwise_append]
 refine⟨d1,List.pairwise_cons.2 ⟨fun y hy=>jG (hi y hy),d2⟩,fun a ha c hc=>?_⟩
 rcases qB.1 hc with rfl | hc
 ·exact jG (lo a ha)
 have:=lo a ha
 have:=hi c hc
 exact jG (by omega)
theorem zmp (l:List Int) (x:Int) {k:Nat} (hk:k<=l.length) (m:Nat):(insK l x k).getD m 0=if m<k then l.getD m 0 else if m=k then x else l.getD (m - 1) 0:=by
 unfold insK
 rw[hX]
 by_cases h1:m<k
 ·rw[kH h1,jJ (by rw[jQ]; omega),jS,kH h1,<- hX]
 rw[kG h1,jK (by rw[jQ]; omega),jQ]
 rw[show min k l.length=k by omega]
 by_cases h2:m=k
 ·rw[kH h2,h2,kE]; rfl
 rw[kG h2]
 obtain⟨d,hd⟩:∃ d,m - k=d+1:=⟨m - k - 1,by omega⟩
 rw[hd,jax,qX,show k+d=m - 1 by omega,<- hX]
theorem zh7 {l:List Int} {x:Int} {k:Nat} (hk:k<=l.length) {n n':Nat} {F f:Nat->Nat->D} (hn:n=k) (hn':n'=k) (hF:∀ a,a<k->F a 0=I (l.getD a 0)) (h:f 0 0=I x) :
  D.eqv (.slc 1 (n+1+(l.length - n')) (appRow (n+1) (appRow n F f) fun a _=>I (l.getD (n'+a) 0))) (lI (insK l x k)):=by
 subst hn
 subst hn'
 refine⟨by rw[(zdT l x n').length_eq,jR,qE]; omega,.inr ⟨rfl,fun m hm j hj=>?_⟩⟩
 obtain rfl:j=0:=by omega
 show D.eqv (appRow (n'+1) (appRow n' F f) (fun a _=>I (l.getD (n'+a) 0)) m 0) (I ((insK l x n').getD m 0))
 rw[zmp l x hk]
 unfold appRow
 by_cases h1:m<n'
 ·rw[kH (by omega),kH h1,kH h1,hF m h1]; exact dE _
 by_cases h2:m=n'
 ·rw[kH (by omega),kG h1,kG h1,kH h2,h2,kE,h]; exact dE _
 rw[kG (by omega),kG h1,kG h2]
 show D.eqv (I (l.getD (n'+(m - (n'+1))) 0)) _
 rw[show n'+(m - (n'+1))=m - 1 by omega]; exact dE _
theorem zpU (d:Day) (hn:d.R.length<=1000000):Spec PP 38 [d.v] [.d (lI (sigL d.R))]:=by
 refine sA Tryz.func38 ?_
 refine lOf (σ:=List Int × Nat) (fun x=>([(1,.box 1 0),(3,.d (lI x.1)),(4,.d (I x.2))],[(1,.box (d.ds.map AV.d))])) (fun x=>x.2<=d.R.length/\Srt x.1/\x.1.Perm (sigK (d.R.take x.2))) (fun x=>d.R.length - x.2) ([],0)
  ⟨rfl,⟨obD d.ds rfl,trivial⟩,avQ rfl,avOw rfl rfl rfl ⟨rfl,.inl rfl⟩,avQ rfl,trivial⟩ ⟨jF _,List.Pairwise.nil,List.Perm.refl _⟩ fun⟨U,i⟩ ⟨hi,hs,hp⟩=>?_
 have hi:i<=d.R.length:=hi
 have hs:Srt U:=hs
 have hp:U.Perm (sigK (d.R.take i)):=hp
 have hU:U.length<=i:=by
  rw[hp.length_eq]
  have:=zck (d.R.take i)
  rw[jQ] at this; omega
 apply bY <;> intro h1
 ·have h1:i<d.R.length:=by have:(i:Int)<d.R.length:=dT h1; omega
  refine⟨⟨rfl,by omega,by show (i:Int)<d.R.length; omega⟩,?_⟩
  apply bY <;> intro h2
  ·have h2:isSg (d.R.getD i default)=false:=by simpa [isSg] using h2
   refine⟨i6,?_⟩
   refine⟨(U,i+1),⟨rfl,⟨obD d.ds rfl,trivial⟩,wq rfl⟩,⟨h1,hs,by rw[zjr h1 h2]; exact hp⟩,msr h1⟩
  have h2:isSg (d.R.getD i default)=true:=by simpa [isSg] using h2
  refine lOf (σ:=Nat) (fun k=>([(1,.box 1 0),(3,.d (lI U)),(4,.d (I i)),(5,.d (I k))],[(1,.box (d.ds.map AV.d))])) (fun k=>k<=U.length /\ ∀ j,k<=j->j<U.length->(d.R.getD i default).ID<U.getD j 0) (fun k=>k) U.length
   ⟨rfl,⟨obD d.ds rfl,trivial⟩,wq rfl⟩ ⟨jE _,fun j h3 h4=>absurd h4 (by omega)⟩ fun k hk=>?_
  obtain⟨hk,ha⟩:=hk
  refine oN 16 ?_
  apply bY <;> intro h3
  ·have h3:0<k:=by have:=dT h3; omega
   refine⟨i6,?_⟩
   refine⟨⟨rfl,by omega,by omega⟩,?_⟩
   refine⟨⟨rfl,by omega,by show (i:Int)<d.R.length; omega⟩,?_⟩
   have ek:((k:Int) - 1).toNat=k - 1:=by omega
   repeat first | apply sT | apply sF
   apply bY <;> intro h4
   ·have h4:(d.R.getD i default).ID<U.getD (k - 1) 0:=by have h4:=dT h4; rw[ek] at h4; exact h4
    refine⟨i6,?_⟩
    refine⟨k - 1,⟨rfl,⟨obD d.ds rfl,trivial⟩,avQ rfl,avQ rfl,avQ rfl,avI rfl (by omega),trivial⟩,⟨by omega,fun j h5 h6=>?_⟩,by omega⟩
    by_cases e:j=k - 1
    ·rw[e]; exact h4
    exact ha j (by omega) h6
   have h4:U.getD (k - 1) 0<=(d.R.getD i default).ID:=by have h4:=dF h4; rw[ek] at h4; have:¬ (d.R.getD i default).ID<U.getD (k - 1) 0:=h4; omega
   refine⟨⟨.inr rfl,by omega,by omega⟩,?_⟩
   refine⟨⟨.inr rfl,by simp only[maxLen]; omega,by dsimp only; omega⟩,?_⟩
   refine⟨⟨rfl,by omega,by show (i:Int)<d.R.length; omega⟩,?_⟩
   refine⟨⟨.inr rfl,by simp only[maxLen]; omega,by dsimp only; omega⟩,?_⟩
   refine⟨⟨.inr rfl,by omega,by omega⟩,?_⟩
   refine⟨⟨.inr rfl,by simp only[maxLen]; omega,by dsimp only; omega⟩,?_⟩
   refine⟨i6,?_⟩
   refine⟨(insK U (d.R.getD i default).ID k,i+1),⟨rfl,⟨obD d.ds rfl,trivial⟩,avQ rfl,avOw rfl rfl rfl ?_,avQ rfl,trivial⟩,⟨h1,zh6 hk hs ha (fun _=>h4),?_⟩,msr h1⟩
   ·exact zh7 hk (by omega) (by omega) (fun a _=>rfl) rfl
   rw[ze2 h1 h2]
   exact (zdT _ _ _).trans (hp.append_right _)
  have h3:k=0:=by have:=dF h3; omega
  repeat first | apply sT | apply sF
  refine⟨⟨.inr rfl,by omega,by omega⟩,?_⟩
  refine⟨⟨.inr rfl,by simp only[maxLen]; omega,by dsimp only; omega⟩,?_⟩
  refine⟨⟨rfl,by omega,by show (i:Int)<d.R.length; omega⟩,?_⟩
  refine⟨⟨.inr rfl,by simp only[maxLen]; omega,by dsimp only; omega⟩,?_⟩
  refine⟨⟨.inr rfl,by omega,by omega⟩,?_⟩
  refine⟨⟨.inr rfl,by simp only[maxLen]; omega,by dsimp only; omega⟩,?_⟩
  refine⟨i6,?_⟩
  refine⟨(insK U (d.R.getD i default).ID k,i+1),⟨rfl,⟨obD d.ds rfl,trivial⟩,avQ rfl,avOw rfl rfl rfl ?_,avQ rfl,trivial⟩,⟨h1,zh6 hk hs ha (fun h=>by omega),?_⟩,msr h1⟩
  ·exact zh7 hk (by omega) (by omega) (fun a _=>rfl) rfl
  rw[ze2 h1 h2]
  exact (zdT _ _ _).trans (hp.append_right _)
 have h1:i=d.R.length:=by have:¬ (i:Int)<d.R.length:=dF h1; omega
 subst h1
 rw[jZ] at hp
 rw[zdB (zhB d.R) hs ((qY _ _).trans hp.symm)]
 exact⟨dE _,trivial⟩
end Go.Pg
