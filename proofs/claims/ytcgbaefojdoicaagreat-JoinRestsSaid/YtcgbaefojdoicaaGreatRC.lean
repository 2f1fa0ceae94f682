/- Texts joined and shortened by program. -/
import Derived.Test.YtcgbaefojdoicaaGreatRB
import Derived.Test.YtcgbaefojdoicaaGreatRA
import Derived.Test.YtcgbaefojdoicaaGreatR9
import Derived.Test.YtcgbaefojdoicaaGreatR7
import Derived.Deep.Slices
import Derived.Deep.Fields
import Derived.ChangeSame
import Derived.OpenShut
import Derived.ProofKit
import Derived.ChangeOld
import Derived.Below
set_option maxHeartbeats 4000000
set_option linter.all false
set_option maxRecDepth 100000
namespace Go.Pg
open Go.Proofs Go.RowKit
def tgOf (t:Thg):Tg:=⟨t.k.ID,t.k.Tick,if t.s.Lo<=t.s.Hi then t.s.Lo else 0,if t.s.Lo<=t.s.Hi then t.s.Hi else 0,noneB t⟩
theorem zrD {x:Cir} (h:x.Lo<=x.Hi):tgOf (thg0 x)=tg0 x:=by
 unfold tgOf tg0 thg0 noneB
 dsimp only
 rw[kH h,kH h,jH (by omega)]
theorem zrC (x:Cir) (k:Chk):tgOf ⟨k,alo x k⟩=tgK x k:=by
 unfold tgOf tgK noneB alnD
 dsimp only
 by_cases h:(alo x k).Lo<=(alo x k).Hi
 ·rw[kH h,kH h,kH h,jH (by omega)]
 rw[kG h,kG h,kG h,jG (by omega)]
theorem zj1 {c:Cirs} {x:Cir} (h:x.Lo<=x.Hi):tgsL c x=(thsR c x c.K.length).map tgOf:=by
 unfold tgsL tgsR thsR thsK
 rw[kR,jbb,zrD h]
 congr 1
 refine qF fun k _=>?_
 exact (zrC x k).symm
theorem zii {x:Cir} {l:List Tg} {i:Nat}:∀ {k:Nat} {o:List (Int × Int)},outK x l i o k=[] ↔ o=[] /\ ∀ j,j<k->fireB x l i j=false
 | 0,o=>⟨fun h=>⟨h,fun j hj=>absurd hj (qK _)⟩,fun h=>h.1⟩
 | k+1,o=>by
  cases hf:fireB x l i k with
  | true=>
   rw[zfk hf]
   refine⟨fun h=>?_,fun h=>?_⟩
   ·have:=zfb (outK x l i o k) ((l.getD i default).N,(l.getD k default).N)
    rw[h] at this; simp at this
   ·have:=h.2 k (by omega)
    rw[hf] at this; cases this
  | false=>
  rw[zcI hf,zii]
  refine⟨fun h=>⟨h.1,fun j hj=>?_⟩,fun h=>⟨h.1,fun j hj=>h.2 j (by omega)⟩⟩
  by_cases e:j=k
  ·subst e; exact hf
  exact h.2 j (by omega)
theorem zij {x:Cir} {l:List Tg}:∀ {i:Nat},outI x l i=[] ↔ ∀ j,j<i -> ∀ k,k<l.length->fireB x l j k=false
 | 0=>⟨fun _ j hj=>absurd hj (qK _),fun _=>rfl⟩
 | i+1=>by
  show outK x l i (outI x l i) l.length=[] ↔ _
  rw[zii,zij]
  refine⟨fun h j hj=>?_,fun h=>⟨fun j hj=>h j (by omega),h i (by omega)⟩⟩
  by_cases e:j=i
  ·subst e; exact h.2
  exact h.1 j (by omega)
theorem zoT {α β:Type} [Inhabited α] [Inhabited β] (f:α->β) (l:List α) {i:Nat} (h:i<l.length):(l.map f).getD i default=f (l.getD i default):=by
 rw[hZ,hZ,jU,kF h]; rfl
theorem zhJ {x:Cir} {a b:Thg} (ha:noneB a=false) (hb:noneB b=false):agaB x (tgOf a) (tgOf b)=cl2 x a b:=by
 have h1:a.s.Lo<=a.s.Hi:=by have:=wH ha; omega
 have h2:b.s.Lo<=b.s.Hi:=by have:=wH hb; omega
 unfold agaB cl2 tgOf gap
 dsimp only
 rw[kH h1,kH h1,kH h2,kH h2,<- Bool.decide_or]
 apply kZ.2
 omega
theorem znk {x:Cir} {l:List Thg} (hd:∀ i j,i<l.length->j<l.length->(l.getD i default).k.ID=(l.getD j default).k.ID->i=j):outI x (l.map tgOf) (l.map tgOf).length=[] ↔ Fine x l:=by
 rw[zij,kS]
 have ef:∀ i k,i<l.length->k<l.length->fireB x (l.map tgOf) i k=(((i:Int)==(k:Int)) && noneB (l.getD i default) || (decide ((l.getD i default).k.ID<(l.getD k default).k.ID) && !noneB (l.getD i default) && !noneB (l.getD k default) && agaB x (tgOf (l.getD i default)) (tgOf (l.getD k default)))):=fun i k hi hk=>by
  unfold fireB
  rw[zoT _ _ hi,zoT _ _ hk]; rfl
 unfold Fine
 rw[zfi]
 constructor
 ·intro h
  have hn:∀ i,i<l.length->noneB (l.getD i default)=false:=fun i hi=>by
   have:=h i hi i hi
   rw[ef i i hi hi] at this
   simp at this
   exact this
  refine⟨fun t ht=>?_,fun i j hij hj=>?_⟩
  ·obtain⟨i,hi,rfl⟩:=zbi default ht
   exact hn i hi
  have hi:i<l.length:=by omega
  have n1:=hn i hi
  have n2:=hn j hj
  rcases Int.lt_trichotomy (l.getD i default).k.ID (l.getD j default).k.ID with h1 | h1 | h1
  ·have:=h i hi j hj
   rw[ef i j hi hj,n1,n2,jG h1,zhJ n1 n2] at this
   simpa using this
  ·exact absurd (hd i j hi hj h1) (by omega)
  have:=h j hj i hi
  rw[ef j i hj hi,n1,n2,jG h1,zhJ n2 n1] at this
  rw[zfF]
  simpa using this
 intro ⟨h1,h2⟩ i hi k hk
 have n1:=h1 _ (gd1 hi default)
 have n2:=h1 _ (gd1 hk default)
 rw[ef i k hi hk,n1,n2,zhJ n1 n2,kN,jaq]
 rcases jbz i k with h | h | h
 ·rw[h2 i k h hk,kN]
 ·subst h
  rw[jH (by omega)]; rfl
 rw[zfF,h2 k i h hi,kN]
theorem zoW (x:Cir) (t:Int):∀ (l:List Tg) (s:Spn) (y:Int),(l.foldl (limS x t) s).Lo<=y ↔ s.Lo<=y /\ ∀ g∈l,g.lo - drf x g.T t<=y
 | [],s,y=>by simp
 | g :: r,s,y=>by
  rw[jaB,zoW x t r,jbk]
  unfold limS
  dsimp only
  constructor
  ·rintro⟨h1,h2⟩; exact⟨by omega,by omega,h2⟩
  rintro⟨h1,h2,h3⟩; exact⟨by omega,h3⟩
theorem zoX (x:Cir) (t:Int):∀ (l:List Tg) (s:Spn) (y:Int),y<=(l.foldl (limS x t) s).Hi ↔ y<=s.Hi /\ ∀ g∈l,y<=g.hi+drf x g.T t
 | [],s,y=>by simp
 | g :: r,s,y=>by
  rw[jaB,zoX x t r,jbk]
  unfold limS
  dsimp only
  constructor
  ·rintro⟨h1,h2⟩; exact⟨by omega,by omega,h2⟩
  rintro⟨h1,h2,h3⟩; exact⟨by omega,h3⟩
theorem zqu {x:Cir} {t:Int} {l m:List Thg} (hp:l.Perm m) (hn:∀ g∈l,noneB g=false):limF x t (l.map tgOf)=⟨(zer x m t).lo,(zer x m t).hi⟩:=by
 have hs:∀ g∈l,(tgOf g).lo=g.s.Lo/\(tgOf g).hi=g.s.Hi/\(tgOf g).T=g.k.Tick:=fun g hg=>by
  have h1:g.s.Lo<=g.s.Hi:=by have:=wH (hn g hg); omega
  unfold tgOf; dsimp only
  rw[kH h1,kH h1]; exact⟨rfl,rfl,rfl⟩
 have k1:∀ y,(limF x t (l.map tgOf)).Lo<=y ↔ (zer x m t).lo<=y:=fun y=>by
  unfold limF zer
  rw[zoW,zou]
  refine and_congr_right fun _=>⟨fun h g hg=>?_,fun h g hg=>?_⟩
  ·have hg':=hp.mem_iff.2 hg
   have:=h _ (List.mem_map_of_mem hg')
   rw[(hs g hg').1,(hs g hg').2.2] at this; exact this
  obtain⟨g',hg',rfl⟩:=kI.1 hg
  rw[(hs g' hg').1,(hs g' hg').2.2]
  exact h g' (hp.mem_iff.1 hg')
 have k2:∀ y,y<=(limF x t (l.map tgOf)).Hi ↔ y<=(zer x m t).hi:=fun y=>by
  unfold limF zer
  rw[zoX,zov]
  refine and_congr_right fun _=>⟨fun h g hg=>?_,fun h g hg=>?_⟩
  ·have hg':=hp.mem_iff.2 hg
   have:=h _ (List.mem_map_of_mem hg')
   rw[(hs g hg').2.1,(hs g hg').2.2] at this; exact this
  obtain⟨g',hg',rfl⟩:=kI.1 hg
  rw[(hs g' hg').2.1,(hs g' hg').2.2]
  exact h g' (hp.mem_iff.1 hg')
 have e1:(limF x t (l.map tgOf)).Lo=(zer x m t).lo:=Int.le_antisymm ((k1 _).2 (ja3 _)) ((k1 _).1 (ja3 _))
 have e2:(limF x t (l.map tgOf)).Hi=(zer x m t).hi:=Int.le_antisymm ((k2 _).1 (ja3 _)) ((k2 _).2 (ja3 _))
 rw[<- e1,<- e2]
section
variable {c:Cirs} (h:CirsOk c) {id:Int} (hid:¬ cirI c id<0)
include h hid
theorem zc8:(thsR c (c.C.getD (cirI c id).toNat default) c.K.length).Perm (thsL c (c.C.getD (cirI c id).toNat default)):=(ja0 _ _).symm
theorem zrB:∀ t∈tgsL c (c.C.getD (cirI c id).toNat default),TgOk t:=fun t ht=>by
 have hx:=h.cs _ (zaN hid).1
 rw[zj1 hx.z.2.1] at ht
 obtain⟨g,hg,rfl⟩:=kI.1 ht
 have o:=zhQ h hid g ((zc8 h hid).mem_iff.1 hg)
 have o1:=o.lo
 have o2:=o.hi
 refine⟨?_,?_,o.t⟩
 ·unfold tgOf; dsimp only; split <;> omega
 unfold tgOf; dsimp only; split <;> omega
theorem zq1:∀ i j,i<c.K.length->j<c.K.length->(c.K.getD i default).ID=(c.K.getD j default).ID->i=j:=fun i j hi hj e=>by
 have h1:=h.ki i hi
 have h2:=h.ki j hj
 have h3:=zfG hi
 have h4:=zfG hj
 rw[e] at h1 h3
 omega
theorem zpA:((thsR c (c.C.getD (cirI c id).toNat default) c.K.length).map fun t=>t.k.ID).Nodup:=by
 have hK:(c.K.map Chk.ID).Nodup:=by
  unfold List.Nodup
  rw[List.pairwise_map,zfi]
  intro i j hij hj e
  have:=zq1 h hid i j (by omega) hj e
  omega
 unfold thsR thsK
 rw[jZ,kR,jbb,wC]
 constructor
 ·intro hm
  obtain⟨k,hk,e⟩:=kI.1 hm
  have hk:=(kW.1 hk).1
  obtain⟨j,hj,rfl⟩:=zbi default hk
  have o:=(h.ks j hj).id
  have e:(c.K.getD j default).ID=0:=e
  omega
 exact hK.sublist ((jbn (l:=c.K)).map Chk.ID)
theorem zpz:∀ i j,i<(thsR c (c.C.getD (cirI c id).toNat default) c.K.length).length->j<(thsR c (c.C.getD (cirI c id).toNat default) c.K.length).length->((thsR c (c.C.getD (cirI c id).toNat default) c.K.length).getD i default).k.ID=((thsR c (c.C.getD (cirI c id).toNat default) c.K.length).getD j default).k.ID->i=j:=fun i j hi hj e=>by
 have hn:=zpA h hid
 unfold List.Nodup at hn
 rw[List.pairwise_map,zfi] at hn
 rcases jbz i j with h1 | h1 | h1
 ·exact absurd e (hn i j h1 hj)
 ·exact h1
 exact absurd e.symm (hn j i h1 hi)
theorem zlP:outI (c.C.getD (cirI c id).toNat default) (tgsL c (c.C.getD (cirI c id).toNat default)) (tgsL c (c.C.getD (cirI c id).toNat default)).length=[] ↔ clsL (c.C.getD (cirI c id).toNat default) (thsL c (c.C.getD (cirI c id).toNat default))=[]:=by
 have hx:=h.cs _ (zaN hid).1
 rw[zj1 hx.z.2.1,znk (zpz h hid),zlJ (zc8 h hid),ziO]
theorem zsA (t:Int) (hc:clsL (c.C.getD (cirI c id).toNat default) (thsL c (c.C.getD (cirI c id).toNat default))=[]):limF (c.C.getD (cirI c id).toNat default) t (tgsL c (c.C.getD (cirI c id).toNat default))=⟨(zer (c.C.getD (cirI c id).toNat default) (thsL c (c.C.getD (cirI c id).toNat default)) t).lo,(zer (c.C.getD (cirI c id).toNat default) (thsL c (c.C.getD (cirI c id).toNat default)) t).hi⟩:=by
 have hx:=h.cs _ (zaN hid).1
 have hf:=(ziO _ _).1 hc
 rw[zj1 hx.z.2.1]
 exact zqu (zc8 h hid) fun g hg=>hf.1 g ((zc8 h hid).mem_iff.1 hg)
end
theorem zpf {c:Cirs} {id t:Int} (h0:cirsE c=0) (h1:¬ cirI c id<0) (h2:within t (c.C.getD (cirI c id).toNat default).From (c.C.getD (cirI c id).toNat default).To=true) :
  zerR c id t=if clsL (c.C.getD (cirI c id).toNat default) (thsL c (c.C.getD (cirI c id).toNat default))=[] then (⟨(zer (c.C.getD (cirI c id).toNat default) (thsL c (c.C.getD (cirI c id).toNat default)) t).lo,(zer (c.C.getD (cirI c id).toNat default) (thsL c (c.C.getD (cirI c id).toNat default)) t).hi⟩,0) else (⟨0,0⟩,9):=by
 have ek:knw c id [t]=(c.C.getD (cirI c id).toNat default,thsL c (c.C.getD (cirI c id).toNat default),0):=by
  unfold knw
  rw[kG (fun hh=>hh h0),kG h1,kH (by rw[jao,h2]; rfl)]
 have ea:atR c id t=(c.C.getD (cirI c id).toNat default,thsL c (c.C.getD (cirI c id).toNat default),agrE (c.C.getD (cirI c id).toNat default) (thsL c (c.C.getD (cirI c id).toNat default))):=by
  unfold atR; rw[ek]; dsimp only; rw[kH rfl]
 unfold zerR
 rw[ea]
 dsimp only
 unfold agrE
 by_cases hc:clsL (c.C.getD (cirI c id).toNat default) (thsL c (c.C.getD (cirI c id).toNat default))=[]
 ·rw[kH hc,kG (by decide),kH hc]
 rw[kG hc,kH (by decide),kG hc]
theorem zgN {c:Cirs} {id t e:Int} (h:knw c id [t]=((knw c id [t]).1,(knw c id [t]).2.1,e)) (he:e≠0):zerR c id t=(⟨0,0⟩,e):=by
 have h2:(knw c id [t]).2.2=e:=jI (fun z:Cir × List Thg × Int=>z.2.2) h
 have ea:(atR c id t).2.2=e:=by
  show (if (knw c id [t]).2.2=0 then _ else (knw c id [t]).2.2)=e
  rw[h2,kG he]
 unfold zerR
 rw[ea,kH he]
theorem zpi {c:Cirs} {id t:Int} (h0:cirsE c≠0):zerR c id t=(⟨0,0⟩,cirsE c):=zgN (by unfold knw; rw[kH h0]) h0
theorem zph {c:Cirs} {id t:Int} (h0:cirsE c=0) (h1:cirI c id<0):zerR c id t=(⟨0,0⟩,5):=zgN (by unfold knw; rw[kG (fun hh=>hh h0),kH h1]) (by decide)
theorem zpg {c:Cirs} {id t:Int} (h0:cirsE c=0) (h1:¬ cirI c id<0) (h2:within t (c.C.getD (cirI c id).toNat default).From (c.C.getD (cirI c id).toNat default).To=false):zerR c id t=(⟨0,0⟩,1):=zgN (by unfold knw; rw[kG (fun hh=>hh h0),kG h1,kG (by rw[jao,h2,qN]; decide)]) (by decide)
def useR (c:Cirs) (id t:Int):Cir × Int:=
 if cirsE c≠0 then (default,cirsE c) else if cirI c id<0 then (default,5)
 else if within t (c.C.getD (cirI c id).toNat default).From (c.C.getD (cirI c id).toNat default).To=false then (default,1) else (c.C.getD (cirI c id).toNat default,0)
theorem zrX (c:Cirs) (id t:Int):Spec PP 283 [c.v,N id,.agg [I t,I t]] [.agg ((useR c id t).1.ds ++ [I (useR c id t).2])]:=by
 refine sA Tryz.func283 ?_
 refine cP (ze9 c) rfl rfl ?_
 apply bY <;> intro h0
 ·have e:useR c id t=(default,cirsE c):=by unfold useR; rw[kH (by simpa using h0)]
  rw[e]
  exact r1C rfl rfl rfl rfl rfl rfl (zaa _)
 have h0:cirsE c=0:=by simpa using h0
 have ok:=zbB h0
 have e0:useR c id t=if cirI c id<0 then (default,5) else if within t (c.C.getD (cirI c id).toNat default).From (c.C.getD (cirI c id).toNat default).To=false then (default,1) else (c.C.getD (cirI c id).toNat default,0):=by unfold useR; rw[kG (fun hh=>hh h0)]
 refine cP (zg2 c id (by have:=ok.n; omega)) rfl rfl ?_
 by_cases h1:cirI c id<0
 ·have e1:fndC c id=(default,false):=by unfold fndC; rw[kH h1]
  rw[e1,e0,kH h1]
  refine sT ?_
  exact r1C rfl rfl rfl rfl rfl rfl (zaa _)
 have e1:fndC c id=(c.C.getD (cirI c id).toNat default,true):=by unfold fndC; rw[kG h1]
 rw[e1,e0,kG h1]
 generalize c.C.getD (cirI c id).toNat default=x
 refine sF ?_
 apply bY <;> intro h2
 ·have:t<t:=dT h2
  omega
 repeat first | apply sT | apply sF
 apply bY <;> intro h3
 ·have h3:t<x.From:=dT h3
  repeat first | apply sT | apply sF
  rw[kH (by unfold within; rw[jH (show ¬ x.From<=t by omega)]; rfl)]
  exact r1C rfl rfl rfl rfl rfl rfl (zaa _)
 have h3:¬ t<x.From:=dF h3
 repeat first | apply sT | apply sF
 apply bY <;> intro h4
 ·have h4:x.To<t:=dT h4
  rw[kH (by unfold within; rw[jH (show ¬ t<=x.To by omega),kN])]
  exact r1C rfl rfl rfl rfl rfl rfl (zaa _)
 have h4:¬ x.To<t:=dF h4
 rw[kG (by rw[zab.2 (show x.From<=t/\t<=x.To by omega)]; decide)]
 exact r1C rfl rfl rfl rfl rfl rfl (zaa _)
theorem zg4 (c:Cirs) (id t:Int):Spec PP 245 [c.v,N id,N t] [.agg [I (zerR c id t).1.Lo,I (zerR c id t).1.Hi,I (zerR c id t).2]]:=by
 refine sA Tryz.func245 ?_
 refine cP (zrX c id t) rfl rfl ?_
 by_cases h0:cirsE c=0
 ·by_cases h1:cirI c id<0
  ·have e:useR c id t=(default,5):=by unfold useR; rw[kG (fun hh=>hh h0),kH h1]
   rw[e,zph h0 h1]
   refine Split.yes rfl ?_
   exact r1C rfl rfl rfl rfl rfl rfl (zaa _)
  cases h2:within t (c.C.getD (cirI c id).toNat default).From (c.C.getD (cirI c id).toNat default).To with
  | false=>
   have e:useR c id t=(default,1):=by unfold useR; rw[kG (fun hh=>hh h0),kG h1,kH h2]
   rw[e,zpg h0 h1 h2]
   refine Split.yes rfl ?_
   exact r1C rfl rfl rfl rfl rfl rfl (zaa _)
  | true=>
  have e:useR c id t=(c.C.getD (cirI c id).toNat default,0):=by unfold useR; rw[kG (fun hh=>hh h0),kG h1,kG (by rw[h2]; decide)]
  have ok:=zbB h0
  have hC:=zg3 c id ok h1 (zrB ok h1)
  have hTh:=zf9 c id ok h1
  have hcl:=zlP ok h1
  have hle:=zsA ok h1 t
  have hto:=zrB ok h1
  have hlen:(tgsL c (c.C.getD (cirI c id).toNat default)).length<=61:=jM (zeT c _ _) (by have:=ok.m; omega)
  have hx:=ok.cs _ (zaN h1).1
  have ht:=zab.1 h2
  rw[e,zpf h0 h1 h2]
  generalize c.C.getD (cirI c id).toNat default=x at *
  refine Split.no rfl ?_
  refine CallSt.ro hC rfl rfl ?_
  by_cases hc:clsL x (thsL c x)=[]
  ·have ho:=hcl.2 hc
   rw[kH hc]
   refine Split.no (by rw[ho]; rfl) ?_
   refine oL (List.range 10) (FzOb.no ?_)
   refine CallOb.ro hTh rfl rfl ?_
   refine oP (zkw x (tgsL c x) t hx.d hto (by omega) (by have:=hx.t; omega)) rfl rfl ?_
   rw[hle hc]
   exact r1C rfl rfl rfl rfl rfl rfl (zaa _)
  have ho:outI x (tgsL c x) (tgsL c x).length ≠ []:=fun h=>hc (hcl.1 h)
  have hp:0<(outI x (tgsL c x) (tgsL c x).length).length:=ja1.2 ho
  rw[kG hc]
  refine Split.yes (jG (by omega)) ?_
  exact r1C rfl rfl rfl rfl rfl rfl (zaa _)
 have e:useR c id t=(default,cirsE c):=by unfold useR; rw[kH h0]
 rw[e,zpi h0]
 refine Split.yes (by simpa using h0) ?_
 exact r1C rfl rfl rfl rfl rfl rfl (zaa _)
def askR (c:Cirs) (r:Rdg):Spn × Int:=if rdgE c r≠0 then (⟨0,0⟩,rdgE c r) else zerR c r.C r.Tick
theorem zm8 (c:Cirs) (r:Rdg):Spec PP 287 [c.v,r.v] [.agg [I (askR c r).1.Lo,I (askR c r).1.Hi,I (askR c r).2]]:=by
 refine sA Tryz.func287 ?_
 refine cP (ze9 c) rfl rfl ?_
 apply bY <;> intro h0
 ·have h0:cirsE c≠0:=by simpa using h0
  have e:askR c r=(⟨0,0⟩,cirsE c):=by
   have:rdgE c r=cirsE c:=by unfold rdgE; rw[kH h0]
   unfold askR; rw[this,kH h0]
  rw[e]
  exact r1C rfl rfl rfl rfl rfl rfl (zaa _)
 have h0:cirsE c=0:=by simpa using h0
 have e0:rdgE c r=if (!within r.Shown 0 3599 || !within r.Slack 1 100)=true then 1 else 0:=by unfold rdgE; rw[kG (fun hh=>hh h0)]
 have bad:(!within r.Shown 0 3599 || !within r.Slack 1 100)=true->askR c r=(⟨0,0⟩,1):=fun h=>by
  unfold askR; rw[e0,kH h,kH (by decide)]
 refine cP (zaB r.Shown 0 3599) rfl rfl ?_
 refine cP (zaB r.Slack 1 100) rfl rfl ?_
 apply bY <;> intro h1
 ·have h1:(!within r.Shown 0 3599)=true:=h1
  repeat first | apply sT | apply sF
  rw[bad (by rw[h1]; rfl)]
  exact r1C rfl rfl rfl rfl rfl rfl (zaa _)
 have h1:(!within r.Shown 0 3599)=false:=h1
 repeat first | apply sT | apply sF
 apply bY <;> intro h2
 ·have h2:(!within r.Slack 1 100)=true:=h2
  rw[bad (by rw[h2,kO])]
  exact r1C rfl rfl rfl rfl rfl rfl (zaa _)
 have h2:(!within r.Slack 1 100)=false:=h2
 have e:askR c r=zerR c r.C r.Tick:=by
  have e1:rdgE c r=0:=by rw[e0,h1,h2]; rfl
  unfold askR; rw[e1,kG (fun hh=>hh rfl)]
 refine cP (zg4 c r.C r.Tick) rfl rfl ?_
 rw[e]
 exact r1C rfl rfl rfl rfl rfl rfl (zaa _)
theorem ztb {c:Cirs} {r:Rdg} (h:(askR c r).2≠0):wdgR c r=(⟨0,0⟩,(askR c r).2):=by
 unfold askR at h ⊢
 unfold wdgR
 split
 ·rfl
 rename_i h1
 rw[kG h1] at h
 rw[kH h]
theorem ztc {c:Cirs} {r:Rdg} (h:(askR c r).2=0):rdgE c r=0/\(zerR c r.C r.Tick).2=0/\askR c r=zerR c r.C r.Tick:=by
 unfold askR at h ⊢
 split at h
 ·rename_i h1; exact absurd h h1
 rename_i h1
 rw[kG h1]
 exact⟨jL h1,h,rfl⟩
theorem zh6 (c:Cirs) (r:Rdg):Spec PP 246 [c.v,r.v] [.agg [I (wdgR c r).1.F,I (wdgR c r).1.T,I (wdgR c r).2]]:=by
 refine sA Tryz.func246 ?_
 refine cP (zm8 c r) rfl rfl ?_
 apply bY <;> intro h0
 ·have h0:(askR c r).2≠0:=by simpa using h0
  rw[ztb h0]
  exact r1C rfl rfl rfl rfl rfl rfl (zaa _)
 have h0:(askR c r).2=0:=by simpa using h0
 obtain⟨h1,h2,h3⟩:=ztc h0
 have hs:(0<=r.Shown/\r.Shown<=3599)/\(1<=r.Slack/\r.Slack<=100):=by
  unfold rdgE at h1
  split at h1
  ·rename_i h; exact absurd h1 h
  split at h1
  ·cases h1
  rename_i h
  simp only[jX,jY,not_or,jam] at h
  exact⟨zab.1 h.1,zab.1 h.2⟩
 have zb:=zgO h2
 rw[h3]
 have e0:wdgR c r=if 900<2 * r.Slack+(zerR c r.C r.Tick).1.Hi - (zerR c r.C r.Tick).1.Lo then (⟨0,0⟩,50) else (wdg (r.Shown - r.Slack - (zerR c r.C r.Tick).1.Hi) (2 * r.Slack+(zerR c r.C r.Tick).1.Hi - (zerR c r.C r.Tick).1.Lo),0):=by
  unfold wdgR; rw[kG (fun hh=>hh h1),kG (fun hh=>hh h2)]
 rw[e0]
 generalize (zerR c r.C r.Tick).1=z at *
 refine⟨i6,⟨i6,⟨i6,?_⟩⟩⟩
 apply bY <;> intro h4
 ·have h4:900<2 * r.Slack+z.Hi - z.Lo:=dT h4
  rw[kH h4]
  exact r1C rfl rfl rfl rfl rfl rfl (zaa _)
 have h4:¬ 900<2 * r.Slack+z.Hi - z.Lo:=dF h4
 rw[kG h4]
 refine oL (List.range 23) (FzOb.no ?_)
 refine⟨i6,⟨i6,?_⟩⟩
 refine oP (zg5 (r.Shown - r.Slack - z.Hi) (by omega)) rfl rfl ?_
 refine⟨i6,⟨i6,?_⟩⟩
 refine oP (zg5 (r.Shown+r.Slack - z.Lo) (by omega)) rfl rfl ?_
 refine r1C rfl rfl rfl rfl rfl rfl ⟨⟨rfl,rfl⟩,⟨rfl,?_⟩,⟨rfl,rfl⟩,trivial⟩
 show (r.Shown+r.Slack - z.Lo) % 3600=(r.Shown - r.Slack - z.Hi+(2 * r.Slack+z.Hi - z.Lo)) % 3600
 congr 1; omega
theorem zqo (m:Mp) (p:Place):onM m p=(decide (0<=p.X) && decide (p.X<m.W) && decide (0<=p.Y) && decide (p.Y<m.H)):=by
 rw[kP,zad]; simp only[jP,kA]; omega
theorem zr1 (m:Mp) (p:Place):Spec PP 187 [m.v,p.v] [B (onM m p)]:=by
 refine sA Tryz.func187 ?_
 rw[zqo]
 apply bY <;> intro h1
 ·have h1:decide (0<=p.X)=true:=h1
  refine sT ?_
  apply bY <;> intro h2
  ·have h2:decide (p.X<m.W)=true:=h2
   refine sT ?_
   apply bY <;> intro h3
   ·have h3:decide (0<=p.Y)=true:=h3
    refine sT ?_
    refine r1B rfl ?_
    rw[h1,h2,h3]; rfl
   have h3:decide (0<=p.Y)=false:=h3
   refine sF ?_
   refine r1B rfl ?_
   rw[h1,h2,h3]; rfl
  have h2:decide (p.X<m.W)=false:=h2
  refine sF (sF (sF ?_))
  refine r1B rfl ?_
  rw[h1,h2]; rfl
 have h1:decide (0<=p.X)=false:=h1
 refine sF (sF (sF (sF (sF ?_))))
 refine r1B rfl ?_
 rw[h1]; rfl
theorem zky (h:Int):Spec PP 238 [N h] [B (within h 0 200)]:=by
 refine sA Tryz.func238 ?_
 repeat' first
  | refine sT ?_
  | refine sF ?_
  | refine bY (fun _=>?_) (fun _=>?_)
  | refine r1B rfl ?_
 all_goals (unfold within; simp_all <;> omega)
theorem zkz (h:Int):Spec PP 314 [N h] [B (within h 0 1048576)]:=by
 refine sA Tryz.func314 ?_
 repeat' first
  | refine sT ?_
  | refine sF ?_
  | refine bY (fun _=>?_) (fun _=>?_)
  | refine r1B rfl ?_
 all_goals (unfold within; simp_all <;> omega)
theorem zp6 (a b:Place) (d:Int) (ha:on a=true) (hb:on b=true) (hd:0<=d/\d<=100):Spec PP 323 [a.v,b.v,N d] [B (nearB a b d)]:=by
 obtain⟨a1,a2⟩:=zbb.1 ha
 obtain⟨b1,b2⟩:=zbb.1 hb
 have m1:=mulB (a:=a.X - b.X) (b:=a.X - b.X) (x:=48) (y:=48) (by omega) (by omega)
 have m2:=mulB (a:=a.Y - b.Y) (b:=a.Y - b.Y) (x:=48) (y:=48) (by omega) (by omega)
 have m3:=mulB (a:=d) (b:=d) (x:=100) (y:=100) (by omega) (by omega)
 refine sA Tryz.func323 ?_
 refine⟨i6,⟨i6,⟨i6,⟨i6,⟨i6,⟨i6,⟨i6,⟨i6,?_⟩⟩⟩⟩⟩⟩⟩⟩
 exact r1B rfl rfl
theorem zew (c:Ctry) (id:Int) (hn:c.T.length<=1000000):Spec PP 239 [c.v,N id] [N (towI c.T id)]:=by
 refine sA Tryz.func239 ?_
 refine LoopOb.of (σ:=Nat) (fun i=>([(1,.d (I id)),(2,.box 2 0),(5,.d (I i))],[(2,bxCt c)])) (fun i=>i<=c.T.length /\ ∀ j,j<i->((c.T.getD j default).ID==id)=false) (fun i=>c.T.length - i) 0
  ⟨rfl,⟨obCt rfl,trivial⟩,wq rfl⟩ z0L fun i hi=>?_
 obtain⟨hi,ha⟩:=hi
 apply bY <;> intro h1
 ·have h1:i<c.T.length:=by have:=dT h1; omega
  refine⟨⟨rfl,by omega,by omega⟩,?_⟩
  apply bY <;> intro h2
  ·refine r1I rfl ?_
   exact (zak (p:=fun t:Twr=>t.ID==id) default h1 h2 ha).symm
  refine⟨i6,?_⟩
  refine⟨i+1,⟨rfl,⟨obCt rfl,trivial⟩,wq rfl⟩,⟨h1,fun j hj=>?_⟩,(msr (by omega))⟩
  by_cases e:j=i
  ·subst e; exact h2
  exact ha j (by omega)
 have h1:i=c.T.length:=by have:=dF h1; omega
 subst h1
 refine r1I rfl ?_
 exact (zao (p:=fun t:Twr=>t.ID==id) default ha).symm
theorem zr0 (c:Ctry) (t:Int) (hn:c.Z.length<=1000000):Spec PP 316 [c.v,N t] [N (farZ t c.Z)]:=by
 refine sA Tryz.func316 ?_
 refine LoopOb.of (σ:=Nat) (fun i=>([(1,.d (I t)),(2,.box 2 0),(5,.d (I i))],[(2,bxCt c)])) (fun i=>i<=c.Z.length/\farZ t (c.Z.drop i)=farZ t c.Z) (fun i=>c.Z.length - i) 0
  ⟨rfl,⟨obCt rfl,trivial⟩,wq rfl⟩ ⟨jF _,rfl⟩ fun i hi=>?_
 obtain⟨hi,ha⟩:=hi
 apply bY <;> intro h1
 ·have h1:i<c.Z.length:=by have:=dT h1; omega
  have hd:=zgy (t:=t) h1
  refine⟨⟨rfl,by omega,by omega⟩,?_⟩
  apply bY <;> intro h2
  ·have h2:(c.Z.getD i default).From<=t:=dT h2
   refine⟨⟨rfl,by omega,by omega⟩,?_⟩
   refine sT ?_
   apply bY <;> intro h3
   ·have h3:t<=(c.Z.getD i default).To:=dT h3
    refine⟨⟨rfl,by omega,by omega⟩,?_⟩
    refine r1I rfl ?_
    rw[<- ha,hd,kH ⟨h2,h3⟩]; rfl
   have h3:¬ t<=(c.Z.getD i default).To:=dF h3
   rw[kG fun h=>h3 h.2] at hd
   refine⟨i6,?_⟩
   exact⟨i+1,⟨rfl,⟨obCt rfl,trivial⟩,wq rfl⟩,⟨h1,by rw[<- hd]; exact ha⟩,(msr (by omega))⟩
  have h2:¬ (c.Z.getD i default).From<=t:=dF h2
  refine sF (sF ?_)
  rw[kG fun h=>h2 h.1] at hd
  refine⟨i6,?_⟩
  exact⟨i+1,⟨rfl,⟨obCt rfl,trivial⟩,wq rfl⟩,⟨h1,by rw[<- hd]; exact ha⟩,(msr (by omega))⟩
 have h1:i=c.Z.length:=by have:=dF h1; omega
 subst h1
 rw[jaQ] at ha
 refine r1I rfl ?_
 rw[<- ha]; rfl
theorem za6 (m:Mp):validM m=(!(decide (m.W<1) || decide (49<m.W) || decide (m.H<1) || decide (49<m.H) || !decide ((m.G.length:Int)=m.W * m.H)) && !(m.G.any fun h=>!within h 0 4000)):=by
 rw[kP]
 unfold validM within
 simp only[jP,jY,qL,kA,jaO,jay,qO,Bool.not_not]
 constructor
 ·intro h; exact⟨by omega,h.2⟩
 intro h; exact⟨by omega,h.2⟩
theorem znd (m:Mp):Spec PP 237 [m.v] [B (validM m)]:=by
 refine sA Tryz.func237 ?_
 apply bY <;> intro k0
 ·have k0:decide (m.W<1)=true:=k0
  refine sT (sT (sT (sT (sT (sT (sT (sT ?_)))))))
  refine r1B rfl ?_
  rw[za6]; simp only[k0,kO,qR,jap,qN]
 have k0:decide (m.W<1)=false:=k0
 refine sF ?_
 apply bY <;> intro k1
 ·have k1:decide (49<m.W)=true:=k1
  refine sT (sT (sT (sT (sT (sT ?_)))))
  refine r1B rfl ?_
  rw[za6]; simp only[k0,k1,kO,qR,jap,qN]
 have k1:decide (49<m.W)=false:=k1
 refine sF ?_
 apply bY <;> intro k2
 ·have k2:decide (m.H<1)=true:=k2
  refine sT (sT (sT (sT ?_)))
  refine r1B rfl ?_
  rw[za6]; simp only[k0,k1,k2,kO,qR,jap,qN]
 have k2:decide (m.H<1)=false:=k2
 refine sF ?_
 apply bY <;> intro k3
 ·have k3:decide (49<m.H)=true:=k3
  refine sT (sT ?_)
  refine r1B rfl ?_
  rw[za6]; simp only[k0,k1,k2,k3,kO,qR,jap,qN]
 have k3:decide (49<m.H)=false:=k3
 have b1:1<=m.W/\m.W<=49:=by have:=wH k0; have:=wH k1; omega
 have b2:1<=m.H/\m.H<=49:=by have:=wH k2; have:=wH k3; omega
 have b3:=mulB (a:=m.W) (b:=m.H) (x:=49) (y:=49) (by omega) (by omega)
 refine⟨i6,?_⟩
 refine sF ?_
 apply bY <;> intro k4
 ·have k4:(m.G.length:Int)≠m.W * m.H:=by simpa using k4
  refine r1B rfl ?_
  rw[za6,jH k4]; simp
 have k4:(m.G.length:Int)=m.W * m.H:=by simpa using k4
 have e0:validM m = !(m.G.any fun h=>!within h 0 4000):=by rw[za6,k0,k1,k2,k3,jG k4]; simp
 refine LoopOb.of (σ:=Nat) (fun i=>([(1,.box 1 0),(3,.d (I i))],[(1,.box (m.ds.map AV.d))])) (fun i=>i<=m.G.length /\ ∀ j,j<i->within (m.G.getD j 0) 0 4000=true) (fun i=>m.G.length - i) 0
  ⟨rfl,⟨obD m.ds rfl,trivial⟩,wq rfl⟩ z0L fun i hi=>?_
 obtain⟨hi,ha⟩:=hi
 apply bY <;> intro h1
 ·have h1:i<m.G.length:=by have:=dT h1; omega
  have bad:within (m.G.getD i 0) 0 4000=false->validM m=false:=fun h=>by
   rw[e0,kJ.2 ⟨_,gd1 h1 0,by rw[h]; rfl⟩]; rfl
  refine⟨⟨rfl,by omega,by omega⟩,?_⟩
  apply bY <;> intro h2
  ·have h2:m.G.getD i 0<0:=dT h2
   refine sT (sT ?_)
   refine r1B rfl ?_
   exact (bad (by unfold within; rw[jH (by omega)]; rfl)).symm
  have h2:¬ m.G.getD i 0<0:=dF h2
  refine⟨⟨rfl,by omega,by omega⟩,?_⟩
  refine sF ?_
  apply bY <;> intro h3
  ·have h3:4000<m.G.getD i 0:=dT h3
   refine r1B rfl ?_
   exact (bad (by unfold within; rw[jH (p:=m.G.getD i 0<=4000) (by omega),kN])).symm
  have h3:¬ 4000<m.G.getD i 0:=dF h3
  refine⟨i6,?_⟩
  refine⟨i+1,⟨rfl,⟨obD m.ds rfl,trivial⟩,wq rfl⟩,⟨h1,fun j hj=>?_⟩,(msr (by omega))⟩
  by_cases e:j=i
  ·subst e; exact zab.2 (by omega)
  exact ha j (by omega)
 have h1:i=m.G.length:=by have:=dF h1; omega
 subst h1
 refine r1B rfl ?_
 rw[e0,zpe 0 fun j hj=>by rw[ha j hj]; rfl]; rfl
theorem zfa (n:Int) (hn:-1000000<=n/\n<=1000000):Spec PP 356 [N n] [N ((n.natAbs:Nat):Int)]:=by
 refine sA Tryz.func356 ?_
 refine⟨i6,?_⟩
 exact r1I rfl (by show max n (-n)=_; omega)
theorem za9 (l k:Int):Spec PP 357 [N 0,N l,N k] [(Place.mk l k).v]:=by
 refine sA Tryz.func357 ?_
 refine Split.no rfl ?_
 exact r1C rfl rfl rfl rfl rfl rfl (zbF rfl rfl)
theorem za8 (l k:Int):Spec PP 357 [N 1,N l,N k] [(Place.mk k l).v]:=by
 refine sA Tryz.func357 ?_
 refine Split.yes rfl ?_
 exact r1C rfl rfl rfl rfl rfl rfl (zbF rfl rfl)
theorem zcn (m:Mp) (p:Place) (hv:validM m=true) (hp:onM m p=true):Spec PP 342 [m.v,p.v] [N (grd m p)]:=by
 obtain⟨w,h,-,-⟩:=zah hv
 obtain⟨a1,a2⟩:=zad.1 hp
 have g:=zaQ hv hp
 have m1:=mulB (a:=p.Y) (b:=m.W) (x:=49) (y:=49) (by omega) (by omega)
 refine sA Tryz.func342 ?_
 refine⟨i6,⟨i6,⟨⟨rfl,g.1.1,g.1.2⟩,?_⟩⟩⟩
 exact r1I rfl rfl
def dvs (a b:Int):Int:=max ((Nat.gcd a.natAbs b.toNat:Nat):Int) 1
theorem zjl (a b:Int) (ha:-1000000000<=a/\a<=1000000000) (hb:0<=b/\b<=1000000000):Spec PP 360 [N a,N b] [N (dvs a b)]:=by
 have loop:∀ {s:St} {K:KK} (x0:Nat),s.sl 0 = .d (.int .i64 x0)->s.sl 1 = .d (.int .i64 b)->True:=fun _ _ _=>trivial
 refine sA Tryz.func360 ?_
 apply bY <;> intro h0
 ·have h0:a<0:=dT h0
  refine⟨i6,?_⟩
  refine LoopOb.of (σ:=Nat × Nat) (fun p=>([(0,.d (I p.1)),(1,.d (I p.2))],[])) (fun p=>Nat.gcd p.1 p.2=Nat.gcd a.natAbs b.toNat/\p.1<=1000000000/\p.2<=1000000000) (fun p=>p.2) (a.natAbs,b.toNat)
   ⟨rfl,trivial,avI rfl (by omega),avI rfl (by omega),trivial⟩ ⟨rfl,by omega,by omega⟩ fun⟨x,y⟩ ⟨hg,h1,h2⟩=>?_
  dsimp only at hg h1 h2 ⊢
  apply bY <;> intro h3
  ·have h3:0<y:=by have:=dT h3; omega
   refine oL (List.range 6) (FzOb.no ?_)
   refine⟨by omega,?_⟩
   have hlt:=jas x h3
   refine⟨(y,x % y),⟨rfl,trivial,avR _ rfl,avI rfl (by rw[wA (by omega)]; rfl),trivial⟩,⟨?_,h2,(show x % y<=1000000000 by omega)⟩,hlt⟩
   dsimp only
   rw[<- hg,Nat.gcd_comm x y,Nat.gcd_rec y x,Nat.gcd_comm]
  have h3:y=0:=by have:=dF h3; omega
  subst h3
  refine r1I rfl ?_
  unfold dvs
  rw[<- hg,Nat.gcd_zero_right]
 have h0:¬ a<0:=dF h0
 refine LoopOb.of (σ:=Nat × Nat) (fun p=>([(0,.d (I p.1)),(1,.d (I p.2))],[])) (fun p=>Nat.gcd p.1 p.2=Nat.gcd a.natAbs b.toNat/\p.1<=1000000000/\p.2<=1000000000) (fun p=>p.2) (a.natAbs,b.toNat)
  ⟨rfl,trivial,avI rfl (by omega),avI rfl (by omega),trivial⟩ ⟨rfl,by omega,by omega⟩ fun⟨x,y⟩ ⟨hg,h1,h2⟩=>?_
 dsimp only at hg h1 h2 ⊢
 apply bY <;> intro h3
 ·have h3:0<y:=by have:=dT h3; omega
  refine oL (List.range 6) (FzOb.no ?_)
  refine⟨by omega,?_⟩
  have hlt:=jas x h3
  refine⟨(y,x % y),⟨rfl,trivial,avR _ rfl,avI rfl (by rw[wA (by omega)]; rfl),trivial⟩,⟨?_,h2,(show x % y<=1000000000 by omega)⟩,hlt⟩
  dsimp only
  rw[<- hg,Nat.gcd_comm x y,Nat.gcd_rec y x,Nat.gcd_comm]
 have h3:y=0:=by have:=dF h3; omega
 subst h3
 refine r1I rfl ?_
 unfold dvs
 rw[<- hg,Nat.gcd_zero_right]
def lowF (n d:Int):Int × Int:=(n.tdiv (dvs n d),d.tdiv (dvs n d))
theorem zdZ (n d:Int):0<dvs n d:=by unfold dvs; omega
theorem zcq {n d : Int} (hn : 0 <= n) (hd : 0 < d) : n = (lowF n d).1 * dvs n d /\ d = (lowF n d).2 * dvs n d := by
  have hg : 0 < Nat.gcd n.natAbs d.toNat := Nat.gcd_pos_of_pos_right _ (by omega)
  have e : dvs n d = ((Nat.gcd n.natAbs d.toNat : Nat) : Int) := by unfold dvs; omega
  obtain ⟨p, hp⟩ := Nat.gcd_dvd_left n.natAbs d.toNat
  obtain ⟨q, hq⟩ := Nat.gcd_dvd_right n.natAbs d.toNat
  generalize hG : Nat.gcd n.natAbs d.toNat = g at *
  have en : n = (g : Int) * p := by have : n = ((n.natAbs : Nat) : Int) := by omega
                                    rw [this, hp]; simp
  have ed : d = (g : Int) * q := by have : d = ((d.toNat : Nat) : Int) := by omega
                                    rw [this, hq]; simp
  unfold lowF
  dsimp only
  rw [e]
  refine ⟨?_, ?_⟩
  · conv => rhs; rw [en]
    rw [Int.mul_tdiv_cancel_left _ (by omega), wJ]; exact en
  conv => rhs; rw [ed]
  rw [Int.mul_tdiv_cancel_left _ (by omega), wJ]; exact ed
theorem zhf {n d:Int} (hn:0<=n) (hd:0<d):(0<=(lowF n d).1/\(lowF n d).1<=n)/\(0<(lowF n d).2/\(lowF n d).2<=d):=by
 obtain⟨e1,e2⟩:=zcq hn hd
 have hg:=zdZ n d
 generalize dvs n d=g at *
 generalize (lowF n d).1=p at *
 generalize (lowF n d).2=q at *
 have p0:0<=p:=by
  rcases jbs p 0 with h | h
  ·have:=Int.mul_neg_of_neg_of_pos h hg; omega
  exact h
 have q0:0<q:=by
  rcases jbs 0 q with h | h
  ·exact h
  have:=Int.mul_nonpos_of_nonpos_of_nonneg h (ja4 hg); omega
 have m1:=jav (show 1<=g by omega) p0
 have m2:=jav (show 1<=g by omega) (ja4 q0)
 omega
theorem zar (n d:Int) (hn:0<=n/\n<=1000000000) (hd:0<d/\d<=1000000000):Spec PP 358 [N n,N d] [.agg [I (lowF n d).1,I (lowF n d).2]]:=by
 have b:=zhf hn.1 hd.1
 have hg:=zdZ n d
 refine sA Tryz.func358 ?_
 refine cP (zjl n d (by omega) (by omega)) rfl rfl ?_
 have e1:n.tdiv (dvs n d)=(lowF n d).1:=rfl
 have e2:d.tdiv (dvs n d)=(lowF n d).2:=rfl
 refine oL (List.range 8) (FzOb.no ?_)
 refine⟨⟨by omega,zaU (by rw[e1]; omega) (by rw[e1]; omega)⟩,⟨⟨by omega,zaU (by rw[e2]; omega) (by rw[e2]; omega)⟩,?_⟩⟩
 exact r1C rfl rfl rfl rfl rfl rfl (zbF rfl rfl)
structure Prf where
  ax:Int
  k:Int
  an:Int
  ad:Int
  gn:Int
  gd:Int
  deriving DecidableEq,Inhabited
abbrev Prf.ds (x:Prf):List D:=[I x.ax,I x.k,I x.an,I x.ad,I x.gn,I x.gd]
abbrev Prf.v (x:Prf):V1:=.agg x.ds
def Prf.at (x:Prf):Nat->D
 | 0=>I x.ax
 | 1=>I x.k
 | 2=>I x.an
 | 3=>I x.ad
 | 4=>I x.gn
 | _=>I x.gd
def prfOf (p:Pnt):Prf:=⟨p.ax,p.k,(lowF p.k p.n).1,(lowF p.k p.n).2,(lowF p.hi p.n).1,(lowF p.hi p.n).2⟩
structure PrfOk (x:Prf):Prop where
  an:0<=x.an/\x.an<=48
  ad:0<x.ad/\x.ad<=48
  gn:0<=x.gn/\x.gn<=192000
  gd:0<x.gd/\x.gd<=48
  le:x.an<=x.ad
theorem zie {p:Pnt} (h:PntOk p) (hn:0<p.n):PrfOk (prfOf p):=by
 have b1:=zhf h.k.1 hn
 have b2:=zhf h.hi.1 hn
 have hk:=h.k
 have hnn:=h.n
 have hh:=h.hi
 have e:=zcq h.k.1 hn
 have hg:=zdZ p.k p.n
 refine⟨?_,?_,?_,?_,?_⟩ <;> show _ <;> unfold prfOf <;> dsimp only
 ·omega
 ·omega
 ·omega
 ·omega
 rcases jbs (lowF p.k p.n).2 (lowF p.k p.n).1 with h1 | h1
 ·have:=Int.mul_lt_mul_of_pos_right h1 hg
  omega
 exact h1
def lsF (a b:Prf):Bool:=decide (a.an * b.ad<b.an * a.ad)
theorem zp8 (a b:Prf) (ha:PrfOk a) (hb:PrfOk b):Spec PP 352 [.agg [I a.an,I a.ad],.agg [I b.an,I b.ad]] [B (lsF a b)]:=by
 have a1:=ha.an
 have a2:=ha.ad
 have b1:=hb.an
 have b2:=hb.ad
 have m1:=mulB (a:=a.an) (b:=b.ad) (x:=48) (y:=48) (by omega) (by omega)
 have m2:=mulB (a:=b.an) (b:=a.ad) (x:=48) (y:=48) (by omega) (by omega)
 refine sA Tryz.func352 ?_
 refine⟨i6,⟨i6,?_⟩⟩
 exact r1B rfl rfl
def ovF (x:Prf) (lo hi:Int):Bool:=decide ((lo * (x.ad - x.an)+hi * x.an) * x.gd<x.gn * x.ad)
theorem zp5 (x:Prf) (lo hi:Int) (hx:PrfOk x) (hl:0<=lo/\lo<=10000) (hh:0<=hi/\hi<=10000):Spec PP 341 [x.v,N lo,N hi] [B (ovF x lo hi)]:=by
 have a1:=hx.an
 have a2:=hx.ad
 have a3:=hx.gn
 have a4:=hx.gd
 have a5:=hx.le
 have m1:=mulB (a:=x.gn) (b:=x.ad) (x:=192000) (y:=48) (by omega) (by omega)
 have m2:=mulB (a:=lo) (b:=x.ad - x.an) (x:=10000) (y:=48) (by omega) (by omega)
 have m3:=mulB (a:=hi) (b:=x.an) (x:=10000) (y:=48) (by omega) (by omega)
 have m4:=mulB (a:=lo * (x.ad - x.an)+hi * x.an) (b:=x.gd) (x:=1000000) (y:=48) (by omega) (by omega)
 refine sA Tryz.func341 ?_
 refine⟨i6,⟨i6,⟨i6,⟨i6,⟨i6,⟨i6,?_⟩⟩⟩⟩⟩⟩
 exact r1B rfl rfl
theorem znj {m:Mp} {a b:Place} {ta tb:Int} {p:Pnt} (h:PntOk p) (hn:0<p.n):ovF (prfOf p) (grd m a+ta) (grd m b+tb)=ovrB m a ta b tb p:=by
 obtain⟨e1,e2⟩:=zcq h.k.1 hn
 obtain⟨e3,e4⟩:=zcq h.hi.1 hn
 have g1:=zdZ p.k p.n
 have g2:=zdZ p.hi p.n
 unfold ovF ovrB abvI prfOf
 dsimp only
 apply kZ.2
 generalize dvs p.k p.n=u at *
 generalize dvs p.hi p.n=w at *
 generalize (lowF p.k p.n).1=an at *
 generalize (lowF p.k p.n).2=ad at *
 generalize (lowF p.hi p.n).1=gn at *
 generalize (lowF p.hi p.n).2=gd at *
 generalize grd m a+ta=A at *
 generalize grd m b+tb=C at *
 have k1:(A * (ad - an)+C * an) * gd * (u * w)=(A * (p.n - p.k)+C * p.k) * p.n:=by
  have x1:A * (p.n - p.k)=A * (ad - an) * u:=by rw[e1,e2]; grind
  have x2:C * p.k=C * an * u:=by rw[e1]; grind
  have x3:p.n=gd * w:=e4
  rw[x1,x2]
  conv=>rhs; rw[x3]
  grind
 have k2:gn * ad * (u * w)=p.hi * p.n:=by
  conv=>rhs; rw[e3,e2]
  grind
 have huw:=ja9 g1 g2
 have s1:(A * (ad - an)+C * an) * gd<gn * ad ↔ (A * (ad - an)+C * an) * gd * (u * w)<gn * ad * (u * w):=(Int.mul_lt_mul_right huw).symm
 have s2:A * (p.n - p.k)+C * p.k<p.hi ↔ (A * (p.n - p.k)+C * p.k) * p.n<p.hi * p.n:=(Int.mul_lt_mul_right hn).symm
 rw[s1,k1,k2,<- s2]
 have c1:(p.n - p.k) * A=A * (p.n - p.k):=wJ _ _
 have c2:p.k * C=C * p.k:=wJ _ _
 rw[c1,c2]
 omega
theorem mix0 {m:Mp} {a b:Place} {k:Int}:(0<(crsY a.X a.Y b.X b.Y k).tmod ((b.X - a.X).natAbs:Int)->grd m ⟨(crsX a.X b.X k),((crsY a.X a.Y b.X b.Y k).tdiv ((b.X - a.X).natAbs:Int))⟩ * (((b.X - a.X).natAbs:Int) - (crsY a.X a.Y b.X b.Y k).tmod ((b.X - a.X).natAbs:Int))+grd m ⟨(crsX a.X b.X k),(((crsY a.X a.Y b.X b.Y k).tdiv ((b.X - a.X).natAbs:Int))+1)⟩ * (crsY a.X a.Y b.X b.Y k).tmod ((b.X - a.X).natAbs:Int)=(crs0 m a b k).hi)
  /\ ((crsY a.X a.Y b.X b.Y k).tmod ((b.X - a.X).natAbs:Int)=0->grd m ⟨(crsX a.X b.X k),((crsY a.X a.Y b.X b.Y k).tdiv ((b.X - a.X).natAbs:Int))⟩ * ((b.X - a.X).natAbs:Int)=(crs0 m a b k).hi):=by
 unfold crs0 crsH
 dsimp only
 refine⟨fun h=>?_,fun h=>?_⟩
 ·rw[kH h,wJ (grd m ⟨(crsX a.X b.X k),((crsY a.X a.Y b.X b.Y k).tdiv ((b.X - a.X).natAbs:Int))⟩),wJ (grd m ⟨(crsX a.X b.X k),(((crsY a.X a.Y b.X b.Y k).tdiv ((b.X - a.X).natAbs:Int))+1)⟩)]
 rw[kG (by omega),h,Int.sub_zero,wJ]
theorem zg7 (m:Mp) (a b:Place) (k:Int) (hv:validM m=true) (ha:onM m a=true) (hb:onM m b=true) (hk:1<=k/\k<=48):Spec PP 351 [m.v,a.v,b.v,.agg [I 0,I k]] (if k<((b.X - a.X).natAbs:Int) then [(prfOf (crs0 m a b k)).v,B true] else [.agg [I 0,I 0,I 0,I 0,I 0,I 0],B false]):=by
 obtain⟨w,h,-,-⟩:=zah hv
 obtain⟨a1,a2⟩:=zad.1 ha
 obtain⟨b1,b2⟩:=zad.1 hb
 by_cases hkn:k<((b.X - a.X).natAbs:Int)
 ·rw[kH hkn]
  have C:=zeF (f0:=a.X) (f1:=a.Y) (t0:=b.X) (t1:=b.Y) (k:=k) (lo:=0) (hi:=m.H - 1) (by omega) (by omega) (by omega) ⟨hk.1,hkn⟩
  have m1:=mulB (a:=b.Y - a.Y) (b:=k) (x:=48) (y:=48) (by omega) (by omega)
  have m3:=mulB (a:=a.Y) (b:=((b.X - a.X).natAbs:Int)) (x:=48) (y:=48) (by omega) (by omega)
  have hx:=C.x
  have hw:=C.w
  have hr:=C.r
  have hu:=C.u
  have eX:=zhv (f0:=a.X) (t0:=b.X) (k:=k) (by omega)
  have eY:a.Y * ((b.X - a.X).natAbs:Int)+(b.Y - a.Y) * k=crsY a.X a.Y b.X b.Y k:=by unfold crsY; rw[wJ (b.Y - a.Y) k]
  have o1:onM m ⟨(crsX a.X b.X k),((crsY a.X a.Y b.X b.Y k).tdiv ((b.X - a.X).natAbs:Int))⟩=true:=zad.2 (by dsimp only; omega)
  have d1:=(zaQ hv o1).2
  have ok:=zcP hv ha hb (k:=k) ⟨hk.1,hkn⟩
  have mix:=mix0 (m:=m) (a:=a) (b:=b) (k:=k)
  have en:(crs0 m a b k).n=((b.X - a.X).natAbs:Int):=rfl
  have ekk:(crs0 m a b k).k=k:=rfl
  have okh:=ok.hi
  have m4:=mulB (a:=grd m ⟨(crsX a.X b.X k),((crsY a.X a.Y b.X b.Y k).tdiv ((b.X - a.X).natAbs:Int))⟩) (x:=4000) (y:=48) (by omega) (b:=((b.X - a.X).natAbs:Int)) (by omega)
  refine sA Tryz.func351 ?_
  refine⟨i6,⟨i6,?_⟩⟩
  refine Split.no rfl ?_
  refine cP (zfa (b.X - a.X) (by omega)) rfl rfl ?_
  repeat first | apply sT | apply sF | refine Split.no rfl ?_
  apply bY <;> intro h1
  ·have:k<1:=dT h1
   omega
  repeat first | apply sT | apply sF
  apply bY <;> intro h2
  ·have:((b.X - a.X).natAbs:Int)<=k:=dT h2
   omega
  refine Split.no rfl ?_
  apply bY <;> intro h3
  ·have h3:b.X - a.X<0:=dT h3
   have eX:a.X - k=crsX a.X b.X k:=by rw[eX,kG (by omega)]
   refine⟨i6,?_⟩
   rw[eX]
   refine⟨i6,⟨i6,⟨i6,?_⟩⟩⟩
   rw[eY]
   refine⟨⟨by omega,i6⟩,⟨by omega,?_⟩⟩
   refine oL (List.range 10) (FzOb.no ?_)
   refine oP (za9 (crsX a.X b.X k) ((crsY a.X a.Y b.X b.Y k).tdiv ((b.X - a.X).natAbs:Int))) rfl rfl ?_
   refine oP (zcn m ⟨(crsX a.X b.X k),((crsY a.X a.Y b.X b.Y k).tdiv ((b.X - a.X).natAbs:Int))⟩ hv o1) rfl rfl ?_
   refine⟨i6,?_⟩
   apply bY <;> intro h4
   ·have h4:0<(crsY a.X a.Y b.X b.Y k).tmod ((b.X - a.X).natAbs:Int):=dT h4
    have hu1:=hu h4
    have o2:onM m ⟨(crsX a.X b.X k),(((crsY a.X a.Y b.X b.Y k).tdiv ((b.X - a.X).natAbs:Int))+1)⟩=true:=zad.2 (by dsimp only; omega)
    have d2:=(zaQ hv o2).2
    have m5:=mulB (a:=grd m ⟨(crsX a.X b.X k),((crsY a.X a.Y b.X b.Y k).tdiv ((b.X - a.X).natAbs:Int))⟩) (x:=4000) (y:=48) (by omega) (b:=((b.X - a.X).natAbs:Int) - (crsY a.X a.Y b.X b.Y k).tmod ((b.X - a.X).natAbs:Int)) (by omega)
    have m6:=mulB (a:=grd m ⟨(crsX a.X b.X k),(((crsY a.X a.Y b.X b.Y k).tdiv ((b.X - a.X).natAbs:Int))+1)⟩) (x:=4000) (y:=48) (by omega) (b:=(crsY a.X a.Y b.X b.Y k).tmod ((b.X - a.X).natAbs:Int)) (by omega)
    refine oL (List.range 23) (FzOb.no ?_)
    refine oP (za9 (crsX a.X b.X k) ((crsY a.X a.Y b.X b.Y k).tdiv ((b.X - a.X).natAbs:Int))) rfl rfl ?_
    refine oP (zcn m ⟨(crsX a.X b.X k),((crsY a.X a.Y b.X b.Y k).tdiv ((b.X - a.X).natAbs:Int))⟩ hv o1) rfl rfl ?_
    refine⟨i6,⟨i6,⟨i6,?_⟩⟩⟩
    refine oP (za9 (crsX a.X b.X k) ((crsY a.X a.Y b.X b.Y k).tdiv ((b.X - a.X).natAbs:Int)+1)) rfl rfl ?_
    refine oP (zcn m ⟨(crsX a.X b.X k),(((crsY a.X a.Y b.X b.Y k).tdiv ((b.X - a.X).natAbs:Int))+1)⟩ hv o2) rfl rfl ?_
    refine⟨i6,⟨i6,?_⟩⟩
    rw[mix.1 h4]
    refine oL (List.range 10) (FzOb.no ?_)
    refine oP (zar k ((b.X - a.X).natAbs:Int) (by omega) (by omega)) rfl rfl ?_
    refine oP (zar (crs0 m a b k).hi ((b.X - a.X).natAbs:Int) (by omega) (by omega)) rfl rfl ?_
    exact⟨rtC (a:=8) rfl rfl rfl rfl rfl rfl (zgA rfl rfl rfl rfl rfl rfl),rtB rfl rfl,trivial⟩
   have h4:¬ 0<(crsY a.X a.Y b.X b.Y k).tmod ((b.X - a.X).natAbs:Int):=dF h4
   rw[mix.2 (by omega)]
   refine oL (List.range 10) (FzOb.no ?_)
   refine oP (zar k ((b.X - a.X).natAbs:Int) (by omega) (by omega)) rfl rfl ?_
   refine oP (zar (crs0 m a b k).hi ((b.X - a.X).natAbs:Int) (by omega) (by omega)) rfl rfl ?_
   exact⟨rtC (a:=8) rfl rfl rfl rfl rfl rfl (zgA rfl rfl rfl rfl rfl rfl),rtB rfl rfl,trivial⟩
  have h3:¬ b.X - a.X<0:=dF h3
  have eX:a.X+k=crsX a.X b.X k:=by rw[eX,kH (by omega)]
  refine⟨i6,?_⟩
  rw[eX]
  refine⟨i6,⟨i6,⟨i6,?_⟩⟩⟩
  rw[eY]
  refine⟨⟨by omega,i6⟩,⟨by omega,?_⟩⟩
  refine oL (List.range 10) (FzOb.no ?_)
  refine oP (za9 (crsX a.X b.X k) ((crsY a.X a.Y b.X b.Y k).tdiv ((b.X - a.X).natAbs:Int))) rfl rfl ?_
  refine oP (zcn m ⟨(crsX a.X b.X k),((crsY a.X a.Y b.X b.Y k).tdiv ((b.X - a.X).natAbs:Int))⟩ hv o1) rfl rfl ?_
  refine⟨i6,?_⟩
  apply bY <;> intro h4
  ·have h4:0<(crsY a.X a.Y b.X b.Y k).tmod ((b.X - a.X).natAbs:Int):=dT h4
   have hu1:=hu h4
   have o2:onM m ⟨(crsX a.X b.X k),(((crsY a.X a.Y b.X b.Y k).tdiv ((b.X - a.X).natAbs:Int))+1)⟩=true:=zad.2 (by dsimp only; omega)
   have d2:=(zaQ hv o2).2
   have m5:=mulB (a:=grd m ⟨(crsX a.X b.X k),((crsY a.X a.Y b.X b.Y k).tdiv ((b.X - a.X).natAbs:Int))⟩) (x:=4000) (y:=48) (by omega) (b:=((b.X - a.X).natAbs:Int) - (crsY a.X a.Y b.X b.Y k).tmod ((b.X - a.X).natAbs:Int)) (by omega)
   have m6:=mulB (a:=grd m ⟨(crsX a.X b.X k),(((crsY a.X a.Y b.X b.Y k).tdiv ((b.X - a.X).natAbs:Int))+1)⟩) (x:=4000) (y:=48) (by omega) (b:=(crsY a.X a.Y b.X b.Y k).tmod ((b.X - a.X).natAbs:Int)) (by omega)
   refine oL (List.range 23) (FzOb.no ?_)
   refine oP (za9 (crsX a.X b.X k) ((crsY a.X a.Y b.X b.Y k).tdiv ((b.X - a.X).natAbs:Int))) rfl rfl ?_
   refine oP (zcn m ⟨(crsX a.X b.X k),((crsY a.X a.Y b.X b.Y k).tdiv ((b.X - a.X).natAbs:Int))⟩ hv o1) rfl rfl ?_
   refine⟨i6,⟨i6,⟨i6,?_⟩⟩⟩
   refine oP (za9 (crsX a.X b.X k) ((crsY a.X a.Y b.X b.Y k).tdiv ((b.X - a.X).natAbs:Int)+1)) rfl rfl ?_
   refine oP (zcn m ⟨(crsX a.X b.X k),(((crsY a.X a.Y b.X b.Y k).tdiv ((b.X - a.X).natAbs:Int))+1)⟩ hv o2) rfl rfl ?_
   refine⟨i6,⟨i6,?_⟩⟩
   rw[mix.1 h4]
   refine oL (List.range 10) (FzOb.no ?_)
   refine oP (zar k ((b.X - a.X).natAbs:Int) (by omega) (by omega)) rfl rfl ?_
   refine oP (zar (crs0 m a b k).hi ((b.X - a.X).natAbs:Int) (by omega) (by omega)) rfl rfl ?_
   exact⟨rtC (a:=8) rfl rfl rfl rfl rfl rfl (zgA rfl rfl rfl rfl rfl rfl),rtB rfl rfl,trivial⟩
  have h4:¬ 0<(crsY a.X a.Y b.X b.Y k).tmod ((b.X - a.X).natAbs:Int):=dF h4
  rw[mix.2 (by omega)]
  refine oL (List.range 10) (FzOb.no ?_)
  refine oP (zar k ((b.X - a.X).natAbs:Int) (by omega) (by omega)) rfl rfl ?_
  refine oP (zar (crs0 m a b k).hi ((b.X - a.X).natAbs:Int) (by omega) (by omega)) rfl rfl ?_
  exact⟨rtC (a:=8) rfl rfl rfl rfl rfl rfl (zgA rfl rfl rfl rfl rfl rfl),rtB rfl rfl,trivial⟩
 rw[kG hkn]
 refine sA Tryz.func351 ?_
 refine⟨i6,⟨i6,?_⟩⟩
 refine Split.no rfl ?_
 refine cP (zfa (b.X - a.X) (by omega)) rfl rfl ?_
 repeat first | apply sT | apply sF | refine Split.no rfl ?_
 apply bY <;> intro h1
 ·have:k<1:=dT h1
  omega
 repeat first | apply sT | apply sF
 apply bY <;> intro h2
 ·exact⟨rtC (a:=8) rfl rfl rfl rfl rfl rfl (zaa _),rtB rfl rfl,trivial⟩
 have:¬ ((b.X - a.X).natAbs:Int)<=k:=dF h2
 omega
theorem mix1 {m:Mp} {a b:Place} {k:Int}:(0<(crsY a.Y a.X b.Y b.X k).tmod ((b.Y - a.Y).natAbs:Int)->grd m ⟨((crsY a.Y a.X b.Y b.X k).tdiv ((b.Y - a.Y).natAbs:Int)),(crsX a.Y b.Y k)⟩ * (((b.Y - a.Y).natAbs:Int) - (crsY a.Y a.X b.Y b.X k).tmod ((b.Y - a.Y).natAbs:Int))+grd m ⟨(((crsY a.Y a.X b.Y b.X k).tdiv ((b.Y - a.Y).natAbs:Int))+1),(crsX a.Y b.Y k)⟩ * (crsY a.Y a.X b.Y b.X k).tmod ((b.Y - a.Y).natAbs:Int)=(crs1 m a b k).hi)
  /\ ((crsY a.Y a.X b.Y b.X k).tmod ((b.Y - a.Y).natAbs:Int)=0->grd m ⟨((crsY a.Y a.X b.Y b.X k).tdiv ((b.Y - a.Y).natAbs:Int)),(crsX a.Y b.Y k)⟩ * ((b.Y - a.Y).natAbs:Int)=(crs1 m a b k).hi):=by
 unfold crs1 crsH
 dsimp only
 refine⟨fun h=>?_,fun h=>?_⟩
 ·rw[kH h,wJ (grd m ⟨((crsY a.Y a.X b.Y b.X k).tdiv ((b.Y - a.Y).natAbs:Int)),(crsX a.Y b.Y k)⟩),wJ (grd m ⟨(((crsY a.Y a.X b.Y b.X k).tdiv ((b.Y - a.Y).natAbs:Int))+1),(crsX a.Y b.Y k)⟩)]
 rw[kG (by omega),h,Int.sub_zero,wJ]
theorem zg6 (m:Mp) (a b:Place) (k:Int) (hv:validM m=true) (ha:onM m a=true) (hb:onM m b=true) (hk:1<=k/\k<=48):Spec PP 351 [m.v,a.v,b.v,.agg [I 1,I k]] (if k<((b.Y - a.Y).natAbs:Int) then [(prfOf (crs1 m a b k)).v,B true] else [.agg [I 0,I 0,I 0,I 0,I 0,I 0],B false]):=by
 obtain⟨w,h,-,-⟩:=zah hv
 obtain⟨a1,a2⟩:=zad.1 ha
 obtain⟨b1,b2⟩:=zad.1 hb
 by_cases hkn:k<((b.Y - a.Y).natAbs:Int)
 ·rw[kH hkn]
  have C:=zeF (f0:=a.Y) (f1:=a.X) (t0:=b.Y) (t1:=b.X) (k:=k) (lo:=0) (hi:=m.W - 1) (by omega) (by omega) (by omega) ⟨hk.1,hkn⟩
  have m1:=mulB (a:=b.X - a.X) (b:=k) (x:=48) (y:=48) (by omega) (by omega)
  have m3:=mulB (a:=a.X) (b:=((b.Y - a.Y).natAbs:Int)) (x:=48) (y:=48) (by omega) (by omega)
  have hx:=C.x
  have hw:=C.w
  have hr:=C.r
  have hu:=C.u
  have eX:=zhv (f0:=a.Y) (t0:=b.Y) (k:=k) (by omega)
  have eY:a.X * ((b.Y - a.Y).natAbs:Int)+(b.X - a.X) * k=crsY a.Y a.X b.Y b.X k:=by unfold crsY; rw[wJ (b.X - a.X) k]
  have o1:onM m ⟨((crsY a.Y a.X b.Y b.X k).tdiv ((b.Y - a.Y).natAbs:Int)),(crsX a.Y b.Y k)⟩=true:=zad.2 (by dsimp only; omega)
  have d1:=(zaQ hv o1).2
  have ok:=zcO hv ha hb (k:=k) ⟨hk.1,hkn⟩
  have mix:=mix1 (m:=m) (a:=a) (b:=b) (k:=k)
  have en:(crs1 m a b k).n=((b.Y - a.Y).natAbs:Int):=rfl
  have ekk:(crs1 m a b k).k=k:=rfl
  have okh:=ok.hi
  have m4:=mulB (a:=grd m ⟨((crsY a.Y a.X b.Y b.X k).tdiv ((b.Y - a.Y).natAbs:Int)),(crsX a.Y b.Y k)⟩) (x:=4000) (y:=48) (by omega) (b:=((b.Y - a.Y).natAbs:Int)) (by omega)
  refine sA Tryz.func351 ?_
  refine⟨i6,⟨i6,?_⟩⟩
  refine Split.yes rfl ?_
  refine cP (zfa (b.Y - a.Y) (by omega)) rfl rfl ?_
  repeat first | apply sT | apply sF | refine Split.no rfl ?_
  apply bY <;> intro h1
  ·have:k<1:=dT h1
   omega
  repeat first | apply sT | apply sF
  apply bY <;> intro h2
  ·have:((b.Y - a.Y).natAbs:Int)<=k:=dT h2
   omega
  refine Split.yes rfl ?_
  apply bY <;> intro h3
  ·have h3:b.Y - a.Y<0:=dT h3
   have eX:a.Y - k=crsX a.Y b.Y k:=by rw[eX,kG (by omega)]
   refine⟨i6,?_⟩
   rw[eX]
   refine⟨i6,⟨i6,⟨i6,?_⟩⟩⟩
   rw[eY]
   refine⟨⟨by omega,i6⟩,⟨by omega,?_⟩⟩
   refine oL (List.range 10) (FzOb.no ?_)
   refine oP (za8 (crsX a.Y b.Y k) ((crsY a.Y a.X b.Y b.X k).tdiv ((b.Y - a.Y).natAbs:Int))) rfl rfl ?_
   refine oP (zcn m ⟨((crsY a.Y a.X b.Y b.X k).tdiv ((b.Y - a.Y).natAbs:Int)),(crsX a.Y b.Y k)⟩ hv o1) rfl rfl ?_
   refine⟨i6,?_⟩
   apply bY <;> intro h4
   ·have h4:0<(crsY a.Y a.X b.Y b.X k).tmod ((b.Y - a.Y).natAbs:Int):=dT h4
    have hu1:=hu h4
    have o2:onM m ⟨(((crsY a.Y a.X b.Y b.X k).tdiv ((b.Y - a.Y).natAbs:Int))+1),(crsX a.Y b.Y k)⟩=true:=zad.2 (by dsimp only; omega)
    have d2:=(zaQ hv o2).2
    have m5:=mulB (a:=grd m ⟨((crsY a.Y a.X b.Y b.X k).tdiv ((b.Y - a.Y).natAbs:Int)),(crsX a.Y b.Y k)⟩) (x:=4000) (y:=48) (by omega) (b:=((b.Y - a.Y).natAbs:Int) - (crsY a.Y a.X b.Y b.X k).tmod ((b.Y - a.Y).natAbs:Int)) (by omega)
    have m6:=mulB (a:=grd m ⟨(((crsY a.Y a.X b.Y b.X k).tdiv ((b.Y - a.Y).natAbs:Int))+1),(crsX a.Y b.Y k)⟩) (x:=4000) (y:=48) (by omega) (b:=(crsY a.Y a.X b.Y b.X k).tmod ((b.Y - a.Y).natAbs:Int)) (by omega)
    refine oL (List.range 23) (FzOb.no ?_)
    refine oP (za8 (crsX a.Y b.Y k) ((crsY a.Y a.X b.Y b.X k).tdiv ((b.Y - a.Y).natAbs:Int))) rfl rfl ?_
    refine oP (zcn m ⟨((crsY a.Y a.X b.Y b.X k).tdiv ((b.Y - a.Y).natAbs:Int)),(crsX a.Y b.Y k)⟩ hv o1) rfl rfl ?_
    refine⟨i6,⟨i6,⟨i6,?_⟩⟩⟩
    refine oP (za8 (crsX a.Y b.Y k) ((crsY a.Y a.X b.Y b.X k).tdiv ((b.Y - a.Y).natAbs:Int)+1)) rfl rfl ?_
    refine oP (zcn m ⟨(((crsY a.Y a.X b.Y b.X k).tdiv ((b.Y - a.Y).natAbs:Int))+1),(crsX a.Y b.Y k)⟩ hv o2) rfl rfl ?_
    refine⟨i6,⟨i6,?_⟩⟩
    rw[mix.1 h4]
    refine oL (List.range 10) (FzOb.no ?_)
    refine oP (zar k ((b.Y - a.Y).natAbs:Int) (by omega) (by omega)) rfl rfl ?_
    refine oP (zar (crs1 m a b k).hi ((b.Y - a.Y).natAbs:Int) (by omega) (by omega)) rfl rfl ?_
    exact⟨rtC (a:=8) rfl rfl rfl rfl rfl rfl (zgA rfl rfl rfl rfl rfl rfl),rtB rfl rfl,trivial⟩
   have h4:¬ 0<(crsY a.Y a.X b.Y b.X k).tmod ((b.Y - a.Y).natAbs:Int):=dF h4
   rw[mix.2 (by omega)]
   refine oL (List.range 10) (FzOb.no ?_)
   refine oP (zar k ((b.Y - a.Y).natAbs:Int) (by omega) (by omega)) rfl rfl ?_
   refine oP (zar (crs1 m a b k).hi ((b.Y - a.Y).natAbs:Int) (by omega) (by omega)) rfl rfl ?_
   exact⟨rtC (a:=8) rfl rfl rfl rfl rfl rfl (zgA rfl rfl rfl rfl rfl rfl),rtB rfl rfl,trivial⟩
  have h3:¬ b.Y - a.Y<0:=dF h3
  have eX:a.Y+k=crsX a.Y b.Y k:=by rw[eX,kH (by omega)]
  refine⟨i6,?_⟩
  rw[eX]
  refine⟨i6,⟨i6,⟨i6,?_⟩⟩⟩
  rw[eY]
  refine⟨⟨by omega,i6⟩,⟨by omega,?_⟩⟩
  refine oL (List.range 10) (FzOb.no ?_)
  refine oP (za8 (crsX a.Y b.Y k) ((crsY a.Y a.X b.Y b.X k).tdiv ((b.Y - a.Y).natAbs:Int))) rfl rfl ?_
  refine oP (zcn m ⟨((crsY a.Y a.X b.Y b.X k).tdiv ((b.Y - a.Y).natAbs:Int)),(crsX a.Y b.Y k)⟩ hv o1) rfl rfl ?_
  refine⟨i6,?_⟩
  apply bY <;> intro h4
  ·have h4:0<(crsY a.Y a.X b.Y b.X k).tmod ((b.Y - a.Y).natAbs:Int):=dT h4
   have hu1:=hu h4
   have o2:onM m ⟨(((crsY a.Y a.X b.Y b.X k).tdiv ((b.Y - a.Y).natAbs:Int))+1),(crsX a.Y b.Y k)⟩=true:=zad.2 (by dsimp only; omega)
   have d2:=(zaQ hv o2).2
   have m5:=mulB (a:=grd m ⟨((crsY a.Y a.X b.Y b.X k).tdiv ((b.Y - a.Y).natAbs:Int)),(crsX a.Y b.Y k)⟩) (x:=4000) (y:=48) (by omega) (b:=((b.Y - a.Y).natAbs:Int) - (crsY a.Y a.X b.Y b.X k).tmod ((b.Y - a.Y).natAbs:Int)) (by omega)
   have m6:=mulB (a:=grd m ⟨(((crsY a.Y a.X b.Y b.X k).tdiv ((b.Y - a.Y).natAbs:Int))+1),(crsX a.Y b.Y k)⟩) (x:=4000) (y:=48) (by omega) (b:=(crsY a.Y a.X b.Y b.X k).tmod ((b.Y - a.Y).natAbs:Int)) (by omega)
   refine oL (List.range 23) (FzOb.no ?_)
   refine oP (za8 (crsX a.Y b.Y k) ((crsY a.Y a.X b.Y b.X k).tdiv ((b.Y - a.Y).natAbs:Int))) rfl rfl ?_
   refine oP (zcn m ⟨((crsY a.Y a.X b.Y b.X k).tdiv ((b.Y - a.Y).natAbs:Int)),(crsX a.Y b.Y k)⟩ hv o1) rfl rfl ?_
   refine⟨i6,⟨i6,⟨i6,?_⟩⟩⟩
   refine oP (za8 (crsX a.Y b.Y k) ((crsY a.Y a.X b.Y b.X k).tdiv ((b.Y - a.Y).natAbs:Int)+1)) rfl rfl ?_
   refine oP (zcn m ⟨(((crsY a.Y a.X b.Y b.X k).tdiv ((b.Y - a.Y).natAbs:Int))+1),(crsX a.Y b.Y k)⟩ hv o2) rfl rfl ?_
   refine⟨i6,⟨i6,?_⟩⟩
   rw[mix.1 h4]
   refine oL (List.range 10) (FzOb.no ?_)
   refine oP (zar k ((b.Y - a.Y).natAbs:Int) (by omega) (by omega)) rfl rfl ?_
   refine oP (zar (crs1 m a b k).hi ((b.Y - a.Y).natAbs:Int) (by omega) (by omega)) rfl rfl ?_
   exact⟨rtC (a:=8) rfl rfl rfl rfl rfl rfl (zgA rfl rfl rfl rfl rfl rfl),rtB rfl rfl,trivial⟩
  have h4:¬ 0<(crsY a.Y a.X b.Y b.X k).tmod ((b.Y - a.Y).natAbs:Int):=dF h4
  rw[mix.2 (by omega)]
  refine oL (List.range 10) (FzOb.no ?_)
  refine oP (zar k ((b.Y - a.Y).natAbs:Int) (by omega) (by omega)) rfl rfl ?_
  refine oP (zar (crs1 m a b k).hi ((b.Y - a.Y).natAbs:Int) (by omega) (by omega)) rfl rfl ?_
  exact⟨rtC (a:=8) rfl rfl rfl rfl rfl rfl (zgA rfl rfl rfl rfl rfl rfl),rtB rfl rfl,trivial⟩
 rw[kG hkn]
 refine sA Tryz.func351 ?_
 refine⟨i6,⟨i6,?_⟩⟩
 refine Split.yes rfl ?_
 refine cP (zfa (b.Y - a.Y) (by omega)) rfl rfl ?_
 repeat first | apply sT | apply sF | refine Split.no rfl ?_
 apply bY <;> intro h1
 ·have:k<1:=dT h1
  omega
 repeat first | apply sT | apply sF
 apply bY <;> intro h2
 ·exact⟨rtC (a:=8) rfl rfl rfl rfl rfl rfl (zaa _),rtB rfl rfl,trivial⟩
 have:¬ ((b.Y - a.Y).natAbs:Int)<=k:=dF h2
 omega
abbrev lPf (l:List Prf):D:=.slc 6 l.length fun i=>(l.getD i default).at
abbrev rowPf (l:List Prf):Nat->Nat->D:=fun i=>(l.getD i default).at
def posS (p:Prf):List Prf->Nat
 | []=>0
 | a :: r=>if posS p r=0/\lsF p a=true then 0 else posS p r+1
theorem zfe (p:Prf):∀ (L:List Prf) (k:Nat),k<=L.length->(∀ j,k<=j->j<L.length->lsF p (L.getD j default)=true)->(0<k->lsF p (L.getD (k - 1) default)=false)->posS p L=k
 | [],k,h,_,_=>by simp at h; subst h; rfl
 | a :: r,0,_,h1,_=>by
  have e:=zfe p r 0 (jF _) (fun j _ hj=>by simpa using h1 (j+1) (by omega) (by simpa using hj)) (fun h=>absurd h (Nat.lt_irrefl _))
  unfold posS
  rw[kH ⟨e,h1 0 (jE _) (by simp)⟩]
 | a :: r,k+1,h,h1,h2=>by
  have e:=zfe p r k (by simpa using h) (fun j hk hj=>by simpa using h1 (j+1) (by omega) (by simpa using hj)) (fun hk=>by
   have:=h2 (by omega)
   obtain⟨d,rfl⟩:∃ d,k=d+1:=⟨k - 1,by omega⟩
   simpa using this)
  unfold posS
  rw[kG,e]
  rw[e]
  rintro⟨rfl,h3⟩
  have:=h2 (by omega)
  rw[show lsF p a=false from this] at h3
  cases h3
theorem zhc (p:Prf):∀ L:List Prf,posS p L<=L.length
 | []=>jE _
 | a :: r=>by
  have:=zhc p r
  unfold posS
  split
  ·simp
  simp; omega
def insF (L:List Prf) (p:Prf):List Prf:=L.take (posS p L)++p :: L.drop (posS p L)
theorem ziz (L:List Prf) (p:Prf):(insF L p).length=L.length+1:=by
 have:=zhc p L
 unfold insF
 simp
 omega
theorem znN {L:List Prf} {p x:Prf}:x∈insF L p ↔ x∈L \/ x=p:=by
 unfold insF
 rw[qE,kT]
 constructor
 ·rintro (h | rfl | h)
  ·exact .inl (jaj h)
  ·exact .inr rfl
  exact .inl (jbi h)
 rintro (h | rfl)
 ·rw[<- List.take_append_drop (posS p L) L] at h
  rcases qE.1 h with h | h
  ·exact .inl h
  exact .inr (.inr h)
 exact .inr (.inl rfl)
theorem znO (L:List Prf) (p:Prf) (m:Nat):(insF L p).getD m default=if m<posS p L then L.getD m default else if m=posS p L then p else L.getD (m - 1) default:=by
 have hl:=zhc p L
 unfold insF
 rw[hZ]
 by_cases h1:m<posS p L
 ·rw[kH h1,jJ (by rw[jQ]; omega),jS,kH h1,<- hZ]
 rw[kG h1,jK (by rw[jQ]; omega),jQ]
 rw[show min (posS p L) L.length=posS p L by omega]
 by_cases h2:m=posS p L
 ·rw[kH h2,h2,kE]; rfl
 rw[kG h2]
 obtain⟨d,hd⟩:∃ d,m - posS p L=d+1:=⟨m - posS p L - 1,by omega⟩
 rw[hd,jaa,qW,show posS p L+d=m - 1 by omega,<- hZ]
def shL (L:List Prf) (p:Prf) (i m:Nat):Prf:=if m<i then L.getD m default else if m=i then (if i=L.length then p else L.getD i default) else L.getD (m - 1) default
def shR (L:List Prf) (p:Prf) (i:Nat):Nat->Nat->D:=fun m=>(shL L p i m).at
theorem at6 {f:Nat->D} {p:Prf} (h0:f 0=I p.ax) (h1:f 1=I p.k) (h2:f 2=I p.an) (h3:f 3=I p.ad) (h4:f 4=I p.gn) (h5:f 5=I p.gd):∀ j,j<6->D.eqv (f j) (p.at j)
 | 0,_=>by rw[h0]; exact⟨rfl,rfl⟩
 | 1,_=>by rw[h1]; exact⟨rfl,rfl⟩
 | 2,_=>by rw[h2]; exact⟨rfl,rfl⟩
 | 3,_=>by rw[h3]; exact⟨rfl,rfl⟩
 | 4,_=>by rw[h4]; exact⟨rfl,rfl⟩
 | 5,_=>by rw[h5]; exact⟨rfl,rfl⟩
theorem zoL {L:List Prf} {p:Prf} {g:Nat->Nat->D} (hg:∀ j,j<6->D.eqv (g 0 j) (p.at j)):D.eqv (.slc 6 (L.length+1) (appRow L.length (rowPf L) g)) (.slc 6 (L.length+1) (shR L p L.length)):=by
 refine⟨rfl,.inr ⟨rfl,fun m hm j hj=>?_⟩⟩
 show D.eqv (appRow L.length (rowPf L) g m j) (shR L p L.length m j)
 unfold appRow shR shL
 by_cases h:m<L.length
 ·rw[kH h,kH h]; exact dE _
 have e:m=L.length:=by omega
 subst e
 rw[kG h,kG h,kH rfl,kH rfl,kE]
 exact hg j hj
def pntA (m:Mp) (a b:Place) (ax:Nat) (k:Int):Pnt:=if ax=0 then crs0 m a b k else crs1 m a b k
def dAx (a b:Place) (ax:Nat):Int:=if ax=0 then dX a b else dY a b
def linS (m:Mp) (a b:Place) (ax:Nat) (L:List Prf):Nat->List Prf
 | 0=>L
 | j+1=>if ((j:Int)+1)<dAx a b ax then insF (linS m a b ax L j) (prfOf (pntA m a b ax ((j:Int)+1))) else linS m a b ax L j
def linU (m:Mp) (a b:Place):Nat->List Prf
 | 0=>[]
 | i+1=>linS m a b i (linU m a b i) 48
def linL (m:Mp) (a b:Place):List Prf:=linU m a b 2
theorem zfs (m:Mp) (a b:Place) (ax:Nat) (L:List Prf):∀ j,(linS m a b ax L j).length<=L.length+j
 | 0=>jE _
 | j+1=>by
  have:=zfs m a b ax L j
  unfold linS
  split
  ·rw[ziz]; omega
  omega
theorem zfr (m:Mp) (a b:Place):∀ i,(linU m a b i).length<=i * 48
 | 0=>by simp[linU]
 | i+1=>by
  have h1:=zfr m a b i
  have h2:=zfs m a b i (linU m a b i) 48
  unfold linU
  omega
theorem linS_mem {m:Mp} {a b:Place} {ax:Nat} {L:List Prf} {x:Prf}:∀ {j},x∈linS m a b ax L j ↔ x∈L \/ ∃ k:Nat,k<j/\((k:Int)+1)<dAx a b ax/\x=prfOf (pntA m a b ax ((k:Int)+1))
 | 0=>by
  show x∈L ↔ _
  constructor
  ·exact .inl
  ·rintro (h | ⟨k,hk,_⟩)
   ·exact h
   ·exact absurd hk (qK _)
 | j+1=>by
  unfold linS
  split
  ·rename_i h
   rw[znN,linS_mem]
   constructor
   ·rintro ((h1 | ⟨k,h1,h2⟩) | h1)
    ·exact .inl h1
    ·exact .inr ⟨k,by omega,h2⟩
    exact .inr ⟨j,by omega,h,h1⟩
   rintro (h1 | ⟨k,h1,h2,h3⟩)
   ·exact .inl (.inl h1)
   by_cases e:k=j
   ·subst e; exact .inr h3
   exact .inl (.inr ⟨k,by omega,h2,h3⟩)
  rename_i h
  rw[linS_mem]
  constructor
  ·rintro (h1 | ⟨k,h1,h2⟩)
   ·exact .inl h1
   exact .inr ⟨k,by omega,h2⟩
  rintro (h1 | ⟨k,h1,h2,h3⟩)
  ·exact .inl h1
  by_cases e:k=j
  ·subst e; exact absurd h2 h
  exact .inr ⟨k,by omega,h2,h3⟩
theorem zdk {m:Mp} {a b:Place} {x:Prf} (hX:dX a b<=48) (hY:dY a b<=48):x∈linL m a b ↔ (∃ k:Int,1<=k/\k<dX a b/\x=prfOf (crs0 m a b k)) \/ ∃ k:Int,1<=k/\k<dY a b/\x=prfOf (crs1 m a b k):=by
 unfold linL
 show x∈linS m a b 1 (linS m a b 0 [] 48) 48 ↔ _
 rw[linS_mem,linS_mem]
 constructor
 ·rintro ((h | ⟨k,h1,h2,h3⟩) | ⟨k,h1,h2,h3⟩)
  ·cases h
  ·exact .inl ⟨(k:Int)+1,by omega,h2,h3⟩
  exact .inr ⟨(k:Int)+1,by omega,h2,h3⟩
 rintro (⟨k,h1,h2,h3⟩ | ⟨k,h1,h2,h3⟩)
 ·refine .inl (.inr ⟨(k - 1).toNat,by omega,?_,?_⟩)
  ·rw[show (((k - 1).toNat:Nat):Int)+1=k by omega]; exact h2
  rw[show (((k - 1).toNat:Nat):Int)+1=k by omega]; exact h3
 refine .inr ⟨(k - 1).toNat,by omega,?_,?_⟩
 ·rw[show (((k - 1).toNat:Nat):Int)+1=k by omega]; exact h2
 rw[show (((k - 1).toNat:Nat):Int)+1=k by omega]; exact h3
theorem zfc {m:Mp} {a b:Place} {p:Pnt}:∀ (n:Nat) (k0 k1:Int),ptsN a b k0 k1=n->(p∈ptsF m a b n k0 k1 ↔ (∃ k:Int,k0<=k/\k<dX a b/\p=crs0 m a b k) \/ ∃ k:Int,k1<=k/\k<dY a b/\p=crs1 m a b k)
 | 0,k0,k1,hn=>by
  unfold ptsN at hn
  constructor
  ·intro h; cases h
  ·rintro (⟨k,h1,h2,_⟩ | ⟨k,h1,h2,_⟩) <;> omega
 | n+1,k0,k1,hn=>by
  have hh:k0<dX a b \/ k1<dY a b:=by unfold ptsN at hn; omega
  by_cases hc:dX a b<=k0 \/ (k1<dY a b/\k1 * dX a b<k0 * dY a b)
  ·have h1:k1<dY a b:=by omega
   have e:=zia (a:=a) (b:=b) (k0:=k0) h1
   show p∈(if _ then (if _ then _ else _) else _) ↔ _
   rw[kH hh,kH hc,kT,zfc n k0 (k1+1) (by omega)]
   constructor
   ·rintro (rfl | h | ⟨k,g1,g2,g3⟩)
    ·exact .inr ⟨k1,ja3 _,h1,rfl⟩
    ·exact .inl h
    exact .inr ⟨k,by omega,g2,g3⟩
   rintro (h | ⟨k,g1,g2,g3⟩)
   ·exact .inr (.inl h)
   by_cases e:k=k1
   ·subst e; exact .inl g3
   exact .inr (.inr ⟨k,by omega,g2,g3⟩)
  have h0:k0<dX a b:=by omega
  have e:=zib (a:=a) (b:=b) (k1:=k1) h0
  show p∈(if _ then (if _ then _ else _) else _) ↔ _
  rw[kH hh,kG hc,kT,zfc n (k0+1) k1 (by omega)]
  constructor
  ·rintro (rfl | ⟨k,g1,g2,g3⟩ | h)
   ·exact .inl ⟨k0,ja3 _,h0,rfl⟩
   ·exact .inl ⟨k,by omega,g2,g3⟩
   exact .inr h
  rintro (⟨k,g1,g2,g3⟩ | h)
  ·by_cases e:k=k0
   ·subst e; exact .inl g3
   exact .inr (.inl ⟨k,by omega,g2,g3⟩)
  exact .inr (.inr h)
theorem ptsL_mem {m:Mp} {a b:Place} {p:Pnt}:p∈ptsL m a b ↔ (∃ k:Int,1<=k/\k<dX a b/\p=crs0 m a b k) \/ ∃ k:Int,1<=k/\k<dY a b/\p=crs1 m a b k:=zfc _ 1 1 rfl
theorem znx {m:Mp} {a b:Place} {ta tb:Int} (hv:validM m=true) (ha:onM m a=true) (hb:onM m b=true):((linL m a b).any fun x=>ovF x (grd m a+ta) (grd m b+tb))=(ptsL m a b).any (ovrB m a ta b tb):=by
 have hd:=zkO hv ha hb
 have hX:dX a b<=48:=hd.2.2.1.2
 have hY:dY a b<=48:=hd.2.2.2.2
 rw[kP,kJ,kJ]
 constructor
 ·rintro⟨x,hx,ho⟩
  rcases (zdk hX hY).1 hx with⟨k,h1,h2,rfl⟩ | ⟨k,h1,h2,rfl⟩
  ·refine⟨crs0 m a b k,ptsL_mem.2 (.inl ⟨k,h1,h2,rfl⟩),?_⟩
   rw[znj (zcP hv ha hb ⟨h1,h2⟩) (show 0<dX a b by omega)] at ho; exact ho
  refine⟨crs1 m a b k,ptsL_mem.2 (.inr ⟨k,h1,h2,rfl⟩),?_⟩
  rw[znj (zcO hv ha hb ⟨h1,h2⟩) (show 0<dY a b by omega)] at ho; exact ho
 rintro⟨p,hp,ho⟩
 rcases ptsL_mem.1 hp with⟨k,h1,h2,rfl⟩ | ⟨k,h1,h2,rfl⟩
 ·refine⟨prfOf (crs0 m a b k),(zdk hX hY).2 (.inl ⟨k,h1,h2,rfl⟩),?_⟩
  rw[znj (zcP hv ha hb ⟨h1,h2⟩) (show 0<dX a b by omega)]; exact ho
 refine⟨prfOf (crs1 m a b k),(zdk hX hY).2 (.inr ⟨k,h1,h2,rfl⟩),?_⟩
 rw[znj (zcO hv ha hb ⟨h1,h2⟩) (show 0<dY a b by omega)]; exact ho
theorem zsz {m:Mp} {a b:Place} (hv:validM m=true) (ha:onM m a=true) (hb:onM m b=true):∀ x∈linL m a b,PrfOk x:=fun x hx=>by
 have hd:=zkO hv ha hb
 rcases (zdk hd.2.2.1.2 hd.2.2.2.2).1 hx with⟨k,h1,h2,rfl⟩ | ⟨k,h1,h2,rfl⟩
 ·exact zie (zcP hv ha hb ⟨h1,h2⟩) (show 0<dX a b by omega)
 exact zie (zcO hv ha hb ⟨h1,h2⟩) (show 0<dY a b by omega)
theorem zoB {L:List Prf} {Q:Prf} {kk q:Nat} (h:kk<q) (hq:q<=L.length) {z:Nat} (hz:z<6):getD' (shL L Q q ((q:Int) - 1).toNat).ds z=(L.getD (q - 1) default).at z:=by
 have e:shL L Q q ((q:Int) - 1).toNat=L.getD (q - 1) default:=by
  have e1:((q:Int) - 1).toNat=q - 1:=by omega
  rw[e1]
  unfold shL; rw[kH (by omega)]
 rw[e]
 have h6:z=0 \/ z=1 \/ z=2 \/ z=3 \/ z=4 \/ z=5:=by omega
 rcases h6 with rfl | rfl | rfl | rfl | rfl | rfl <;> rfl
theorem zka {L:List Prf} {Q:Prf} {kk q:Nat} (h:kk<q) (hq:q<=L.length) {ys:List D} (hl:ys.length=6) (hy:∀ z,z<6->getD' ys z=(L.getD (q - 1) default).at z):D.eqv (.slc 6 (L.length+1) (storeRow (shR L Q q) q 0 ys)) (.slc 6 (L.length+1) (shR L Q (q - 1))):=by
 refine⟨rfl,.inr ⟨rfl,fun n hn j hj=>?_⟩⟩
 show D.eqv (storeRow (shR L Q q) q 0 ys n j) (shR L Q (q - 1) n j)
 unfold storeRow
 by_cases h1:n=q
 ·subst h1
  rw[kH ⟨rfl,jF _,by omega⟩,Nat.sub_zero,hy j hj]
  unfold shR shL
  rw[kG (by omega),kG (by omega)]
  exact dE _
 rw[kG fun hh=>h1 hh.1]
 unfold shR shL
 by_cases h2:n<q
 ·rw[kH h2]
  by_cases h3:n<q - 1
  ·rw[kH h3]; exact dE _
  have e:n=q - 1:=by omega
  rw[kG h3,kH e,kG (by omega),e]; exact dE _
 rw[kG h2,kG h1,kG (by omega),kG (by omega)]; exact dE _
theorem zoC {L:List Prf} {Q:Prf} {q:Nat} (hp:posS Q L=q) {ys:List D} (hl:ys.length=6) (hy:∀ z,z<6->D.eqv (getD' ys z) (Q.at z)):D.eqv (.slc 6 (L.length+1) (storeRow (shR L Q q) q 0 ys)) (.slc 6 (insF L Q).length (rowPf (insF L Q))):=by
 refine⟨(ziz L Q).symm,.inr ⟨rfl,fun n hn j hj=>?_⟩⟩
 show D.eqv (storeRow (shR L Q q) q 0 ys n j) (((insF L Q).getD n default).at j)
 rw[znO,hp]
 unfold storeRow
 by_cases h1:n=q
 ·subst h1
  rw[kH ⟨rfl,jF _,by omega⟩,Nat.sub_zero,kG (Nat.lt_irrefl _),kH rfl]
  exact hy j hj
 rw[kG fun hh=>h1 hh.1]
 unfold shR shL
 by_cases h2:n<q
 ·rw[kH h2,kH h2]; exact dE _
 rw[kG h2,kG h1,kG h2,kG h1]; exact dE _
theorem zp4 (m:Mp) (a b:Place) (ax:Nat) (k:Int) (hv:validM m=true) (ha:onM m a=true) (hb:onM m b=true) (hax:ax<2) (hk:1<=k/\k<=48):Spec PP 351 [m.v,a.v,b.v,.agg [I ax,I k]] (if k<dAx a b ax then [(prfOf (pntA m a b ax k)).v,B true] else [.agg [I 0,I 0,I 0,I 0,I 0,I 0],B false]):=by
 have h:ax=0 \/ ax=1:=by omega
 rcases h with rfl | rfl
 ·exact zg7 m a b k hv ha hb hk
 exact zg6 m a b k hv ha hb hk
theorem zoP {m:Mp} {a b:Place} {ax:Nat} {k:Int} (hv:validM m=true) (ha:onM m a=true) (hb:onM m b=true) (hax:ax<2) (hk:1<=k/\k<dAx a b ax):PrfOk (prfOf (pntA m a b ax k)):=by
 have h:ax=0 \/ ax=1:=by omega
 rcases h with rfl | rfl
 ·have h2:k<dX a b:=hk.2
  exact zie (zcP hv ha hb ⟨hk.1,h2⟩) (show 0<dX a b by omega)
 have h2:k<dY a b:=hk.2
 exact zie (zcO hv ha hb ⟨hk.1,h2⟩) (show 0<dY a b by omega)
theorem zk6 {m:Mp} {a b:Place} {i j:Nat} (hv:validM m=true) (ha:onM m a=true) (hb:onM m b=true) (hi:i<2) (hU:∀ x∈linU m a b i,PrfOk x):∀ x∈linS m a b i (linU m a b i) j,PrfOk x:=fun x hx=>by
 rcases linS_mem.1 hx with h | ⟨k,h1,h2,rfl⟩
 ·exact hU x h
 exact zoP hv ha hb hi ⟨by omega,h2⟩
theorem zk5 {m:Mp} {a b:Place} (hv:validM m=true) (ha:onM m a=true) (hb:onM m b=true):∀ i,i<=2 -> ∀ x∈linU m a b i,PrfOk x
 | 0,_,x,hx=>by cases hx
 | i+1,hi,x,hx=>zk6 hv ha hb (by omega) (zk5 hv ha hb i (by omega)) x hx
theorem zp7 (m:Mp) (a b:Place) (hv:validM m=true) (ha:onM m a=true) (hb:onM m b=true):Spec PP 340 [m.v,a.v,b.v] [.d (lPf (linL m a b))]:=by
 refine sA Tryz.func340 ?_
 refine LoopOb.of (σ:=Nat) (fun i=>([(3,.box 3 0),(4,.box 4 0),(5,.box 5 0),(7,.own 7),(8,.d (I i))],[(3,.box (m.ds.map AV.d)),(4,.box ([I a.X,I a.Y].map AV.d)),(5,.box ([I b.X,I b.Y].map AV.d)),(7,.row 407 6 (linU m a b i).length (rowPf (linU m a b i)))])) (fun i=>i<=2) (fun i=>2 - i) 0
  ⟨rfl,⟨obD m.ds rfl,obD [I a.X,I a.Y] rfl,obD [I b.X,I b.Y] rfl,obR rfl ⟨rfl,.inl rfl⟩,trivial⟩,wq rfl⟩ (jF _) fun i hi=>?_
 apply bY <;> intro h0
 ·have h0:i<2:=by have:(i:Int)<2:=dT h0; omega
  refine LoopOb.of (σ:=Nat) (fun j=>([(3,.box 3 0),(4,.box 4 0),(5,.box 5 0),(7,.own 7),(8,.d (I i)),(9,.d (I ((j:Int)+1)))],[(3,.box (m.ds.map AV.d)),(4,.box ([I a.X,I a.Y].map AV.d)),(5,.box ([I b.X,I b.Y].map AV.d)),(7,.row 407 6 (linS m a b i (linU m a b i) j).length (rowPf (linS m a b i (linU m a b i) j)))])) (fun j=>j<=48) (fun j=>48 - j) 0
   ⟨rfl,⟨obD m.ds rfl,obD [I a.X,I a.Y] rfl,obD [I b.X,I b.Y] rfl,obR rfl (dE _),trivial⟩,wq rfl⟩ (jF _) fun j hj=>?_
  apply bY <;> intro h1
  ·have h1:(j:Int)+1<=48:=dT h1
   have hP:=zp4 m a b i ((j:Int)+1) hv ha hb h0 (by omega)
   by_cases hk:(j:Int)+1<dAx a b i
   ·rw[kH hk] at hP
    have eN:linS m a b i (linU m a b i) (j+1)=insF (linS m a b i (linU m a b i) j) (prfOf (pntA m a b i ((j:Int)+1))):=by
     show (if _ then _ else _)=_
     rw[kH hk]
    have hQ:PrfOk (prfOf (pntA m a b i ((j:Int)+1))):=zoP hv ha hb h0 ⟨by omega,hk⟩
    have hL:=zk6 (j:=j) hv ha hb h0 (zk5 hv ha hb i hi)
    refine cP hP rfl rfl ?_
    refine Split.no rfl ?_
    obtain⟨Q,eQ⟩:∃ Q,Q=prfOf (pntA m a b i ((j:Int)+1)):=⟨_,rfl⟩
    rw[<- eQ] at hQ eN ⊢
    obtain⟨L,eL⟩:∃ L,L=linS m a b i (linU m a b i) j:=⟨_,rfl⟩
    have L1:L.length<=1000:=by
     rw[eL]
     have a1:=zfs m a b i (linU m a b i) j
     have a2:=zfr m a b i
     omega
    rw[<- eL] at hL eN ⊢
    refine LoopOb.of (σ:=Nat) (fun kk=>([(3,.box 3 0),(4,.box 4 0),(5,.box 5 0),(7,.own 7),(8,.d (I i)),(9,.d (I ((j:Int)+1))),(10,.box 10 0),(12,.d (I kk))],[(3,.box (m.ds.map AV.d)),(4,.box ([I a.X,I a.Y].map AV.d)),(5,.box ([I b.X,I b.Y].map AV.d)),(10,.box (Q.ds.map AV.d)),(7,.row 407 6 L.length (rowPf L))])) (fun kk=>kk<=L.length /\ ∀ z,kk<=z->z<L.length->lsF Q (L.getD z default)=true) (fun kk=>kk) L.length
     ⟨rfl,⟨obD m.ds rfl,obD [I a.X,I a.Y] rfl,obD [I b.X,I b.Y] rfl,obD Q.ds rfl,obR rfl (dE _),trivial⟩,wq rfl⟩ ⟨jE _,fun z h1 h2=>absurd h2 (by omega)⟩ fun kk hkk0=>?_
    obtain⟨hkk,hall⟩:=hkk0
    refine oL (List.range 13) (FzOb.no ?_)
    apply bY <;> intro h2
    ·have h2:0<kk:=by have:=dT h2; omega
     refine⟨i6,⟨⟨by omega,by omega⟩,?_⟩⟩
     have hm:=gd1 (l:=L) (i:=kk - 1) (by omega) default
     have hz:((kk:Int) - 1).toNat=kk - 1:=by omega
     refine⟨by omega,?_⟩
     rw[hz]
     refine oP (zp8 Q (L.getD (kk - 1) default) hQ (hL _ hm)) rfl rfl ?_
     refine sT ?_
     apply bY <;> intro h3
     ·have h3:lsF Q (L.getD (kk - 1) default)=true:=h3
      refine⟨i6,?_⟩
      refine⟨kk - 1,⟨rfl,⟨obD m.ds rfl,obD [I a.X,I a.Y] rfl,obD [I b.X,I b.Y] rfl,obD Q.ds rfl,obR rfl (dE _),trivial⟩,avQ rfl,avQ rfl,avQ rfl,avQ rfl,avR _ rfl,avR _ rfl,avQ rfl,avI rfl (by omega),trivial⟩,⟨by omega,fun z h4 h5=>?_⟩,(show kk - 1<kk by omega)⟩
      by_cases e:z=kk - 1
      ·subst e; exact h3
      exact hall z (by omega) h5
     have h3:lsF Q (L.getD (kk - 1) default)=false:=h3
     have hpos:posS Q L=kk:=zfe Q L kk hkk hall fun _=>h3
     refine⟨⟨.inr rfl,by simp only[maxLen]; omega,by dsimp only; omega⟩,?_⟩
     refine⟨i6,?_⟩
     refine LoopOb.of (σ:=Nat) (fun q=>([(3,.box 3 0),(4,.box 4 0),(5,.box 5 0),(7,.own 7),(8,.d (I i)),(9,.d (I ((j:Int)+1))),(10,.box 10 0),(12,.d (I kk)),(13,.d (I q))],[(3,.box (m.ds.map AV.d)),(4,.box ([I a.X,I a.Y].map AV.d)),(5,.box ([I b.X,I b.Y].map AV.d)),(10,.box (Q.ds.map AV.d)),(7,.row 407 6 (L.length+1) (shR L Q q))])) (fun q=>kk<=q/\q<=L.length) (fun q=>q) L.length
      ⟨rfl,⟨obD m.ds rfl,obD [I a.X,I a.Y] rfl,obD [I b.X,I b.Y] rfl,obD Q.ds rfl,obR rfl (zoL (at6 rfl rfl rfl rfl rfl rfl)),trivial⟩,avQ rfl,avQ rfl,avQ rfl,avQ rfl,avR _ rfl,avR _ rfl,avQ rfl,avR _ rfl,avI rfl (by omega),trivial⟩ ⟨hkk,jE _⟩ fun q hq=>?_
     apply bY <;> intro h5
     ·have h5:kk<q:=by have:=dT h5; omega
      refine⟨i6,⟨⟨by omega,by omega⟩,⟨by omega,⟨⟨by omega,by omega⟩,⟨by omega,?_⟩⟩⟩⟩⟩
      refine⟨i6,?_⟩
      exact⟨q - 1,⟨rfl,⟨obD m.ds rfl,obD [I a.X,I a.Y] rfl,obD [I b.X,I b.Y] rfl,obD Q.ds rfl,obR rfl (zka h5 hq.2 rfl (fun z hz=>zoB h5 hq.2 hz)),trivial⟩,avQ rfl,avQ rfl,avQ rfl,avQ rfl,avR _ rfl,avR _ rfl,avQ rfl,avR _ rfl,avI rfl (by omega),trivial⟩,(show kk<=q - 1/\q - 1<=L.length by omega),(show q - 1<q by omega)⟩
     have h5:q=kk:=by have:=dF h5; omega
     subst h5
     refine⟨⟨by omega,by omega⟩,⟨by omega,?_⟩⟩
     refine⟨i6,?_⟩
     exact⟨j+1,⟨rfl,⟨obD m.ds rfl,obD [I a.X,I a.Y] rfl,obD [I b.X,I b.Y] rfl,obR rfl (by rw[eN]; exact zoC hpos rfl (at6 rfl rfl rfl rfl rfl rfl)),trivial⟩,avQ rfl,avQ rfl,avQ rfl,avQ rfl,avR _ rfl,avI rfl (by omega),trivial⟩,(show j+1<=48 by omega),(msr (by omega))⟩
    have h2:kk=0:=by have:=dF h2; omega
    have hpos:posS Q L=kk:=zfe Q L kk hkk hall fun h=>by omega
    refine sF (sF ?_)
    refine⟨⟨.inr rfl,by simp only[maxLen]; omega,by dsimp only; omega⟩,?_⟩
    refine⟨i6,?_⟩
    refine LoopOb.of (σ:=Nat) (fun q=>([(3,.box 3 0),(4,.box 4 0),(5,.box 5 0),(7,.own 7),(8,.d (I i)),(9,.d (I ((j:Int)+1))),(10,.box 10 0),(12,.d (I kk)),(13,.d (I q))],[(3,.box (m.ds.map AV.d)),(4,.box ([I a.X,I a.Y].map AV.d)),(5,.box ([I b.X,I b.Y].map AV.d)),(10,.box (Q.ds.map AV.d)),(7,.row 407 6 (L.length+1) (shR L Q q))])) (fun q=>kk<=q/\q<=L.length) (fun q=>q) L.length
     ⟨rfl,⟨obD m.ds rfl,obD [I a.X,I a.Y] rfl,obD [I b.X,I b.Y] rfl,obD Q.ds rfl,obR rfl (zoL (at6 rfl rfl rfl rfl rfl rfl)),trivial⟩,avQ rfl,avQ rfl,avQ rfl,avQ rfl,avR _ rfl,avR _ rfl,avQ rfl,avR _ rfl,avI rfl (by omega),trivial⟩ ⟨hkk,jE _⟩ fun q hq=>?_
    apply bY <;> intro h5
    ·have h5:kk<q:=by have:=dT h5; omega
     refine⟨i6,⟨⟨by omega,by omega⟩,⟨by omega,⟨⟨by omega,by omega⟩,⟨by omega,?_⟩⟩⟩⟩⟩
     refine⟨i6,?_⟩
     exact⟨q - 1,⟨rfl,⟨obD m.ds rfl,obD [I a.X,I a.Y] rfl,obD [I b.X,I b.Y] rfl,obD Q.ds rfl,obR rfl (zka h5 hq.2 rfl (fun z hz=>zoB h5 hq.2 hz)),trivial⟩,avQ rfl,avQ rfl,avQ rfl,avQ rfl,avR _ rfl,avR _ rfl,avQ rfl,avR _ rfl,avI rfl (by omega),trivial⟩,(show kk<=q - 1/\q - 1<=L.length by omega),(show q - 1<q by omega)⟩
    have h5:q=kk:=by have:=dF h5; omega
    subst h5
    refine⟨⟨by omega,by omega⟩,⟨by omega,?_⟩⟩
    refine⟨i6,?_⟩
    exact⟨j+1,⟨rfl,⟨obD m.ds rfl,obD [I a.X,I a.Y] rfl,obD [I b.X,I b.Y] rfl,obR rfl (by rw[eN]; exact zoC hpos rfl (at6 rfl rfl rfl rfl rfl rfl)),trivial⟩,avQ rfl,avQ rfl,avQ rfl,avQ rfl,avR _ rfl,avI rfl (by omega),trivial⟩,(show j+1<=48 by omega),(msr (by omega))⟩
   rw[kG hk] at hP
   have eN:linS m a b i (linU m a b i) (j+1)=linS m a b i (linU m a b i) j:=by
    show (if _ then _ else _)=_
    rw[kG hk]
   refine cP hP rfl rfl ?_
   refine Split.yes rfl ?_
   refine⟨i6,?_⟩
   exact⟨j+1,⟨rfl,⟨obD m.ds rfl,obD [I a.X,I a.Y] rfl,obD [I b.X,I b.Y] rfl,obR rfl (by rw[eN]; exact dE _),trivial⟩,avQ rfl,avQ rfl,avQ rfl,avQ rfl,avR _ rfl,avI rfl (by omega),trivial⟩,(show j+1<=48 by omega),(msr (by omega))⟩
  have h1:j=48:=by have:¬ (j:Int)+1<=48:=dF h1; omega
  subst h1
  refine⟨i6,?_⟩
  exact⟨i+1,⟨rfl,⟨obD m.ds rfl,obD [I a.X,I a.Y] rfl,obD [I b.X,I b.Y] rfl,obR rfl (dE _),trivial⟩,wq rfl⟩,(show i+1<=2 by omega),(msr (by omega))⟩
 have h0:i=2:=by have:¬ (i:Int)<2:=dF h0; omega
 subst h0
 exact⟨⟨_,_,_,_,rfl,dE _⟩,trivial⟩
def fstF (l:List Prf) (lo hi:Int):(Int × Int) × Bool:=if idxL (fun x=>ovF x lo hi) l<0 then ((0,0),false) else (((l.getD (idxL (fun x=>ovF x lo hi) l).toNat default).ax,(l.getD (idxL (fun x=>ovF x lo hi) l).toNat default).k),true)
theorem zqR (l:List Prf) (lo hi:Int):(fstF l lo hi).2=l.any fun x=>ovF x lo hi:=by
 unfold fstF
 have h:=zbw (fun x=>ovF x lo hi) l default
 split
 ·rename_i h1
  symm
  refine wE.2 fun h2=>?_
  have:=h.2 h2
  omega
 rename_i h1
 exact (h.1 (by omega)).symm
theorem znc (m:Mp) (a b:Place) (up rise:Int) (hv:validM m=true) (ha:onM m a=true) (hb:onM m b=true) (hu:0<=up/\up<=1000) (hr:0<=rise/\rise<=1000) :
  Spec PP 336 [m.v,a.v,N up,b.v,N rise] [.agg [I (fstF (linL m a b) (grd m a+up) (grd m b+rise)).1.1,I (fstF (linL m a b) (grd m a+up) (grd m b+rise)).1.2],B (fstF (linL m a b) (grd m a+up) (grd m b+rise)).2]:=by
 have hok:=zsz hv ha hb
 have ga:=(zaQ hv ha).2
 have gb:=(zaQ hv hb).2
 have hlen:(linL m a b).length<=96:=zfr m a b 2
 refine sA Tryz.func336 ?_
 refine CallSt.ro (zp7 m a b hv ha hb) rfl rfl ?_
 generalize linL m a b=l at *
 refine LoopOb.of (σ:=Nat) (fun i=>([(2,.d (I up)),(4,.d (I rise)),(5,.box 5 0),(6,.box 6 0),(8,.box 8 0),(10,.box 10 0),(12,.d (lPf l)),(13,.d (I i))],[(5,.box (m.ds.map AV.d)),(6,.box ([I a.X,I a.Y].map AV.d)),(8,.box ([I b.X,I b.Y].map AV.d)),(10,.box ([I 0,I 0].map AV.d))])) (fun i=>i<=l.length /\ ∀ j,j<i->ovF (l.getD j default) (grd m a+up) (grd m b+rise)=false) (fun i=>l.length - i) 0
  ⟨rfl,⟨obD m.ds rfl,obD [I a.X,I a.Y] rfl,obD [I b.X,I b.Y] rfl,obD [I 0,I 0] rfl,trivial⟩,wq rfl⟩ z0L fun i hi=>?_
 obtain⟨hi,hall⟩:=hi
 apply bY <;> intro h1
 ·have h1:i<l.length:=by have:=dT h1; omega
  refine oL (List.range 15) (FzOb.no ?_)
  refine⟨⟨rfl,by omega,by omega⟩,?_⟩
  refine oP (zcn m a hv ha) rfl rfl ?_
  refine⟨i6,?_⟩
  refine oP (zcn m b hv hb) rfl rfl ?_
  refine⟨i6,?_⟩
  refine oP (zp5 (l.getD i default) (grd m a+up) (grd m b+rise) (hok _ (gd1 h1 default)) (by omega) (by omega)) rfl rfl ?_
  apply bY <;> intro h2
  ·have e:idxL (fun x=>ovF x (grd m a+up) (grd m b+rise)) l=(i:Int):=zak (p:=fun x=>ovF x (grd m a+up) (grd m b+rise)) default h1 h2 hall
   have e2:fstF l (grd m a+up) (grd m b+rise)=(((l.getD i default).ax,(l.getD i default).k),true):=by unfold fstF; rw[e,kG (by omega)]; rfl
   rw[e2]
   refine⟨⟨rfl,by omega,by omega⟩,?_⟩
   exact⟨rtC (a:=10) rfl rfl rfl rfl rfl rfl (zaa _),rtB rfl rfl,trivial⟩
  refine⟨i6,?_⟩
  refine⟨i+1,⟨rfl,⟨obD m.ds rfl,obD [I a.X,I a.Y] rfl,obD [I b.X,I b.Y] rfl,obD [I 0,I 0] rfl,trivial⟩,wq rfl⟩,⟨h1,fun j hj=>?_⟩,(msr (by omega))⟩
  by_cases e:j=i
  ·subst e; exact h2
  exact hall j (by omega)
 have h1:i=l.length:=by have:=dF h1; omega
 subst h1
 have e:idxL (fun x=>ovF x (grd m a+up) (grd m b+rise)) l = -1:=zao (p:=fun x=>ovF x (grd m a+up) (grd m b+rise)) default hall
 have e2:fstF l (grd m a+up) (grd m b+rise)=((0,0),false):=by unfold fstF; rw[e]; rfl
 rw[e2]
 exact⟨rtC (a:=10) rfl rfl rfl rfl rfl rfl (zaa _),rtB rfl rfl,trivial⟩
theorem zp3 (m:Mp) (t:Twr) (p:Place) (rise:Int) (hv:validM m=true) (ht:onM m t.At=true) (hp:onM m p=true) (hh:0<=t.H/\t.H<=200) (hr:0<=rise/\rise<=200) :
  Spec PP 324 [m.v,t.v,p.v,N rise] [B (freeB m t.At t.H p rise)]:=by
 refine sA Tryz.func324 ?_
 refine cP (znc m t.At p t.H rise hv ht hp (by omega) (by omega)) rfl rfl ?_
 refine r1B rfl ?_
 unfold freeB
 rw[zqR,znx hv ht hp]
theorem r4_in (c:Ctry) (t:Twr) (p:Place) (rise far:Int) (hv:validM c.M=true) (ht:TwrOk c t) (hp:onM c.M p=true) (hr:0<=rise/\rise<=200) (hf:0<=far/\far<=100) :
  Spec PP 315 [c.M.v,t.v,p.v,N rise,N far] [B (seesB c t p rise far)]:=by
 refine sA Tryz.func315 ?_
 refine cP (zp6 t.At p far (zin hv ht.on) (zin hv hp) hf) rfl rfl ?_
 apply bY <;> intro h1
 ·have h1:nearB t.At p far=true:=h1
  refine cP (zp3 c.M t p rise hv ht.on hp ht.h hr) rfl rfl ?_
  refine sT ?_
  refine r1B rfl ?_
  unfold seesB; rw[h1]; rfl
 have h1:nearB t.At p far=false:=h1
 refine sF ?_
 refine r1B rfl ?_
 unfold seesB; rw[h1]; rfl
theorem zoy {T:List Twr} {i:Nat} (h:i<T.length):towI T (T.getD i default).ID<i ↔ ((T.take i).any fun x=>x.ID==(T.getD i default).ID)=true:=by
 rcases idxL_cases (fun t:Twr=>t.ID==(T.getD i default).ID) T default with⟨_,h2⟩ | ⟨j,h1,h2,h3,h4⟩
 ·have:=h2 i h
  simp at this
 unfold towI
 rw[h2,kJ]
 constructor
 ·intro hj
  have hj:j<i:=by omega
  refine⟨T.getD j default,?_,h3⟩
  have e:(T.take i).getD j default=T.getD j default:=by
   rw[hZ,jS,kH hj,<- hZ]
  rw[<- e]
  exact gd1 (by rw[jQ]; omega) default
 rintro⟨x,hx,hp⟩
 obtain⟨q,hq,rfl⟩:=zbi default hx
 rw[jQ] at hq
 have e:(T.take i).getD q default=T.getD q default:=by
  rw[hZ,jS,kH (by omega),<- hZ]
 rw[e] at hp
 rcases jar q j with h5 | h5
 ·rw[h4 q h5] at hp; cases hp
 omega
theorem zc0 {Z:List Hz} {j:Nat} (h:(Z.getD j default).From<0 \/ (Z.getD j default).To<(Z.getD j default).From \/ 1048576<(Z.getD j default).To \/ (Z.getD j default).From<=lastZ Z j \/ (Z.getD j default).Far<0 \/ 100<(Z.getD j default).Far):hzE Z j=1:=by
 unfold hzE
 refine kH (jL fun h0=>?_)
 simp only[jX,jY,not_or,jam,kA,zab] at h0
 omega
theorem zsF {Z:List Hz} {j:Nat} (h:¬ ((Z.getD j default).From<0 \/ (Z.getD j default).To<(Z.getD j default).From \/ 1048576<(Z.getD j default).To \/ (Z.getD j default).From<=lastZ Z j \/ (Z.getD j default).Far<0 \/ 100<(Z.getD j default).Far)):hzE Z j=0:=by
 unfold hzE
 refine kG fun h0=>h ?_
 simp only[jX,jY,kA] at h0
 rcases h0 with ((h0 | h0) | h0) | h0
 ·have:¬ (0<=(Z.getD j default).From/\(Z.getD j default).From<=(Z.getD j default).To):=fun hh=>by rw[zab.2 hh] at h0; cases h0
  omega
 ·omega
 ·omega
 have:¬ (0<=(Z.getD j default).Far/\(Z.getD j default).Far<=100):=fun hh=>by rw[zab.2 hh] at h0; cases h0
 omega
abbrev Hz.ds (x:Hz):List D:=[I x.From,I x.To,I x.Far]
theorem zh7 (c:Ctry):Spec PP 174 [c.v] [.d (.int .i64 (ctryE c))]:=by
 refine sA Tryz.func174 ?_
 refine cP (znd c.M) rfl rfl ?_
 apply bY <;> intro h0
 ·have h0:validM c.M=false:=by
   have:(!validM c.M)=true:=h0
   simpa using this
  refine r1I rfl ?_
  unfold ctryE; rw[kH h0]
 have h0:validM c.M=true:=by
  have:(!validM c.M)=false:=h0
  simpa using this
 apply bY <;> intro h1
 ·have h1:12<c.T.length:=by have:=dT h1; omega
  repeat first | apply sT | apply sF
  refine r1I rfl ?_
  unfold ctryE; rw[kG (by rw[h0]; decide),kH (.inl h1)]
 have h1:¬ 12<c.T.length:=by have:=dF h1; omega
 repeat first | apply sT | apply sF
 apply bY <;> intro h2
 ·have h2:60<c.Z.length:=by have:=dT h2; omega
  refine r1I rfl ?_
  unfold ctryE; rw[kG (by rw[h0]; decide),kH (.inr h2)]
 have h2:¬ 60<c.Z.length:=by have:=dF h2; omega
 have e0:ctryE c=if err1 (towE c) c.T.length≠0 then err1 (towE c) c.T.length else err1 (hzE c.Z) c.Z.length:=by unfold ctryE; rw[kG (by rw[h0]; decide),kG (by omega)]
 refine LoopOb.of (σ:=Nat) (fun i=>([(1,.box 1 0),(3,.d (I i))],[(1,bxCt c)])) (fun i=>i<=c.T.length /\ ∀ j,j<i->towE c j=0) (fun i=>c.T.length - i) 0
  ⟨rfl,⟨obCt rfl,trivial⟩,wq rfl⟩ z0L fun i hi=>?_
 obtain⟨hi,ha⟩:=hi
 apply bY <;> intro h3
 ·have h3:i<c.T.length:=by have:=dT h3; omega
  have bad:towE c i≠0->ctryE c=towE c i:=fun h=>by
   have:=zal ha h h3
   rw[e0,kH (by rw[this]; exact h),this]
  have bad1:(!within (c.T.getD i default).ID 1 1099511627776 || !onM c.M (c.T.getD i default).At || !within (c.T.getD i default).H 0 200)=true->ctryE c=1:=fun h=>by
   have:towE c i=1:=by unfold towE; rw[kH h]
   rw[bad (by rw[this]; decide),this]
  refine⟨⟨rfl,by omega,by omega⟩,?_⟩
  apply bY <;> intro k1
  ·have k1:(c.T.getD i default).ID<1:=dT k1
   repeat first | apply sT | apply sF
   refine r1I rfl ?_
   rw[bad1 (by unfold within; rw[jH (show ¬ 1<=(c.T.getD i default).ID by omega)]; rfl)]
  have k1:¬ (c.T.getD i default).ID<1:=dF k1
  repeat first | apply sT | apply sF
  apply bY <;> intro k2
  ·have k2:1099511627776<(c.T.getD i default).ID:=dT k2
   repeat first | apply sT | apply sF
   refine r1I rfl ?_
   rw[bad1 (by unfold within; rw[jH (show ¬ (c.T.getD i default).ID<=1099511627776 by omega),kN]; rfl)]
  have k2:¬ 1099511627776<(c.T.getD i default).ID:=dF k2
  have w1:within (c.T.getD i default).ID 1 1099511627776=true:=zab.2 (by omega)
  repeat first | apply sT | apply sF
  refine cP (zr1 c.M (c.T.getD i default).At) rfl rfl ?_
  repeat first | apply sT | apply sF
  apply bY <;> intro k3
  ·have k3:(!onM c.M (c.T.getD i default).At)=true:=k3
   repeat first | apply sT | apply sF
   refine r1I rfl ?_
   rw[bad1 (by rw[k3,kO]; rfl)]
  have k3:(!onM c.M (c.T.getD i default).At)=false:=k3
  repeat first | apply sT | apply sF
  refine cP (zky (c.T.getD i default).H) rfl rfl ?_
  repeat first | apply sT | apply sF
  apply bY <;> intro k4
  ·have k4:(!within (c.T.getD i default).H 0 200)=true:=k4
   refine r1I rfl ?_
   rw[bad1 (by rw[k4,kO])]
  have k4:(!within (c.T.getD i default).H 0 200)=false:=k4
  have eT:towE c i=if ((c.T.take i).any fun x=>x.ID==(c.T.getD i default).ID)=true then 6 else 0:=by
   unfold towE; rw[kG (by rw[w1,k3,k4]; decide)]
  refine cP (zew c (c.T.getD i default).ID (by omega)) rfl rfl ?_
  apply bY <;> intro k5
  ·have k5:towI c.T (c.T.getD i default).ID<i:=dT k5
   have e:towE c i=6:=by rw[eT,kH ((zoy h3).1 k5)]
   refine r1I rfl ?_
   rw[bad (by rw[e]; decide),e]
  have k5:¬ towI c.T (c.T.getD i default).ID<i:=dF k5
  have e:towE c i=0:=by rw[eT,kG fun h=>k5 ((zoy h3).2 h)]
  refine⟨i6,?_⟩
  refine⟨i+1,⟨rfl,⟨obCt rfl,trivial⟩,wq rfl⟩,⟨h3,fun j hj=>?_⟩,(msr (by omega))⟩
  by_cases q:j=i
  ·subst q; exact e
  exact ha j (by omega)
 have h3:i=c.T.length:=by have:=dF h3; omega
 subst h3
 have e1:ctryE c=err1 (hzE c.Z) c.Z.length:=by rw[e0,zaF ha]; rfl
 clear ha
 refine LoopOb.of (σ:=Nat) (fun i=>([(1,.box 1 0),(5,.d (I i))],[(1,bxCt c)])) (fun i=>i<=c.Z.length /\ ∀ j,j<i->hzE c.Z j=0) (fun i=>c.Z.length - i) 0
  ⟨rfl,⟨obCt rfl,trivial⟩,wq rfl⟩ z0L fun i hi=>?_
 obtain⟨hi,ha⟩:=hi
 apply bY <;> intro h3
 ·have h3:i<c.Z.length:=by have:=dT h3; omega
  have bad1:hzE c.Z i=1->ctryE c=1:=fun h=>by rw[e1,zal ha (by rw[h]; decide) h3,h]
  refine⟨⟨rfl,by omega,by omega⟩,?_⟩
  refine oL (List.range 41) (FzOb.no ?_)
  apply bY <;> intro k1
  ·have k1:(c.Z.getD i default).From<0:=dT k1
   repeat first | apply sT | apply sF
   refine r1I rfl ?_
   rw[bad1 (zc0 (.inl k1))]
  have k1:¬ (c.Z.getD i default).From<0:=dF k1
  repeat first | apply sT | apply sF
  apply bY <;> intro k2
  ·have k2:(c.Z.getD i default).To<(c.Z.getD i default).From:=dT k2
   repeat first | apply sT | apply sF
   refine r1I rfl ?_
   rw[bad1 (zc0 (.inr (.inl k2)))]
  have k2:¬ (c.Z.getD i default).To<(c.Z.getD i default).From:=dF k2
  repeat first | apply sT | apply sF
  apply bY <;> intro k3
  ·have k3:1048576<(c.Z.getD i default).To:=dT k3
   repeat first | apply sT | apply sF
   refine r1I rfl ?_
   rw[bad1 (zc0 (.inr (.inr (.inl k3))))]
  have k3:¬ 1048576<(c.Z.getD i default).To:=dF k3
  repeat first | apply sT | apply sF
  apply bY <;> intro k4
  ·have k4:0<i:=by have:(0:Int)<i:=dT k4; omega
   have eL:lastZ c.Z i=(c.Z.getD (i - 1) default).To:=by
    obtain⟨d,rfl⟩:∃ d,i=d+1:=⟨i - 1,by omega⟩
    rfl
   have hz:((i:Int) - 1).toNat=i - 1:=by omega
   refine⟨i6,⟨⟨rfl,by omega,by omega⟩,?_⟩⟩
   rw[hz]
   refine sT ?_
   refine sF ?_
   apply bY <;> intro k5
   ·have k5:(c.Z.getD i default).From<=(c.Z.getD (i - 1) default).To:=dT k5
    repeat first | apply sT | apply sF
    refine r1I rfl ?_
    rw[bad1 (zc0 (.inr (.inr (.inr (.inl (by rw[eL]; exact k5))))))]
   have k5:¬ (c.Z.getD i default).From<=(c.Z.getD (i - 1) default).To:=dF k5
   repeat first | apply sT | apply sF
   apply bY <;> intro k6
   ·have k6:(c.Z.getD i default).Far<0:=dT k6
    repeat first | apply sT | apply sF
    refine r1I rfl ?_
    rw[bad1 (zc0 (.inr (.inr (.inr (.inr (.inl k6))))))]
   have k6:¬ (c.Z.getD i default).Far<0:=dF k6
   repeat first | apply sT | apply sF
   apply bY <;> intro k7
   ·have k7:100<(c.Z.getD i default).Far:=dT k7
    refine r1I rfl ?_
    rw[bad1 (zc0 (.inr (.inr (.inr (.inr (.inr k7))))))]
   have k7:¬ 100<(c.Z.getD i default).Far:=dF k7
   have e:hzE c.Z i=0:=zsF (by rw[eL]; omega)
   refine⟨i6,?_⟩
   refine⟨i+1,⟨rfl,⟨obCt rfl,trivial⟩,wq rfl⟩,⟨h3,fun j hj=>?_⟩,(msr (by omega))⟩
   by_cases q:j=i
   ·subst q; exact e
   exact ha j (by omega)
  have k4:i=0:=by have:¬ (0:Int)<i:=dF k4; omega
  subst k4
  repeat first | apply sT | apply sF
  apply bY <;> intro k6
  ·have k6:(c.Z.getD 0 default).Far<0:=dT k6
   repeat first | apply sT | apply sF
   refine r1I rfl ?_
   rw[bad1 (zc0 (.inr (.inr (.inr (.inr (.inl k6))))))]
  have k6:¬ (c.Z.getD 0 default).Far<0:=dF k6
  repeat first | apply sT | apply sF
  apply bY <;> intro k7
  ·have k7:100<(c.Z.getD 0 default).Far:=dT k7
   refine r1I rfl ?_
   rw[bad1 (zc0 (.inr (.inr (.inr (.inr (.inr k7))))))]
  have k7:¬ 100<(c.Z.getD 0 default).Far:=dF k7
  have e:hzE c.Z 0=0:=zsF (by show ¬ (_ \/ _ \/ _ \/ _<=(-1:Int) \/ _ \/ _); omega)
  refine⟨i6,?_⟩
  refine⟨0+1,⟨rfl,⟨obCt rfl,trivial⟩,wq rfl⟩,⟨h3,fun j hj=>?_⟩,(msr (by omega))⟩
  obtain rfl:j=0:=by omega
  exact e
 have h3:i=c.Z.length:=by have:=dF h3; omega
 subst h3
 refine r1I rfl ?_
 rw[e1,zaF ha]
theorem zp9 (c:Ctry) (id:Int) (p:Place) (h t:Int):Spec PP 299 [c.v,N id,p.v,N h,N t] [B (seesE c id p h t).1,.d (.int .i64 (seesE c id p h t).2)]:=by
 refine sA Tryz.func299 ?_
 refine cP (zh7 c) rfl rfl ?_
 apply bY <;> intro h0
 ·have e:seesE c id p h t=(false,ctryE c):=by unfold seesE; rw[kH (by simpa using h0)]
  rw[e]; exact r2BI rfl rfl rfl rfl
 have h0:ctryE c=0:=by simpa using h0
 have ok:=zd0 h0
 refine cP (zew c id (by have:=ok.t; omega)) rfl rfl ?_
 apply bY <;> intro h1
 ·have h1:towI c.T id<0:=dT h1
  have e1:(towG c.T id).2=false:=by unfold towG; rw[kH h1]
  have e:seesE c id p h t=(false,5):=by unfold seesE; rw[kG (fun hh=>hh h0),kH e1]
  rw[e]; exact r2BI rfl rfl rfl rfl
 have h1:¬ towI c.T id<0:=dF h1
 have eG:towG c.T id=(c.T.getD (towI c.T id).toNat default,true):=by unfold towG; rw[kG h1]
 have e0:seesE c id p h t=if (!onM c.M p || !within h 0 200 || !within t 0 1048576)=true then (false,1) else (seesB c (c.T.getD (towI c.T id).toNat default) p h (farZ t c.Z),0):=by unfold seesE; rw[kG (fun hh=>hh h0),kG (by rw[eG]; exact fun hh=>by cases hh),eG]
 refine cP (zr1 c.M p) rfl rfl ?_
 apply bY <;> intro h2
 ·have h2:(!onM c.M p)=true:=h2
  repeat first | apply sT | apply sF
  rw[e0,kH (by rw[h2]; rfl)]; exact r2BI rfl rfl rfl rfl
 have h2:(!onM c.M p)=false:=h2
 refine cP (zky h) rfl rfl ?_
 repeat first | apply sT | apply sF
 apply bY <;> intro h3
 ·have h3:(!within h 0 200)=true:=h3
  repeat first | apply sT | apply sF
  rw[e0,kH (by rw[h3,kO]; rfl)]; exact r2BI rfl rfl rfl rfl
 have h3:(!within h 0 200)=false:=h3
 refine cP (zkz t) rfl rfl ?_
 repeat first | apply sT | apply sF
 apply bY <;> intro h4
 ·have h4:(!within t 0 1048576)=true:=h4
  rw[e0,kH (by rw[h4,kO])]; exact r2BI rfl rfl rfl rfl
 have h4:(!within t 0 1048576)=false:=h4
 rw[e0,kG (by rw[h2,h3,h4]; decide)]
 have hp:onM c.M p=true:=by simpa using h2
 have hh:within h 0 200=true:=by simpa using h3
 have hw:=zjX ok (id:=id) (by rw[eG])
 rw[eG] at hw
 have ht:within t 0 1048576=true:=by simpa using h4
 have hlt:(towI c.T id).toNat<c.T.length:=by
  rcases idxL_cases (fun x:Twr=>x.ID==id) c.T default with⟨g1,_⟩ | ⟨i,g1,g2,_⟩
  ·exact absurd (show towI c.T id<0 by unfold towI; rw[g1]; decide) h1
  unfold towI; rw[g2]; exact g1
 refine oL (List.range 15) (FzOb.no ?_)
 refine⟨⟨rfl,by omega,by omega⟩,?_⟩
 refine oP (zr0 c t (by have:=ok.z; omega)) rfl rfl ?_
 refine oP (r4_in c (c.T.getD (towI c.T id).toNat default) p h (farZ t c.Z) ok.m hw hp (zab.1 hh) (zhr ok.f)) rfl rfl ?_
 exact r2BI rfl rfl rfl rfl
theorem zea (n lo hi:Int):Spec PP 252 [N n,N lo,N hi] [B (within n lo hi)]:=by
 refine sA Tryz.func252 ?_
 apply bY <;> intro h1
 ·have h1:decide (lo<=n)=true:=h1
  refine sT ?_
  refine r1B rfl ?_
  unfold within; rw[h1]; rfl
 have h1:decide (lo<=n)=false:=h1
 refine sF ?_
 refine r1B rfl ?_
 unfold within; rw[h1]; rfl
end Go.Pg
namespace Go.Pg
open Go.Proofs Go.RowKit Go.Sort Go.Shelf
theorem zo7 {g:Int->Int->Int} (hg:∀ x y,g x y=0) (a b c d k:Int):crsH g a b c d k=0:=by
 unfold crsH
 simp only[hg,Int.mul_zero,Int.add_zero,ite_self]
theorem zha {m:Mp} (hm:∀ p,grd m p=0) (a b:Place):∀ (n:Nat) (k0 k1:Int),∀ p∈ptsF m a b n k0 k1,p.hi=0
 | 0,_,_,p,hp=>by cases hp
 | n+1,k0,k1,p,hp=>by
  unfold ptsF at hp
  split at hp
  ·split at hp
   ·rcases kT.1 hp with rfl | hp
    ·exact zo7 (g:=fun y x=>grd m ⟨x,y⟩) (fun _ _=>hm _) _ _ _ _ _
    exact zha hm a b n _ _ p hp
   rcases kT.1 hp with rfl | hp
   ·exact zo7 (g:=fun x y=>grd m ⟨x,y⟩) (fun _ _=>hm _) _ _ _ _ _
   exact zha hm a b n _ _ p hp
  cases hp
theorem zgu {m:Mp} (hm:∀ p,grd m p=0) (hv:validM m=true) {a b:Place} (ha:onM m a=true) (hb:onM m b=true) {ta tb:Int} (h1:0<=ta) (h2:0<=tb):freeB m a ta b tb=true:=by
 unfold freeB
 rw[jY,jaz]
 intro p hp
 have ok:=zoO hv ha hb p hp
 have h3:=zha hm a b _ _ _ p hp
 unfold ovrB abvI
 rw[h3,hm,hm]
 have k1:=wD (show 0<=p.n - p.k by have:=ok.k; omega) (show 0<=0+ta by omega)
 have k2:=wD ok.k.1 (show 0<=0+tb by omega)
 simp only[kA]
 omega
end Go.Pg
namespace Go.Pg
open Go.RowKit Go.ChangeShapes Go.WideShapes Go.Deep
section
variable {H:Type} {enc:TypeId × Value->H} {P:Program} {w:World} {base:Nat} {spare:Nat->Bool} {held:Bool}
def IntFs (P:Program) (fs:Array Field):Prop:=∀ (j:Nat) (f:Field),fs[j]?=some f->P.underlying f.type=some (.int .i64)
end
inductive Sh where
  | int (k:IntKind)
  | sl (k:Nat) (f:Nat->Sh)
def Fits:Sh->D->Prop
 | .int k,x=>∃ n:Int,(k.min<=n/\n<=k.max)/\x = .int k n
 | .sl k s,x=>∃ (n:Nat) (f:Nat->Nat->D),x = .slc k n f/\n<=maxLen /\ ∀ i,i<n -> ∀ j,j<k->Fits (s j) (f i j)
def GdS (w:World) (s:Sh) (v:Value):Prop:=∃ x:D,Rep w (fun b=>b<w.heap.size) x v/\Fits s x
def shFs (cells:TypeId->Nat) (g:TypeId->Option (List Sh)):Nat->List Field->Option (List Sh)
 | _,[]=>some []
 | off,f :: r=>(g f.type).bind fun a=>bif f.offset==off && a.length==cells f.type then (shFs cells g (off+a.length) r).map fun b=>a++b else none
def shSt (P:Program) (g:TypeId->Option (List Sh)) (t:TypeId) (fs:Array Field):Option (List Sh):=(shFs P.cellsOf g 0 fs.toList).bind fun ks=>bif ks.length==P.cellsOf t then some ks else none
def shSl (P:Program) (g:TypeId->Option (List Sh)) (e:TypeId):Option (List Sh):=(g e).bind fun ks=>bif ks.length==P.cellsOf e then some [.sl ks.length fun j=>getD' ks j] else none
where getD':List Sh->Nat->Sh
 | [],_=>.int .i64
 | x :: _,0=>x
 | _ :: r,j+1=>getD' r j
def shOf (P:Program):Nat->TypeId->Option (List Sh)
 | 0,_=>none
 | n+1,t=>match P.underlying t with
  | some (.int k)=>some [.int k]
  | some (.slice e)=>shSl P (shOf P n) e
  | some (.struct fs)=>shSt P (shOf P n) t fs
  | _=>none
theorem zmO {l:List Sh} {j:Nat} (h:j<l.length):l[j]?=some (shSl.getD' l j):=by
 induction l generalizing j with
 | nil=>cases h
 | cons x r ih=>cases j with
  | zero=>rfl
  | succ j=>simpa [shSl.getD'] using ih (by simpa using h)
theorem All2.app' {α β:Type} {R:α->β->Prop} {a c:List α} {b d:List β} (h1:All2 R a b) (h2:All2 R c d):All2 R (a++c) (b++d):=by
 induction h1 with
 | nil=>exact h2
 | cons h _ ih=>exact .cons h ih
theorem zq3 {w:World} {a:Addr} {v:Value} (h:w.cell? a=some v):a.block<w.heap.size:=by
 rcases jar a.block w.heap.size with h1 | h1
 ·exact h1
 simp only[World.cell?,jae h1] at h
 cases h
theorem zpm {k:IntKind} {n:Int} (h:(Lit.int k n).wf=true):k.min<=n/\n<=k.max:=by
 have h:(decide (IntKind.min k<=n) && decide (n<=IntKind.max k))=true:=h
 simp only[jP,kA] at h
 exact h
section
variable {H:Type} {enc:TypeId × Value->H} {P:Program} {w:World} {base:Nat} {spare:Nat->Bool} {held:Bool}
theorem zf5 {g:TypeId->Option (List Sh)} {n:Nat} {cs:List Value}
  (ih:∀ t ks,g t=some ks -> ∀ cs x,DataW.trod enc P w base spare held n t cs=some x->All2 (GdS w) ks cs) :
  ∀ (r:List Field) (off:Nat) (ks:List Sh),shFs P.cellsOf g off r=some ks->(∀ f∈r,∃ x,DataW.trod enc P w base spare held n f.type ((cs.drop f.offset).take (P.cellsOf f.type))=some x)->All2 (GdS w) ks ((cs.drop off).take ks.length)
 | [],off,ks,h,_=>by
  simp only[shFs,jO] at h
  subst h
  exact .nil
 | f :: r,off,ks,h,hx=>by
  unfold shFs at h
  obtain⟨a,ha,h⟩:=jbD.1 h
  cases hc:f.offset==off && a.length==P.cellsOf f.type with
  | false=>rw[hc] at h; cases h
  | true=>
  rw[hc] at h
  obtain⟨b,hb,rfl⟩:=Option.map_eq_some_iff.1 (show (shFs P.cellsOf g (off+a.length) r).map (fun b=>a++b)=some ks from h)
  simp only[jP,jay] at hc
  obtain⟨x,h1⟩:=hx f (qV ..)
  rw[hc.1,<- hc.2] at h1
  have g1:=ih _ _ ha _ _ h1
  have g2:=zf5 ih r (off+a.length) b hb fun f hf=>hx f (qT _ hf)
  rw[jR,List.take_add,List.drop_drop]
  exact g1.app' g2
theorem ze1:∀ (n:Nat) (t:TypeId) (ks:List Sh),shOf P n t=some ks -> ∀ (fuel:Nat) (cs:List Value) (x:DataW H × List MemPlace),DataW.trod enc P w base spare held fuel t cs=some x->All2 (GdS w) ks cs
 | 0,_,_,h,_,_,_,_=>by cases h
 | n+1,t,ks,h,fuel,cs,x,ht=>by
  unfold shOf at h
  split at h
  ·rename_i k hu
   simp only[jO] at h
   subst h
   obtain⟨m,rfl,_,hw⟩:=DataW.trod_int hu ht
   exact .cons ⟨.int k m,rfl,m,zpm hw,rfl⟩ .nil
  ·rename_i e hu
   unfold shSl at h
   obtain⟨ks',hk,h⟩:=jbD.1 h
   cases hc:ks'.length==P.cellsOf e with
   | false=>rw[hc] at h; cases h
   | true=>
   rw[hc] at h
   simp only[k9,jO] at h
   subst h
   have hc:=jay.1 hc
   obtain⟨v,rfl⟩:∃ v,cs=[v]:=by
    rcases open_slice hu ht with⟨rfl,_⟩ | ⟨ad,len,cap,m,n',D,Pl,rfl,_⟩
    ·exact⟨_,rfl⟩
    exact⟨_,rfl⟩
   refine .cons ?_ .nil
   rcases open_slice hu ht with⟨h1,_⟩ | ⟨ad,len,cap,m,n',D,Pl,h1,hb,hl,hm,hmm,hx,hi⟩
   ·cases h1
    exact⟨.slc ks'.length 0 fun _ _=>.nil,.inl ⟨rfl,rfl⟩,0,_,rfl,by unfold maxLen; omega,fun i hi=>absurd hi (qK _)⟩
   cases h1
   have key:∀ i,i<len -> ∀ j,j<ks'.length -> ∃ v,w.cell? (ad.add (i * ks'.length+j))=some v/\GdS w (shSl.getD' ks' j) v:=fun i him j hjl=>by
    obtain⟨cs',hcc,ht'⟩:=hi i (by rw[hmm]; split <;> omega)
    have hg:=ze1 n e ks' hk _ _ _ ht'
    obtain⟨_,hcl,hat⟩:=World.cells?_some hcc
    obtain⟨v,hv,hgv⟩:=hg.get j _ (zmO hjl)
    refine⟨v,?_,hgv⟩
    rw[<- Go.Deep.add_add,hc]
    rw[hat j (by omega)]; exact hv
   refine⟨.slc ks'.length len fun i j=>if h:i<len/\j<ks'.length then Classical.choose (jaH (key i h.1 j h.2)).2 else .nil,.inr ⟨ad,cap,rfl,hl,hm,fun i hi j hj=>?_⟩,len,_,rfl,by omega,fun i hi j hj=>?_⟩
   ·have hs:=jaH (key i hi j hj)
    have hs2:=jaH hs.2
    refine⟨?_,_,hs.1,?_⟩
    ·have:=zq3 hs.1
     rwa [zaH] at this
    dsimp only; rw[dif_pos ⟨hi,hj⟩]; exact hs2.1
   dsimp only; rw[dif_pos ⟨hi,hj⟩]
   exact (jaH (jaH (key i hi j hj)).2).2
  ·rename_i fs hu
   unfold shSt at h
   obtain⟨ks',hk,h⟩:=jbD.1 h
   cases hc:ks'.length==P.cellsOf t with
   | false=>rw[hc] at h; cases h
   | true=>
   rw[hc] at h
   simp only[k9,jO] at h
   subst h
   obtain⟨xs,m,rfl,_,hl,hlen,hf⟩:=DataW.trod_struct hu ht
   have key:=zf5 (cs:=cs) (n:=m) (fun t ks h cs x hx=>ze1 n t ks h m cs x hx) fs.toList 0 ks' hk fun f hf'=>by
    obtain⟨i,hi,rfl⟩:=qJ hf'
    have hi':i<fs.size:=by simpa using hi
    have h1:=hf i fs[i] (wF hi')
    rw[kF (show i<xs.length by omega)] at h1
    exact⟨_,by simpa using h1⟩
   rw[List.drop_zero,List.take_of_length_le (by have:=jay.1 hc; omega)] at key
   exact key
  cases h
theorem zdR:∀ {ks:List Sh} {cs:List Value},All2 (GdS w) ks cs -> ∃ xs:List D,All2 (Rep w (fun b=>b<w.heap.size)) xs cs/\All2 Fits ks xs
 | [],[],.nil=>⟨[],.nil,.nil⟩
 | _ :: _,_ :: _,.cons ⟨x,h1,h2⟩ h=>by
  obtain⟨xs,h3,h4⟩:=zdR h
  exact⟨x :: xs,.cons h1 h3,.cons h2 h4⟩
theorem openS {r:Reach} {b0:Nat} (n:Nat) {t:TypeId} {fs:Array Field} {ks:List Sh} {v:Value} {d:DataW H} {p:List MemPlace} (hs:P.underlying t=some (.struct fs)) (hk:shOf P n t=some ks)
  (hv:Value.okWide P w r b0 t v) (h:DataW.Trod enc P w base spare held t v d p):∃ xs:List D,Rep1 w (fun b=>b<w.heap.size) (.agg xs) v/\All2 Fits ks xs:=by
 obtain⟨cs,rfl,hsz⟩:=okWide_struct hs hv
 obtain⟨fuel,hf⟩:=h
 obtain⟨xs,h1,h2⟩:=zdR (ze1 n t ks hk fuel _ _ (by simpa [Value.cells] using hf))
 exact⟨xs,⟨cs.toList,by simp,h1⟩,h2⟩
theorem openL {r:Reach} {b0:Nat} (n:Nat) {t e:TypeId} {ks:List Sh} {v:Value} {d:DataW H} {p:List MemPlace} (hs:P.underlying t=some (.slice e)) (hk:shOf P (n+1) t=some ks)
  (hv:Value.okWide P w r b0 t v) (h:DataW.Trod enc P w base spare held t v d p):∃ x:D,Rep1 w (fun b=>b<w.heap.size) (.d x) v/\All2 Fits ks [x]:=by
 obtain⟨a,len,cap,rfl⟩:=okWide_slice hs hv
 obtain⟨fuel,hf⟩:=h
 obtain⟨xs,h1,h2⟩:=zdR (ze1 (n+1) t ks hk fuel _ _ (by simpa [Value.cells] using hf))
 cases h1 with
 | cons h h'=>cases h'; exact⟨_,h,h2⟩
end
theorem fitsL {α:Type} [Inhabited α] {k:Nat} {at_:α->Nat->D} {s:Nat->Sh} {x:D} (mkα:(Nat->Int)->α) (hi:∀ j,j<k->s j = .int .i64) (hk:∀ g:Nat->Int,∀ j,j<k->at_ (mkα g) j=I (g j)) (h:Fits (.sl k s) x) :
  ∃ l:List α,l.length<=maxLen/\(∀ a∈l,∃ g:Nat->Int,a=mkα g /\ ∀ j,j<k -> -9223372036854775808<=g j/\g j<=9223372036854775807)/\D.eqv x (.slc k l.length fun i=>at_ (l.getD i default)):=by
 obtain⟨n,f,rfl,hn,hf⟩:=h
 have key:∀ i,i<n -> ∀ j,j<k -> ∃ z:Int,(-9223372036854775808<=z/\z<=9223372036854775807)/\f i j=I z:=fun i hi' j hj=>by
  have h1:=hf i hi' j hj
  rw[hi j hj] at h1
  exact h1
 let g:Nat->Nat->Int:=fun i j=>if h:i<n/\j<k then Classical.choose (key i h.1 j h.2) else 0
 have hg:∀ i,i<n -> ∀ j,j<k->(-9223372036854775808<=g i j/\g i j<=9223372036854775807)/\f i j=I (g i j):=fun i hi' j hj=>by
  have e:g i j=Classical.choose (key i hi' j hj):=dif_pos ⟨hi',hj⟩
  rw[e]
  exact jaH (key i hi' j hj)
 refine⟨(List.range n).map fun i=>mkα (g i),by simpa using hn,fun a ha=>?_,by simp,.inr ⟨rfl,fun i hi' j hj=>?_⟩⟩
 ·obtain⟨i,hi',rfl⟩:=kI.1 ha
  exact⟨g i,rfl,fun j hj=>(hg i (kK.1 hi') j hj).1⟩
 have e:((List.range n).map fun i=>mkα (g i)).getD i default=mkα (g i):=by
  rw[hZ,jU,wB hi']; rfl
 show D.eqv (f i j) (at_ (((List.range n).map fun i=>mkα (g i)).getD i default) j)
 rw[e,hk _ j hj,(hg i hi' j hj).2]
 exact⟨rfl,rfl⟩
end Go.Pg
namespace Go.Pg
open Go.Proofs Go.RowKit
theorem avBl {s:St} {ob:Nat->Option Ob} {v:AV} {a b:Bool} (h:v = .d (.bool a)) (e:a=b):AVle s ob v (.d (.bool b)):=by subst h; subst e; exact dE _
theorem zeu (s:Svc) (id:Int) (hn:s.c.T.length<=1000000):Spec PP 243 [s.v,N id] [N (towI s.c.T id)]:=by
 refine sA Tryz.func243 ?_
 refine LoopOb.of (σ:=Nat) (fun i=>([(1,.d (I id)),(2,.box 2 0),(5,.d (I i))],[(2,.box (s.ds.map AV.d))])) (fun i=>i<=s.c.T.length /\ ∀ j,j<i->((s.c.T.getD j default).ID==id)=false) (fun i=>s.c.T.length - i) 0
  ⟨rfl,⟨obD s.ds rfl,trivial⟩,wq rfl⟩ z0L fun i hi=>?_
 obtain⟨hi,ha⟩:=hi
 apply bY <;> intro h1
 ·have h1:i<s.c.T.length:=by have:=dT h1; omega
  refine⟨⟨rfl,by omega,by omega⟩,?_⟩
  apply bY <;> intro h2
  ·refine r1I rfl ?_
   exact (zak (p:=fun t:Twr=>t.ID==id) default h1 h2 ha).symm
  refine⟨i6,?_⟩
  refine⟨i+1,⟨rfl,⟨obD s.ds rfl,trivial⟩,wq rfl⟩,⟨h1,fun j hj=>?_⟩,(msr (by omega))⟩
  by_cases e:j=i
  ·subst e; exact h2
  exact ha j (by omega)
 have h1:i=s.c.T.length:=by have:=dF h1; omega
 subst h1
 refine r1I rfl ?_
 exact (zao (p:=fun t:Twr=>t.ID==id) default ha).symm
theorem zg1 (s:Svc) (id:Int) (hn:s.k.C.length<=1000000):Spec PP 244 [s.v,N id] [N (cirI s.k id)]:=by
 refine sA Tryz.func244 ?_
 refine LoopOb.of (σ:=Nat) (fun i=>([(1,.d (I id)),(2,.box 2 0),(5,.d (I i))],[(2,.box (s.ds.map AV.d))])) (fun i=>i<=s.k.C.length /\ ∀ j,j<i->((s.k.C.getD j default).ID==id)=false) (fun i=>s.k.C.length - i) 0
  ⟨rfl,⟨obD s.ds rfl,trivial⟩,wq rfl⟩ z0L fun i hi=>?_
 obtain⟨hi,ha⟩:=hi
 apply bY <;> intro h1
 ·have h1:i<s.k.C.length:=by have:=dT h1; omega
  refine⟨⟨rfl,by omega,by omega⟩,?_⟩
  apply bY <;> intro h2
  ·refine r1I rfl ?_
   exact (zak (p:=fun t:Cir=>t.ID==id) default h1 h2 ha).symm
  refine⟨i6,?_⟩
  refine⟨i+1,⟨rfl,⟨obD s.ds rfl,trivial⟩,wq rfl⟩,⟨h1,fun j hj=>?_⟩,(msr (by omega))⟩
  by_cases e:j=i
  ·subst e; exact h2
  exact ha j (by omega)
 have h1:i=s.k.C.length:=by have:=dF h1; omega
 subst h1
 refine r1I rfl ?_
 exact (zao (p:=fun t:Cir=>t.ID==id) default ha).symm
theorem tm36 (n:Int):(n.tmod 3600+3600).tmod 3600=n % 3600:=by
 have h1:=qX n (show (0:Int)<3600 by decide)
 have h2:=qX (-n) (show (0:Int)<3600 by decide)
 rw[jbr] at h2
 rw[wA (by omega)]
 rw[Int.tmod_eq_emod]
 split
 ·show (n % 3600 - 0+3600) % 3600=n % 3600
  omega
 show (n % 3600 - 3600+3600) % 3600=n % 3600
 omega
theorem zdd (n:Int) (hn:-1000000000000<=n/\n<=1000000000000):Spec PP 282 [N n] [N (n % 3600)]:=by
 have h1:=qX n (show (0:Int)<3600 by decide)
 have h2:=qX (-n) (show (0:Int)<3600 by decide)
 rw[jbr] at h2
 refine sA Tryz.func282 ?_
 refine⟨by decide,⟨i6,⟨by decide,?_⟩⟩⟩
 exact r1I rfl (tm36 n)
theorem zom {α:Type} {p:α->Bool} {l:List α} {j:Nat} (h:j<l.length) (d:α):(l.take (j+1)).any p=((l.take j).any p || p (l.getD j d)):=by
 rw[zaE h d,List.any_append,List.any_cons,List.any_nil,jaf]
theorem ze8 (s:Svc):Spec PP 121 [s.v] [.d (.int .i64 (svcE s))]:=by
 refine sA Tryz.func121 ?_
 refine cP (zh7 s.c) rfl rfl ?_
 apply bY <;> intro h0
 ·have h0:ctryE s.c≠0:=by simpa using h0
  refine r1I rfl ?_
  unfold svcE; rw[kH h0]
 have h0:ctryE s.c=0:=by simpa using h0
 have ok0:=zd0 h0
 refine cP (ze9 s.k) rfl rfl ?_
 apply bY <;> intro h1
 ·have h1:cirsE s.k≠0:=by simpa using h1
  refine r1I rfl ?_
  unfold svcE; rw[kG (fun hh=>hh h0),kH h1]
 have h1:cirsE s.k=0:=by simpa using h1
 have ok1:=zbB h1
 have e0:svcE s=err1 (svc1E s) s.k.C.length:=by unfold svcE; rw[kG (fun hh=>hh h0),kG (fun hh=>hh h1)]
 have hn:=ok1.n
 have ht:=ok0.t
 refine LoopOb.of (σ:=Nat) (fun i=>([(1,.box 1 0),(4,.d (I i))],[(1,.box (s.ds.map AV.d))])) (fun i=>i<=s.k.C.length /\ ∀ j,j<i->svc1E s j=0) (fun i=>s.k.C.length - i) 0
  ⟨rfl,⟨obD s.ds rfl,trivial⟩,wq rfl⟩ z0L fun i hi=>?_
 obtain⟨hi,ha⟩:=hi
 apply bY <;> intro h3
 ·have h3:i<s.k.C.length:=by have:=dT h3; omega
  refine LoopOb.of (σ:=Nat) (fun j=>([(1,.box 1 0),(4,.d (I i)),(5,.d (.bool ((s.c.T.take j).any fun w=>decide (w.At=(s.k.C.getD i default).At)))),(6,.d (I j))],[(1,.box (s.ds.map AV.d))])) (fun j=>j<=s.c.T.length) (fun j=>s.c.T.length - j) 0
   ⟨rfl,⟨obD s.ds rfl,trivial⟩,wq rfl⟩ (jF _) fun j hj=>?_
  have hj:j<=s.c.T.length:=hj
  apply bY <;> intro h4
  ·have h4:j<s.c.T.length:=by have:=dT h4; omega
   have eA:=zom (p:=fun w:Twr=>decide (w.At=(s.k.C.getD i default).At)) h4 default
   refine oL (List.range 19) (FzOb.no ?_)
   apply bY <;> intro h5
   ·have h5:((s.c.T.take j).any fun w=>decide (w.At=(s.k.C.getD i default).At))=true:=h5
    repeat first | apply sT | apply sF
    refine⟨i6,?_⟩
    exact⟨j+1,⟨rfl,⟨obD s.ds rfl,trivial⟩,avQ rfl,avR _ rfl,avBl rfl (by rw[eA,h5]; rfl),avI rfl rfl,trivial⟩,h4,(msr (by omega))⟩
   have h5:((s.c.T.take j).any fun w=>decide (w.At=(s.k.C.getD i default).At))=false:=h5
   refine⟨⟨rfl,by omega,by omega⟩,⟨⟨rfl,by omega,by omega⟩,?_⟩⟩
   repeat first | apply sT | apply sF
   refine⟨i6,?_⟩
   exact⟨j+1,⟨rfl,⟨obD s.ds rfl,trivial⟩,avQ rfl,avR _ rfl,avBl rfl (by rw[eA,h5,jaq]; exact eqPW _ _),avI rfl rfl,trivial⟩,h4,(msr (by omega))⟩
  have h4:j=s.c.T.length:=by have:=dF h4; omega
  subst h4
  rw[jZ]
  apply bY <;> intro h5
  ·have h5:(s.c.T.any fun w=>decide (w.At=(s.k.C.getD i default).At))=false:=by simpa using h5
   have e:svc1E s i=5:=by unfold svc1E; rw[kG (by rw[h5]; decide)]
   refine r1I rfl ?_
   rw[e0,zal ha (by rw[e]; decide) h3,e]
  have h5:(s.c.T.any fun w=>decide (w.At=(s.k.C.getD i default).At))=true:=by simpa using h5
  have e:svc1E s i=0:=by unfold svc1E; rw[kH h5]
  refine⟨i6,?_⟩
  refine⟨i+1,⟨rfl,⟨obD s.ds rfl,trivial⟩,wq rfl⟩,⟨h3,fun j hj=>?_⟩,(msr (by omega))⟩
  by_cases q:j=i
  ·subst q; exact e
  exact ha j (by omega)
 have h3:i=s.k.C.length:=by have:=dF h3; omega
 subst h3
 refine r1I rfl ?_
 rw[e0,zaF ha]
end Go.Pg
