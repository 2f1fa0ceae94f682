/- Lemmas, joined by program. -/
import Derived.Test.YtcmghlfakcppkaaGreatTB
set_option maxHeartbeats 4000000
set_option linter.all false
set_option maxRecDepth 100000
namespace Go.Pg
open Go.Proofs Go.RowKit
def tgOf (t:Thg):Tg:=⟨t.k.ID,t.k.Tick,if t.s.Lo<=t.s.Hi then t.s.Lo else 0,if t.s.Lo<=t.s.Hi then t.s.Hi else 0,noneB t⟩
theorem zrY {x:Cir} (h:x.Lo<=x.Hi):tgOf (thg0 x)=tg0 x:=by
 unfold tgOf tg0 thg0 noneB
 dsimp only
 rw[kH h,kH h,jH (by omega)]
theorem zrX (x:Cir) (k:Chk):tgOf ⟨k,alo x k⟩=tgK x k:=by
 unfold tgOf tgK noneB alnD
 dsimp only
 by_cases h:(alo x k).Lo<=(alo x k).Hi
 ·rw[kH h,kH h,kH h,jH (by omega)]
 rw[kG h,kG h,kG h,jG (by omega)]
theorem zkt {c:Cirs} {x:Cir} (h:x.Lo<=x.Hi):tgsL c x=(thsR c x c.K.length).map tgOf:=by
 unfold tgsL tgsR thsR thsK
 rw[kV,jbh,zrY h]
 congr 1
 refine qL fun k _=>?_
 exact (zrX x k).symm
theorem ziJ {x:Cir} {l:List Tg} {i:Nat}:∀ {k:Nat} {o:List (Int × Int)},outK x l i o k=[] ↔ o=[] /\ ∀ j,j<k->fireB x l i j=false
 | 0,o=>⟨fun h=>⟨h,fun j hj=>absurd hj (qD _)⟩,fun h=>h.1⟩
 | k+1,o=>by
  cases hf:fireB x l i k with
  | true=>
   rw[zfz hf]
   refine⟨fun h=>?_,fun h=>?_⟩
   ·have:=zfp (outK x l i o k) ((l.getD i default).N,(l.getD k default).N)
    rw[h] at this; simp at this
   ·have:=h.2 k (by omega)
    rw[hf] at this; cases this
  | false=>
  rw[zcT hf,ziJ]
  refine⟨fun h=>⟨h.1,fun j hj=>?_⟩,fun h=>⟨h.1,fun j hj=>h.2 j (by omega)⟩⟩
  by_cases e:j=k
  ·subst e; exact hf
  exact h.2 j (by omega)
theorem ziK {x:Cir} {l:List Tg}:∀ {i:Nat},outI x l i=[] ↔ ∀ j,j<i -> ∀ k,k<l.length->fireB x l j k=false
 | 0=>⟨fun _ j hj=>absurd hj (qD _),fun _=>rfl⟩
 | i+1=>by
  show outK x l i (outI x l i) l.length=[] ↔ _
  rw[ziJ,ziK]
  refine⟨fun h j hj=>?_,fun h=>⟨fun j hj=>h j (by omega),h i (by omega)⟩⟩
  by_cases e:j=i
  ·subst e; exact h.2
  exact h.1 j (by omega)
theorem zpj {α β:Type} [Inhabited α] [Inhabited β] (f:α->β) (l:List α) {i:Nat} (h:i<l.length):(l.map f).getD i default=f (l.getD i default):=by
 rw[hZ,hZ,jU,kF h]; rfl
theorem zib {x:Cir} {a b:Thg} (ha:noneB a=false) (hb:noneB b=false):agaB x (tgOf a) (tgOf b)=cl2 x a b:=by
 have h1:a.s.Lo<=a.s.Hi:=by have:=jai ha; omega
 have h2:b.s.Lo<=b.s.Hi:=by have:=jai hb; omega
 unfold agaB cl2 tgOf gap
 dsimp only
 rw[kH h1,kH h1,kH h2,kH h2,<- Bool.decide_or]
 apply qO.2
 omega
theorem znH {x:Cir} {l:List Thg} (hd:∀ i j,i<l.length->j<l.length->(l.getD i default).k.ID=(l.getD j default).k.ID->i=j):outI x (l.map tgOf) (l.map tgOf).length=[] ↔ Fine x l:=by
 rw[ziK,kW]
 have ef:∀ i k,i<l.length->k<l.length->fireB x (l.map tgOf) i k=(((i:Int)==(k:Int)) && noneB (l.getD i default) || (decide ((l.getD i default).k.ID<(l.getD k default).k.ID) && !noneB (l.getD i default) && !noneB (l.getD k default) && agaB x (tgOf (l.getD i default)) (tgOf (l.getD k default)))):=fun i k hi hk=>by
  unfold fireB
  rw[zpj _ _ hi,zpj _ _ hk]; rfl
 unfold Fine
 rw[zfx]
 constructor
 ·intro h
  have hn:∀ i,i<l.length->noneB (l.getD i default)=false:=fun i hi=>by
   have:=h i hi i hi
   rw[ef i i hi hi] at this
   simp at this
   exact this
  refine⟨fun t ht=>?_,fun i j hij hj=>?_⟩
  ·obtain⟨i,hi,rfl⟩:=zbk default ht
   exact hn i hi
  have hi:i<l.length:=by omega
  have n1:=hn i hi
  have n2:=hn j hj
  rcases Int.lt_trichotomy (l.getD i default).k.ID (l.getD j default).k.ID with h1 | h1 | h1
  ·have:=h i hi j hj
   rw[ef i j hi hj,n1,n2,jG h1,zib n1 n2] at this
   simpa using this
  ·exact absurd (hd i j hi hj h1) (by omega)
  have:=h j hj i hi
  rw[ef j i hj hi,n1,n2,jG h1,zib n2 n1] at this
  rw[zfY]
  simpa using this
 intro ⟨h1,h2⟩ i hi k hk
 have n1:=h1 _ (gd1 hi default)
 have n2:=h1 _ (gd1 hk default)
 rw[ef i k hi hk,n1,n2,zib n1 n2,kU,jao]
 rcases jbC i k with h | h | h
 ·rw[h2 i k h hk,kU]
 ·subst h
  rw[jH (by omega)]; rfl
 rw[zfY,h2 k i h hi,kU]
theorem zpl (x:Cir) (t:Int):∀ (l:List Tg) (s:Spn) (y:Int),(l.foldl (limS x t) s).Lo<=y ↔ s.Lo<=y /\ ∀ g∈l,g.lo - drf x g.T t<=y
 | [],s,y=>by simp
 | g :: r,s,y=>by
  rw[jal,zpl x t r,jbo]
  unfold limS
  dsimp only
  constructor
  ·rintro⟨h1,h2⟩; exact⟨by omega,by omega,h2⟩
  rintro⟨h1,h2,h3⟩; exact⟨by omega,h3⟩
theorem zpm (x:Cir) (t:Int):∀ (l:List Tg) (s:Spn) (y:Int),y<=(l.foldl (limS x t) s).Hi ↔ y<=s.Hi /\ ∀ g∈l,y<=g.hi+drf x g.T t
 | [],s,y=>by simp
 | g :: r,s,y=>by
  rw[jal,zpm x t r,jbo]
  unfold limS
  dsimp only
  constructor
  ·rintro⟨h1,h2⟩; exact⟨by omega,by omega,h2⟩
  rintro⟨h1,h2,h3⟩; exact⟨by omega,h3⟩
theorem zqP {x:Cir} {t:Int} {l m:List Thg} (hp:l.Perm m) (hn:∀ g∈l,noneB g=false):limF x t (l.map tgOf)=⟨(zer x m t).lo,(zer x m t).hi⟩:=by
 have hs:∀ g∈l,(tgOf g).lo=g.s.Lo/\(tgOf g).hi=g.s.Hi/\(tgOf g).T=g.k.Tick:=fun g hg=>by
  have h1:g.s.Lo<=g.s.Hi:=by have:=jai (hn g hg); omega
  unfold tgOf; dsimp only
  rw[kH h1,kH h1]; exact⟨rfl,rfl,rfl⟩
 have k1:∀ y,(limF x t (l.map tgOf)).Lo<=y ↔ (zer x m t).lo<=y:=fun y=>by
  unfold limF zer
  rw[zpl,zoT]
  refine and_congr_right fun _=>⟨fun h g hg=>?_,fun h g hg=>?_⟩
  ·have hg':=hp.mem_iff.2 hg
   have:=h _ (List.mem_map_of_mem hg')
   rw[(hs g hg').1,(hs g hg').2.2] at this; exact this
  obtain⟨g',hg',rfl⟩:=kK.1 hg
  rw[(hs g' hg').1,(hs g' hg').2.2]
  exact h g' (hp.mem_iff.1 hg')
 have k2:∀ y,y<=(limF x t (l.map tgOf)).Hi ↔ y<=(zer x m t).hi:=fun y=>by
  unfold limF zer
  rw[zpm,zoU]
  refine and_congr_right fun _=>⟨fun h g hg=>?_,fun h g hg=>?_⟩
  ·have hg':=hp.mem_iff.2 hg
   have:=h _ (List.mem_map_of_mem hg')
   rw[(hs g hg').2.1,(hs g hg').2.2] at this; exact this
  obtain⟨g',hg',rfl⟩:=kK.1 hg
  rw[(hs g' hg').2.1,(hs g' hg').2.2]
  exact h g' (hp.mem_iff.1 hg')
 have e1:(limF x t (l.map tgOf)).Lo=(zer x m t).lo:=Int.le_antisymm ((k1 _).2 (ja0 _)) ((k1 _).1 (ja0 _))
 have e2:(limF x t (l.map tgOf)).Hi=(zer x m t).hi:=Int.le_antisymm ((k2 _).1 (ja0 _)) ((k2 _).2 (ja0 _))
 rw[<- e1,<- e2]
section
variable {c:Cirs} (h:CirsOk c) {id:Int} (hid:¬ cirI c id<0)
include h hid
theorem zdl:(thsR c (c.C.getD (cirI c id).toNat default) c.K.length).Perm (thsL c (c.C.getD (cirI c id).toNat default)):=(wD _ _).symm
theorem zrW:∀ t∈tgsL c (c.C.getD (cirI c id).toNat default),TgOk t:=fun t ht=>by
 have hx:=h.cs _ (zaP hid).1
 rw[zkt hx.z.2.1] at ht
 obtain⟨g,hg,rfl⟩:=kK.1 ht
 have o:=zii h hid g ((zdl h hid).mem_iff.1 hg)
 have o1:=o.lo
 have o2:=o.hi
 refine⟨?_,?_,o.t⟩
 ·unfold tgOf; dsimp only; split <;> omega
 unfold tgOf; dsimp only; split <;> omega
theorem zrk:∀ i j,i<c.K.length->j<c.K.length->(c.K.getD i default).ID=(c.K.getD j default).ID->i=j:=fun i j hi hj e=>by
 have h1:=h.ki i hi
 have h2:=h.ki j hj
 have h3:=zfZ hi
 have h4:=zfZ hj
 rw[e] at h1 h3
 omega
theorem zpY:((thsR c (c.C.getD (cirI c id).toNat default) c.K.length).map fun t=>t.k.ID).Nodup:=by
 have hK:(c.K.map Chk.ID).Nodup:=by
  unfold List.Nodup
  rw[List.pairwise_map,zfx]
  intro i j hij hj e
  have:=zrk h hid i j (by omega) hj e
  omega
 unfold thsR thsK
 rw[jZ,kV,jbh,wF]
 constructor
 ·intro hm
  obtain⟨k,hk,e⟩:=kK.1 hm
  have hk:=(kX.1 hk).1
  obtain⟨j,hj,rfl⟩:=zbk default hk
  have o:=(h.ks j hj).id
  have e:(c.K.getD j default).ID=0:=e
  omega
 exact hK.sublist ((jbs (l:=c.K)).map Chk.ID)
theorem zpX:∀ i j,i<(thsR c (c.C.getD (cirI c id).toNat default) c.K.length).length->j<(thsR c (c.C.getD (cirI c id).toNat default) c.K.length).length->((thsR c (c.C.getD (cirI c id).toNat default) c.K.length).getD i default).k.ID=((thsR c (c.C.getD (cirI c id).toNat default) c.K.length).getD j default).k.ID->i=j:=fun i j hi hj e=>by
 have hn:=zpY h hid
 unfold List.Nodup at hn
 rw[List.pairwise_map,zfx] at hn
 rcases jbC i j with h1 | h1 | h1
 ·exact absurd e (hn i j h1 hj)
 ·exact h1
 exact absurd e.symm (hn j i h1 hi)
theorem zmg:outI (c.C.getD (cirI c id).toNat default) (tgsL c (c.C.getD (cirI c id).toNat default)) (tgsL c (c.C.getD (cirI c id).toNat default)).length=[] ↔ clsL (c.C.getD (cirI c id).toNat default) (thsL c (c.C.getD (cirI c id).toNat default))=[]:=by
 have hx:=h.cs _ (zaP hid).1
 rw[zkt hx.z.2.1,znH (zpX h hid),zl9 (zdl h hid),zjf]
theorem zsT (t:Int) (hc:clsL (c.C.getD (cirI c id).toNat default) (thsL c (c.C.getD (cirI c id).toNat default))=[]):limF (c.C.getD (cirI c id).toNat default) t (tgsL c (c.C.getD (cirI c id).toNat default))=⟨(zer (c.C.getD (cirI c id).toNat default) (thsL c (c.C.getD (cirI c id).toNat default)) t).lo,(zer (c.C.getD (cirI c id).toNat default) (thsL c (c.C.getD (cirI c id).toNat default)) t).hi⟩:=by
 have hx:=h.cs _ (zaP hid).1
 have hf:=(zjf _ _).1 hc
 rw[zkt hx.z.2.1]
 exact zqP (zdl h hid) fun g hg=>hf.1 g ((zdl h hid).mem_iff.1 hg)
end
theorem zpH {c:Cirs} {id t:Int} (h0:cirsE c=0) (h1:¬ cirI c id<0) (h2:within t (c.C.getD (cirI c id).toNat default).From (c.C.getD (cirI c id).toNat default).To=true) :
  zerR c id t=if clsL (c.C.getD (cirI c id).toNat default) (thsL c (c.C.getD (cirI c id).toNat default))=[] then (⟨(zer (c.C.getD (cirI c id).toNat default) (thsL c (c.C.getD (cirI c id).toNat default)) t).lo,(zer (c.C.getD (cirI c id).toNat default) (thsL c (c.C.getD (cirI c id).toNat default)) t).hi⟩,0) else (⟨0,0⟩,9):=by
 have ek:knw c id [t]=(c.C.getD (cirI c id).toNat default,thsL c (c.C.getD (cirI c id).toNat default),0):=by
  unfold knw
  rw[kG (fun hh=>hh h0),kG h1,kH (by rw[jav,h2]; rfl)]
 have ea:atR c id t=(c.C.getD (cirI c id).toNat default,thsL c (c.C.getD (cirI c id).toNat default),agrE (c.C.getD (cirI c id).toNat default) (thsL c (c.C.getD (cirI c id).toNat default))):=by
  unfold atR; rw[ek]; dsimp only; rw[kH rfl]
 unfold zerR
 rw[ea]
 dsimp only
 unfold agrE
 by_cases hc:clsL (c.C.getD (cirI c id).toNat default) (thsL c (c.C.getD (cirI c id).toNat default))=[]
 ·rw[kH hc,kG (by decide),kH hc]
 rw[kG hc,kH (by decide),kG hc]
theorem zg9 {c:Cirs} {id t e:Int} (h:knw c id [t]=((knw c id [t]).1,(knw c id [t]).2.1,e)) (he:e≠0):zerR c id t=(⟨0,0⟩,e):=by
 have h2:(knw c id [t]).2.2=e:=jI (fun z:Cir × List Thg × Int=>z.2.2) h
 have ea:(atR c id t).2.2=e:=by
  show (if (knw c id [t]).2.2=0 then _ else (knw c id [t]).2.2)=e
  rw[h2,kG he]
 unfold zerR
 rw[ea,kH he]
theorem zpK {c:Cirs} {id t:Int} (h0:cirsE c≠0):zerR c id t=(⟨0,0⟩,cirsE c):=zg9 (by unfold knw; rw[kH h0]) h0
theorem zpJ {c:Cirs} {id t:Int} (h0:cirsE c=0) (h1:cirI c id<0):zerR c id t=(⟨0,0⟩,5):=zg9 (by unfold knw; rw[kG (fun hh=>hh h0),kH h1]) (by decide)
theorem zpI {c:Cirs} {id t:Int} (h0:cirsE c=0) (h1:¬ cirI c id<0) (h2:within t (c.C.getD (cirI c id).toNat default).From (c.C.getD (cirI c id).toNat default).To=false):zerR c id t=(⟨0,0⟩,1):=zg9 (by unfold knw; rw[kG (fun hh=>hh h0),kG h1,kG (by rw[jav,h2,qQ]; decide)]) (by decide)
def useR (c:Cirs) (id t:Int):Cir × Int:=
 if cirsE c≠0 then (default,cirsE c) else if cirI c id<0 then (default,5)
 else if within t (c.C.getD (cirI c id).toNat default).From (c.C.getD (cirI c id).toNat default).To=false then (default,1) else (c.C.getD (cirI c id).toNat default,0)
theorem zsi (c:Cirs) (id t:Int):Spec PP 196 [c.v,N id,.agg [I t,I t]] [.agg ((useR c id t).1.ds ++ [I (useR c id t).2])]:=by
 refine sA Tryz.func196 ?_
 refine cP (zfn c) rfl rfl ?_
 apply bY <;> intro h0
 ·have e:useR c id t=(default,cirsE c):=by unfold useR; rw[kH (by simpa using h0)]
  rw[e]
  exact r1C rfl rfl rfl rfl rfl rfl (zab _)
 have h0:cirsE c=0:=by simpa using h0
 have ok:=zbF h0
 have e0:useR c id t=if cirI c id<0 then (default,5) else if within t (c.C.getD (cirI c id).toNat default).From (c.C.getD (cirI c id).toNat default).To=false then (default,1) else (c.C.getD (cirI c id).toNat default,0):=by unfold useR; rw[kG (fun hh=>hh h0)]
 refine cP (zhr c id (by have:=ok.n; omega)) rfl rfl ?_
 by_cases h1:cirI c id<0
 ·have e1:fndC c id=(default,false):=by unfold fndC; rw[kH h1]
  rw[e1,e0,kH h1]
  refine sT ?_
  exact r1C rfl rfl rfl rfl rfl rfl (zab _)
 have e1:fndC c id=(c.C.getD (cirI c id).toNat default,true):=by unfold fndC; rw[kG h1]
 rw[e1,e0,kG h1]
 generalize c.C.getD (cirI c id).toNat default=x
 refine sF ?_
 apply bY <;> intro h2
 ·have:t<t:=dT h2
  omega
 repeat first | apply sT | apply sF
 apply bY <;> intro h3
 ·have h3:t<x.From:=dT h3
  repeat first | apply sT | apply sF
  rw[kH (by unfold within; rw[jH (show ¬ x.From<=t by omega)]; rfl)]
  exact r1C rfl rfl rfl rfl rfl rfl (zab _)
 have h3:¬ t<x.From:=dF h3
 repeat first | apply sT | apply sF
 apply bY <;> intro h4
 ·have h4:x.To<t:=dT h4
  rw[kH (by unfold within; rw[jH (show ¬ t<=x.To by omega),kU])]
  exact r1C rfl rfl rfl rfl rfl rfl (zab _)
 have h4:¬ x.To<t:=dF h4
 rw[kG (by rw[zaa.2 (show x.From<=t/\t<=x.To by omega)]; decide)]
 exact r1C rfl rfl rfl rfl rfl rfl (zab _)
theorem zht (c:Cirs) (id t:Int):Spec PP 124 [c.v,N id,N t] [.agg [I (zerR c id t).1.Lo,I (zerR c id t).1.Hi,I (zerR c id t).2]]:=by
 refine sA Tryz.func124 ?_
 refine cP (zsi c id t) rfl rfl ?_
 by_cases h0:cirsE c=0
 ·by_cases h1:cirI c id<0
  ·have e:useR c id t=(default,5):=by unfold useR; rw[kG (fun hh=>hh h0),kH h1]
   rw[e,zpJ h0 h1]
   refine sYe rfl ?_
   exact r1C rfl rfl rfl rfl rfl rfl (zab _)
  cases h2:within t (c.C.getD (cirI c id).toNat default).From (c.C.getD (cirI c id).toNat default).To with
  | false=>
   have e:useR c id t=(default,1):=by unfold useR; rw[kG (fun hh=>hh h0),kG h1,kH h2]
   rw[e,zpI h0 h1 h2]
   refine sYe rfl ?_
   exact r1C rfl rfl rfl rfl rfl rfl (zab _)
  | true=>
  have e:useR c id t=(c.C.getD (cirI c id).toNat default,0):=by unfold useR; rw[kG (fun hh=>hh h0),kG h1,kG (by rw[h2]; decide)]
  have ok:=zbF h0
  have hC:=zhs c id ok h1 (zrW ok h1)
  have hTh:=zgq c id ok h1
  have hcl:=zmg ok h1
  have hle:=zsT ok h1 t
  have hto:=zrW ok h1
  have hlen:(tgsL c (c.C.getD (cirI c id).toNat default)).length<=61:=jM (ze8 c _ _) (by have:=ok.m; omega)
  have hx:=ok.cs _ (zaP h1).1
  have ht:=zaa.1 h2
  rw[e,zpH h0 h1 h2]
  generalize c.C.getD (cirI c id).toNat default=x at *
  refine sNo rfl ?_
  refine cR hC rfl rfl ?_
  by_cases hc:clsL x (thsL c x)=[]
  ·have ho:=hcl.2 hc
   rw[kH hc]
   refine sNo (by rw[ho]; rfl) ?_
   refine oN 10 ?_
   refine oRo hTh rfl rfl ?_
   refine oP (zkT x (tgsL c x) t hx.d hto (by omega) (by have:=hx.t; omega)) rfl rfl ?_
   rw[hle hc]
   exact r1C rfl rfl rfl rfl rfl rfl (zab _)
  have ho:outI x (tgsL c x) (tgsL c x).length ≠ []:=fun h=>hc (hcl.1 h)
  have hp:0<(outI x (tgsL c x) (tgsL c x).length).length:=jaZ.2 ho
  rw[kG hc]
  refine sYe (jG (by omega)) ?_
  exact r1C rfl rfl rfl rfl rfl rfl (zab _)
 have e:useR c id t=(default,cirsE c):=by unfold useR; rw[kH h0]
 rw[e,zpK h0]
 refine sYe (by simpa using h0) ?_
 exact r1C rfl rfl rfl rfl rfl rfl (zab _)
def askR (c:Cirs) (r:Rdg):Spn × Int:=if rdgE c r≠0 then (⟨0,0⟩,rdgE c r) else zerR c r.C r.Tick
theorem znr (c:Cirs) (r:Rdg):Spec PP 200 [c.v,r.v] [.agg [I (askR c r).1.Lo,I (askR c r).1.Hi,I (askR c r).2]]:=by
 refine sA Tryz.func200 ?_
 refine cP (zfn c) rfl rfl ?_
 apply bY <;> intro h0
 ·have h0:cirsE c≠0:=by simpa using h0
  have e:askR c r=(⟨0,0⟩,cirsE c):=by
   have:rdgE c r=cirsE c:=by unfold rdgE; rw[kH h0]
   unfold askR; rw[this,kH h0]
  rw[e]
  exact r1C rfl rfl rfl rfl rfl rfl (zab _)
 have h0:cirsE c=0:=by simpa using h0
 have e0:rdgE c r=if (!within r.Shown 0 3599 || !within r.Slack 1 100)=true then 1 else 0:=by unfold rdgE; rw[kG (fun hh=>hh h0)]
 have bad:(!within r.Shown 0 3599 || !within r.Slack 1 100)=true->askR c r=(⟨0,0⟩,1):=fun h=>by
  unfold askR; rw[e0,kH h,kH (by decide)]
 refine cP (zaE r.Shown 0 3599) rfl rfl ?_
 refine cP (zaE r.Slack 1 100) rfl rfl ?_
 apply bY <;> intro h1
 ·have h1:(!within r.Shown 0 3599)=true:=h1
  repeat first | apply sT | apply sF
  rw[bad (by rw[h1]; rfl)]
  exact r1C rfl rfl rfl rfl rfl rfl (zab _)
 have h1:(!within r.Shown 0 3599)=false:=h1
 repeat first | apply sT | apply sF
 apply bY <;> intro h2
 ·have h2:(!within r.Slack 1 100)=true:=h2
  rw[bad (by rw[h2,kY])]
  exact r1C rfl rfl rfl rfl rfl rfl (zab _)
 have h2:(!within r.Slack 1 100)=false:=h2
 have e:askR c r=zerR c r.C r.Tick:=by
  have e1:rdgE c r=0:=by rw[e0,h1,h2]; rfl
  unfold askR; rw[e1,kG (fun hh=>hh rfl)]
 refine cP (zht c r.C r.Tick) rfl rfl ?_
 rw[e]
 exact r1C rfl rfl rfl rfl rfl rfl (zab _)
theorem ztu {c:Cirs} {r:Rdg} (h:(askR c r).2≠0):wdgR c r=(⟨0,0⟩,(askR c r).2):=by
 unfold askR at h ⊢
 unfold wdgR
 split
 ·rfl
 rename_i h1
 rw[kG h1] at h
 rw[kH h]
theorem ztv {c:Cirs} {r:Rdg} (h:(askR c r).2=0):rdgE c r=0/\(zerR c r.C r.Tick).2=0/\askR c r=zerR c r.C r.Tick:=by
 unfold askR at h ⊢
 split at h
 ·rename_i h1; exact absurd h h1
 rename_i h1
 rw[kG h1]
 exact⟨jL h1,h,rfl⟩
theorem ziv (c:Cirs) (r:Rdg):Spec PP 125 [c.v,r.v] [.agg [I (wdgR c r).1.F,I (wdgR c r).1.T,I (wdgR c r).2]]:=by
 refine sA Tryz.func125 ?_
 refine cP (znr c r) rfl rfl ?_
 apply bY <;> intro h0
 ·have h0:(askR c r).2≠0:=by simpa using h0
  rw[ztu h0]
  exact r1C rfl rfl rfl rfl rfl rfl (zab _)
 have h0:(askR c r).2=0:=by simpa using h0
 obtain⟨h1,h2,h3⟩:=ztv h0
 have hs:(0<=r.Shown/\r.Shown<=3599)/\(1<=r.Slack/\r.Slack<=100):=by
  unfold rdgE at h1
  split at h1
  ·rename_i h; exact absurd h1 h
  split at h1
  ·cases h1
  rename_i h
  simp only[jX,jY,not_or,jah] at h
  exact⟨zaa.1 h.1,zaa.1 h.2⟩
 have zb:=zha h2
 rw[h3]
 have e0:wdgR c r=if 900<2 * r.Slack+(zerR c r.C r.Tick).1.Hi - (zerR c r.C r.Tick).1.Lo then (⟨0,0⟩,50) else (wdg (r.Shown - r.Slack - (zerR c r.C r.Tick).1.Hi) (2 * r.Slack+(zerR c r.C r.Tick).1.Hi - (zerR c r.C r.Tick).1.Lo),0):=by
  unfold wdgR; rw[kG (fun hh=>hh h1),kG (fun hh=>hh h2)]
 rw[e0]
 generalize (zerR c r.C r.Tick).1=z at *
 refine⟨i6,⟨i6,⟨i6,?_⟩⟩⟩
 apply bY <;> intro h4
 ·have h4:900<2 * r.Slack+z.Hi - z.Lo:=dT h4
  rw[kH h4]
  exact r1C rfl rfl rfl rfl rfl rfl (zab _)
 have h4:¬ 900<2 * r.Slack+z.Hi - z.Lo:=dF h4
 rw[kG h4]
 refine oN 23 ?_
 refine⟨i6,⟨i6,?_⟩⟩
 refine oP (zhu (r.Shown - r.Slack - z.Hi) (by omega)) rfl rfl ?_
 refine⟨i6,⟨i6,?_⟩⟩
 refine oP (zhu (r.Shown+r.Slack - z.Lo) (by omega)) rfl rfl ?_
 refine r1C rfl rfl rfl rfl rfl rfl ⟨⟨rfl,rfl⟩,⟨rfl,?_⟩,⟨rfl,rfl⟩,trivial⟩
 show (r.Shown+r.Slack - z.Lo) % 3600=(r.Shown - r.Slack - z.Hi+(2 * r.Slack+z.Hi - z.Lo)) % 3600
 congr 1; omega
theorem zqJ (m:Mp) (p:Place):onM m p=(decide (0<=p.X) && decide (p.X<m.W) && decide (0<=p.Y) && decide (p.Y<m.H)):=by
 rw[kR,zad]; simp only[jP,kA]; omega
theorem zqq (m:Mp) (p:Place):Spec PP 83 [m.v,p.v] [B (onM m p)]:=by
 refine sA Tryz.func83 ?_
 rw[zqJ]
 apply bY <;> intro h1
 ·have h1:decide (0<=p.X)=true:=h1
  refine sT ?_
  apply bY <;> intro h2
  ·have h2:decide (p.X<m.W)=true:=h2
   refine sT ?_
   apply bY <;> intro h3
   ·have h3:decide (0<=p.Y)=true:=h3
    refine sT ?_
    refine r1B rfl ?_
    rw[h1,h2,h3]; rfl
   have h3:decide (0<=p.Y)=false:=h3
   refine sF ?_
   refine r1B rfl ?_
   rw[h1,h2,h3]; rfl
  have h2:decide (p.X<m.W)=false:=h2
  refine sF (sF (sF ?_))
  refine r1B rfl ?_
  rw[h1,h2]; rfl
 have h1:decide (0<=p.X)=false:=h1
 refine sF (sF (sF (sF (sF ?_))))
 refine r1B rfl ?_
 rw[h1]; rfl
theorem zkV (h:Int):Spec PP 191 [N h] [B (within h 0 200)]:=by
 refine sA Tryz.func191 ?_
 repeat' first
  | refine sT ?_
  | refine sF ?_
  | refine bY (fun _=>?_) (fun _=>?_)
  | refine r1B rfl ?_
 all_goals (unfold within; simp_all <;> omega)
theorem zkW (h:Int):Spec PP 251 [N h] [B (within h 0 1048576)]:=by
 refine sA Tryz.func251 ?_
 repeat' first
  | refine sT ?_
  | refine sF ?_
  | refine bY (fun _=>?_) (fun _=>?_)
  | refine r1B rfl ?_
 all_goals (unfold within; simp_all <;> omega)
theorem zqm (a b:Place) (d:Int) (ha:on a=true) (hb:on b=true) (hd:0<=d/\d<=100):Spec PP 265 [a.v,b.v,N d] [B (nearB a b d)]:=by
 obtain⟨a1,a2⟩:=zbe.1 ha
 obtain⟨b1,b2⟩:=zbe.1 hb
 have m1:=mulB (a:=a.X - b.X) (b:=a.X - b.X) (x:=48) (y:=48) (by omega) (by omega)
 have m2:=mulB (a:=a.Y - b.Y) (b:=a.Y - b.Y) (x:=48) (y:=48) (by omega) (by omega)
 have m3:=mulB (a:=d) (b:=d) (x:=100) (y:=100) (by omega) (by omega)
 refine sA Tryz.func265 ?_
 refine⟨i6,⟨i6,⟨i6,⟨i6,⟨i6,⟨i6,⟨i6,⟨i6,?_⟩⟩⟩⟩⟩⟩⟩⟩
 exact r1B rfl rfl
theorem zeL (c:Ctry) (id:Int) (hn:c.T.length<=1000000):Spec PP 192 [c.v,N id] [N (towI c.T id)]:=by
 refine sA Tryz.func192 ?_
 refine lOf (σ:=Nat) (fun i=>([(1,.d (I id)),(2,.box 2 0),(5,.d (I i))],[(2,bxCt c)])) (fun i=>i<=c.T.length /\ ∀ j,j<i->((c.T.getD j default).ID==id)=false) (fun i=>c.T.length - i) 0
  ⟨rfl,⟨obCt rfl,trivial⟩,wq rfl⟩ z0L fun i hi=>?_
 obtain⟨hi,ha⟩:=hi
 apply bY <;> intro h1
 ·have h1:i<c.T.length:=by have:=dT h1; omega
  refine⟨⟨rfl,by omega,by omega⟩,?_⟩
  apply bY <;> intro h2
  ·refine r1I rfl ?_
   exact (zal (p:=fun t:Twr=>t.ID==id) default h1 h2 ha).symm
  refine⟨i6,?_⟩
  refine⟨i+1,⟨rfl,⟨obCt rfl,trivial⟩,wq rfl⟩,⟨h1,fun j hj=>?_⟩,(msr (by omega))⟩
  by_cases e:j=i
  ·subst e; exact h2
  exact ha j (by omega)
 have h1:i=c.T.length:=by have:=dF h1; omega
 subst h1
 refine r1I rfl ?_
 exact (zaq (p:=fun t:Twr=>t.ID==id) default ha).symm
theorem zsl (c:Ctry) (t:Int) (hn:c.Z.length<=1000000):Spec PP 253 [c.v,N t] [N (farZ t c.Z)]:=by
 refine sA Tryz.func253 ?_
 refine lOf (σ:=Nat) (fun i=>([(1,.d (I t)),(2,.box 2 0),(5,.d (I i))],[(2,bxCt c)])) (fun i=>i<=c.Z.length/\farZ t (c.Z.drop i)=farZ t c.Z) (fun i=>c.Z.length - i) 0
  ⟨rfl,⟨obCt rfl,trivial⟩,wq rfl⟩ ⟨jF _,rfl⟩ fun i hi=>?_
 obtain⟨hi,ha⟩:=hi
 apply bY <;> intro h1
 ·have h1:i<c.Z.length:=by have:=dT h1; omega
  have hd:=zgR (t:=t) h1
  refine⟨⟨rfl,by omega,by omega⟩,?_⟩
  apply bY <;> intro h2
  ·have h2:(c.Z.getD i default).From<=t:=dT h2
   refine⟨⟨rfl,by omega,by omega⟩,?_⟩
   refine sT ?_
   apply bY <;> intro h3
   ·have h3:t<=(c.Z.getD i default).To:=dT h3
    refine⟨⟨rfl,by omega,by omega⟩,?_⟩
    refine r1I rfl ?_
    rw[<- ha,hd,kH ⟨h2,h3⟩]; rfl
   have h3:¬ t<=(c.Z.getD i default).To:=dF h3
   rw[kG fun h=>h3 h.2] at hd
   refine⟨i6,?_⟩
   exact⟨i+1,⟨rfl,⟨obCt rfl,trivial⟩,wq rfl⟩,⟨h1,by rw[<- hd]; exact ha⟩,(msr (by omega))⟩
  have h2:¬ (c.Z.getD i default).From<=t:=dF h2
  refine sF (sF ?_)
  rw[kG fun h=>h2 h.1] at hd
  refine⟨i6,?_⟩
  exact⟨i+1,⟨rfl,⟨obCt rfl,trivial⟩,wq rfl⟩,⟨h1,by rw[<- hd]; exact ha⟩,(msr (by omega))⟩
 have h1:i=c.Z.length:=by have:=dF h1; omega
 subst h1
 rw[jba] at ha
 refine r1I rfl ?_
 rw[<- ha]; rfl
theorem za8 (m:Mp):validM m=(!(decide (m.W<1) || decide (49<m.W) || decide (m.H<1) || decide (49<m.H) || !decide ((m.G.length:Int)=m.W * m.H)) && !(m.G.any fun h=>!within h 0 4000)):=by
 rw[kR]
 unfold validM within
 simp only[jP,jY,qP,kA,jaY,jaI,qW,Bool.not_not]
 constructor
 ·intro h; exact⟨by omega,h.2⟩
 intro h; exact⟨by omega,h.2⟩
theorem znw (m:Mp):Spec PP 190 [m.v] [B (validM m)]:=by
 refine sA Tryz.func190 ?_
 apply bY <;> intro k0
 ·have k0:decide (m.W<1)=true:=k0
  refine sT (sT (sT (sT (sT (sT (sT (sT ?_)))))))
  refine r1B rfl ?_
  rw[za8]; simp only[k0,kY,qN,jaA,qQ]
 have k0:decide (m.W<1)=false:=k0
 refine sF ?_
 apply bY <;> intro k1
 ·have k1:decide (49<m.W)=true:=k1
  refine sT (sT (sT (sT (sT (sT ?_)))))
  refine r1B rfl ?_
  rw[za8]; simp only[k0,k1,kY,qN,jaA,qQ]
 have k1:decide (49<m.W)=false:=k1
 refine sF ?_
 apply bY <;> intro k2
 ·have k2:decide (m.H<1)=true:=k2
  refine sT (sT (sT (sT ?_)))
  refine r1B rfl ?_
  rw[za8]; simp only[k0,k1,k2,kY,qN,jaA,qQ]
 have k2:decide (m.H<1)=false:=k2
 refine sF ?_
 apply bY <;> intro k3
 ·have k3:decide (49<m.H)=true:=k3
  refine sT (sT ?_)
  refine r1B rfl ?_
  rw[za8]; simp only[k0,k1,k2,k3,kY,qN,jaA,qQ]
 have k3:decide (49<m.H)=false:=k3
 have b1:1<=m.W/\m.W<=49:=by have:=jai k0; have:=jai k1; omega
 have b2:1<=m.H/\m.H<=49:=by have:=jai k2; have:=jai k3; omega
 have b3:=mulB (a:=m.W) (b:=m.H) (x:=49) (y:=49) (by omega) (by omega)
 refine⟨i6,?_⟩
 refine sF ?_
 apply bY <;> intro k4
 ·have k4:(m.G.length:Int)≠m.W * m.H:=by simpa using k4
  refine r1B rfl ?_
  rw[za8,jH k4]; simp
 have k4:(m.G.length:Int)=m.W * m.H:=by simpa using k4
 have e0:validM m = !(m.G.any fun h=>!within h 0 4000):=by rw[za8,k0,k1,k2,k3,jG k4]; simp
 refine lOf (σ:=Nat) (fun i=>([(1,.box 1 0),(3,.d (I i))],[(1,.box (m.ds.map AV.d))])) (fun i=>i<=m.G.length /\ ∀ j,j<i->within (m.G.getD j 0) 0 4000=true) (fun i=>m.G.length - i) 0
  ⟨rfl,⟨obD m.ds rfl,trivial⟩,wq rfl⟩ z0L fun i hi=>?_
 obtain⟨hi,ha⟩:=hi
 apply bY <;> intro h1
 ·have h1:i<m.G.length:=by have:=dT h1; omega
  have bad:within (m.G.getD i 0) 0 4000=false->validM m=false:=fun h=>by
   rw[e0,kL.2 ⟨_,gd1 h1 0,by rw[h]; rfl⟩]; rfl
  refine⟨⟨rfl,by omega,by omega⟩,?_⟩
  apply bY <;> intro h2
  ·have h2:m.G.getD i 0<0:=dT h2
   refine sT (sT ?_)
   refine r1B rfl ?_
   exact (bad (by unfold within; rw[jH (by omega)]; rfl)).symm
  have h2:¬ m.G.getD i 0<0:=dF h2
  refine⟨⟨rfl,by omega,by omega⟩,?_⟩
  refine sF ?_
  apply bY <;> intro h3
  ·have h3:4000<m.G.getD i 0:=dT h3
   refine r1B rfl ?_
   exact (bad (by unfold within; rw[jH (p:=m.G.getD i 0<=4000) (by omega),kU])).symm
  have h3:¬ 4000<m.G.getD i 0:=dF h3
  refine⟨i6,?_⟩
  refine⟨i+1,⟨rfl,⟨obD m.ds rfl,trivial⟩,wq rfl⟩,⟨h1,fun j hj=>?_⟩,(msr (by omega))⟩
  by_cases e:j=i
  ·subst e; exact zaa.2 (by omega)
  exact ha j (by omega)
 have h1:i=m.G.length:=by have:=dF h1; omega
 subst h1
 refine r1B rfl ?_
 rw[e0,zpG 0 fun j hj=>by rw[ha j hj]; rfl]; rfl
theorem zfo (n:Int) (hn:-1000000<=n/\n<=1000000):Spec PP 307 [N n] [N ((n.natAbs:Nat):Int)]:=by
 refine sA Tryz.func307 ?_
 refine⟨i6,?_⟩
 exact r1I rfl (by show max n (-n)=_; omega)
theorem zbb (l k:Int):Spec PP 308 [N 0,N l,N k] [(Place.mk l k).v]:=by
 refine sA Tryz.func308 ?_
 refine sNo rfl ?_
 exact r1C rfl rfl rfl rfl rfl rfl (zbR rfl rfl)
theorem zba (l k:Int):Spec PP 308 [N 1,N l,N k] [(Place.mk k l).v]:=by
 refine sA Tryz.func308 ?_
 refine sYe rfl ?_
 exact r1C rfl rfl rfl rfl rfl rfl (zbR rfl rfl)
theorem zcr (m:Mp) (p:Place) (hv:validM m=true) (hp:onM m p=true):Spec PP 289 [m.v,p.v] [N (grd m p)]:=by
 obtain⟨w,h,-,-⟩:=zah hv
 obtain⟨a1,a2⟩:=zad.1 hp
 have g:=zaR hv hp
 have m1:=mulB (a:=p.Y) (b:=m.W) (x:=49) (y:=49) (by omega) (by omega)
 refine sA Tryz.func289 ?_
 refine⟨i6,⟨i6,⟨⟨rfl,g.1.1,g.1.2⟩,?_⟩⟩⟩
 exact r1I rfl rfl
def dvs (a b:Int):Int:=max ((Nat.gcd a.natAbs b.toNat:Nat):Int) 1
theorem zjK (a b:Int) (ha:-1000000000<=a/\a<=1000000000) (hb:0<=b/\b<=1000000000):Spec PP 315 [N a,N b] [N (dvs a b)]:=by
 have loop:∀ {s:St} {K:KK} (x0:Nat),s.sl 0 = .d (.int .i64 x0)->s.sl 1 = .d (.int .i64 b)->True:=fun _ _ _=>trivial
 refine sA Tryz.func315 ?_
 apply bY <;> intro h0
 ·have h0:a<0:=dT h0
  refine⟨i6,?_⟩
  refine lOf (σ:=Nat × Nat) (fun p=>([(0,.d (I p.1)),(1,.d (I p.2))],[])) (fun p=>Nat.gcd p.1 p.2=Nat.gcd a.natAbs b.toNat/\p.1<=1000000000/\p.2<=1000000000) (fun p=>p.2) (a.natAbs,b.toNat)
   ⟨rfl,trivial,avI rfl (by omega),avI rfl (by omega),trivial⟩ ⟨rfl,by omega,by omega⟩ fun⟨x,y⟩ ⟨hg,h1,h2⟩=>?_
  dsimp only at hg h1 h2 ⊢
  apply bY <;> intro h3
  ·have h3:0<y:=by have:=dT h3; omega
   refine oN 6 ?_
   refine⟨by omega,?_⟩
   have hlt:=jar x h3
   refine⟨(y,x % y),⟨rfl,trivial,avR _ rfl,avI rfl (by rw[qR (by omega)]; rfl),trivial⟩,⟨?_,h2,(show x % y<=1000000000 by omega)⟩,hlt⟩
   dsimp only
   rw[<- hg,Nat.gcd_comm x y,Nat.gcd_rec y x,Nat.gcd_comm]
  have h3:y=0:=by have:=dF h3; omega
  subst h3
  refine r1I rfl ?_
  unfold dvs
  rw[<- hg,Nat.gcd_zero_right]
 have h0:¬ a<0:=dF h0
 refine lOf (σ:=Nat × Nat) (fun p=>([(0,.d (I p.1)),(1,.d (I p.2))],[])) (fun p=>Nat.gcd p.1 p.2=Nat.gcd a.natAbs b.toNat/\p.1<=1000000000/\p.2<=1000000000) (fun p=>p.2) (a.natAbs,b.toNat)
  ⟨rfl,trivial,avI rfl (by omega),avI rfl (by omega),trivial⟩ ⟨rfl,by omega,by omega⟩ fun⟨x,y⟩ ⟨hg,h1,h2⟩=>?_
 dsimp only at hg h1 h2 ⊢
 apply bY <;> intro h3
 ·have h3:0<y:=by have:=dT h3; omega
  refine oN 6 ?_
  refine⟨by omega,?_⟩
  have hlt:=jar x h3
  refine⟨(y,x % y),⟨rfl,trivial,avR _ rfl,avI rfl (by rw[qR (by omega)]; rfl),trivial⟩,⟨?_,h2,(show x % y<=1000000000 by omega)⟩,hlt⟩
  dsimp only
  rw[<- hg,Nat.gcd_comm x y,Nat.gcd_rec y x,Nat.gcd_comm]
 have h3:y=0:=by have:=dF h3; omega
 subst h3
 refine r1I rfl ?_
 unfold dvs
 rw[<- hg,Nat.gcd_zero_right]
def lowF (n d:Int):Int × Int:=(n.tdiv (dvs n d),d.tdiv (dvs n d))
theorem zee (n d:Int):0<dvs n d:=by unfold dvs; omega
theorem zcy {n d : Int} (hn : 0 <= n) (hd : 0 < d) : n = (lowF n d).1 * dvs n d /\ d = (lowF n d).2 * dvs n d := by
  have hg : 0 < Nat.gcd n.natAbs d.toNat := Nat.gcd_pos_of_pos_right _ (by omega)
  have e : dvs n d = ((Nat.gcd n.natAbs d.toNat : Nat) : Int) := by unfold dvs; omega
  obtain ⟨p, hp⟩ := Nat.gcd_dvd_left n.natAbs d.toNat
  obtain ⟨q, hq⟩ := Nat.gcd_dvd_right n.natAbs d.toNat
  generalize hG : Nat.gcd n.natAbs d.toNat = g at *
  have en : n = (g : Int) * p := by have : n = ((n.natAbs : Nat) : Int) := by omega
                                    rw [this, hp]; simp
  have ed : d = (g : Int) * q := by have : d = ((d.toNat : Nat) : Int) := by omega
                                    rw [this, hq]; simp
  unfold lowF
  dsimp only
  rw [e]
  refine ⟨?_, ?_⟩
  · conv => rhs; rw [en]
    rw [Int.mul_tdiv_cancel_left _ (by omega), jae]; exact en
  conv => rhs; rw [ed]
  rw [Int.mul_tdiv_cancel_left _ (by omega), jae]; exact ed
theorem zhE {n d:Int} (hn:0<=n) (hd:0<d):(0<=(lowF n d).1/\(lowF n d).1<=n)/\(0<(lowF n d).2/\(lowF n d).2<=d):=by
 obtain⟨e1,e2⟩:=zcy hn hd
 have hg:=zee n d
 generalize dvs n d=g at *
 generalize (lowF n d).1=p at *
 generalize (lowF n d).2=q at *
 have p0:0<=p:=by
  rcases jbx p 0 with h | h
  ·have:=Int.mul_neg_of_neg_of_pos h hg; omega
  exact h
 have q0:0<q:=by
  rcases jbx 0 q with h | h
  ·exact h
  have:=Int.mul_nonpos_of_nonpos_of_nonneg h (jaC hg); omega
 have m1:=jaF (show 1<=g by omega) p0
 have m2:=jaF (show 1<=g by omega) (jaC q0)
 omega
theorem zao (n d:Int) (hn:0<=n/\n<=1000000000) (hd:0<d/\d<=1000000000):Spec PP 309 [N n,N d] [.agg [I (lowF n d).1,I (lowF n d).2]]:=by
 have b:=zhE hn.1 hd.1
 have hg:=zee n d
 refine sA Tryz.func309 ?_
 refine cP (zjK n d (by omega) (by omega)) rfl rfl ?_
 have e1:n.tdiv (dvs n d)=(lowF n d).1:=rfl
 have e2:d.tdiv (dvs n d)=(lowF n d).2:=rfl
 refine oN 8 ?_
 refine⟨⟨by omega,zaV (by rw[e1]; omega) (by rw[e1]; omega)⟩,⟨⟨by omega,zaV (by rw[e2]; omega) (by rw[e2]; omega)⟩,?_⟩⟩
 exact r1C rfl rfl rfl rfl rfl rfl (zbR rfl rfl)
structure Prf where
  ax:Int
  k:Int
  an:Int
  ad:Int
  gn:Int
  gd:Int
  deriving DecidableEq,Inhabited
abbrev Prf.ds (x:Prf):List D:=[I x.ax,I x.k,I x.an,I x.ad,I x.gn,I x.gd]
abbrev Prf.v (x:Prf):V1:=.agg x.ds
def Prf.at (x:Prf):Nat->D
 | 0=>I x.ax
 | 1=>I x.k
 | 2=>I x.an
 | 3=>I x.ad
 | 4=>I x.gn
 | _=>I x.gd
def prfOf (p:Pnt):Prf:=⟨p.ax,p.k,(lowF p.k p.n).1,(lowF p.k p.n).2,(lowF p.hi p.n).1,(lowF p.hi p.n).2⟩
structure PrfOk (x:Prf):Prop where
  an:0<=x.an/\x.an<=48
  ad:0<x.ad/\x.ad<=48
  gn:0<=x.gn/\x.gn<=192000
  gd:0<x.gd/\x.gd<=48
  le:x.an<=x.ad
theorem ziH {p:Pnt} (h:PntOk p) (hn:0<p.n):PrfOk (prfOf p):=by
 have b1:=zhE h.k.1 hn
 have b2:=zhE h.hi.1 hn
 have hk:=h.k
 have hnn:=h.n
 have hh:=h.hi
 have e:=zcy h.k.1 hn
 have hg:=zee p.k p.n
 refine⟨?_,?_,?_,?_,?_⟩ <;> show _ <;> unfold prfOf <;> dsimp only
 ·omega
 ·omega
 ·omega
 ·omega
 rcases jbx (lowF p.k p.n).2 (lowF p.k p.n).1 with h1 | h1
 ·have:=Int.mul_lt_mul_of_pos_right h1 hg
  omega
 exact h1
def lsF (a b:Prf):Bool:=decide (a.an * b.ad<b.an * a.ad)
theorem zqo (a b:Prf) (ha:PrfOk a) (hb:PrfOk b):Spec PP 294 [.agg [I a.an,I a.ad],.agg [I b.an,I b.ad]] [B (lsF a b)]:=by
 have a1:=ha.an
 have a2:=ha.ad
 have b1:=hb.an
 have b2:=hb.ad
 have m1:=mulB (a:=a.an) (b:=b.ad) (x:=48) (y:=48) (by omega) (by omega)
 have m2:=mulB (a:=b.an) (b:=a.ad) (x:=48) (y:=48) (by omega) (by omega)
 refine sA Tryz.func294 ?_
 refine⟨i6,⟨i6,?_⟩⟩
 exact r1B rfl rfl
def ovF (x:Prf) (lo hi:Int):Bool:=decide ((lo * (x.ad - x.an)+hi * x.an) * x.gd<x.gn * x.ad)
theorem zql (x:Prf) (lo hi:Int) (hx:PrfOk x) (hl:0<=lo/\lo<=10000) (hh:0<=hi/\hi<=10000):Spec PP 288 [x.v,N lo,N hi] [B (ovF x lo hi)]:=by
 have a1:=hx.an
 have a2:=hx.ad
 have a3:=hx.gn
 have a4:=hx.gd
 have a5:=hx.le
 have m1:=mulB (a:=x.gn) (b:=x.ad) (x:=192000) (y:=48) (by omega) (by omega)
 have m2:=mulB (a:=lo) (b:=x.ad - x.an) (x:=10000) (y:=48) (by omega) (by omega)
 have m3:=mulB (a:=hi) (b:=x.an) (x:=10000) (y:=48) (by omega) (by omega)
 have m4:=mulB (a:=lo * (x.ad - x.an)+hi * x.an) (b:=x.gd) (x:=1000000) (y:=48) (by omega) (by omega)
 refine sA Tryz.func288 ?_
 refine⟨i6,⟨i6,⟨i6,⟨i6,⟨i6,⟨i6,?_⟩⟩⟩⟩⟩⟩
 exact r1B rfl rfl
theorem znG {m:Mp} {a b:Place} {ta tb:Int} {p:Pnt} (h:PntOk p) (hn:0<p.n):ovF (prfOf p) (grd m a+ta) (grd m b+tb)=ovrB m a ta b tb p:=by
 obtain⟨e1,e2⟩:=zcy h.k.1 hn
 obtain⟨e3,e4⟩:=zcy h.hi.1 hn
 have g1:=zee p.k p.n
 have g2:=zee p.hi p.n
 unfold ovF ovrB abvI prfOf
 dsimp only
 apply qO.2
 generalize dvs p.k p.n=u at *
 generalize dvs p.hi p.n=w at *
 generalize (lowF p.k p.n).1=an at *
 generalize (lowF p.k p.n).2=ad at *
 generalize (lowF p.hi p.n).1=gn at *
 generalize (lowF p.hi p.n).2=gd at *
 generalize grd m a+ta=A at *
 generalize grd m b+tb=C at *
 have k1:(A * (ad - an)+C * an) * gd * (u * w)=(A * (p.n - p.k)+C * p.k) * p.n:=by
  have x1:A * (p.n - p.k)=A * (ad - an) * u:=by rw[e1,e2]; grind
  have x2:C * p.k=C * an * u:=by rw[e1]; grind
  have x3:p.n=gd * w:=e4
  rw[x1,x2]
  conv=>rhs; rw[x3]
  grind
 have k2:gn * ad * (u * w)=p.hi * p.n:=by
  conv=>rhs; rw[e3,e2]
  grind
 have huw:=jbe g1 g2
 have s1:(A * (ad - an)+C * an) * gd<gn * ad ↔ (A * (ad - an)+C * an) * gd * (u * w)<gn * ad * (u * w):=(Int.mul_lt_mul_right huw).symm
 have s2:A * (p.n - p.k)+C * p.k<p.hi ↔ (A * (p.n - p.k)+C * p.k) * p.n<p.hi * p.n:=(Int.mul_lt_mul_right hn).symm
 rw[s1,k1,k2,<- s2]
 have c1:(p.n - p.k) * A=A * (p.n - p.k):=jae _ _
 have c2:p.k * C=C * p.k:=jae _ _
 rw[c1,c2]
 omega
theorem mix0 {m:Mp} {a b:Place} {k:Int}:(0<(crsY a.X a.Y b.X b.Y k).tmod ((b.X - a.X).natAbs:Int)->grd m ⟨(crsX a.X b.X k),((crsY a.X a.Y b.X b.Y k).tdiv ((b.X - a.X).natAbs:Int))⟩ * (((b.X - a.X).natAbs:Int) - (crsY a.X a.Y b.X b.Y k).tmod ((b.X - a.X).natAbs:Int))+grd m ⟨(crsX a.X b.X k),(((crsY a.X a.Y b.X b.Y k).tdiv ((b.X - a.X).natAbs:Int))+1)⟩ * (crsY a.X a.Y b.X b.Y k).tmod ((b.X - a.X).natAbs:Int)=(crs0 m a b k).hi)
  /\ ((crsY a.X a.Y b.X b.Y k).tmod ((b.X - a.X).natAbs:Int)=0->grd m ⟨(crsX a.X b.X k),((crsY a.X a.Y b.X b.Y k).tdiv ((b.X - a.X).natAbs:Int))⟩ * ((b.X - a.X).natAbs:Int)=(crs0 m a b k).hi):=by
 unfold crs0 crsH
 dsimp only
 refine⟨fun h=>?_,fun h=>?_⟩
 ·rw[kH h,jae (grd m ⟨(crsX a.X b.X k),((crsY a.X a.Y b.X b.Y k).tdiv ((b.X - a.X).natAbs:Int))⟩),jae (grd m ⟨(crsX a.X b.X k),(((crsY a.X a.Y b.X b.Y k).tdiv ((b.X - a.X).natAbs:Int))+1)⟩)]
 rw[kG (by omega),h,Int.sub_zero,jae]
theorem zhw (m:Mp) (a b:Place) (k:Int) (hv:validM m=true) (ha:onM m a=true) (hb:onM m b=true) (hk:1<=k/\k<=48):Spec PP 293 [m.v,a.v,b.v,.agg [I 0,I k]] (if k<((b.X - a.X).natAbs:Int) then [(prfOf (crs0 m a b k)).v,B true] else [.agg [I 0,I 0,I 0,I 0,I 0,I 0],B false]):=by
 obtain⟨w,h,-,-⟩:=zah hv
 obtain⟨a1,a2⟩:=zad.1 ha
 obtain⟨b1,b2⟩:=zad.1 hb
 by_cases hkn:k<((b.X - a.X).natAbs:Int)
 ·rw[kH hkn]
  have C:=zeV (f0:=a.X) (f1:=a.Y) (t0:=b.X) (t1:=b.Y) (k:=k) (lo:=0) (hi:=m.H - 1) (by omega) (by omega) (by omega) ⟨hk.1,hkn⟩
  have m1:=mulB (a:=b.Y - a.Y) (b:=k) (x:=48) (y:=48) (by omega) (by omega)
  have m3:=mulB (a:=a.Y) (b:=((b.X - a.X).natAbs:Int)) (x:=48) (y:=48) (by omega) (by omega)
  have hx:=C.x
  have hw:=C.w
  have hr:=C.r
  have hu:=C.u
  have eX:=zhU (f0:=a.X) (t0:=b.X) (k:=k) (by omega)
  have eY:a.Y * ((b.X - a.X).natAbs:Int)+(b.Y - a.Y) * k=crsY a.X a.Y b.X b.Y k:=by unfold crsY; rw[jae (b.Y - a.Y) k]
  have o1:onM m ⟨(crsX a.X b.X k),((crsY a.X a.Y b.X b.Y k).tdiv ((b.X - a.X).natAbs:Int))⟩=true:=zad.2 (by dsimp only; omega)
  have d1:=(zaR hv o1).2
  have ok:=zcY hv ha hb (k:=k) ⟨hk.1,hkn⟩
  have mix:=mix0 (m:=m) (a:=a) (b:=b) (k:=k)
  have en:(crs0 m a b k).n=((b.X - a.X).natAbs:Int):=rfl
  have ekk:(crs0 m a b k).k=k:=rfl
  have okh:=ok.hi
  have m4:=mulB (a:=grd m ⟨(crsX a.X b.X k),((crsY a.X a.Y b.X b.Y k).tdiv ((b.X - a.X).natAbs:Int))⟩) (x:=4000) (y:=48) (by omega) (b:=((b.X - a.X).natAbs:Int)) (by omega)
  refine sA Tryz.func293 ?_
  refine⟨i6,⟨i6,?_⟩⟩
  refine sNo rfl ?_
  refine cP (zfo (b.X - a.X) (by omega)) rfl rfl ?_
  repeat first | apply sT | apply sF | refine sNo rfl ?_
  apply bY <;> intro h1
  ·have:k<1:=dT h1
   omega
  repeat first | apply sT | apply sF
  apply bY <;> intro h2
  ·have:((b.X - a.X).natAbs:Int)<=k:=dT h2
   omega
  refine sNo rfl ?_
  apply bY <;> intro h3
  ·have h3:b.X - a.X<0:=dT h3
   have eX:a.X - k=crsX a.X b.X k:=by rw[eX,kG (by omega)]
   refine⟨i6,?_⟩
   rw[eX]
   refine⟨i6,⟨i6,⟨i6,?_⟩⟩⟩
   rw[eY]
   refine⟨⟨by omega,i6⟩,⟨by omega,?_⟩⟩
   refine oN 10 ?_
   refine oP (zbb (crsX a.X b.X k) ((crsY a.X a.Y b.X b.Y k).tdiv ((b.X - a.X).natAbs:Int))) rfl rfl ?_
   refine oP (zcr m ⟨(crsX a.X b.X k),((crsY a.X a.Y b.X b.Y k).tdiv ((b.X - a.X).natAbs:Int))⟩ hv o1) rfl rfl ?_
   refine⟨i6,?_⟩
   apply bY <;> intro h4
   ·have h4:0<(crsY a.X a.Y b.X b.Y k).tmod ((b.X - a.X).natAbs:Int):=dT h4
    have hu1:=hu h4
    have o2:onM m ⟨(crsX a.X b.X k),(((crsY a.X a.Y b.X b.Y k).tdiv ((b.X - a.X).natAbs:Int))+1)⟩=true:=zad.2 (by dsimp only; omega)
    have d2:=(zaR hv o2).2
    have m5:=mulB (a:=grd m ⟨(crsX a.X b.X k),((crsY a.X a.Y b.X b.Y k).tdiv ((b.X - a.X).natAbs:Int))⟩) (x:=4000) (y:=48) (by omega) (b:=((b.X - a.X).natAbs:Int) - (crsY a.X a.Y b.X b.Y k).tmod ((b.X - a.X).natAbs:Int)) (by omega)
    have m6:=mulB (a:=grd m ⟨(crsX a.X b.X k),(((crsY a.X a.Y b.X b.Y k).tdiv ((b.X - a.X).natAbs:Int))+1)⟩) (x:=4000) (y:=48) (by omega) (b:=(crsY a.X a.Y b.X b.Y k).tmod ((b.X - a.X).natAbs:Int)) (by omega)
    refine oN 23 ?_
    refine oP (zbb (crsX a.X b.X k) ((crsY a.X a.Y b.X b.Y k).tdiv ((b.X - a.X).natAbs:Int))) rfl rfl ?_
    refine oP (zcr m ⟨(crsX a.X b.X k),((crsY a.X a.Y b.X b.Y k).tdiv ((b.X - a.X).natAbs:Int))⟩ hv o1) rfl rfl ?_
    refine⟨i6,⟨i6,⟨i6,?_⟩⟩⟩
    refine oP (zbb (crsX a.X b.X k) ((crsY a.X a.Y b.X b.Y k).tdiv ((b.X - a.X).natAbs:Int)+1)) rfl rfl ?_
    refine oP (zcr m ⟨(crsX a.X b.X k),(((crsY a.X a.Y b.X b.Y k).tdiv ((b.X - a.X).natAbs:Int))+1)⟩ hv o2) rfl rfl ?_
    refine⟨i6,⟨i6,?_⟩⟩
    rw[mix.1 h4]
    refine oN 10 ?_
    refine oP (zao k ((b.X - a.X).natAbs:Int) (by omega) (by omega)) rfl rfl ?_
    refine oP (zao (crs0 m a b k).hi ((b.X - a.X).natAbs:Int) (by omega) (by omega)) rfl rfl ?_
    exact⟨rtC (a:=8) rfl rfl rfl rfl rfl rfl (zgT rfl rfl rfl rfl rfl rfl),rtB rfl rfl,trivial⟩
   have h4:¬ 0<(crsY a.X a.Y b.X b.Y k).tmod ((b.X - a.X).natAbs:Int):=dF h4
   rw[mix.2 (by omega)]
   refine oN 10 ?_
   refine oP (zao k ((b.X - a.X).natAbs:Int) (by omega) (by omega)) rfl rfl ?_
   refine oP (zao (crs0 m a b k).hi ((b.X - a.X).natAbs:Int) (by omega) (by omega)) rfl rfl ?_
   exact⟨rtC (a:=8) rfl rfl rfl rfl rfl rfl (zgT rfl rfl rfl rfl rfl rfl),rtB rfl rfl,trivial⟩
  have h3:¬ b.X - a.X<0:=dF h3
  have eX:a.X+k=crsX a.X b.X k:=by rw[eX,kH (by omega)]
  refine⟨i6,?_⟩
  rw[eX]
  refine⟨i6,⟨i6,⟨i6,?_⟩⟩⟩
  rw[eY]
  refine⟨⟨by omega,i6⟩,⟨by omega,?_⟩⟩
  refine oN 10 ?_
  refine oP (zbb (crsX a.X b.X k) ((crsY a.X a.Y b.X b.Y k).tdiv ((b.X - a.X).natAbs:Int))) rfl rfl ?_
  refine oP (zcr m ⟨(crsX a.X b.X k),((crsY a.X a.Y b.X b.Y k).tdiv ((b.X - a.X).natAbs:Int))⟩ hv o1) rfl rfl ?_
  refine⟨i6,?_⟩
  apply bY <;> intro h4
  ·have h4:0<(crsY a.X a.Y b.X b.Y k).tmod ((b.X - a.X).natAbs:Int):=dT h4
   have hu1:=hu h4
   have o2:onM m ⟨(crsX a.X b.X k),(((crsY a.X a.Y b.X b.Y k).tdiv ((b.X - a.X).natAbs:Int))+1)⟩=true:=zad.2 (by dsimp only; omega)
   have d2:=(zaR hv o2).2
   have m5:=mulB (a:=grd m ⟨(crsX a.X b.X k),((crsY a.X a.Y b.X b.Y k).tdiv ((b.X - a.X).natAbs:Int))⟩) (x:=4000) (y:=48) (by omega) (b:=((b.X - a.X).natAbs:Int) - (crsY a.X a.Y b.X b.Y k).tmod ((b.X - a.X).natAbs:Int)) (by omega)
   have m6:=mulB (a:=grd m ⟨(crsX a.X b.X k),(((crsY a.X a.Y b.X b.Y k).tdiv ((b.X - a.X).natAbs:Int))+1)⟩) (x:=4000) (y:=48) (by omega) (b:=(crsY a.X a.Y b.X b.Y k).tmod ((b.X - a.X).natAbs:Int)) (by omega)
   refine oN 23 ?_
   refine oP (zbb (crsX a.X b.X k) ((crsY a.X a.Y b.X b.Y k).tdiv ((b.X - a.X).natAbs:Int))) rfl rfl ?_
   refine oP (zcr m ⟨(crsX a.X b.X k),((crsY a.X a.Y b.X b.Y k).tdiv ((b.X - a.X).natAbs:Int))⟩ hv o1) rfl rfl ?_
   refine⟨i6,⟨i6,⟨i6,?_⟩⟩⟩
   refine oP (zbb (crsX a.X b.X k) ((crsY a.X a.Y b.X b.Y k).tdiv ((b.X - a.X).natAbs:Int)+1)) rfl rfl ?_
   refine oP (zcr m ⟨(crsX a.X b.X k),(((crsY a.X a.Y b.X b.Y k).tdiv ((b.X - a.X).natAbs:Int))+1)⟩ hv o2) rfl rfl ?_
   refine⟨i6,⟨i6,?_⟩⟩
   rw[mix.1 h4]
   refine oN 10 ?_
   refine oP (zao k ((b.X - a.X).natAbs:Int) (by omega) (by omega)) rfl rfl ?_
   refine oP (zao (crs0 m a b k).hi ((b.X - a.X).natAbs:Int) (by omega) (by omega)) rfl rfl ?_
   exact⟨rtC (a:=8) rfl rfl rfl rfl rfl rfl (zgT rfl rfl rfl rfl rfl rfl),rtB rfl rfl,trivial⟩
  have h4:¬ 0<(crsY a.X a.Y b.X b.Y k).tmod ((b.X - a.X).natAbs:Int):=dF h4
  rw[mix.2 (by omega)]
  refine oN 10 ?_
  refine oP (zao k ((b.X - a.X).natAbs:Int) (by omega) (by omega)) rfl rfl ?_
  refine oP (zao (crs0 m a b k).hi ((b.X - a.X).natAbs:Int) (by omega) (by omega)) rfl rfl ?_
  exact⟨rtC (a:=8) rfl rfl rfl rfl rfl rfl (zgT rfl rfl rfl rfl rfl rfl),rtB rfl rfl,trivial⟩
 rw[kG hkn]
 refine sA Tryz.func293 ?_
 refine⟨i6,⟨i6,?_⟩⟩
 refine sNo rfl ?_
 refine cP (zfo (b.X - a.X) (by omega)) rfl rfl ?_
 repeat first | apply sT | apply sF | refine sNo rfl ?_
 apply bY <;> intro h1
 ·have:k<1:=dT h1
  omega
 repeat first | apply sT | apply sF
 apply bY <;> intro h2
 ·exact⟨rtC (a:=8) rfl rfl rfl rfl rfl rfl (zab _),rtB rfl rfl,trivial⟩
 have:¬ ((b.X - a.X).natAbs:Int)<=k:=dF h2
 omega
theorem mix1 {m:Mp} {a b:Place} {k:Int}:(0<(crsY a.Y a.X b.Y b.X k).tmod ((b.Y - a.Y).natAbs:Int)->grd m ⟨((crsY a.Y a.X b.Y b.X k).tdiv ((b.Y - a.Y).natAbs:Int)),(crsX a.Y b.Y k)⟩ * (((b.Y - a.Y).natAbs:Int) - (crsY a.Y a.X b.Y b.X k).tmod ((b.Y - a.Y).natAbs:Int))+grd m ⟨(((crsY a.Y a.X b.Y b.X k).tdiv ((b.Y - a.Y).natAbs:Int))+1),(crsX a.Y b.Y k)⟩ * (crsY a.Y a.X b.Y b.X k).tmod ((b.Y - a.Y).natAbs:Int)=(crs1 m a b k).hi)
  /\ ((crsY a.Y a.X b.Y b.X k).tmod ((b.Y - a.Y).natAbs:Int)=0->grd m ⟨((crsY a.Y a.X b.Y b.X k).tdiv ((b.Y - a.Y).natAbs:Int)),(crsX a.Y b.Y k)⟩ * ((b.Y - a.Y).natAbs:Int)=(crs1 m a b k).hi):=by
 unfold crs1 crsH
 dsimp only
 refine⟨fun h=>?_,fun h=>?_⟩
 ·rw[kH h,jae (grd m ⟨((crsY a.Y a.X b.Y b.X k).tdiv ((b.Y - a.Y).natAbs:Int)),(crsX a.Y b.Y k)⟩),jae (grd m ⟨(((crsY a.Y a.X b.Y b.X k).tdiv ((b.Y - a.Y).natAbs:Int))+1),(crsX a.Y b.Y k)⟩)]
 rw[kG (by omega),h,Int.sub_zero,jae]
theorem zhv (m:Mp) (a b:Place) (k:Int) (hv:validM m=true) (ha:onM m a=true) (hb:onM m b=true) (hk:1<=k/\k<=48):Spec PP 293 [m.v,a.v,b.v,.agg [I 1,I k]] (if k<((b.Y - a.Y).natAbs:Int) then [(prfOf (crs1 m a b k)).v,B true] else [.agg [I 0,I 0,I 0,I 0,I 0,I 0],B false]):=by
 obtain⟨w,h,-,-⟩:=zah hv
 obtain⟨a1,a2⟩:=zad.1 ha
 obtain⟨b1,b2⟩:=zad.1 hb
 by_cases hkn:k<((b.Y - a.Y).natAbs:Int)
 ·rw[kH hkn]
  have C:=zeV (f0:=a.Y) (f1:=a.X) (t0:=b.Y) (t1:=b.X) (k:=k) (lo:=0) (hi:=m.W - 1) (by omega) (by omega) (by omega) ⟨hk.1,hkn⟩
  have m1:=mulB (a:=b.X - a.X) (b:=k) (x:=48) (y:=48) (by omega) (by omega)
  have m3:=mulB (a:=a.X) (b:=((b.Y - a.Y).natAbs:Int)) (x:=48) (y:=48) (by omega) (by omega)
  have hx:=C.x
  have hw:=C.w
  have hr:=C.r
  have hu:=C.u
  have eX:=zhU (f0:=a.Y) (t0:=b.Y) (k:=k) (by omega)
  have eY:a.X * ((b.Y - a.Y).natAbs:Int)+(b.X - a.X) * k=crsY a.Y a.X b.Y b.X k:=by unfold crsY; rw[jae (b.X - a.X) k]
  have o1:onM m ⟨((crsY a.Y a.X b.Y b.X k).tdiv ((b.Y - a.Y).natAbs:Int)),(crsX a.Y b.Y k)⟩=true:=zad.2 (by dsimp only; omega)
  have d1:=(zaR hv o1).2
  have ok:=zcX hv ha hb (k:=k) ⟨hk.1,hkn⟩
  have mix:=mix1 (m:=m) (a:=a) (b:=b) (k:=k)
  have en:(crs1 m a b k).n=((b.Y - a.Y).natAbs:Int):=rfl
  have ekk:(crs1 m a b k).k=k:=rfl
  have okh:=ok.hi
  have m4:=mulB (a:=grd m ⟨((crsY a.Y a.X b.Y b.X k).tdiv ((b.Y - a.Y).natAbs:Int)),(crsX a.Y b.Y k)⟩) (x:=4000) (y:=48) (by omega) (b:=((b.Y - a.Y).natAbs:Int)) (by omega)
  refine sA Tryz.func293 ?_
  refine⟨i6,⟨i6,?_⟩⟩
  refine sYe rfl ?_
  refine cP (zfo (b.Y - a.Y) (by omega)) rfl rfl ?_
  repeat first | apply sT | apply sF | refine sNo rfl ?_
  apply bY <;> intro h1
  ·have:k<1:=dT h1
   omega
  repeat first | apply sT | apply sF
  apply bY <;> intro h2
  ·have:((b.Y - a.Y).natAbs:Int)<=k:=dT h2
   omega
  refine sYe rfl ?_
  apply bY <;> intro h3
  ·have h3:b.Y - a.Y<0:=dT h3
   have eX:a.Y - k=crsX a.Y b.Y k:=by rw[eX,kG (by omega)]
   refine⟨i6,?_⟩
   rw[eX]
   refine⟨i6,⟨i6,⟨i6,?_⟩⟩⟩
   rw[eY]
   refine⟨⟨by omega,i6⟩,⟨by omega,?_⟩⟩
   refine oN 10 ?_
   refine oP (zba (crsX a.Y b.Y k) ((crsY a.Y a.X b.Y b.X k).tdiv ((b.Y - a.Y).natAbs:Int))) rfl rfl ?_
   refine oP (zcr m ⟨((crsY a.Y a.X b.Y b.X k).tdiv ((b.Y - a.Y).natAbs:Int)),(crsX a.Y b.Y k)⟩ hv o1) rfl rfl ?_
   refine⟨i6,?_⟩
   apply bY <;> intro h4
   ·have h4:0<(crsY a.Y a.X b.Y b.X k).tmod ((b.Y - a.Y).natAbs:Int):=dT h4
    have hu1:=hu h4
    have o2:onM m ⟨(((crsY a.Y a.X b.Y b.X k).tdiv ((b.Y - a.Y).natAbs:Int))+1),(crsX a.Y b.Y k)⟩=true:=zad.2 (by dsimp only; omega)
    have d2:=(zaR hv o2).2
    have m5:=mulB (a:=grd m ⟨((crsY a.Y a.X b.Y b.X k).tdiv ((b.Y - a.Y).natAbs:Int)),(crsX a.Y b.Y k)⟩) (x:=4000) (y:=48) (by omega) (b:=((b.Y - a.Y).natAbs:Int) - (crsY a.Y a.X b.Y b.X k).tmod ((b.Y - a.Y).natAbs:Int)) (by omega)
    have m6:=mulB (a:=grd m ⟨(((crsY a.Y a.X b.Y b.X k).tdiv ((b.Y - a.Y).natAbs:Int))+1),(crsX a.Y b.Y k)⟩) (x:=4000) (y:=48) (by omega) (b:=(crsY a.Y a.X b.Y b.X k).tmod ((b.Y - a.Y).natAbs:Int)) (by omega)
    refine oN 23 ?_
    refine oP (zba (crsX a.Y b.Y k) ((crsY a.Y a.X b.Y b.X k).tdiv ((b.Y - a.Y).natAbs:Int))) rfl rfl ?_
    refine oP (zcr m ⟨((crsY a.Y a.X b.Y b.X k).tdiv ((b.Y - a.Y).natAbs:Int)),(crsX a.Y b.Y k)⟩ hv o1) rfl rfl ?_
    refine⟨i6,⟨i6,⟨i6,?_⟩⟩⟩
    refine oP (zba (crsX a.Y b.Y k) ((crsY a.Y a.X b.Y b.X k).tdiv ((b.Y - a.Y).natAbs:Int)+1)) rfl rfl ?_
    refine oP (zcr m ⟨(((crsY a.Y a.X b.Y b.X k).tdiv ((b.Y - a.Y).natAbs:Int))+1),(crsX a.Y b.Y k)⟩ hv o2) rfl rfl ?_
    refine⟨i6,⟨i6,?_⟩⟩
    rw[mix.1 h4]
    refine oN 10 ?_
    refine oP (zao k ((b.Y - a.Y).natAbs:Int) (by omega) (by omega)) rfl rfl ?_
    refine oP (zao (crs1 m a b k).hi ((b.Y - a.Y).natAbs:Int) (by omega) (by omega)) rfl rfl ?_
    exact⟨rtC (a:=8) rfl rfl rfl rfl rfl rfl (zgT rfl rfl rfl rfl rfl rfl),rtB rfl rfl,trivial⟩
   have h4:¬ 0<(crsY a.Y a.X b.Y b.X k).tmod ((b.Y - a.Y).natAbs:Int):=dF h4
   rw[mix.2 (by omega)]
   refine oN 10 ?_
   refine oP (zao k ((b.Y - a.Y).natAbs:Int) (by omega) (by omega)) rfl rfl ?_
   refine oP (zao (crs1 m a b k).hi ((b.Y - a.Y).natAbs:Int) (by omega) (by omega)) rfl rfl ?_
   exact⟨rtC (a:=8) rfl rfl rfl rfl rfl rfl (zgT rfl rfl rfl rfl rfl rfl),rtB rfl rfl,trivial⟩
  have h3:¬ b.Y - a.Y<0:=dF h3
  have eX:a.Y+k=crsX a.Y b.Y k:=by rw[eX,kH (by omega)]
  refine⟨i6,?_⟩
  rw[eX]
  refine⟨i6,⟨i6,⟨i6,?_⟩⟩⟩
  rw[eY]
  refine⟨⟨by omega,i6⟩,⟨by omega,?_⟩⟩
  refine oN 10 ?_
  refine oP (zba (crsX a.Y b.Y k) ((crsY a.Y a.X b.Y b.X k).tdiv ((b.Y - a.Y).natAbs:Int))) rfl rfl ?_
  refine oP (zcr m ⟨((crsY a.Y a.X b.Y b.X k).tdiv ((b.Y - a.Y).natAbs:Int)),(crsX a.Y b.Y k)⟩ hv o1) rfl rfl ?_
  refine⟨i6,?_⟩
  apply bY <;> intro h4
  ·have h4:0<(crsY a.Y a.X b.Y b.X k).tmod ((b.Y - a.Y).natAbs:Int):=dT h4
   have hu1:=hu h4
   have o2:onM m ⟨(((crsY a.Y a.X b.Y b.X k).tdiv ((b.Y - a.Y).natAbs:Int))+1),(crsX a.Y b.Y k)⟩=true:=zad.2 (by dsimp only; omega)
   have d2:=(zaR hv o2).2
   have m5:=mulB (a:=grd m ⟨((crsY a.Y a.X b.Y b.X k).tdiv ((b.Y - a.Y).natAbs:Int)),(crsX a.Y b.Y k)⟩) (x:=4000) (y:=48) (by omega) (b:=((b.Y - a.Y).natAbs:Int) - (crsY a.Y a.X b.Y b.X k).tmod ((b.Y - a.Y).natAbs:Int)) (by omega)
   have m6:=mulB (a:=grd m ⟨(((crsY a.Y a.X b.Y b.X k).tdiv ((b.Y - a.Y).natAbs:Int))+1),(crsX a.Y b.Y k)⟩) (x:=4000) (y:=48) (by omega) (b:=(crsY a.Y a.X b.Y b.X k).tmod ((b.Y - a.Y).natAbs:Int)) (by omega)
   refine oN 23 ?_
   refine oP (zba (crsX a.Y b.Y k) ((crsY a.Y a.X b.Y b.X k).tdiv ((b.Y - a.Y).natAbs:Int))) rfl rfl ?_
   refine oP (zcr m ⟨((crsY a.Y a.X b.Y b.X k).tdiv ((b.Y - a.Y).natAbs:Int)),(crsX a.Y b.Y k)⟩ hv o1) rfl rfl ?_
   refine⟨i6,⟨i6,⟨i6,?_⟩⟩⟩
   refine oP (zba (crsX a.Y b.Y k) ((crsY a.Y a.X b.Y b.X k).tdiv ((b.Y - a.Y).natAbs:Int)+1)) rfl rfl ?_
   refine oP (zcr m ⟨(((crsY a.Y a.X b.Y b.X k).tdiv ((b.Y - a.Y).natAbs:Int))+1),(crsX a.Y b.Y k)⟩ hv o2) rfl rfl ?_
   refine⟨i6,⟨i6,?_⟩⟩
   rw[mix.1 h4]
   refine oN 10 ?_
   refine oP (zao k ((b.Y - a.Y).natAbs:Int) (by omega) (by omega)) rfl rfl ?_
   refine oP (zao (crs1 m a b k).hi ((b.Y - a.Y).natAbs:Int) (by omega) (by omega)) rfl rfl ?_
   exact⟨rtC (a:=8) rfl rfl rfl rfl rfl rfl (zgT rfl rfl rfl rfl rfl rfl),rtB rfl rfl,trivial⟩
  have h4:¬ 0<(crsY a.Y a.X b.Y b.X k).tmod ((b.Y - a.Y).natAbs:Int):=dF h4
  rw[mix.2 (by omega)]
  refine oN 10 ?_
  refine oP (zao k ((b.Y - a.Y).natAbs:Int) (by omega) (by omega)) rfl rfl ?_
  refine oP (zao (crs1 m a b k).hi ((b.Y - a.Y).natAbs:Int) (by omega) (by omega)) rfl rfl ?_
  exact⟨rtC (a:=8) rfl rfl rfl rfl rfl rfl (zgT rfl rfl rfl rfl rfl rfl),rtB rfl rfl,trivial⟩
 rw[kG hkn]
 refine sA Tryz.func293 ?_
 refine⟨i6,⟨i6,?_⟩⟩
 refine sYe rfl ?_
 refine cP (zfo (b.Y - a.Y) (by omega)) rfl rfl ?_
 repeat first | apply sT | apply sF | refine sNo rfl ?_
 apply bY <;> intro h1
 ·have:k<1:=dT h1
  omega
 repeat first | apply sT | apply sF
 apply bY <;> intro h2
 ·exact⟨rtC (a:=8) rfl rfl rfl rfl rfl rfl (zab _),rtB rfl rfl,trivial⟩
 have:¬ ((b.Y - a.Y).natAbs:Int)<=k:=dF h2
 omega
abbrev lPf (l:List Prf):D:=.slc 6 l.length fun i=>(l.getD i default).at
abbrev rowPf (l:List Prf):Nat->Nat->D:=fun i=>(l.getD i default).at
def posS (p:Prf):List Prf->Nat
 | []=>0
 | a :: r=>if posS p r=0/\lsF p a=true then 0 else posS p r+1
theorem zft (p:Prf):∀ (L:List Prf) (k:Nat),k<=L.length->(∀ j,k<=j->j<L.length->lsF p (L.getD j default)=true)->(0<k->lsF p (L.getD (k - 1) default)=false)->posS p L=k
 | [],k,h,_,_=>by simp at h; subst h; rfl
 | a :: r,0,_,h1,_=>by
  have e:=zft p r 0 (jF _) (fun j _ hj=>by simpa using h1 (j+1) (by omega) (by simpa using hj)) (fun h=>absurd h (Nat.lt_irrefl _))
  unfold posS
  rw[kH ⟨e,h1 0 (jE _) (by simp)⟩]
 | a :: r,k+1,h,h1,h2=>by
  have e:=zft p r k (by simpa using h) (fun j hk hj=>by simpa using h1 (j+1) (by omega) (by simpa using hj)) (fun hk=>by
   have:=h2 (by omega)
   obtain⟨d,rfl⟩:∃ d,k=d+1:=⟨k - 1,by omega⟩
   simpa using this)
  unfold posS
  rw[kG,e]
  rw[e]
  rintro⟨rfl,h3⟩
  have:=h2 (by omega)
  rw[show lsF p a=false from this] at h3
  cases h3
theorem zhB (p:Prf):∀ L:List Prf,posS p L<=L.length
 | []=>jE _
 | a :: r=>by
  have:=zhB p r
  unfold posS
  split
  ·simp
  simp; omega
def insF (L:List Prf) (p:Prf):List Prf:=L.take (posS p L)++p :: L.drop (posS p L)
theorem zi2 (L:List Prf) (p:Prf):(insF L p).length=L.length+1:=by
 have:=zhB p L
 unfold insF
 simp
 omega
theorem zn9 {L:List Prf} {p x:Prf}:x∈insF L p ↔ x∈L \/ x=p:=by
 unfold insF
 rw[kN,kT]
 constructor
 ·rintro (h | rfl | h)
  ·exact .inl (wJ h)
  ·exact .inr rfl
  exact .inl (jaS h)
 rintro (h | rfl)
 ·rw[<- List.take_append_drop (posS p L) L] at h
  rcases kN.1 h with h | h
  ·exact .inl h
  exact .inr (.inr h)
 exact .inr (.inl rfl)
theorem zoa (L:List Prf) (p:Prf) (m:Nat):(insF L p).getD m default=if m<posS p L then L.getD m default else if m=posS p L then p else L.getD (m - 1) default:=by
 have hl:=zhB p L
 unfold insF
 rw[hZ]
 by_cases h1:m<posS p L
 ·rw[kH h1,jJ (by rw[jQ]; omega),jS,kH h1,<- hZ]
 rw[kG h1,jK (by rw[jQ]; omega),jQ]
 rw[show min (posS p L) L.length=posS p L by omega]
 by_cases h2:m=posS p L
 ·rw[kH h2,h2,kE]; rfl
 rw[kG h2]
 obtain⟨d,hd⟩:∃ d,m - posS p L=d+1:=⟨m - posS p L - 1,by omega⟩
 rw[hd,qT,qS,show posS p L+d=m - 1 by omega,<- hZ]
def shL (L:List Prf) (p:Prf) (i m:Nat):Prf:=if m<i then L.getD m default else if m=i then (if i=L.length then p else L.getD i default) else L.getD (m - 1) default
def shR (L:List Prf) (p:Prf) (i:Nat):Nat->Nat->D:=fun m=>(shL L p i m).at
theorem at6 {f:Nat->D} {p:Prf} (h0:f 0=I p.ax) (h1:f 1=I p.k) (h2:f 2=I p.an) (h3:f 3=I p.ad) (h4:f 4=I p.gn) (h5:f 5=I p.gd):∀ j,j<6->D.eqv (f j) (p.at j)
 | 0,_=>by rw[h0]; exact⟨rfl,rfl⟩
 | 1,_=>by rw[h1]; exact⟨rfl,rfl⟩
 | 2,_=>by rw[h2]; exact⟨rfl,rfl⟩
 | 3,_=>by rw[h3]; exact⟨rfl,rfl⟩
 | 4,_=>by rw[h4]; exact⟨rfl,rfl⟩
 | 5,_=>by rw[h5]; exact⟨rfl,rfl⟩
theorem zpb {L:List Prf} {p:Prf} {g:Nat->Nat->D} (hg:∀ j,j<6->D.eqv (g 0 j) (p.at j)):D.eqv (.slc 6 (L.length+1) (appRow L.length (rowPf L) g)) (.slc 6 (L.length+1) (shR L p L.length)):=by
 refine⟨rfl,.inr ⟨rfl,fun m hm j hj=>?_⟩⟩
 show D.eqv (appRow L.length (rowPf L) g m j) (shR L p L.length m j)
 unfold appRow shR shL
 by_cases h:m<L.length
 ·rw[kH h,kH h]; exact dE _
 have e:m=L.length:=by omega
 subst e
 rw[kG h,kG h,kH rfl,kH rfl,kE]
 exact hg j hj
def pntA (m:Mp) (a b:Place) (ax:Nat) (k:Int):Pnt:=if ax=0 then crs0 m a b k else crs1 m a b k
def dAx (a b:Place) (ax:Nat):Int:=if ax=0 then dX a b else dY a b
def linS (m:Mp) (a b:Place) (ax:Nat) (L:List Prf):Nat->List Prf
 | 0=>L
 | j+1=>if ((j:Int)+1)<dAx a b ax then insF (linS m a b ax L j) (prfOf (pntA m a b ax ((j:Int)+1))) else linS m a b ax L j
def linU (m:Mp) (a b:Place):Nat->List Prf
 | 0=>[]
 | i+1=>linS m a b i (linU m a b i) 48
def linL (m:Mp) (a b:Place):List Prf:=linU m a b 2
theorem zfI (m:Mp) (a b:Place) (ax:Nat) (L:List Prf):∀ j,(linS m a b ax L j).length<=L.length+j
 | 0=>jE _
 | j+1=>by
  have:=zfI m a b ax L j
  unfold linS
  split
  ·rw[zi2]; omega
  omega
theorem zfH (m:Mp) (a b:Place):∀ i,(linU m a b i).length<=i * 48
 | 0=>by simp[linU]
 | i+1=>by
  have h1:=zfH m a b i
  have h2:=zfI m a b i (linU m a b i) 48
  unfold linU
  omega
theorem linS_mem {m:Mp} {a b:Place} {ax:Nat} {L:List Prf} {x:Prf}:∀ {j},x∈linS m a b ax L j ↔ x∈L \/ ∃ k:Nat,k<j/\((k:Int)+1)<dAx a b ax/\x=prfOf (pntA m a b ax ((k:Int)+1))
 | 0=>by
  show x∈L ↔ _
  constructor
  ·exact .inl
  ·rintro (h | ⟨k,hk,_⟩)
   ·exact h
   ·exact absurd hk (qD _)
 | j+1=>by
  unfold linS
  split
  ·rename_i h
   rw[zn9,linS_mem]
   constructor
   ·rintro ((h1 | ⟨k,h1,h2⟩) | h1)
    ·exact .inl h1
    ·exact .inr ⟨k,by omega,h2⟩
    exact .inr ⟨j,by omega,h,h1⟩
   rintro (h1 | ⟨k,h1,h2,h3⟩)
   ·exact .inl (.inl h1)
   by_cases e:k=j
   ·subst e; exact .inr h3
   exact .inl (.inr ⟨k,by omega,h2,h3⟩)
  rename_i h
  rw[linS_mem]
  constructor
  ·rintro (h1 | ⟨k,h1,h2⟩)
   ·exact .inl h1
   exact .inr ⟨k,by omega,h2⟩
  rintro (h1 | ⟨k,h1,h2,h3⟩)
  ·exact .inl h1
  by_cases e:k=j
  ·subst e; exact absurd h2 h
  exact .inr ⟨k,by omega,h2,h3⟩
theorem zdw {m:Mp} {a b:Place} {x:Prf} (hX:dX a b<=48) (hY:dY a b<=48):x∈linL m a b ↔ (∃ k:Int,1<=k/\k<dX a b/\x=prfOf (crs0 m a b k)) \/ ∃ k:Int,1<=k/\k<dY a b/\x=prfOf (crs1 m a b k):=by
 unfold linL
 show x∈linS m a b 1 (linS m a b 0 [] 48) 48 ↔ _
 rw[linS_mem,linS_mem]
 constructor
 ·rintro ((h | ⟨k,h1,h2,h3⟩) | ⟨k,h1,h2,h3⟩)
  ·cases h
  ·exact .inl ⟨(k:Int)+1,by omega,h2,h3⟩
  exact .inr ⟨(k:Int)+1,by omega,h2,h3⟩
 rintro (⟨k,h1,h2,h3⟩ | ⟨k,h1,h2,h3⟩)
 ·refine .inl (.inr ⟨(k - 1).toNat,by omega,?_,?_⟩)
  ·rw[show (((k - 1).toNat:Nat):Int)+1=k by omega]; exact h2
  rw[show (((k - 1).toNat:Nat):Int)+1=k by omega]; exact h3
 refine .inr ⟨(k - 1).toNat,by omega,?_,?_⟩
 ·rw[show (((k - 1).toNat:Nat):Int)+1=k by omega]; exact h2
 rw[show (((k - 1).toNat:Nat):Int)+1=k by omega]; exact h3
theorem zfq {m:Mp} {a b:Place} {p:Pnt}:∀ (n:Nat) (k0 k1:Int),ptsN a b k0 k1=n->(p∈ptsF m a b n k0 k1 ↔ (∃ k:Int,k0<=k/\k<dX a b/\p=crs0 m a b k) \/ ∃ k:Int,k1<=k/\k<dY a b/\p=crs1 m a b k)
 | 0,k0,k1,hn=>by
  unfold ptsN at hn
  constructor
  ·intro h; cases h
  ·rintro (⟨k,h1,h2,_⟩ | ⟨k,h1,h2,_⟩) <;> omega
 | n+1,k0,k1,hn=>by
  have hh:k0<dX a b \/ k1<dY a b:=by unfold ptsN at hn; omega
  by_cases hc:dX a b<=k0 \/ (k1<dY a b/\k1 * dX a b<k0 * dY a b)
  ·have h1:k1<dY a b:=by omega
   have e:=ziB (a:=a) (b:=b) (k0:=k0) h1
   show p∈(if _ then (if _ then _ else _) else _) ↔ _
   rw[kH hh,kH hc,kT,zfq n k0 (k1+1) (by omega)]
   constructor
   ·rintro (rfl | h | ⟨k,g1,g2,g3⟩)
    ·exact .inr ⟨k1,ja0 _,h1,rfl⟩
    ·exact .inl h
    exact .inr ⟨k,by omega,g2,g3⟩
   rintro (h | ⟨k,g1,g2,g3⟩)
   ·exact .inr (.inl h)
   by_cases e:k=k1
   ·subst e; exact .inl g3
   exact .inr (.inr ⟨k,by omega,g2,g3⟩)
  have h0:k0<dX a b:=by omega
  have e:=ziC (a:=a) (b:=b) (k1:=k1) h0
  show p∈(if _ then (if _ then _ else _) else _) ↔ _
  rw[kH hh,kG hc,kT,zfq n (k0+1) k1 (by omega)]
  constructor
  ·rintro (rfl | ⟨k,g1,g2,g3⟩ | h)
   ·exact .inl ⟨k0,ja0 _,h0,rfl⟩
   ·exact .inl ⟨k,by omega,g2,g3⟩
   exact .inr h
  rintro (⟨k,g1,g2,g3⟩ | h)
  ·by_cases e:k=k0
   ·subst e; exact .inl g3
   exact .inr (.inl ⟨k,by omega,g2,g3⟩)
  exact .inr (.inr h)
theorem ptsL_mem {m:Mp} {a b:Place} {p:Pnt}:p∈ptsL m a b ↔ (∃ k:Int,1<=k/\k<dX a b/\p=crs0 m a b k) \/ ∃ k:Int,1<=k/\k<dY a b/\p=crs1 m a b k:=zfq _ 1 1 rfl
theorem znS {m:Mp} {a b:Place} {ta tb:Int} (hv:validM m=true) (ha:onM m a=true) (hb:onM m b=true):((linL m a b).any fun x=>ovF x (grd m a+ta) (grd m b+tb))=(ptsL m a b).any (ovrB m a ta b tb):=by
 have hd:=zlh hv ha hb
 have hX:dX a b<=48:=hd.2.2.1.2
 have hY:dY a b<=48:=hd.2.2.2.2
 rw[kR,kL,kL]
 constructor
 ·rintro⟨x,hx,ho⟩
  rcases (zdw hX hY).1 hx with⟨k,h1,h2,rfl⟩ | ⟨k,h1,h2,rfl⟩
  ·refine⟨crs0 m a b k,ptsL_mem.2 (.inl ⟨k,h1,h2,rfl⟩),?_⟩
   rw[znG (zcY hv ha hb ⟨h1,h2⟩) (show 0<dX a b by omega)] at ho; exact ho
  refine⟨crs1 m a b k,ptsL_mem.2 (.inr ⟨k,h1,h2,rfl⟩),?_⟩
  rw[znG (zcX hv ha hb ⟨h1,h2⟩) (show 0<dY a b by omega)] at ho; exact ho
 rintro⟨p,hp,ho⟩
 rcases ptsL_mem.1 hp with⟨k,h1,h2,rfl⟩ | ⟨k,h1,h2,rfl⟩
 ·refine⟨prfOf (crs0 m a b k),(zdw hX hY).2 (.inl ⟨k,h1,h2,rfl⟩),?_⟩
  rw[znG (zcY hv ha hb ⟨h1,h2⟩) (show 0<dX a b by omega)]; exact ho
 refine⟨prfOf (crs1 m a b k),(zdw hX hY).2 (.inr ⟨k,h1,h2,rfl⟩),?_⟩
 rw[znG (zcX hv ha hb ⟨h1,h2⟩) (show 0<dY a b by omega)]; exact ho
theorem zsS {m:Mp} {a b:Place} (hv:validM m=true) (ha:onM m a=true) (hb:onM m b=true):∀ x∈linL m a b,PrfOk x:=fun x hx=>by
 have hd:=zlh hv ha hb
 rcases (zdw hd.2.2.1.2 hd.2.2.2.2).1 hx with⟨k,h1,h2,rfl⟩ | ⟨k,h1,h2,rfl⟩
 ·exact ziH (zcY hv ha hb ⟨h1,h2⟩) (show 0<dX a b by omega)
 exact ziH (zcX hv ha hb ⟨h1,h2⟩) (show 0<dY a b by omega)
theorem zoZ {L:List Prf} {Q:Prf} {kk q:Nat} (h:kk<q) (hq:q<=L.length) {z:Nat} (hz:z<6):getD' (shL L Q q ((q:Int) - 1).toNat).ds z=(L.getD (q - 1) default).at z:=by
 have e:shL L Q q ((q:Int) - 1).toNat=L.getD (q - 1) default:=by
  have e1:((q:Int) - 1).toNat=q - 1:=by omega
  rw[e1]
  unfold shL; rw[kH (by omega)]
 rw[e]
 have h6:z=0 \/ z=1 \/ z=2 \/ z=3 \/ z=4 \/ z=5:=by omega
 rcases h6 with rfl | rfl | rfl | rfl | rfl | rfl <;> rfl
theorem zkB {L:List Prf} {Q:Prf} {kk q:Nat} (h:kk<q) (hq:q<=L.length) {ys:List D} (hl:ys.length=6) (hy:∀ z,z<6->getD' ys z=(L.getD (q - 1) default).at z):D.eqv (.slc 6 (L.length+1) (storeRow (shR L Q q) q 0 ys)) (.slc 6 (L.length+1) (shR L Q (q - 1))):=by
 refine⟨rfl,.inr ⟨rfl,fun n hn j hj=>?_⟩⟩
 show D.eqv (storeRow (shR L Q q) q 0 ys n j) (shR L Q (q - 1) n j)
 unfold storeRow
 by_cases h1:n=q
 ·subst h1
  rw[kH ⟨rfl,jF _,by omega⟩,Nat.sub_zero,hy j hj]
  unfold shR shL
  rw[kG (by omega),kG (by omega)]
  exact dE _
 rw[kG fun hh=>h1 hh.1]
 unfold shR shL
 by_cases h2:n<q
 ·rw[kH h2]
  by_cases h3:n<q - 1
  ·rw[kH h3]; exact dE _
  have e:n=q - 1:=by omega
  rw[kG h3,kH e,kG (by omega),e]; exact dE _
 rw[kG h2,kG h1,kG (by omega),kG (by omega)]; exact dE _
theorem zo0 {L:List Prf} {Q:Prf} {q:Nat} (hp:posS Q L=q) {ys:List D} (hl:ys.length=6) (hy:∀ z,z<6->D.eqv (getD' ys z) (Q.at z)):D.eqv (.slc 6 (L.length+1) (storeRow (shR L Q q) q 0 ys)) (.slc 6 (insF L Q).length (rowPf (insF L Q))):=by
 refine⟨(zi2 L Q).symm,.inr ⟨rfl,fun n hn j hj=>?_⟩⟩
 show D.eqv (storeRow (shR L Q q) q 0 ys n j) (((insF L Q).getD n default).at j)
 rw[zoa,hp]
 unfold storeRow
 by_cases h1:n=q
 ·subst h1
  rw[kH ⟨rfl,jF _,by omega⟩,Nat.sub_zero,kG (Nat.lt_irrefl _),kH rfl]
  exact hy j hj
 rw[kG fun hh=>h1 hh.1]
 unfold shR shL
 by_cases h2:n<q
 ·rw[kH h2,kH h2]; exact dE _
 rw[kG h2,kG h1,kG h2,kG h1]; exact dE _
theorem zqk (m:Mp) (a b:Place) (ax:Nat) (k:Int) (hv:validM m=true) (ha:onM m a=true) (hb:onM m b=true) (hax:ax<2) (hk:1<=k/\k<=48):Spec PP 293 [m.v,a.v,b.v,.agg [I ax,I k]] (if k<dAx a b ax then [(prfOf (pntA m a b ax k)).v,B true] else [.agg [I 0,I 0,I 0,I 0,I 0,I 0],B false]):=by
 have h:ax=0 \/ ax=1:=by omega
 rcases h with rfl | rfl
 ·exact zhw m a b k hv ha hb hk
 exact zhv m a b k hv ha hb hk
theorem zpf {m:Mp} {a b:Place} {ax:Nat} {k:Int} (hv:validM m=true) (ha:onM m a=true) (hb:onM m b=true) (hax:ax<2) (hk:1<=k/\k<dAx a b ax):PrfOk (prfOf (pntA m a b ax k)):=by
 have h:ax=0 \/ ax=1:=by omega
 rcases h with rfl | rfl
 ·have h2:k<dX a b:=hk.2
  exact ziH (zcY hv ha hb ⟨hk.1,h2⟩) (show 0<dX a b by omega)
 have h2:k<dY a b:=hk.2
 exact ziH (zcX hv ha hb ⟨hk.1,h2⟩) (show 0<dY a b by omega)
theorem zlB {m:Mp} {a b:Place} {i j:Nat} (hv:validM m=true) (ha:onM m a=true) (hb:onM m b=true) (hi:i<2) (hU:∀ x∈linU m a b i,PrfOk x):∀ x∈linS m a b i (linU m a b i) j,PrfOk x:=fun x hx=>by
 rcases linS_mem.1 hx with h | ⟨k,h1,h2,rfl⟩
 ·exact hU x h
 exact zpf hv ha hb hi ⟨by omega,h2⟩
theorem zlA {m:Mp} {a b:Place} (hv:validM m=true) (ha:onM m a=true) (hb:onM m b=true):∀ i,i<=2 -> ∀ x∈linU m a b i,PrfOk x
 | 0,_,x,hx=>by cases hx
 | i+1,hi,x,hx=>zlB hv ha hb (by omega) (zlA hv ha hb i (by omega)) x hx
theorem zqn (m:Mp) (a b:Place) (hv:validM m=true) (ha:onM m a=true) (hb:onM m b=true):Spec PP 287 [m.v,a.v,b.v] [.d (lPf (linL m a b))]:=by
 refine sA Tryz.func287 ?_
 refine lOf (σ:=Nat) (fun i=>([(3,.box 3 0),(4,.box 4 0),(5,.box 5 0),(7,.own 7),(8,.d (I i))],[(3,.box (m.ds.map AV.d)),(4,.box ([I a.X,I a.Y].map AV.d)),(5,.box ([I b.X,I b.Y].map AV.d)),(7,.row 366 6 (linU m a b i).length (rowPf (linU m a b i)))])) (fun i=>i<=2) (fun i=>2 - i) 0
  ⟨rfl,⟨obD m.ds rfl,obD [I a.X,I a.Y] rfl,obD [I b.X,I b.Y] rfl,obR rfl ⟨rfl,.inl rfl⟩,trivial⟩,wq rfl⟩ (jF _) fun i hi=>?_
 apply bY <;> intro h0
 ·have h0:i<2:=by have:(i:Int)<2:=dT h0; omega
  refine lOf (σ:=Nat) (fun j=>([(3,.box 3 0),(4,.box 4 0),(5,.box 5 0),(7,.own 7),(8,.d (I i)),(9,.d (I ((j:Int)+1)))],[(3,.box (m.ds.map AV.d)),(4,.box ([I a.X,I a.Y].map AV.d)),(5,.box ([I b.X,I b.Y].map AV.d)),(7,.row 366 6 (linS m a b i (linU m a b i) j).length (rowPf (linS m a b i (linU m a b i) j)))])) (fun j=>j<=48) (fun j=>48 - j) 0
   ⟨rfl,⟨obD m.ds rfl,obD [I a.X,I a.Y] rfl,obD [I b.X,I b.Y] rfl,obR rfl (dE _),trivial⟩,wq rfl⟩ (jF _) fun j hj=>?_
  apply bY <;> intro h1
  ·have h1:(j:Int)+1<=48:=dT h1
   have hP:=zqk m a b i ((j:Int)+1) hv ha hb h0 (by omega)
   by_cases hk:(j:Int)+1<dAx a b i
   ·rw[kH hk] at hP
    have eN:linS m a b i (linU m a b i) (j+1)=insF (linS m a b i (linU m a b i) j) (prfOf (pntA m a b i ((j:Int)+1))):=by
     show (if _ then _ else _)=_
     rw[kH hk]
    have hQ:PrfOk (prfOf (pntA m a b i ((j:Int)+1))):=zpf hv ha hb h0 ⟨by omega,hk⟩
    have hL:=zlB (j:=j) hv ha hb h0 (zlA hv ha hb i hi)
    refine cP hP rfl rfl ?_
    refine sNo rfl ?_
    obtain⟨Q,eQ⟩:∃ Q,Q=prfOf (pntA m a b i ((j:Int)+1)):=⟨_,rfl⟩
    rw[<- eQ] at hQ eN ⊢
    obtain⟨L,eL⟩:∃ L,L=linS m a b i (linU m a b i) j:=⟨_,rfl⟩
    have L1:L.length<=1000:=by
     rw[eL]
     have a1:=zfI m a b i (linU m a b i) j
     have a2:=zfH m a b i
     omega
    rw[<- eL] at hL eN ⊢
    refine lOf (σ:=Nat) (fun kk=>([(3,.box 3 0),(4,.box 4 0),(5,.box 5 0),(7,.own 7),(8,.d (I i)),(9,.d (I ((j:Int)+1))),(10,.box 10 0),(12,.d (I kk))],[(3,.box (m.ds.map AV.d)),(4,.box ([I a.X,I a.Y].map AV.d)),(5,.box ([I b.X,I b.Y].map AV.d)),(10,.box (Q.ds.map AV.d)),(7,.row 366 6 L.length (rowPf L))])) (fun kk=>kk<=L.length /\ ∀ z,kk<=z->z<L.length->lsF Q (L.getD z default)=true) (fun kk=>kk) L.length
     ⟨rfl,⟨obD m.ds rfl,obD [I a.X,I a.Y] rfl,obD [I b.X,I b.Y] rfl,obD Q.ds rfl,obR rfl (dE _),trivial⟩,wq rfl⟩ ⟨jE _,fun z h1 h2=>absurd h2 (by omega)⟩ fun kk hkk0=>?_
    obtain⟨hkk,hall⟩:=hkk0
    refine oN 13 ?_
    apply bY <;> intro h2
    ·have h2:0<kk:=by have:=dT h2; omega
     refine⟨i6,⟨⟨by omega,by omega⟩,?_⟩⟩
     have hm:=gd1 (l:=L) (i:=kk - 1) (by omega) default
     have hz:((kk:Int) - 1).toNat=kk - 1:=by omega
     refine⟨by omega,?_⟩
     rw[hz]
     refine oP (zqo Q (L.getD (kk - 1) default) hQ (hL _ hm)) rfl rfl ?_
     refine sT ?_
     apply bY <;> intro h3
     ·have h3:lsF Q (L.getD (kk - 1) default)=true:=h3
      refine⟨i6,?_⟩
      refine⟨kk - 1,⟨rfl,⟨obD m.ds rfl,obD [I a.X,I a.Y] rfl,obD [I b.X,I b.Y] rfl,obD Q.ds rfl,obR rfl (dE _),trivial⟩,avQ rfl,avQ rfl,avQ rfl,avQ rfl,avR _ rfl,avR _ rfl,avQ rfl,avI rfl (by omega),trivial⟩,⟨by omega,fun z h4 h5=>?_⟩,(show kk - 1<kk by omega)⟩
      by_cases e:z=kk - 1
      ·subst e; exact h3
      exact hall z (by omega) h5
     have h3:lsF Q (L.getD (kk - 1) default)=false:=h3
     have hpos:posS Q L=kk:=zft Q L kk hkk hall fun _=>h3
     refine⟨⟨.inr rfl,by simp only[maxLen]; omega,by dsimp only; omega⟩,?_⟩
     refine⟨i6,?_⟩
     refine lOf (σ:=Nat) (fun q=>([(3,.box 3 0),(4,.box 4 0),(5,.box 5 0),(7,.own 7),(8,.d (I i)),(9,.d (I ((j:Int)+1))),(10,.box 10 0),(12,.d (I kk)),(13,.d (I q))],[(3,.box (m.ds.map AV.d)),(4,.box ([I a.X,I a.Y].map AV.d)),(5,.box ([I b.X,I b.Y].map AV.d)),(10,.box (Q.ds.map AV.d)),(7,.row 366 6 (L.length+1) (shR L Q q))])) (fun q=>kk<=q/\q<=L.length) (fun q=>q) L.length
      ⟨rfl,⟨obD m.ds rfl,obD [I a.X,I a.Y] rfl,obD [I b.X,I b.Y] rfl,obD Q.ds rfl,obR rfl (zpb (at6 rfl rfl rfl rfl rfl rfl)),trivial⟩,avQ rfl,avQ rfl,avQ rfl,avQ rfl,avR _ rfl,avR _ rfl,avQ rfl,avR _ rfl,avI rfl (by omega),trivial⟩ ⟨hkk,jE _⟩ fun q hq=>?_
     apply bY <;> intro h5
     ·have h5:kk<q:=by have:=dT h5; omega
      refine⟨i6,⟨⟨by omega,by omega⟩,⟨by omega,⟨⟨by omega,by omega⟩,⟨by omega,?_⟩⟩⟩⟩⟩
      refine⟨i6,?_⟩
      exact⟨q - 1,⟨rfl,⟨obD m.ds rfl,obD [I a.X,I a.Y] rfl,obD [I b.X,I b.Y] rfl,obD Q.ds rfl,obR rfl (zkB h5 hq.2 rfl (fun z hz=>zoZ h5 hq.2 hz)),trivial⟩,avQ rfl,avQ rfl,avQ rfl,avQ rfl,avR _ rfl,avR _ rfl,avQ rfl,avR _ rfl,avI rfl (by omega),trivial⟩,(show kk<=q - 1/\q - 1<=L.length by omega),(show q - 1<q by omega)⟩
     have h5:q=kk:=by have:=dF h5; omega
     subst h5
     refine⟨⟨by omega,by omega⟩,⟨by omega,?_⟩⟩
     refine⟨i6,?_⟩
     exact⟨j+1,⟨rfl,⟨obD m.ds rfl,obD [I a.X,I a.Y] rfl,obD [I b.X,I b.Y] rfl,obR rfl (by rw[eN]; exact zo0 hpos rfl (at6 rfl rfl rfl rfl rfl rfl)),trivial⟩,avQ rfl,avQ rfl,avQ rfl,avQ rfl,avR _ rfl,avI rfl (by omega),trivial⟩,(show j+1<=48 by omega),(msr (by omega))⟩
    have h2:kk=0:=by have:=dF h2; omega
    have hpos:posS Q L=kk:=zft Q L kk hkk hall fun h=>by omega
    refine sF (sF ?_)
    refine⟨⟨.inr rfl,by simp only[maxLen]; omega,by dsimp only; omega⟩,?_⟩
    refine⟨i6,?_⟩
    refine lOf (σ:=Nat) (fun q=>([(3,.box 3 0),(4,.box 4 0),(5,.box 5 0),(7,.own 7),(8,.d (I i)),(9,.d (I ((j:Int)+1))),(10,.box 10 0),(12,.d (I kk)),(13,.d (I q))],[(3,.box (m.ds.map AV.d)),(4,.box ([I a.X,I a.Y].map AV.d)),(5,.box ([I b.X,I b.Y].map AV.d)),(10,.box (Q.ds.map AV.d)),(7,.row 366 6 (L.length+1) (shR L Q q))])) (fun q=>kk<=q/\q<=L.length) (fun q=>q) L.length
     ⟨rfl,⟨obD m.ds rfl,obD [I a.X,I a.Y] rfl,obD [I b.X,I b.Y] rfl,obD Q.ds rfl,obR rfl (zpb (at6 rfl rfl rfl rfl rfl rfl)),trivial⟩,avQ rfl,avQ rfl,avQ rfl,avQ rfl,avR _ rfl,avR _ rfl,avQ rfl,avR _ rfl,avI rfl (by omega),trivial⟩ ⟨hkk,jE _⟩ fun q hq=>?_
    apply bY <;> intro h5
    ·have h5:kk<q:=by have:=dT h5; omega
     refine⟨i6,⟨⟨by omega,by omega⟩,⟨by omega,⟨⟨by omega,by omega⟩,⟨by omega,?_⟩⟩⟩⟩⟩
     refine⟨i6,?_⟩
     exact⟨q - 1,⟨rfl,⟨obD m.ds rfl,obD [I a.X,I a.Y] rfl,obD [I b.X,I b.Y] rfl,obD Q.ds rfl,obR rfl (zkB h5 hq.2 rfl (fun z hz=>zoZ h5 hq.2 hz)),trivial⟩,avQ rfl,avQ rfl,avQ rfl,avQ rfl,avR _ rfl,avR _ rfl,avQ rfl,avR _ rfl,avI rfl (by omega),trivial⟩,(show kk<=q - 1/\q - 1<=L.length by omega),(show q - 1<q by omega)⟩
    have h5:q=kk:=by have:=dF h5; omega
    subst h5
    refine⟨⟨by omega,by omega⟩,⟨by omega,?_⟩⟩
    refine⟨i6,?_⟩
    exact⟨j+1,⟨rfl,⟨obD m.ds rfl,obD [I a.X,I a.Y] rfl,obD [I b.X,I b.Y] rfl,obR rfl (by rw[eN]; exact zo0 hpos rfl (at6 rfl rfl rfl rfl rfl rfl)),trivial⟩,avQ rfl,avQ rfl,avQ rfl,avQ rfl,avR _ rfl,avI rfl (by omega),trivial⟩,(show j+1<=48 by omega),(msr (by omega))⟩
   rw[kG hk] at hP
   have eN:linS m a b i (linU m a b i) (j+1)=linS m a b i (linU m a b i) j:=by
    show (if _ then _ else _)=_
    rw[kG hk]
   refine cP hP rfl rfl ?_
   refine sYe rfl ?_
   refine⟨i6,?_⟩
   exact⟨j+1,⟨rfl,⟨obD m.ds rfl,obD [I a.X,I a.Y] rfl,obD [I b.X,I b.Y] rfl,obR rfl (by rw[eN]; exact dE _),trivial⟩,avQ rfl,avQ rfl,avQ rfl,avQ rfl,avR _ rfl,avI rfl (by omega),trivial⟩,(show j+1<=48 by omega),(msr (by omega))⟩
  have h1:j=48:=by have:¬ (j:Int)+1<=48:=dF h1; omega
  subst h1
  refine⟨i6,?_⟩
  exact⟨i+1,⟨rfl,⟨obD m.ds rfl,obD [I a.X,I a.Y] rfl,obD [I b.X,I b.Y] rfl,obR rfl (dE _),trivial⟩,wq rfl⟩,(show i+1<=2 by omega),(msr (by omega))⟩
 have h0:i=2:=by have:¬ (i:Int)<2:=dF h0; omega
 subst h0
 exact⟨⟨_,_,_,_,rfl,dE _⟩,trivial⟩
def fstF (l:List Prf) (lo hi:Int):(Int × Int) × Bool:=if idxL (fun x=>ovF x lo hi) l<0 then ((0,0),false) else (((l.getD (idxL (fun x=>ovF x lo hi) l).toNat default).ax,(l.getD (idxL (fun x=>ovF x lo hi) l).toNat default).k),true)
theorem zq8 (l:List Prf) (lo hi:Int):(fstF l lo hi).2=l.any fun x=>ovF x lo hi:=by
 unfold fstF
 have h:=zbM (fun x=>ovF x lo hi) l default
 split
 ·rename_i h1
  symm
  refine qK.2 fun h2=>?_
  have:=h.2 h2
  omega
 rename_i h1
 exact (h.1 (by omega)).symm
theorem znv (m:Mp) (a b:Place) (up rise:Int) (hv:validM m=true) (ha:onM m a=true) (hb:onM m b=true) (hu:0<=up/\up<=1000) (hr:0<=rise/\rise<=1000) :
  Spec PP 276 [m.v,a.v,N up,b.v,N rise] [.agg [I (fstF (linL m a b) (grd m a+up) (grd m b+rise)).1.1,I (fstF (linL m a b) (grd m a+up) (grd m b+rise)).1.2],B (fstF (linL m a b) (grd m a+up) (grd m b+rise)).2]:=by
 have hok:=zsS hv ha hb
 have ga:=(zaR hv ha).2
 have gb:=(zaR hv hb).2
 have hlen:(linL m a b).length<=96:=zfH m a b 2
 refine sA Tryz.func276 ?_
 refine cR (zqn m a b hv ha hb) rfl rfl ?_
 generalize linL m a b=l at *
 refine lOf (σ:=Nat) (fun i=>([(2,.d (I up)),(4,.d (I rise)),(5,.box 5 0),(6,.box 6 0),(8,.box 8 0),(10,.box 10 0),(12,.d (lPf l)),(13,.d (I i))],[(5,.box (m.ds.map AV.d)),(6,.box ([I a.X,I a.Y].map AV.d)),(8,.box ([I b.X,I b.Y].map AV.d)),(10,.box ([I 0,I 0].map AV.d))])) (fun i=>i<=l.length /\ ∀ j,j<i->ovF (l.getD j default) (grd m a+up) (grd m b+rise)=false) (fun i=>l.length - i) 0
  ⟨rfl,⟨obD m.ds rfl,obD [I a.X,I a.Y] rfl,obD [I b.X,I b.Y] rfl,obD [I 0,I 0] rfl,trivial⟩,wq rfl⟩ z0L fun i hi=>?_
 obtain⟨hi,hall⟩:=hi
 apply bY <;> intro h1
 ·have h1:i<l.length:=by have:=dT h1; omega
  refine oN 15 ?_
  refine⟨⟨rfl,by omega,by omega⟩,?_⟩
  refine oP (zcr m a hv ha) rfl rfl ?_
  refine⟨i6,?_⟩
  refine oP (zcr m b hv hb) rfl rfl ?_
  refine⟨i6,?_⟩
  refine oP (zql (l.getD i default) (grd m a+up) (grd m b+rise) (hok _ (gd1 h1 default)) (by omega) (by omega)) rfl rfl ?_
  apply bY <;> intro h2
  ·have e:idxL (fun x=>ovF x (grd m a+up) (grd m b+rise)) l=(i:Int):=zal (p:=fun x=>ovF x (grd m a+up) (grd m b+rise)) default h1 h2 hall
   have e2:fstF l (grd m a+up) (grd m b+rise)=(((l.getD i default).ax,(l.getD i default).k),true):=by unfold fstF; rw[e,kG (by omega)]; rfl
   rw[e2]
   refine⟨⟨rfl,by omega,by omega⟩,?_⟩
   exact⟨rtC (a:=10) rfl rfl rfl rfl rfl rfl (zab _),rtB rfl rfl,trivial⟩
  refine⟨i6,?_⟩
  refine⟨i+1,⟨rfl,⟨obD m.ds rfl,obD [I a.X,I a.Y] rfl,obD [I b.X,I b.Y] rfl,obD [I 0,I 0] rfl,trivial⟩,wq rfl⟩,⟨h1,fun j hj=>?_⟩,(msr (by omega))⟩
  by_cases e:j=i
  ·subst e; exact h2
  exact hall j (by omega)
 have h1:i=l.length:=by have:=dF h1; omega
 subst h1
 have e:idxL (fun x=>ovF x (grd m a+up) (grd m b+rise)) l = -1:=zaq (p:=fun x=>ovF x (grd m a+up) (grd m b+rise)) default hall
 have e2:fstF l (grd m a+up) (grd m b+rise)=((0,0),false):=by unfold fstF; rw[e]; rfl
 rw[e2]
 exact⟨rtC (a:=10) rfl rfl rfl rfl rfl rfl (zab _),rtB rfl rfl,trivial⟩
theorem zqj (m:Mp) (t:Twr) (p:Place) (rise:Int) (hv:validM m=true) (ht:onM m t.At=true) (hp:onM m p=true) (hh:0<=t.H/\t.H<=200) (hr:0<=rise/\rise<=200) :
  Spec PP 266 [m.v,t.v,p.v,N rise] [B (freeB m t.At t.H p rise)]:=by
 refine sA Tryz.func266 ?_
 refine cP (znv m t.At p t.H rise hv ht hp (by omega) (by omega)) rfl rfl ?_
 refine r1B rfl ?_
 unfold freeB
 rw[zq8,znS hv ht hp]
theorem r4_in (c:Ctry) (t:Twr) (p:Place) (rise far:Int) (hv:validM c.M=true) (ht:TwrOk c t) (hp:onM c.M p=true) (hr:0<=rise/\rise<=200) (hf:0<=far/\far<=100) :
  Spec PP 252 [c.M.v,t.v,p.v,N rise,N far] [B (seesB c t p rise far)]:=by
 refine sA Tryz.func252 ?_
 refine cP (zqm t.At p far (ziO hv ht.on) (ziO hv hp) hf) rfl rfl ?_
 apply bY <;> intro h1
 ·have h1:nearB t.At p far=true:=h1
  refine cP (zqj c.M t p rise hv ht.on hp ht.h hr) rfl rfl ?_
  refine sT ?_
  refine r1B rfl ?_
  unfold seesB; rw[h1]; rfl
 have h1:nearB t.At p far=false:=h1
 refine sF ?_
 refine r1B rfl ?_
 unfold seesB; rw[h1]; rfl
theorem zoX {T:List Twr} {i:Nat} (h:i<T.length):towI T (T.getD i default).ID<i ↔ ((T.take i).any fun x=>x.ID==(T.getD i default).ID)=true:=by
 rcases idxL_cases (fun t:Twr=>t.ID==(T.getD i default).ID) T default with⟨_,h2⟩ | ⟨j,h1,h2,h3,h4⟩
 ·have:=h2 i h
  simp at this
 unfold towI
 rw[h2,kL]
 constructor
 ·intro hj
  have hj:j<i:=by omega
  refine⟨T.getD j default,?_,h3⟩
  have e:(T.take i).getD j default=T.getD j default:=by
   rw[hZ,jS,kH hj,<- hZ]
  rw[<- e]
  exact gd1 (by rw[jQ]; omega) default
 rintro⟨x,hx,hp⟩
 obtain⟨q,hq,rfl⟩:=zbk default hx
 rw[jQ] at hq
 have e:(T.take i).getD q default=T.getD q default:=by
  rw[hZ,jS,kH (by omega),<- hZ]
 rw[e] at hp
 rcases jaB q j with h5 | h5
 ·rw[h4 q h5] at hp; cases hp
 omega
theorem zdb {Z:List Hz} {j:Nat} (h:(Z.getD j default).From<0 \/ (Z.getD j default).To<(Z.getD j default).From \/ 1048576<(Z.getD j default).To \/ (Z.getD j default).From<=lastZ Z j \/ (Z.getD j default).Far<0 \/ 100<(Z.getD j default).Far):hzE Z j=1:=by
 unfold hzE
 refine kH (jL fun h0=>?_)
 simp only[jX,jY,not_or,jah,kA,zaa] at h0
 omega
theorem zs0 {Z:List Hz} {j:Nat} (h:¬ ((Z.getD j default).From<0 \/ (Z.getD j default).To<(Z.getD j default).From \/ 1048576<(Z.getD j default).To \/ (Z.getD j default).From<=lastZ Z j \/ (Z.getD j default).Far<0 \/ 100<(Z.getD j default).Far)):hzE Z j=0:=by
 unfold hzE
 refine kG fun h0=>h ?_
 simp only[jX,jY,kA] at h0
 rcases h0 with ((h0 | h0) | h0) | h0
 ·have:¬ (0<=(Z.getD j default).From/\(Z.getD j default).From<=(Z.getD j default).To):=fun hh=>by rw[zaa.2 hh] at h0; cases h0
  omega
 ·omega
 ·omega
 have:¬ (0<=(Z.getD j default).Far/\(Z.getD j default).Far<=100):=fun hh=>by rw[zaa.2 hh] at h0; cases h0
 omega
abbrev Hz.ds (x:Hz):List D:=[I x.From,I x.To,I x.Far]
theorem ziw (c:Ctry):Spec PP 118 [c.v] [.d (.int .i64 (ctryE c))]:=by
 refine sA Tryz.func118 ?_
 refine cP (znw c.M) rfl rfl ?_
 apply bY <;> intro h0
 ·have h0:validM c.M=false:=by
   have:(!validM c.M)=true:=h0
   simpa using this
  refine r1I rfl ?_
  unfold ctryE; rw[kH h0]
 have h0:validM c.M=true:=by
  have:(!validM c.M)=false:=h0
  simpa using this
 apply bY <;> intro h1
 ·have h1:12<c.T.length:=by have:=dT h1; omega
  repeat first | apply sT | apply sF
  refine r1I rfl ?_
  unfold ctryE; rw[kG (by rw[h0]; decide),kH (.inl h1)]
 have h1:¬ 12<c.T.length:=by have:=dF h1; omega
 repeat first | apply sT | apply sF
 apply bY <;> intro h2
 ·have h2:60<c.Z.length:=by have:=dT h2; omega
  refine r1I rfl ?_
  unfold ctryE; rw[kG (by rw[h0]; decide),kH (.inr h2)]
 have h2:¬ 60<c.Z.length:=by have:=dF h2; omega
 have e0:ctryE c=if err1 (towE c) c.T.length≠0 then err1 (towE c) c.T.length else err1 (hzE c.Z) c.Z.length:=by unfold ctryE; rw[kG (by rw[h0]; decide),kG (by omega)]
 refine lOf (σ:=Nat) (fun i=>([(1,.box 1 0),(3,.d (I i))],[(1,bxCt c)])) (fun i=>i<=c.T.length /\ ∀ j,j<i->towE c j=0) (fun i=>c.T.length - i) 0
  ⟨rfl,⟨obCt rfl,trivial⟩,wq rfl⟩ z0L fun i hi=>?_
 obtain⟨hi,ha⟩:=hi
 apply bY <;> intro h3
 ·have h3:i<c.T.length:=by have:=dT h3; omega
  have bad:towE c i≠0->ctryE c=towE c i:=fun h=>by
   have:=zas ha h h3
   rw[e0,kH (by rw[this]; exact h),this]
  have bad1:(!within (c.T.getD i default).ID 1 1099511627776 || !onM c.M (c.T.getD i default).At || !within (c.T.getD i default).H 0 200)=true->ctryE c=1:=fun h=>by
   have:towE c i=1:=by unfold towE; rw[kH h]
   rw[bad (by rw[this]; decide),this]
  refine⟨⟨rfl,by omega,by omega⟩,?_⟩
  apply bY <;> intro k1
  ·have k1:(c.T.getD i default).ID<1:=dT k1
   repeat first | apply sT | apply sF
   refine r1I rfl ?_
   rw[bad1 (by unfold within; rw[jH (show ¬ 1<=(c.T.getD i default).ID by omega)]; rfl)]
  have k1:¬ (c.T.getD i default).ID<1:=dF k1
  repeat first | apply sT | apply sF
  apply bY <;> intro k2
  ·have k2:1099511627776<(c.T.getD i default).ID:=dT k2
   repeat first | apply sT | apply sF
   refine r1I rfl ?_
   rw[bad1 (by unfold within; rw[jH (show ¬ (c.T.getD i default).ID<=1099511627776 by omega),kU]; rfl)]
  have k2:¬ 1099511627776<(c.T.getD i default).ID:=dF k2
  have w1:within (c.T.getD i default).ID 1 1099511627776=true:=zaa.2 (by omega)
  repeat first | apply sT | apply sF
  refine cP (zqq c.M (c.T.getD i default).At) rfl rfl ?_
  repeat first | apply sT | apply sF
  apply bY <;> intro k3
  ·have k3:(!onM c.M (c.T.getD i default).At)=true:=k3
   repeat first | apply sT | apply sF
   refine r1I rfl ?_
   rw[bad1 (by rw[k3,kY]; rfl)]
  have k3:(!onM c.M (c.T.getD i default).At)=false:=k3
  repeat first | apply sT | apply sF
  refine cP (zkV (c.T.getD i default).H) rfl rfl ?_
  repeat first | apply sT | apply sF
  apply bY <;> intro k4
  ·have k4:(!within (c.T.getD i default).H 0 200)=true:=k4
   refine r1I rfl ?_
   rw[bad1 (by rw[k4,kY])]
  have k4:(!within (c.T.getD i default).H 0 200)=false:=k4
  have eT:towE c i=if ((c.T.take i).any fun x=>x.ID==(c.T.getD i default).ID)=true then 6 else 0:=by
   unfold towE; rw[kG (by rw[w1,k3,k4]; decide)]
  refine cP (zeL c (c.T.getD i default).ID (by omega)) rfl rfl ?_
  apply bY <;> intro k5
  ·have k5:towI c.T (c.T.getD i default).ID<i:=dT k5
   have e:towE c i=6:=by rw[eT,kH ((zoX h3).1 k5)]
   refine r1I rfl ?_
   rw[bad (by rw[e]; decide),e]
  have k5:¬ towI c.T (c.T.getD i default).ID<i:=dF k5
  have e:towE c i=0:=by rw[eT,kG fun h=>k5 ((zoX h3).2 h)]
  refine⟨i6,?_⟩
  refine⟨i+1,⟨rfl,⟨obCt rfl,trivial⟩,wq rfl⟩,⟨h3,fun j hj=>?_⟩,(msr (by omega))⟩
  by_cases q:j=i
  ·subst q; exact e
  exact ha j (by omega)
 have h3:i=c.T.length:=by have:=dF h3; omega
 subst h3
 have e1:ctryE c=err1 (hzE c.Z) c.Z.length:=by rw[e0,zaL ha]; rfl
 clear ha
 refine lOf (σ:=Nat) (fun i=>([(1,.box 1 0),(5,.d (I i))],[(1,bxCt c)])) (fun i=>i<=c.Z.length /\ ∀ j,j<i->hzE c.Z j=0) (fun i=>c.Z.length - i) 0
  ⟨rfl,⟨obCt rfl,trivial⟩,wq rfl⟩ z0L fun i hi=>?_
 obtain⟨hi,ha⟩:=hi
 apply bY <;> intro h3
 ·have h3:i<c.Z.length:=by have:=dT h3; omega
  have bad1:hzE c.Z i=1->ctryE c=1:=fun h=>by rw[e1,zas ha (by rw[h]; decide) h3,h]
  refine⟨⟨rfl,by omega,by omega⟩,?_⟩
  refine oN 41 ?_
  apply bY <;> intro k1
  ·have k1:(c.Z.getD i default).From<0:=dT k1
   repeat first | apply sT | apply sF
   refine r1I rfl ?_
   rw[bad1 (zdb (.inl k1))]
  have k1:¬ (c.Z.getD i default).From<0:=dF k1
  repeat first | apply sT | apply sF
  apply bY <;> intro k2
  ·have k2:(c.Z.getD i default).To<(c.Z.getD i default).From:=dT k2
   repeat first | apply sT | apply sF
   refine r1I rfl ?_
   rw[bad1 (zdb (.inr (.inl k2)))]
  have k2:¬ (c.Z.getD i default).To<(c.Z.getD i default).From:=dF k2
  repeat first | apply sT | apply sF
  apply bY <;> intro k3
  ·have k3:1048576<(c.Z.getD i default).To:=dT k3
   repeat first | apply sT | apply sF
   refine r1I rfl ?_
   rw[bad1 (zdb (.inr (.inr (.inl k3))))]
  have k3:¬ 1048576<(c.Z.getD i default).To:=dF k3
  repeat first | apply sT | apply sF
  apply bY <;> intro k4
  ·have k4:0<i:=by have:(0:Int)<i:=dT k4; omega
   have eL:lastZ c.Z i=(c.Z.getD (i - 1) default).To:=by
    obtain⟨d,rfl⟩:∃ d,i=d+1:=⟨i - 1,by omega⟩
    rfl
   have hz:((i:Int) - 1).toNat=i - 1:=by omega
   refine⟨i6,⟨⟨rfl,by omega,by omega⟩,?_⟩⟩
   rw[hz]
   refine sT ?_
   refine sF ?_
   apply bY <;> intro k5
   ·have k5:(c.Z.getD i default).From<=(c.Z.getD (i - 1) default).To:=dT k5
    repeat first | apply sT | apply sF
    refine r1I rfl ?_
    rw[bad1 (zdb (.inr (.inr (.inr (.inl (by rw[eL]; exact k5))))))]
   have k5:¬ (c.Z.getD i default).From<=(c.Z.getD (i - 1) default).To:=dF k5
   repeat first | apply sT | apply sF
   apply bY <;> intro k6
   ·have k6:(c.Z.getD i default).Far<0:=dT k6
    repeat first | apply sT | apply sF
    refine r1I rfl ?_
    rw[bad1 (zdb (.inr (.inr (.inr (.inr (.inl k6))))))]
   have k6:¬ (c.Z.getD i default).Far<0:=dF k6
   repeat first | apply sT | apply sF
   apply bY <;> intro k7
   ·have k7:100<(c.Z.getD i default).Far:=dT k7
    refine r1I rfl ?_
    rw[bad1 (zdb (.inr (.inr (.inr (.inr (.inr k7))))))]
   have k7:¬ 100<(c.Z.getD i default).Far:=dF k7
   have e:hzE c.Z i=0:=zs0 (by rw[eL]; omega)
   refine⟨i6,?_⟩
   refine⟨i+1,⟨rfl,⟨obCt rfl,trivial⟩,wq rfl⟩,⟨h3,fun j hj=>?_⟩,(msr (by omega))⟩
   by_cases q:j=i
   ·subst q; exact e
   exact ha j (by omega)
  have k4:i=0:=by have:¬ (0:Int)<i:=dF k4; omega
  subst k4
  repeat first | apply sT | apply sF
  apply bY <;> intro k6
  ·have k6:(c.Z.getD 0 default).Far<0:=dT k6
   repeat first | apply sT | apply sF
   refine r1I rfl ?_
   rw[bad1 (zdb (.inr (.inr (.inr (.inr (.inl k6))))))]
  have k6:¬ (c.Z.getD 0 default).Far<0:=dF k6
  repeat first | apply sT | apply sF
  apply bY <;> intro k7
  ·have k7:100<(c.Z.getD 0 default).Far:=dT k7
   refine r1I rfl ?_
   rw[bad1 (zdb (.inr (.inr (.inr (.inr (.inr k7))))))]
  have k7:¬ 100<(c.Z.getD 0 default).Far:=dF k7
  have e:hzE c.Z 0=0:=zs0 (by show ¬ (_ \/ _ \/ _ \/ _<=(-1:Int) \/ _ \/ _); omega)
  refine⟨i6,?_⟩
  refine⟨0+1,⟨rfl,⟨obCt rfl,trivial⟩,wq rfl⟩,⟨h3,fun j hj=>?_⟩,(msr (by omega))⟩
  obtain rfl:j=0:=by omega
  exact e
 have h3:i=c.Z.length:=by have:=dF h3; omega
 subst h3
 refine r1I rfl ?_
 rw[e1,zaL ha]
theorem zqp (c:Ctry) (id:Int) (p:Place) (h t:Int):Spec PP 205 [c.v,N id,p.v,N h,N t] [B (seesE c id p h t).1,.d (.int .i64 (seesE c id p h t).2)]:=by
 refine sA Tryz.func205 ?_
 refine cP (ziw c) rfl rfl ?_
 apply bY <;> intro h0
 ·have e:seesE c id p h t=(false,ctryE c):=by unfold seesE; rw[kH (by simpa using h0)]
  rw[e]; exact r2BI rfl rfl rfl rfl
 have h0:ctryE c=0:=by simpa using h0
 have ok:=zef h0
 refine cP (zeL c id (by have:=ok.t; omega)) rfl rfl ?_
 apply bY <;> intro h1
 ·have h1:towI c.T id<0:=dT h1
  have e1:(towG c.T id).2=false:=by unfold towG; rw[kH h1]
  have e:seesE c id p h t=(false,5):=by unfold seesE; rw[kG (fun hh=>hh h0),kH e1]
  rw[e]; exact r2BI rfl rfl rfl rfl
 have h1:¬ towI c.T id<0:=dF h1
 have eG:towG c.T id=(c.T.getD (towI c.T id).toNat default,true):=by unfold towG; rw[kG h1]
 have e0:seesE c id p h t=if (!onM c.M p || !within h 0 200 || !within t 0 1048576)=true then (false,1) else (seesB c (c.T.getD (towI c.T id).toNat default) p h (farZ t c.Z),0):=by unfold seesE; rw[kG (fun hh=>hh h0),kG (by rw[eG]; exact fun hh=>by cases hh),eG]
 refine cP (zqq c.M p) rfl rfl ?_
 apply bY <;> intro h2
 ·have h2:(!onM c.M p)=true:=h2
  repeat first | apply sT | apply sF
  rw[e0,kH (by rw[h2]; rfl)]; exact r2BI rfl rfl rfl rfl
 have h2:(!onM c.M p)=false:=h2
 refine cP (zkV h) rfl rfl ?_
 repeat first | apply sT | apply sF
 apply bY <;> intro h3
 ·have h3:(!within h 0 200)=true:=h3
  repeat first | apply sT | apply sF
  rw[e0,kH (by rw[h3,kY]; rfl)]; exact r2BI rfl rfl rfl rfl
 have h3:(!within h 0 200)=false:=h3
 refine cP (zkW t) rfl rfl ?_
 repeat first | apply sT | apply sF
 apply bY <;> intro h4
 ·have h4:(!within t 0 1048576)=true:=h4
  rw[e0,kH (by rw[h4,kY])]; exact r2BI rfl rfl rfl rfl
 have h4:(!within t 0 1048576)=false:=h4
 rw[e0,kG (by rw[h2,h3,h4]; decide)]
 have hp:onM c.M p=true:=by simpa using h2
 have hh:within h 0 200=true:=by simpa using h3
 have hw:=zkp ok (id:=id) (by rw[eG])
 rw[eG] at hw
 have ht:within t 0 1048576=true:=by simpa using h4
 have hlt:(towI c.T id).toNat<c.T.length:=by
  rcases idxL_cases (fun x:Twr=>x.ID==id) c.T default with⟨g1,_⟩ | ⟨i,g1,g2,_⟩
  ·exact absurd (show towI c.T id<0 by unfold towI; rw[g1]; decide) h1
  unfold towI; rw[g2]; exact g1
 refine oN 15 ?_
 refine⟨⟨rfl,by omega,by omega⟩,?_⟩
 refine oP (zsl c t (by have:=ok.z; omega)) rfl rfl ?_
 refine oP (r4_in c (c.T.getD (towI c.T id).toNat default) p h (farZ t c.Z) ok.m hw hp (zaa.1 hh) (zhQ ok.f)) rfl rfl ?_
 exact r2BI rfl rfl rfl rfl
theorem avBl {s:St} {ob:Nat->Option Ob} {v:AV} {a b:Bool} (h:v = .d (.bool a)) (e:a=b):AVle s ob v (.d (.bool b)):=by subst h; subst e; exact dE _
theorem zeJ (s:Svc) (id:Int) (hn:s.c.T.length<=1000000):Spec PP 122 [s.v,N id] [N (towI s.c.T id)]:=by
 refine sA Tryz.func122 ?_
 refine lOf (σ:=Nat) (fun i=>([(1,.d (I id)),(2,.box 2 0),(5,.d (I i))],[(2,.box (s.ds.map AV.d))])) (fun i=>i<=s.c.T.length /\ ∀ j,j<i->((s.c.T.getD j default).ID==id)=false) (fun i=>s.c.T.length - i) 0
  ⟨rfl,⟨obD s.ds rfl,trivial⟩,wq rfl⟩ z0L fun i hi=>?_
 obtain⟨hi,ha⟩:=hi
 apply bY <;> intro h1
 ·have h1:i<s.c.T.length:=by have:=dT h1; omega
  refine⟨⟨rfl,by omega,by omega⟩,?_⟩
  apply bY <;> intro h2
  ·refine r1I rfl ?_
   exact (zal (p:=fun t:Twr=>t.ID==id) default h1 h2 ha).symm
  refine⟨i6,?_⟩
  refine⟨i+1,⟨rfl,⟨obD s.ds rfl,trivial⟩,wq rfl⟩,⟨h1,fun j hj=>?_⟩,(msr (by omega))⟩
  by_cases e:j=i
  ·subst e; exact h2
  exact ha j (by omega)
 have h1:i=s.c.T.length:=by have:=dF h1; omega
 subst h1
 refine r1I rfl ?_
 exact (zaq (p:=fun t:Twr=>t.ID==id) default ha).symm
theorem zhq (s:Svc) (id:Int) (hn:s.k.C.length<=1000000):Spec PP 123 [s.v,N id] [N (cirI s.k id)]:=by
 refine sA Tryz.func123 ?_
 refine lOf (σ:=Nat) (fun i=>([(1,.d (I id)),(2,.box 2 0),(5,.d (I i))],[(2,.box (s.ds.map AV.d))])) (fun i=>i<=s.k.C.length /\ ∀ j,j<i->((s.k.C.getD j default).ID==id)=false) (fun i=>s.k.C.length - i) 0
  ⟨rfl,⟨obD s.ds rfl,trivial⟩,wq rfl⟩ z0L fun i hi=>?_
 obtain⟨hi,ha⟩:=hi
 apply bY <;> intro h1
 ·have h1:i<s.k.C.length:=by have:=dT h1; omega
  refine⟨⟨rfl,by omega,by omega⟩,?_⟩
  apply bY <;> intro h2
  ·refine r1I rfl ?_
   exact (zal (p:=fun t:Cir=>t.ID==id) default h1 h2 ha).symm
  refine⟨i6,?_⟩
  refine⟨i+1,⟨rfl,⟨obD s.ds rfl,trivial⟩,wq rfl⟩,⟨h1,fun j hj=>?_⟩,(msr (by omega))⟩
  by_cases e:j=i
  ·subst e; exact h2
  exact ha j (by omega)
 have h1:i=s.k.C.length:=by have:=dF h1; omega
 subst h1
 refine r1I rfl ?_
 exact (zaq (p:=fun t:Cir=>t.ID==id) default ha).symm
theorem tm36 (n:Int):(n.tmod 3600+3600).tmod 3600=n % 3600:=by
 have h1:=wB n (show (0:Int)<3600 by decide)
 have h2:=wB (-n) (show (0:Int)<3600 by decide)
 rw[jbw] at h2
 rw[qR (by omega)]
 rw[Int.tmod_eq_emod]
 split
 ·show (n % 3600 - 0+3600) % 3600=n % 3600
  omega
 show (n % 3600 - 3600+3600) % 3600=n % 3600
 omega
theorem zdo (n:Int) (hn:-1000000000000<=n/\n<=1000000000000):Spec PP 195 [N n] [N (n % 3600)]:=by
 have h1:=wB n (show (0:Int)<3600 by decide)
 have h2:=wB (-n) (show (0:Int)<3600 by decide)
 rw[jbw] at h2
 refine sA Tryz.func195 ?_
 refine⟨by decide,⟨i6,⟨by decide,?_⟩⟩⟩
 exact r1I rfl (tm36 n)
theorem zoL {α:Type} {p:α->Bool} {l:List α} {j:Nat} (h:j<l.length) (d:α):(l.take (j+1)).any p=((l.take j).any p || p (l.getD j d)):=by
 rw[zav h d,List.any_append,List.any_cons,List.any_nil,jag]
theorem znq (s:Svc):Spec PP 80 [s.v] [.d (.int .i64 (svcE s))]:=by
 refine sA Tryz.func80 ?_
 refine cP (ziw s.c) rfl rfl ?_
 apply bY <;> intro h0
 ·have h0:ctryE s.c≠0:=by simpa using h0
  refine r1I rfl ?_
  unfold svcE; rw[kH h0]
 have h0:ctryE s.c=0:=by simpa using h0
 have ok0:=zef h0
 refine cP (zfn s.k) rfl rfl ?_
 apply bY <;> intro h1
 ·have h1:cirsE s.k≠0:=by simpa using h1
  refine r1I rfl ?_
  unfold svcE; rw[kG (fun hh=>hh h0),kH h1]
 have h1:cirsE s.k=0:=by simpa using h1
 have ok1:=zbF h1
 have e0:svcE s=err1 (svc1E s) s.k.C.length:=by unfold svcE; rw[kG (fun hh=>hh h0),kG (fun hh=>hh h1)]
 have hn:=ok1.n
 have ht:=ok0.t
 refine lOf (σ:=Nat) (fun i=>([(1,.box 1 0),(4,.d (I i))],[(1,.box (s.ds.map AV.d))])) (fun i=>i<=s.k.C.length /\ ∀ j,j<i->svc1E s j=0) (fun i=>s.k.C.length - i) 0
  ⟨rfl,⟨obD s.ds rfl,trivial⟩,wq rfl⟩ z0L fun i hi=>?_
 obtain⟨hi,ha⟩:=hi
 apply bY <;> intro h3
 ·have h3:i<s.k.C.length:=by have:=dT h3; omega
  refine lOf (σ:=Nat) (fun j=>([(1,.box 1 0),(4,.d (I i)),(5,.d (.bool ((s.c.T.take j).any fun w=>decide (w.At=(s.k.C.getD i default).At)))),(6,.d (I j))],[(1,.box (s.ds.map AV.d))])) (fun j=>j<=s.c.T.length) (fun j=>s.c.T.length - j) 0
   ⟨rfl,⟨obD s.ds rfl,trivial⟩,wq rfl⟩ (jF _) fun j hj=>?_
  have hj:j<=s.c.T.length:=hj
  apply bY <;> intro h4
  ·have h4:j<s.c.T.length:=by have:=dT h4; omega
   have eA:=zoL (p:=fun w:Twr=>decide (w.At=(s.k.C.getD i default).At)) h4 default
   refine oN 19 ?_
   apply bY <;> intro h5
   ·have h5:((s.c.T.take j).any fun w=>decide (w.At=(s.k.C.getD i default).At))=true:=h5
    repeat first | apply sT | apply sF
    refine⟨i6,?_⟩
    exact⟨j+1,⟨rfl,⟨obD s.ds rfl,trivial⟩,avQ rfl,avR _ rfl,avBl rfl (by rw[eA,h5]; rfl),avI rfl rfl,trivial⟩,h4,(msr (by omega))⟩
   have h5:((s.c.T.take j).any fun w=>decide (w.At=(s.k.C.getD i default).At))=false:=h5
   refine⟨⟨rfl,by omega,by omega⟩,⟨⟨rfl,by omega,by omega⟩,?_⟩⟩
   repeat first | apply sT | apply sF
   refine⟨i6,?_⟩
   exact⟨j+1,⟨rfl,⟨obD s.ds rfl,trivial⟩,avQ rfl,avR _ rfl,avBl rfl (by rw[eA,h5,jao]; exact eqPW _ _),avI rfl rfl,trivial⟩,h4,(msr (by omega))⟩
  have h4:j=s.c.T.length:=by have:=dF h4; omega
  subst h4
  rw[jZ]
  apply bY <;> intro h5
  ·have h5:(s.c.T.any fun w=>decide (w.At=(s.k.C.getD i default).At))=false:=by simpa using h5
   have e:svc1E s i=5:=by unfold svc1E; rw[kG (by rw[h5]; decide)]
   refine r1I rfl ?_
   rw[e0,zas ha (by rw[e]; decide) h3,e]
  have h5:(s.c.T.any fun w=>decide (w.At=(s.k.C.getD i default).At))=true:=by simpa using h5
  have e:svc1E s i=0:=by unfold svc1E; rw[kH h5]
  refine⟨i6,?_⟩
  refine⟨i+1,⟨rfl,⟨obD s.ds rfl,trivial⟩,wq rfl⟩,⟨h3,fun j hj=>?_⟩,(msr (by omega))⟩
  by_cases q:j=i
  ·subst q; exact e
  exact ha j (by omega)
 have h3:i=s.k.C.length:=by have:=dF h3; omega
 subst h3
 refine r1I rfl ?_
 rw[e0,zaL ha]
theorem zi8 {r:Rpt} (h:frmC r=true):frmB r=false:=by unfold frmB; rw[h]; rfl
theorem ztb {r:Rpt} (h:within r.Kind 1 2=false):frmB r=false:=by
 have h1:r.Kind≠1:=fun e=>by
  have:within r.Kind 1 2=true:=zaa.2 (by omega)
  rw[this] at h; cases h
 have h2:r.Kind≠2:=fun e=>by
  have:within r.Kind 1 2=true:=zaa.2 (by omega)
  rw[this] at h; cases h
 unfold frmB; rw[kG h1,kG h2,kU]
theorem zkM (r:Rpt):Spec PP 121 [r.v] [B (frmB r)]:=by
 refine sA Tryz.func121 ?_
 refine cP (zeo r.ID 1 1099511627776) rfl rfl ?_
 apply bY <;> intro k0
 ·have k0:(!within r.ID 1 1099511627776)=true:=k0
  repeat first | apply sT | apply sF
  exact r1B rfl (zi8 (by unfold frmC; rw[k0]; rfl)).symm
 have k0:(!within r.ID 1 1099511627776)=false:=k0
 refine cP (zeo r.Kind 1 2) rfl rfl ?_
 repeat first | apply sT | apply sF
 apply bY <;> intro k1
 ·have k1:(!within r.Kind 1 2)=true:=k1
  repeat first | apply sT | apply sF
  exact r1B rfl (ztb (by simpa using k1)).symm
 have k1:(!within r.Kind 1 2)=false:=k1
 refine cP (zeo r.Tick 0 1048576) rfl rfl ?_
 repeat first | apply sT | apply sF
 apply bY <;> intro k2
 ·have k2:(!within r.Tick 0 1048576)=true:=k2
  repeat first | apply sT | apply sF
  exact r1B rfl (zi8 (by unfold frmC; rw[k0,k2]; rfl)).symm
 have k2:(!within r.Tick 0 1048576)=false:=k2
 refine cP (zeo r.From 0 3599) rfl rfl ?_
 repeat first | apply sT | apply sF
 apply bY <;> intro k3
 ·have k3:(!within r.From 0 3599)=true:=k3
  repeat first | apply sT | apply sF
  exact r1B rfl (zi8 (by unfold frmC; rw[k0,k2,k3]; rfl)).symm
 have k3:(!within r.From 0 3599)=false:=k3
 refine cP (zeo r.Slack 1 100) rfl rfl ?_
 repeat first | apply sT | apply sF
 apply bY <;> intro k4
 ·have k4:(!within r.Slack 1 100)=true:=k4
  repeat first | apply sT | apply sF
  exact r1B rfl (zi8 (by unfold frmC; rw[k0,k2,k3,k4]; rfl)).symm
 have k4:(!within r.Slack 1 100)=false:=k4
 have e0:frmB r=if r.Kind=1 then decide (r.To=0) else if r.Kind=2 then within r.To 0 3599 && decide ((r.To - r.From) % 3600<=900) else false:=by
  unfold frmB frmC; rw[k0,k2,k3,k4]; rfl
 have hk:=zaa.1 (show within r.Kind 1 2=true by simpa using k1)
 have hf:=zaa.1 (show within r.From 0 3599=true by simpa using k3)
 apply bY <;> intro h1
 ·have h1:r.Kind=1:=by simpa using h1
  refine r1B rfl ?_
  rw[e0,kH h1,kR]; simp
 have h1:r.Kind≠1:=by simpa using h1
 rw[kG h1,kH (show r.Kind=2 by omega)] at e0
 refine cP (zeo r.To 0 3599) rfl rfl ?_
 apply bY <;> intro h3
 ·have h4:=zaa.1 h3
  refine⟨i6,?_⟩
  refine cP (zdo (r.To - r.From) (by omega)) rfl rfl ?_
  repeat first | apply sT | apply sF
  refine r1B rfl ?_
  rw[e0,h3]; rfl
 repeat first | apply sT | apply sF
 refine r1B rfl ?_
 rw[e0,h3]; rfl
theorem zjG (b:Brn):Spec PP 81 [b.v] [B (brnB b)]:=by
 refine sA Tryz.func81 ?_
 refine cP (zeo b.From 0 1048576) rfl rfl ?_
 apply bY <;> intro h1
 ·have h1':=zaa.1 h1
  refine cP (zeo b.To b.From 1048576) rfl rfl ?_
  repeat first | apply sT | apply sF
  apply bY <;> intro h2
  ·have h2':=zaa.1 h2
   refine cP (zeo b.Rise 0 200) rfl rfl ?_
   repeat first | apply sT | apply sF
   refine r1B rfl ?_
   unfold brnB; rw[jG (by omega),jG (by omega),jG (by omega)]; rfl
  have h2':¬ (b.From<=b.To/\b.To<=1048576):=fun hh=>by rw[zaa.2 hh] at h2; cases h2
  repeat first | apply sT | apply sF
  refine r1B rfl ?_
  unfold brnB
  by_cases h3:b.From<=b.To
  ·rw[jH (p:=b.To<=1048576) (fun h4=>h2' ⟨h3,h4⟩),kU]; rfl
  rw[jH h3,kU]; rfl
 have h1':¬ (0<=b.From/\b.From<=1048576):=fun hh=>by rw[zaa.2 hh] at h1; cases h1
 repeat first | apply sT | apply sF
 refine r1B rfl ?_
 unfold brnB
 by_cases h3:0<=b.From
 ·by_cases h4:b.From<=b.To
  ·rw[jH (p:=b.To<=1048576) (by omega),kU]; rfl
  rw[jH h4,kU]; rfl
 rw[jH h3]; rfl
theorem zig {T:List Twr} {id:Int} (h:¬ towI T id<0):towG T id=(T.getD (towI T id).toNat default,true):=by unfold towG; rw[kG h]
theorem r6_at (s:Svc) (r:Rpt) (hn:s.c.T.length<=1000000) (h:¬ towI s.c.T r.Tower<0):Spec PP 129 [s.v,r.v] [(towG s.c.T r.Tower).1.At.v]:=by
 have h1:=zdH h
 refine sA Tryz.func129 ?_
 refine oN 12 ?_
 refine oP (zeJ s r.Tower hn) rfl rfl ?_
 refine⟨⟨rfl,by show 0<=max 0 (towI s.c.T r.Tower); omega,by show max 0 (towI s.c.T r.Tower)<s.c.T.length; omega⟩,?_⟩
 have e:s.c.T.getD (max 0 (towI s.c.T r.Tower)).toNat default=(towG s.c.T r.Tower).1:=by rw[zig h,show max 0 (towI s.c.T r.Tower)=towI s.c.T r.Tower by omega]
 exact r1C rfl rfl rfl rfl rfl rfl (zbR (jI (fun t:Twr=>t.At.X) e) (jI (fun t:Twr=>t.At.Y) e))
theorem zkN (s:Svc) (b:Brn) (r:Rpt) (p:Place):Spec PP 127 [s.v,b.v,r.v,p.v] [B (lookB s b r p)]:=by
 refine sA Tryz.func127 ?_
 refine cP (zeo r.Tick b.From b.To) rfl rfl ?_
 apply bY <;> intro h1
 ·have h1:within r.Tick b.From b.To=false:=by simpa using h1
  refine r1B rfl ?_
  unfold lookB; rw[h1,kU]
 have h1:within r.Tick b.From b.To=true:=by simpa using h1
 refine cP (zqp s.c r.Tower p b.Rise r.Tick) rfl rfl ?_
 apply bY <;> intro h2
 ·have h2:(seesE s.c r.Tower p b.Rise r.Tick).2=0:=by simpa using h2
  repeat first | apply sT | apply sF
  refine r1B rfl ?_
  unfold lookB; rw[h1,jG h2,jaa]; rfl
 have h2:(seesE s.c r.Tower p b.Rise r.Tick).2≠0:=by simpa using h2
 repeat first | apply sT | apply sF
 refine r1B rfl ?_
 unfold lookB; rw[jH h2]; rfl
theorem zkP (s:Svc) (r:Rpt) (hT:s.c.T.length<=1000000) (hC:s.k.C.length<=1000000):Spec PP 82 [s.v,r.v] [.d (.int .i64 (rptE s r))]:=by
 refine sA Tryz.func82 ?_
 refine cP (zkM r) rfl rfl ?_
 apply bY <;> intro h1
 ·refine r1I rfl ?_
  unfold rptE; rw[kH (by simpa using h1)]
 have h1:frmB r=true:=by simpa using h1
 refine cP (zeJ s r.Tower hT) rfl rfl ?_
 refine cP (zhq s r.C hC) rfl rfl ?_
 apply bY <;> intro h2
 ·have h2:towI s.c.T r.Tower<0:=dT h2
  repeat first | apply sT | apply sF
  refine r1I rfl ?_
  have h3:(towG s.c.T r.Tower).2=false:=by unfold towG; rw[kH h2]
  unfold rptE; rw[kG (by rw[h1]; decide),kH (.inl h3)]
 have h2:¬ towI s.c.T r.Tower<0:=dF h2
 repeat first | apply sT | apply sF
 apply bY <;> intro h3
 ·have h3:cirI s.k r.C<0:=dT h3
  refine r1I rfl ?_
  unfold rptE; rw[kG (by rw[h1]; decide),kH (.inr h3)]
 have h3:¬ cirI s.k r.C<0:=dF h3
 obtain⟨h4,h5⟩:=zaP h3
 obtain⟨g4,g5⟩:=zdH h2
 have eT:=zig h2
 have e0:rptE s r=if (s.k.C.getD (cirI s.k r.C).toNat default).At≠(s.c.T.getD (towI s.c.T r.Tower).toNat default).At then 1 else if (zerR s.k r.C r.Tick).2≠0 then (zerR s.k r.C r.Tick).2 else if r.Kind=1 then (wdgR s.k (rdgO r)).2 else 0:=by
  unfold rptE; rw[kG (by rw[h1]; decide),kG (by rw[eT]; simp; omega),eT]
 refine oN 15 ?_
 refine⟨⟨rfl,by show 0<=towI s.c.T r.Tower; omega,by show towI s.c.T r.Tower<s.c.T.length; omega⟩,⟨⟨rfl,by show 0<=cirI s.k r.C; omega,by show cirI s.k r.C<s.k.C.length; omega⟩,?_⟩⟩
 apply bY <;> intro h6
 ·have h6:(s.k.C.getD (cirI s.k r.C).toNat default).At≠(s.c.T.getD (towI s.c.T r.Tower).toNat default).At:=by
   have:=(jI (!·) (eqPW (s.c.T.getD (towI s.c.T r.Tower).toNat default).At (s.k.C.getD (cirI s.k r.C).toNat default).At)).symm.trans h6
   have h7:¬ (s.c.T.getD (towI s.c.T r.Tower).toNat default).At=(s.k.C.getD (cirI s.k r.C).toNat default).At:=by simpa using this
   exact fun e=>h7 e.symm
  refine r1I rfl ?_
  rw[e0,kH h6]
 have h6:(s.k.C.getD (cirI s.k r.C).toNat default).At=(s.c.T.getD (towI s.c.T r.Tower).toNat default).At:=by
  have:=(jI (!·) (eqPW (s.c.T.getD (towI s.c.T r.Tower).toNat default).At (s.k.C.getD (cirI s.k r.C).toNat default).At)).symm.trans h6
  have h7:(s.c.T.getD (towI s.c.T r.Tower).toNat default).At=(s.k.C.getD (cirI s.k r.C).toNat default).At:=by simpa using this
  exact h7.symm
 refine cP (zht s.k r.C r.Tick) rfl rfl ?_
 apply bY <;> intro h7
 ·have h7:(zerR s.k r.C r.Tick).2≠0:=by simpa using h7
  repeat first | apply sT | apply sF
  refine r1I rfl ?_
  rw[e0,kG (fun hh=>hh h6),kH h7]
 have h7:(zerR s.k r.C r.Tick).2=0:=by simpa using h7
 repeat first | apply sT | apply sF
 apply bY <;> intro h8
 ·have h8:r.Kind=2:=by simpa using h8
  refine r1I rfl ?_
  rw[e0,kG (fun hh=>hh h6),kG (fun hh=>hh h7),kG (by omega)]; exact h7
 have h8:r.Kind≠2:=by simpa using h8
 have h9:r.Kind=1:=by
  refine jL fun h10=>?_
  have:=ztb (r:=r) (by
   cases hw:within r.Kind 1 2 with
   | false=>rfl
   | true=>have:=zaa.1 hw; omega)
  rw[h1] at this; cases this
 refine cP (ziv s.k (rdgO r)) rfl rfl ?_
 refine r1I rfl ?_
 rw[e0,kG (fun hh=>hh h6),kG (fun hh=>hh h7),kH h9]
structure RptOk (s:Svc) (r:Rpt):Prop where
  f:frmB r=true
  t:¬ towI s.c.T r.Tower<0
  w:r.Kind=1->(wdgR s.k (rdgO r)).2=0
theorem zse {s:Svc} {r:Rpt} (h:rptE s r=0):RptOk s r:=by
 unfold rptE at h
 split at h
 ·cases h
 rename_i h1
 split at h
 ·cases h
 rename_i h2
 split at h
 ·cases h
 split at h
 ·rename_i h4; exact absurd h h4
 refine⟨by simpa using h1,fun h3=>h2 (.inl (by unfold towG; rw[kH h3])),fun hk=>?_⟩
 rw[kH hk] at h; exact h
theorem zkO (s:Svc) (r:Rpt) (h:RptOk s r):Spec PP 128 [s.v,r.v] [(secR s r).1.v,B (secR s r).2]:=by
 refine sA Tryz.func128 ?_
 apply bY <;> intro h1
 ·have h1:r.Kind=1:=by simpa using h1
  have e:secR s r=((wdgR s.k (rdgO r)).1,true):=by unfold secR; rw[kH h1,jG (h.w h1)]
  refine cP (ziv s.k (rdgO r)) rfl rfl ?_
  rw[e]
  exact⟨rtC (a:=4) rfl rfl rfl rfl rfl rfl (zab _),rtB rfl rfl,trivial⟩
 have h1:r.Kind≠1:=by simpa using h1
 have e0:secR s r=blkR s r:=by unfold secR; rw[kG h1]
 rw[e0]
 obtain⟨b1,b2,b3⟩:=ztc h.f h1
 have zb:=zid s.k r.C r.Tick
 refine cP (zht s.k r.C r.Tick) rfl rfl ?_
 refine oN 16 ?_
 refine⟨i6,?_⟩
 refine oP (zdo (r.To - r.From) (by omega)) rfl rfl ?_
 refine⟨i6,⟨i6,⟨i6,?_⟩⟩⟩
 apply bY <;> intro h2
 ·have e:blkR s r=(⟨0,0⟩,false):=by unfold blkR; rw[kH (dT h2)]
  rw[e]
  exact⟨rtC (a:=4) rfl rfl rfl rfl rfl rfl (zab _),rtB rfl rfl,trivial⟩
 have e:blkR s r=(⟨(r.From+r.Slack - (zerR s.k r.C r.Tick).1.Lo) % 3600,(r.To - r.Slack - (zerR s.k r.C r.Tick).1.Hi) % 3600⟩,true):=by unfold blkR; rw[kG (dF h2)]
 rw[e]
 refine oN 21 ?_
 refine⟨i6,⟨i6,?_⟩⟩
 refine oP (zdo (r.From+r.Slack - (zerR s.k r.C r.Tick).1.Lo) (by omega)) rfl rfl ?_
 refine⟨i6,⟨i6,?_⟩⟩
 refine oP (zdo (r.To - r.Slack - (zerR s.k r.C r.Tick).1.Hi) (by omega)) rfl rfl ?_
 exact⟨rtC (a:=4) rfl rfl rfl rfl rfl rfl (zab _),rtB rfl rfl,trivial⟩
abbrev madD (s:Svc) (r:Rpt):List D:=[I r.ID,I r.Kind,I r.Tower,I r.C,I r.Tick,I r.From,I r.To,I r.Slack,I (secR s r).1.F,I (secR s r).1.T,.bool (secR s r).2,I (towG s.c.T r.Tower).1.At.X,I (towG s.c.T r.Tower).1.At.Y]
theorem zqh (s:Svc) (r:Rpt) (hn:s.c.T.length<=1000000) (h:RptOk s r):Spec PP 85 [s.v,r.v] [.agg (madD s r)]:=by
 refine sA Tryz.func85 ?_
 refine cP (zkO s r h) rfl rfl ?_
 refine oN 8 ?_
 refine oP (r6_at s r hn h.t) rfl rfl ?_
 exact r1C rfl rfl rfl rfl rfl rfl (zab _)
theorem zkQ (s:Svc) (b:Brn) (r:Rpt) (p:Place):Spec PP 84 [s.v,b.v,.agg (madD s r),p.v] [B (allB s b r p)]:=by
 have e4:seenB s b r p=((secR s r).2 && liesW (secR s r).1 (towG s.c.T r.Tower).1.At p && lookB s b r p):=rfl
 refine sA Tryz.func84 ?_
 have tail:∀ (v:Bool),v=((secR s r).2 && liesW (secR s r).1 (towG s.c.T r.Tower).1.At p)->seenB s b r p=(v && lookB s b r p):=fun v hv=>by rw[hv,e4]
 apply bY <;> intro h1
 ·have h1:(secR s r).2=true:=h1
  refine cP (zqi (secR s r).1 (towG s.c.T r.Tower).1.At p) rfl rfl ?_
  repeat first | apply sT | apply sF
  apply bY <;> intro hk
  ·have hk:r.Kind=1:=by simpa using hk
   have e:allB s b r p=seenB s b r p:=by unfold allB; rw[kH hk]
   apply bY <;> intro h2
   ·have h2:liesW (secR s r).1 (towG s.c.T r.Tower).1.At p=true:=h2
    refine cP (zkN s b r p) rfl rfl ?_
    repeat first | apply sT | apply sF
    refine r1B rfl ?_
    rw[e,tail true (by rw[h1,h2]; rfl)]; rfl
   have h2:liesW (secR s r).1 (towG s.c.T r.Tower).1.At p=false:=h2
   repeat first | apply sT | apply sF
   refine r1B rfl ?_
   rw[e,tail false (by rw[h1,h2]; rfl)]; rfl
  have hk:r.Kind≠1:=by simpa using hk
  have e:allB s b r p = !seenB s b r p:=by unfold allB; rw[kG hk]
  apply bY <;> intro h2
  ·have h2:liesW (secR s r).1 (towG s.c.T r.Tower).1.At p=false:=by simpa using h2
   repeat first | apply sT | apply sF
   refine r1B rfl ?_
   rw[e,tail false (by rw[h1,h2]; rfl)]; rfl
  have h2:liesW (secR s r).1 (towG s.c.T r.Tower).1.At p=true:=by simpa using h2
  refine cP (zkN s b r p) rfl rfl ?_
  repeat first | apply sT | apply sF
  refine r1B rfl ?_
  rw[e,tail true (by rw[h1,h2]; rfl)]; rfl
 have h1:(secR s r).2=false:=h1
 repeat first | apply sT | apply sF
 apply bY <;> intro hk
 ·have hk:r.Kind=1:=by simpa using hk
  have e:allB s b r p=seenB s b r p:=by unfold allB; rw[kH hk]
  repeat first | apply sT | apply sF
  refine r1B rfl ?_
  rw[e,tail false (by rw[h1]; rfl)]; rfl
 have hk:r.Kind≠1:=by simpa using hk
 have e:allB s b r p = !seenB s b r p:=by unfold allB; rw[kG hk]
 repeat first | apply sT | apply sF
 refine r1B rfl ?_
 rw[e,tail false (by rw[h1]; rfl)]; rfl
theorem zpg {m:Mp} {y x:Nat} (hx:x<m.w):plc m (y * m.w+x)=⟨(x:Int),(y:Int)⟩:=by
 unfold plc
 have e1:(y * m.w+x) % m.w=x:=by rw[Nat.add_comm,Nat.add_mul_mod_self_right,jaE hx]
 have e2:(y * m.w+x) / m.w=y:=by rw[Nat.add_comm,Nat.add_mul_div_right _ _ (by omega),jbl hx,qF]
 rw[e1,e2]
end Go.Pg
