/- Lemmas, joined by program. -/
import Derived.Test.YtcmghlfakcppkaaGreatGH
import Derived.Shelf.SlLaysE0
import Derived.Shelf.RegionOpenPlain
import Derived.WalkKit
import Derived.Deep.LoopGhost
import Derived.Deep.RegionLaw
import Derived.Lib.Walk
import Derived.Sort.WalkB12
import Derived.Lib.SliceRun
import Derived.Lib.SlicesDelete
set_option maxHeartbeats 4000000
set_option linter.all false
set_option maxRecDepth 100000
namespace Go.Pg
open Go.Proofs Go.RowKit
end Go.Pg
namespace Go.Pg
open Go.Proofs Go.Shelf Go.RowKit Go.Lib Go.Sort
variable {P:Program} {ρ:Ren}
theorem SpecT.congr {P:Program} {f:FuncId} {pre post:List V1} {e k n n' n2:Nat} {g g' g2:Nat->Nat->D} (h:SpecT P f pre post e k n g n' g') (hn:n'=n2) (hg:∀ m,m<n2 -> ∀ j,j<k->g' m j=g2 m j):SpecT P f pre post e k n g n2 g2:=by
 subst hn
 refine⟨h.1,fun w ok vs us v xs h1 h2 h3 h4=>(h.2 w ok vs us v xs h1 h2 h3 h4).mono ?_⟩
 rintro en w' ⟨v',e1,e2,e3,xs',e4,e5,e6⟩
 exact⟨v',e1,e2,e3,xs',e4,e5,fun m hm j hj=>by rw[<- hg m hm j hj]; exact e6 m hm j hj⟩
structure Zs where
  C:Int
  T:Int
  Z:List Int
  deriving Inhabited
abbrev Zs.ds (z:Zs):List D:=[I z.C,I z.T,lI z.Z]
abbrev Zs.v (z:Zs):V1:=.agg z.ds
def Zs.at (z:Zs):Nat->D
 | 0=>I z.C
 | 1=>I z.T
 | _=>lI z.Z
structure Fir where
  At:Place
  From:Int
  To:Int
  deriving Inhabited
def Fir.at (x:Fir):Nat->D
 | 0=>I x.At.X
 | 1=>I x.At.Y
 | 2=>I x.From
 | _=>I x.To
abbrev Fir.ds (x:Fir):List D:=[I x.At.X,I x.At.Y,I x.From,I x.To]
abbrev keyZ (ks:List Int):List (List Int):=ks.map fun x=>[x]
abbrev wmD (w:Int->Int) (ks:List Int):D:=.mp 1 (keyZ ks) fun j=>I (w (ks.getD j 0))
abbrev wmO (w:Int->Int) (ks:List Int):Ob:=.mp 1 (keyZ ks) fun j=>I (w (ks.getD j 0))
theorem idxZ:∀ (ks:List Int) (k:Int),(keyZ ks).idxOf [k]=ks.idxOf k
 | [],_=>rfl
 | a :: r,k=>by
  show List.idxOf _ ([a] :: keyZ r)=_
  rw[List.idxOf_cons,List.idxOf_cons,idxZ r k]
  by_cases h:a=k
  ·subst h; simp
  have h1:([a] == [k])=false:=by simp only[jao,ne_eq,jad,and_true]; exact h
  have h2:(a==k)=false:=by simpa using h
  rw[h1,h2]
theorem put_w {w:Int->Int} {ks:List Int} {x v:Int} (h:x∉ks) (hv:v=w x):D.eqv (.mp 1 (putK (keyZ ks) [x]) (putF (keyZ ks) (fun j=>I (w (ks.getD j 0))) [x] (I v))) (wmD w (ks ++ [x])):=by
 subst hv
 have hi:(keyZ ks).idxOf [x]=ks.length:=by rw[idxZ]; exact List.idxOf_eq_length h
 have hn:¬ (keyZ ks).idxOf [x]<(keyZ ks).length:=by rw[hi,kN]; exact Nat.lt_irrefl _
 refine⟨rfl,?_,fun j hj=>?_⟩
 ·unfold putK
  rw[kF hn]
  show keyZ ks++_=keyZ (ks ++ [x])
  rw[keyZ,keyZ,jT]; rfl
 unfold putF
 rw[hi]
 by_cases e:j=ks.length
 ·subst e
  rw[kG rfl]
  show D.eqv _ (I (w ((ks ++ [x]).getD ks.length 0)))
  rw[hX,jK (jE _),kE]
  exact dE _
 have hj:j<ks.length:=by
  unfold putK at hj
  rw[kF hn,jR,kN] at hj
  simp at hj
  omega
 rw[kF e]
 show D.eqv _ (I (w ((ks ++ [x]).getD j 0)))
 rw[hX (l:=ks ++ [x]),jJ hj,<- hX]
 exact dE _
theorem lk_w (w:Int->Int) {ks:List Int} {x:Int} (h:x∈ks):lkD (keyZ ks) (fun j=>I (w (ks.getD j 0))) [x] (I 0)=I (w x):=by
 unfold lkD
 rw[idxZ,kN]
 have hl:=jaD.2 h
 rw[kG hl]
 have:ks.getD (ks.idxOf x) 0=x:=by
  rw[hX,hZ hl]
  exact List.getElem_idxOf hl
 show I (w (ks.getD (ks.idxOf x) 0))=_
 rw[this]
def whoO (of:List (List Int)) (x:Int):Int:=idxL (fun s=>s.contains x) of
theorem ze7 {of:List (List Int)} (hd:of.flatten.Nodup) {i:Nat} (hi:i<of.length) {x:Int} (hx:x∈of.getD i []):whoO of x=i:=by
 unfold whoO
 refine zas [] hi (kD.2 hx) fun j hj=>?_
 refine wE.2 fun hc=>?_
 have hc:=kD.1 hc
 rw[hX,hZ hi] at hx
 rw[hX,hZ (by omega)] at hc
 have:=kI.1 (List.pairwise_flatten.1 hd).2 j i (by omega) hi hj
 exact this x hc x hx rfl
abbrev Fst (p:List (List Int)):Prop:=p.Pairwise fun a b=>a.getD 0 0<b.getD 0 0
structure Eqv (Y:Int->Int->Bool) (ids:List Int):Prop where
  rf:∀ x∈ids,Y x x=true
  sy:∀ x y,Y x y=true->Y y x=true
  tr:∀ x y z,Y x y=true->Y y z=true->Y x z=true
structure Grp (Y:Int->Int->Bool) (ids:List Int) (o:List (List Int)):Prop where
  pos:∀ g∈o,0<g.length
  inc:∀ g∈o,g.Pairwise (· < ·)
  cls:∀ g∈o,∀ x∈g,∀ y,y∈g ↔ y∈ids/\Y x y=true
  mem:∀ x∈ids,x∈o.flatten
  hd:Fst o
theorem zjB {g:List Int} (h:0<g.length):g.getD 0 0∈g:=gd1 h 0
theorem Grp.same {Y:Int->Int->Bool} {ids:List Int} {o o':List (List Int)} (h:Grp Y ids o) (h':Grp Y ids o') {g g':List Int} (hg:g∈o) (hg':g'∈o') {x:Int} (hx:x∈g) (hx':x∈g'):g=g':=
 zgj (h.inc g hg) (h'.inc g' hg') fun y=>(h.cls g hg x hx y).trans (h'.cls g' hg' x hx' y).symm
theorem Grp.nod {Y:Int->Int->Bool} {ids:List Int} {o:List (List Int)} (h:Grp Y ids o):o.flatten.Nodup:=by
 refine List.pairwise_flatten.2 ⟨fun g hg=>zaQ (h.inc g hg),kI.2 fun i j hi hj hij x hx y hy e=>?_⟩
 subst e
 have:=h.same h (kR hi) (kR hj) hx hy
 have hh:=kI.1 h.hd i j hi hj hij
 rw[this] at hh; omega
theorem Grp.iff {Y:Int->Int->Bool} {ids:List Int} {o:List (List Int)} (h:Grp Y ids o) (x:Int):x∈o.flatten ↔ x∈ids:=⟨fun hx=>by
 obtain⟨g,hg,hx⟩:=List.mem_flatten.1 hx
 exact ((h.cls g hg x hx x).1 hx).1,h.mem x⟩
theorem Grp.len {Y:Int->Int->Bool} {ids:List Int} {o:List (List Int)} (h:Grp Y ids o) (hn:ids.Nodup):o.flatten.length=ids.length:=(zeG h.nod hn h.iff).length_eq
theorem Grp.who {Y:Int->Int->Bool} {ids:List Int} {o:List (List Int)} (h:Grp Y ids o) {x y:Int} (hx:x∈ids) (hy:y∈ids):Y x y=true ↔ whoO o x=whoO o y:=by
 obtain⟨m,hm,mx⟩:=zbe.1 (h.mem x hx)
 obtain⟨k,hk,ky⟩:=zbe.1 (h.mem y hy)
 rw[ze7 h.nod hm mx,ze7 h.nod hk ky]
 constructor
 ·intro hY
  have hy2:y∈o.getD m []:=(h.cls _ (gd1 hm []) x mx y).2 ⟨hy,hY⟩
  rw[<- ze7 h.nod hm hy2,ze7 h.nod hk ky]
 intro e
 have e:m=k:=by omega
 subst e
 exact ((h.cls _ (gd1 hm []) x mx y).1 ky).2
theorem zlq {l:List (List (List Int))} {ids:List Int} (he:Eqv (yesB l) ids) (hl:ids.Pairwise (· < ·)) {i:Nat} (hi:i<ids.length) {o:List (List Int)} (h:Grp (yesB l) (ids.take i) o):Grp (yesB l) (ids.take (i+1)) (grp1 l o (ids.getD i 0)):=by
 have hz:ids.getD i 0∈ids:=gd1 hi 0
 have zt:∀ x∈ids.take i,x<ids.getD i 0:=fun x hx=>by
  obtain⟨j,hj,rfl⟩:=kM hx
  rw[jQ] at hj
  rw[jbh,hX,hZ hi]
  exact kI.1 hl j i (by omega) hi (by omega)
 have sub:∀ x∈ids.take i,x∈ids:=fun x hx=>wJ hx
 rw[zaM hi 0]
 generalize ids.getD i 0=z at *
 have lt:∀ g∈o,∀ x∈g,x<z:=fun g hg x hx=>zt x ((h.cls g hg x hx x).1 hx).1
 have nz:∀ g∈o,z∉g:=fun g hg hh=>by have:=lt g hg z hh; omega
 have rf:=he.rf z hz
 unfold grp1
 rcases idxL_cases (fun g:List Int=>yesB l (g.getD 0 0) z) o [] with⟨e,hno⟩ | ⟨j,hj,e,e1,-⟩
 ·rw[kG (by rw[e]; decide)]
  have none:∀ g∈o,∀ x∈g,yesB l x z=false:=fun g hg x hx=>by
   obtain⟨q,hq,rfl⟩:=zbW ([]:List Int) hg
   have h1:=hno q hq
   have h2:=zjB (h.pos _ hg)
   have h3:=((h.cls _ hg _ h2 x).1 hx).2
   rw[wE]
   intro hh
   have h1:yesB l ((o.getD q []).getD 0 0) z=false:=h1
   rw[he.tr _ _ _ h3 hh] at h1; cases h1
  refine⟨fun g hg=>?_,fun g hg=>?_,fun g hg x hx y=>?_,fun x hx=>?_,?_⟩
  ·rcases kQ.1 hg with hg | hg
   ·exact h.pos g hg
   rw[kH.1 hg]; exact Nat.lt_succ_self 0
  ·rcases kQ.1 hg with hg | hg
   ·exact h.inc g hg
   rw[kH.1 hg]; simp
  ·rw[kQ,kH]
   rcases kQ.1 hg with hg | hg
   ·rw[h.cls g hg x hx y]
    constructor
    ·exact fun⟨a,b⟩=>⟨.inl a,b⟩
    rintro⟨a | a,b⟩
    ·exact⟨a,b⟩
    rw[a,none g hg x hx] at b; cases b
   rw[kH] at hg
   subst hg
   rw[kH] at hx ⊢
   subst hx
   constructor
   ·rintro rfl; exact⟨.inr rfl,rf⟩
   rintro⟨a | a,b⟩
   ·exfalso
    obtain⟨g,hg,hy⟩:=List.mem_flatten.1 (h.mem y a)
    have:=none g hg y hy
    rw[he.sy _ _ b] at this; cases this
   exact a
  ·rw[List.flatten_append,kQ]
   rcases kQ.1 hx with hx | hx
   ·exact .inl (h.mem x hx)
   exact .inr (by simpa using hx)
  refine List.pairwise_append.2 ⟨h.hd,by simp,fun a ha b hb=>?_⟩
  rw[kH.1 hb]
  exact lt a ha _ (zjB (h.pos a ha))
 rw[e,kF (by omega),wD]
 have e1:yesB l ((o.getD j []).getD 0 0) z=true:=e1
 have hgj:=gd1 hj ([]:List Int)
 have hh:=zjB (h.pos _ hgj)
 generalize hG:o.getD j []=G at *
 have yz:∀ x∈G,yesB l x z=true:=fun x hx=>he.tr _ _ _ (he.sy _ _ ((h.cls G hgj _ hh x).1 hx).2) e1
 have oth:∀ q,q<o.length->q≠j -> ∀ x∈o.getD q [],yesB l x z=false:=fun q hq hne x hx=>by
  rw[wE]
  intro hb
  have hgq:=gd1 hq ([]:List Int)
  have hx2:x∈G:=(h.cls G hgj _ hh x).2 ⟨((h.cls _ hgq x hx x).1 hx).1,he.tr _ _ _ e1 (he.sy _ _ hb)⟩
  have e3:=h.same h hgq hgj hx hx2
  have g:∀ q,(hq:q<o.length)->o.getD q []=o[q]:=fun q hq=>by rw[hX,hZ hq]; rfl
  rw[<- hG,g q hq,g j hj] at e3
  rcases Nat.lt_or_gt_of_ne hne with hlt | hlt
  ·have:=kI.1 h.hd q j hq hj hlt
   rw[e3] at this; omega
  have:=kI.1 h.hd j q hj hq hlt
  rw[e3] at this; omega
 have memS:∀ g∈o.set j (G ++ [z]),(g=G ++ [z]) \/ ∃ q,q<o.length/\q≠j/\g=o.getD q []:=fun g hg=>by
  obtain⟨q,hq,rfl⟩:=kM hg
  rw[wH] at hq
  rw[List.getElem_set]
  split
  ·exact .inl rfl
  rename_i hne
  exact .inr ⟨q,hq,fun e=>hne e.symm,by rw[hX,hZ hq]; rfl⟩
 refine⟨fun g hg=>?_,fun g hg=>?_,fun g hg x hx y=>?_,fun x hx=>?_,?_⟩
 ·rcases memS g hg with rfl | ⟨q,hq,hne,rfl⟩
  ·simp
  exact h.pos _ (gd1 hq [])
 ·rcases memS g hg with rfl | ⟨q,hq,hne,rfl⟩
  ·exact List.pairwise_append.2 ⟨h.inc G hgj,by simp,fun a ha b hb=>by rw[kH.1 hb]; exact lt G hgj a ha⟩
  exact h.inc _ (gd1 hq [])
 ·rw[kQ (s:=ids.take i),kH]
  rcases memS g hg with rfl | ⟨q,hq,hne,rfl⟩
  ·rw[kQ,kH]
   rcases kQ.1 hx with hx | hx
   ·rw[h.cls G hgj x hx y]
    constructor
    ·rintro (⟨a,b⟩ | e5)
     ·exact⟨.inl a,b⟩
     exact⟨.inr e5,by rw[e5]; exact yz x hx⟩
    rintro⟨a | a,b⟩
    ·exact .inl ⟨a,b⟩
    exact .inr a
   rw[kH] at hx
   subst hx
   constructor
   ·rintro (a | e5)
    ·exact⟨.inl ((h.cls G hgj y a y).1 a).1,he.sy _ _ (yz y a)⟩
    exact⟨.inr e5,by rw[e5]; exact rf⟩
   rintro⟨a | a,b⟩
   ·exact .inl ((h.cls G hgj _ hh y).2 ⟨a,he.tr _ _ _ e1 b⟩)
   exact .inr a
  have hgq:=gd1 hq ([]:List Int)
  rw[h.cls _ hgq x hx y]
  constructor
  ·exact fun⟨a,b⟩=>⟨.inl a,b⟩
  rintro⟨a | a,b⟩
  ·exact⟨a,b⟩
  rw[a,oth q hq hne x hx] at b; cases b
 ·have inS:∀ q,q<o.length -> ∀ x∈o.getD q [],x∈(o.set j (G ++ [z])).flatten:=fun q hq x hx=>by
   refine zbe.2 ⟨q,by rw[wH]; exact hq,?_⟩
   rw[za7 _ _ _ _ _ hj]
   split
   ·rename_i e; subst e; rw[hG] at hx; exact jaA _ hx
   exact hx
  rcases kQ.1 hx with hx | hx
  ·obtain⟨q,hq,hx⟩:=zbe.1 (h.mem x hx)
   exact inS q hq x hx
  rw[kH.1 hx]
  refine zbe.2 ⟨j,by rw[wH]; exact hj,?_⟩
  rw[za7 _ _ _ _ _ hj,kG rfl]; simp
 have hd2:(G ++ [z]).getD 0 0=G.getD 0 0:=by
  have:=h.pos G hgj
  rw[hX,jJ this,<- hX]
 refine kI.2 fun a b ha hb hab=>?_
 rw[wH] at ha hb
 have hh:=kI.1 h.hd a b ha hb hab
 have gj:o[j].getD 0 0=G.getD 0 0:=by
  have:o[j]=G:=by rw[<- hG,hX,hZ hj]; rfl
  exact jI (fun s:List Int=>s.getD 0 0) this
 rw[List.getElem_set,List.getElem_set]
 split
 ·rename_i e2
  subst e2
  rw[kF (by omega),hd2]; omega
 split
 ·rename_i e2
  subst e2
  rw[hd2]; omega
 exact hh
theorem zjC {l:List (List (List Int))} {ids:List Int} (he:Eqv (yesB l) ids) (hl:ids.Pairwise (· < ·)):∀ i,i<=ids.length->Grp (yesB l) (ids.take i) (grpK l ids i)
 | 0,_=>⟨fun g hg=>(by cases hg),fun g hg=>(by cases hg),fun g hg=>(by cases hg),fun x hx=>by simp at hx,.nil⟩
 | i+1,hi=>by
  rw[zfC l (by omega)]
  exact zlq he hl (by omega) (zjC he hl i (by omega))
theorem zbu {l:List (List (List Int))} (h0:l ≠ []) (x y:Int):yesB l x y=true ↔ ∀ p∈l,togB x y p=true:=by
 have e:(vdtR l x y).Ans=(if l.any (togB x y)=true then (if (l.any fun p=>!togB x y p)=true then 3 else 2) else 1):=rfl
 unfold yesB
 rw[e,jae]
 constructor
 ·intro h p hp
  split at h
  ·split at h
   ·cases h
   rename_i g
   cases ht:togB x y p with
   | true=>rfl
   | false=>exact absurd (kS.2 ⟨p,hp,by rw[ht]; rfl⟩) g
  cases h
 intro h
 obtain⟨p,hp⟩:=List.exists_mem_of_ne_nil l h0
 rw[kG (kS.2 ⟨p,hp,h p hp⟩),kF]
 intro hh
 obtain⟨q,hq,e⟩:=kS.1 hh
 rw[h q hq] at e; cases e
theorem zbv {x y:Int} {p:List (List Int)}:togB x y p=true ↔ ∃ s∈p,x∈s/\y∈s:=by
 unfold togB
 rw[kS]
 refine exists_congr fun s=>and_congr_right fun _=>?_
 unfold bthB
 rw[jP,kD,kD]
theorem div_one {ids:List Int} {p:List (List Int)} (hr:ids.Pairwise (· < ·)) (hd:divB ids p=true):p.flatten.Nodup/\(∀ x,x∈p.flatten ↔ x∈ids)/\(∀ s∈p,setB s=true) /\ ∀ s∈p,∀ t∈p,∀ x,x∈s->x∈t->s=t:=by
 unfold divB at hd
 rw[jP,kV,jC] at hd
 have hp:p.flatten.Perm ids:=by rw[<- hd.2]; exact (jaQ _ _).symm
 have hn:=hp.nodup_iff.2 (zaQ hr)
 refine⟨hn,fun x=>hp.mem_iff,fun s hs=>?_,fun s hs t ht x h1 h2=>?_⟩
 ·obtain⟨q,hq,rfl⟩:=zbW ([]:List Int) hs
  have:=hd.1 q (kK.2 hq)
  rw[jP] at this
  exact this.1
 obtain⟨i,hi,rfl⟩:=kM hs
 obtain⟨j,hj,rfl⟩:=kM ht
 have hp:=(List.pairwise_flatten.1 hn).2
 rcases Nat.lt_trichotomy i j with h | h | h
 ·exact absurd rfl (kI.1 hp i j hi hj h x h1 x h2)
 ·subst h; rfl
 exact absurd rfl (kI.1 hp j i hj hi h x h2 x h1)
theorem zmr {l:List (List (List Int))} {ids:List Int} (h0:l ≠ []) (hr:ids.Pairwise (· < ·)) (hd:∀ p∈l,divB ids p=true):Eqv (yesB l) ids:=by
 refine⟨fun x hx=>(zbu h0 x x).2 fun p hp=>?_,fun x y h=>(zbu h0 y x).2 fun p hp=>?_,fun x y z h1 h2=>(zbu h0 x z).2 fun p hp=>?_⟩
 ·obtain⟨_,m,_,_⟩:=div_one hr (hd p hp)
  obtain⟨s,hs,hx⟩:=List.mem_flatten.1 ((m x).2 hx)
  exact zbv.2 ⟨s,hs,hx,hx⟩
 ·obtain⟨s,hs,a,b⟩:=zbv.1 ((zbu h0 x y).1 h p hp)
  exact zbv.2 ⟨s,hs,b,a⟩
 obtain⟨_,_,_,u⟩:=div_one hr (hd p hp)
 obtain⟨s,hs,a,b⟩:=zbv.1 ((zbu h0 x y).1 h1 p hp)
 obtain⟨t,ht,c,e⟩:=zbv.1 ((zbu h0 y z).1 h2 p hp)
 have:=u s hs t ht y b c
 subst this
 exact zbv.2 ⟨s,hs,a,e⟩
theorem ziP {l:List (List (List Int))} {ids:List Int} (h0:l ≠ []) (hr:ids.Pairwise (· < ·)) (hd:∀ p∈l,divB ids p=true) {o:List (List Int)} (h:Grp (yesB l) ids o) {s:List Int} (hs:∀ p∈l,s∈p):s∈o:=by
 obtain⟨p,hp⟩:=List.exists_mem_of_ne_nil l h0
 obtain⟨_,m,ps,u⟩:=div_one hr (hd p hp)
 obtain⟨s1,s2⟩:=zdW (ps s (hs p hp))
 have hx:=gd1 s2 0
 have hxi:=(m _).1 (List.mem_flatten.2 ⟨s,hs p hp,hx⟩)
 obtain⟨g,hg,hxg⟩:=List.mem_flatten.1 (h.mem _ hxi)
 have e:s=g:=zgj s1 (h.inc g hg) fun y=>by
  rw[h.cls g hg _ hxg y]
  constructor
  ·exact fun hy=>⟨(m y).1 (List.mem_flatten.2 ⟨s,hs p hp,hy⟩),(zbu h0 _ _).2 fun q hq=>zbv.2 ⟨s,hs q hq,hx,hy⟩⟩
  rintro⟨_,hY⟩
  obtain⟨t,ht,a,b⟩:=zbv.1 ((zbu h0 _ _).1 hY p hp)
  rw[u s (hs p hp) t ht _ hx a]; exact b
 rw[e]; exact hg
theorem zjK {d:Day} (h:few7 d) (hd:dayE d=0):(sigK d.R).length<=5:=by
 have ok:=zcS hd
 have:=ok.sg
 have:=ok.bl
 rcases h.2 with h | h | h
 ·exact h.1
 ·omega
 omega
theorem wr8 {a n:Nat} (ha:a<=255):(IntKind.wrap .i64 ((a:Nat):Int)).tmod ((n:Nat):Int)=((a % n:Nat):Int):=by
 rw[zbK (by exact i6)]; rfl
end Go.Pg
