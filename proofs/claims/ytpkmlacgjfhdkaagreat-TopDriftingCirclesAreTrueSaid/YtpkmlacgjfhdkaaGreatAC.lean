/- Lemmas, joined by program. -/
import Derived.Test.YtpkmlacgjfhdkaaGreatAB
set_option maxHeartbeats 4000000
set_option linter.all false
set_option maxRecDepth 100000
namespace Go.Pg
open Go.Proofs Go.RowKit
theorem zqQ {α:Type} [Inhabited α] {k:Nat} {f:α->Nat->D} {vs:List α} {a b:α} {g:Nat->Nat->D} (h0:∀ j,j<k->D.eqv (g 0 j) (f a j)) (h1:∀ j,j<k->D.eqv (g 1 j) (f b j)) :
  D.eqv (.slc k (vs.length+2) (appRow vs.length (fun i=>f (vs.getD i default)) g)) (.slc k (vs ++ [a,b]).length fun i=>f ((vs ++ [a,b]).getD i default)):=by
 refine⟨by simp,.inr ⟨rfl,fun i hi j hj=>?_⟩⟩
 show D.eqv (appRow vs.length (fun i=>f (vs.getD i default)) g i j) (f ((vs ++ [a,b]).getD i default) j)
 unfold appRow
 by_cases h:i<vs.length
 ·rw[kG h,hU (l:=vs ++ [a,b]),jJ h,<- hU]
  exact dE _
 rw[kF h,hU (l:=vs ++ [a,b]),jK (by omega)]
 have e:i - vs.length=0 \/ i - vs.length=1:=by omega
 rcases e with e | e
 ·rw[e]; exact h0 j hj
 rw[e]; exact h1 j hj
def isSg (r:Rpt):Bool:=r.Kind==1
def hvO (s:Svc) (r:Rpt):Half × Half:=halvesW (wdgR s.k (rdgO r)).1 (towG s.c.T r.Tower).1.At
def hvL (s:Svc) (l:List Rpt):List Half:=(l.filter isSg).flatMap fun r=>[(hvO s r).1,(hvO s r).2]
def hvI (l:List Rpt):List Int:=(l.filter isSg).flatMap fun r=>[r.ID,r.ID]
theorem zpx {s:Svc} {l:List Rpt} {k:Nat} (h:k<l.length) (h1:isSg (l.getD k default)=true):hvL s (l.take (k+1))=hvL s (l.take k) ++ [(hvO s (l.getD k default)).1,(hvO s (l.getD k default)).2]:=by
 unfold hvL
 rw[za6 h default,kX,jax,wA (p:=isSg) h1]; rfl
theorem zrg {s:Svc} {l:List Rpt} {k:Nat} (h:k<l.length) (h1:isSg (l.getD k default)=false):hvL s (l.take (k+1))=hvL s (l.take k):=by
 unfold hvL
 rw[za6 h default,kX,jax,wB (p:=isSg) (by rw[h1]; decide)]; simp
theorem zpy {l:List Rpt} {k:Nat} (h:k<l.length) (h1:isSg (l.getD k default)=true):hvI (l.take (k+1))=hvI (l.take k) ++ [(l.getD k default).ID,(l.getD k default).ID]:=by
 unfold hvI
 rw[za6 h default,kX,jax,wA (p:=isSg) h1]; rfl
theorem zrh {l:List Rpt} {k:Nat} (h:k<l.length) (h1:isSg (l.getD k default)=false):hvI (l.take (k+1))=hvI (l.take k):=by
 unfold hvI
 rw[za6 h default,kX,jax,wB (p:=isSg) (by rw[h1]; decide)]; simp
theorem zpH {α β:Type} (f g:α->β):∀ l:List α,(l.flatMap fun r=>[f r,g r]).length=2 * l.length
 | []=>rfl
 | x :: r=>by rw[List.flatMap_cons,jR,zpH f g r,jaz,jaz,jaz,List.length_nil]; omega
theorem zhA (s:Svc) (l:List Rpt):(hvL s l).length<=2 * l.length:=by
 unfold hvL
 rw[zpH]
 have:=jam isSg l
 omega
theorem zpz (l:List Rpt):(hvI l).length<=2 * l.length:=by
 unfold hvI
 rw[zpH]
 have:=jam isSg l
 omega
def hvsR (s:Svc) (b:Brn) (l:List Rpt):(List Half × List Int) × Int:=
 if givE s b l≠0 then (([],[]),givE s b l) else if 40<(hvL s l).length then (([],[]),2) else ((hvL s l,hvI l),0)
theorem ziJ (s:Svc) (b:Brn) (l:List Rpt):Spec PP 40 [s.v,b.v,.d (lR l)] [slH (hvsR s b l).1.1,.d (lI (hvsR s b l).1.2),.d (.int .i64 (hvsR s b l).2)]:=by
 refine sA Tryz.func40 ?_
 refine cP (zk7 s b l) rfl rfl ?_
 apply bY <;> intro h0
 ·have h0:givE s b l≠0:=by simpa using h0
  have e:hvsR s b l=(([],[]),givE s b l):=by unfold hvsR; rw[kG h0]
  rw[e]
  exact⟨⟨_,_,_,_,rfl,rfl,.inl rfl⟩,⟨_,_,_,_,rfl,rfl,.inl rfl⟩,rtI rfl rfl,trivial⟩
 have h0:givE s b l=0:=by simpa using h0
 have ok:=zco h0
 have hn:=ok.n
 refine lOf (σ:=Nat) (fun k=>([(2,.d (lR l)),(3,.box 3 0),(10,.own 10),(11,.own 11),(27,.d (lR l)),(28,.d (I l.length)),(29,.d (I k))],[(3,.box (s.ds.map AV.d)),(10,.row 186 3 (hvL s (l.take k)).length (rowH (hvL s (l.take k)))),(11,.row 3 1 (hvI (l.take k)).length (fun i _=>I ((hvI (l.take k)).getD i 0)))])) (fun k=>k<=l.length) (fun k=>l.length - k) 0
  ⟨rfl,⟨obD s.ds rfl,obR rfl ⟨rfl,.inl rfl⟩,obR rfl ⟨rfl,.inl rfl⟩,trivial⟩,wq rfl⟩ (jF _) fun k hk=>?_
 have hk:k<=l.length:=hk
 apply bY <;> intro h1
 ·have h1:k<l.length:=by have:=dT h1; omega
  refine⟨⟨rfl,by omega,by omega⟩,?_⟩
  apply bY <;> intro h2
  ·have h2:isSg (l.getD k default)=false:=by
    unfold isSg
    have:(l.getD k default).Kind≠1:=by simpa using h2
    simpa using this
   refine⟨i6,?_⟩
   refine⟨k+1,⟨rfl,⟨obD s.ds rfl,obR rfl ?_,obR rfl ?_,trivial⟩,wq rfl⟩,h1,msr h1⟩
   ·rw[zrg h1 h2]; exact dE _
   rw[zrh h1 h2]; exact dE _
  have hk1:(l.getD k default).Kind=1:=by simpa using h2
  have h2:isSg (l.getD k default)=true:=by unfold isSg; simpa using hk1
  have lt:=zoe (l.getD k default)
  have e1:tldD (l.getD k default) = .ifc 222 8 (getD' (l.getD k default).ds):=by unfold tldD; rw[kG hk1]
  rw[e1] at lt
  have b1:=zhA s (l.take k)
  have b2:=zpz (l.take k)
  rw[jQ] at b1 b2
  refine oN 10 ?_
  refine oRo lt rfl rfl ?_
  refine⟨⟨_,_,_,_,rfl,by kernel_rfl,oP (zcK (l.getD k default) s) rfl rfl ?_⟩⟩
  refine cP (zfD s (l.getD k default).Tower (by have:=ok.s.c.t; omega)) rfl rfl ?_
  refine cP (znO (wdgR s.k (rdgO (l.getD k default))).1 (towG s.c.T (l.getD k default).Tower).1.At) rfl rfl ?_
  refine oL [0,1,2,3,4,5,1007,1008,1009,1010,1011,1012,6,13,14,15] (fNo ?_)
  refine⟨⟨by decide,by decide⟩,⟨⟨by decide,by decide⟩,?_⟩⟩
  refine⟨rfl,⟨rfl,⟨rfl,⟨rfl,⟨rfl,⟨rfl,⟨rfl,⟨rfl,⟨rfl,⟨rfl,⟨rfl,⟨rfl,?_⟩⟩⟩⟩⟩⟩⟩⟩⟩⟩⟩⟩
  refine⟨⟨.inr rfl,by unfold maxLen; omega,by show ((hvL s (l.take k)).length+2) * 24<=140737488355328; omega⟩,?_⟩
  refine⟨⟨.inr rfl,by unfold maxLen; omega,by show ((hvI (l.take k)).length+2) * 8<=140737488355328; omega⟩,?_⟩
  refine⟨i6,?_⟩
  refine⟨k+1,⟨rfl,⟨obD s.ds rfl,obR rfl ?_,obR rfl ?_,trivial⟩,wq rfl⟩,h1,msr h1⟩
  ·rw[zpx h1 h2]
   exact zqQ (f:=Half.at) (fun j hj=>by
    match j,hj with
    | 0,_=>exact dE _
    | 1,_=>exact dE _
    | 2,_=>exact dE _) (fun j hj=>by
    match j,hj with
    | 0,_=>exact dE _
    | 1,_=>exact dE _
    | 2,_=>exact dE _)
  rw[zpy h1 h2]
  exact zqQ (f:=fun (a:Int) _=>I a) (fun j hj=>by
   match j,hj with
   | 0,_=>exact dE _) (fun j hj=>by
   match j,hj with
   | 0,_=>exact dE _)
 have h1:k=l.length:=by have:=dF h1; omega
 subst h1
 rw[jZ]
 have e0:hvsR s b l=if 40<(hvL s l).length then (([],[]),2) else ((hvL s l,hvI l),0):=by unfold hvsR; rw[kF (fun h=>h h0)]
 apply bY <;> intro h2
 ·have h2:40<(hvL s l).length:=by have:=dT h2; omega
  rw[e0,kG h2]
  exact⟨⟨_,_,_,_,rfl,rfl,.inl rfl⟩,⟨_,_,_,_,rfl,rfl,.inl rfl⟩,rtI rfl rfl,trivial⟩
 have h2:¬ 40<(hvL s l).length:=by have:=dF h2; omega
 rw[e0,kF h2]
 exact⟨⟨_,_,_,_,rfl,dE _⟩,⟨_,_,_,_,rfl,dE _⟩,rtI rfl rfl,trivial⟩
noncomputable def bndR (s:Svc) (b:Brn) (l:List Rpt) (f:Form):Bound × Int:=if (hvsR s b l).2≠0 then (noBound,(hvsR s b l).2) else bestE (hvsR s b l).1.1 f
theorem zpv (s:Svc) (b:Brn) (l:List Rpt) (f:Form):Spec PP 43 [s.v,b.v,.d (lR l),f.v] [(bndR s b l f).1.v,N (bndR s b l f).2]:=by
 refine sA Tryz.func43 ?_
 refine cR (ziJ s b l) rfl rfl ?_
 apply bY <;> intro h0
 ·have e:bndR s b l f=(noBound,(hvsR s b l).2):=by unfold bndR; rw[kG (by simpa using h0)]
  rw[e]
  exact⟨rtC (a:=8) rfl rfl rfl rfl rfl rfl ⟨⟨rfl,rfl⟩,⟨rfl,rfl⟩,⟨rfl,rfl⟩,⟨rfl,rfl⟩,⟨rfl,rfl⟩,⟨rfl,rfl⟩,rfl,trivial⟩,rtI rfl rfl,trivial⟩
 have h0:(hvsR s b l).2=0:=by simpa using h0
 have e:bndR s b l f=bestE (hvsR s b l).1.1 f:=by unfold bndR; rw[kF (fun h=>h h0)]
 rw[e]
 refine cR (zqJ (hvsR s b l).1.1 f) rfl rfl ?_
 exact⟨rtC (a:=8) rfl rfl rfl rfl rfl rfl (zab _),rtI rfl rfl,trivial⟩
end Go.Pg
namespace Go.Pg
def ef (h:Half) (p:Corner):Int:=h.A * p.X+h.B * p.Y - h.C * p.Den
def d3 (a b c:Corner):Int:=a.X * (b.Y * c.Den - b.Den * c.Y) - a.Y * (b.X * c.Den - b.Den * c.X)+a.Den * (b.X * c.Y - b.Y * c.X)
theorem plu (h:Half) (a b c d:Corner):ef h a * d3 b c d - ef h b * d3 a c d+ef h c * d3 a b d - ef h d * d3 a b c=0:=by
 unfold ef d3; grind
theorem ze1 (a b c:Corner):d3 b c a=d3 a b c:=by unfold d3; grind
theorem zlB (a b c:Corner):d3 b a c = -d3 a b c:=by unfold d3; grind
theorem zdv (a b c:Corner):d3 a c b = -d3 a b c:=by unfold d3; grind
theorem zk2 (h:Half) (p:Corner):lies h p=true ↔ ef h p<=0:=by
 unfold lies ef
 simp only[kA]
 omega
theorem dxy (a b c:Corner):dXh a b * dYh a c - dYh a b * dXh a c=a.Den * d3 a b c:=by unfold dXh dYh d3; grind
theorem zkd {a b:Int} (ha:0<a) (h:0<a * b):0<b:=by
 rcases Int.lt_trichotomy b 0 with g | g | g
 ·have:=Int.mul_neg_of_pos_of_neg ha g; omega
 ·subst g; simp at h
 exact g
theorem zn3 {a b:Int} (ha:0<a) (h:a * b<0):b<0:=by
 rcases Int.lt_trichotomy b 0 with g | g | g
 ·exact g
 ·subst g; simp at h
 have:=qI ha g; omega
theorem zka {a b:Int} (ha:a<0) (h:0<a * b):b<0:=by
 rcases Int.lt_trichotomy b 0 with g | g | g
 ·exact g
 ·subst g; simp at h
 have:=Int.mul_neg_of_neg_of_pos ha g; omega
theorem zge {a b:Int} (ha:a<0) (h:a * b<0):0<b:=by
 rcases Int.lt_trichotomy b 0 with g | g | g
 ·have:=Int.mul_pos_of_neg_of_neg ha g; omega
 ·subst g; simp at h
 exact g
theorem zh6 {a b c:Corner} (ha:0<a.Den):turn a b c<=0 ↔ d3 a b c<=0:=by
 have h:=dxy a b c
 unfold turn ord
 rcases Int.lt_trichotomy (d3 a b c) 0 with g | g | g
 ·have:=Int.mul_neg_of_pos_of_neg ha g
  rw[kG (by omega)]; omega
 ·rw[g] at h
  rw[kF (by omega),kF (by omega)]; omega
 have:=qI ha g
 rw[kF (by omega),kG (by omega)]; omega
section
variable {φ θ:Half} {p q r s:Corner}
theorem four1 (f0:ef φ q=0) (fp:ef φ p<0) (fr:ef φ r<0) (fs:ef φ s<0) (t0:ef θ q=0) (tp:ef θ p<0) (tr:0<ef θ r) (ts:0<ef θ s):¬ (0<d3 p q r/\d3 p q s<0):=by
 rintro⟨h1,h2⟩
 have e1:=plu φ p q r s
 have e2:=plu θ p q r s
 rw[f0,Int.zero_mul] at e1
 rw[t0,Int.zero_mul] at e2
 have a1:=Int.mul_pos_of_neg_of_neg fr h2
 have a2:=Int.mul_neg_of_neg_of_pos fs h1
 have a3:=Int.mul_neg_of_pos_of_neg tr h2
 have a4:=qI ts h1
 have c1:=zge fp (b:=d3 q r s) (by omega)
 have c2:=zka tp (b:=d3 q r s) (by omega)
 omega
theorem four2 (f0:ef φ q=0) (fp:ef φ p<0) (fr:ef φ r<0) (fs:ef φ s<0) (t0:ef θ q=0) (tp:ef θ p<0) (tr:0<ef θ r) (ts:0<ef θ s):¬ (d3 p q r<0/\0<d3 p q s):=by
 rintro⟨h1,h2⟩
 have e1:=plu φ p q r s
 have e2:=plu θ p q r s
 rw[f0,Int.zero_mul] at e1
 rw[t0,Int.zero_mul] at e2
 have a1:=Int.mul_neg_of_neg_of_pos fr h2
 have a2:=Int.mul_pos_of_neg_of_neg fs h1
 have a3:=qI tr h2
 have a4:=Int.mul_neg_of_pos_of_neg ts h1
 have c1:=zka fp (b:=d3 q r s) (by omega)
 have c2:=zge tp (b:=d3 q r s) (by omega)
 omega
theorem four3 (f0:ef φ r=0) (fp:ef φ p<0) (fq:ef φ q<0) (fs:ef φ s<0) (h1:0<d3 p q r) (h2:0<d3 p r s):0<d3 q r s:=by
 have e1:=plu φ p q r s
 rw[f0,Int.zero_mul] at e1
 have a1:=Int.mul_neg_of_neg_of_pos fq h2
 have a2:=Int.mul_neg_of_neg_of_pos fs h1
 exact zge fp (by omega)
theorem four4 (t0:ef θ r=0) (tp:ef θ p<0) (tq:ef θ q<0) (ts:0<ef θ s) (h1:0<d3 p q r) (h2:0<d3 q r s):0<d3 p r s:=by
 have e1:=plu θ p q r s
 rw[t0,Int.zero_mul] at e1
 have a1:=Int.mul_neg_of_neg_of_pos tp h2
 have a2:=qI ts h1
 exact zge tq (by omega)
end
def Bef (th:Corner->Half) (p q:Corner):Prop:=ef (th q) p<0/\0<ef (th p) q
structure Conv (th:Corner->Half) (S:List Corner):Prop where
  out:∀ q∈S,∃ φ:Half,ef φ q=0 /\ ∀ p∈S,p≠q->ef φ p<0
  th0:∀ q∈S,ef (th q) q=0
  ord:S.Pairwise (Bef th)
  non:∀ p∈S,∀ q∈S,∀ r∈S,p≠q->p≠r->q≠r->d3 p q r≠0
  den:∀ q∈S,0<q.Den
section
variable {th:Corner->Half} {S:List Corner} (C:Conv th S)
include C
theorem Conv.ne {p q:Corner} (hp:p∈S) (h:Bef th p q):p≠q:=fun e=>by
 subst e
 have:=C.th0 p hp
 have:=h.1
 omega
theorem Conv.low_iff {p q r s:Corner} (hp:p∈S) (hq:q∈S) (hr:r∈S) (hs:s∈S) (h1:Bef th p q) (h2:Bef th q r) (h3:Bef th q s) (h4:Bef th p r) (h5:Bef th p s):0<d3 p q r ↔ 0<d3 p q s:=by
 obtain⟨φ,f0,ff⟩:=C.out q hq
 have fp:=ff p hp (C.ne hp h1)
 have fr:=ff r hr (C.ne hq h2).symm
 have fs:=ff s hs (C.ne hq h3).symm
 have n1:=C.non p hp q hq r hr (C.ne hp h1) (C.ne hp h4) (C.ne hq h2)
 have n2:=C.non p hp q hq s hs (C.ne hp h1) (C.ne hp h5) (C.ne hq h3)
 have c1:=four1 f0 fp fr fs (C.th0 q hq) h1.1 h2.2 h3.2
 have c2:=four2 f0 fp fr fs (C.th0 q hq) h1.1 h2.2 h3.2
 omega
theorem Conv.turn_low {p0 m a b y:Corner} (h0:p0∈S) (hm:m∈S) (ha:a∈S) (hb:b∈S) (hy:y∈S) (b1:Bef th p0 b) (b2:Bef th b y) (b3:Bef th p0 y) (b4:y=m \/ Bef th y m) (b5:Bef th b m) (b6:Bef th p0 m)
  (hA:a=p0 \/ (Bef th p0 a/\Bef th a b/\Bef th a y/\Bef th a m/\0<d3 p0 a m)):0<d3 a b y ↔ 0<d3 p0 b m:=by
 have e:0<d3 p0 b y ↔ 0<d3 p0 b m:=by
  rcases b4 with rfl | b4
  ·exact jba
  exact C.low_iff h0 hb hy hm b1 b2 b5 b3 b6
 rcases hA with rfl | ⟨a1,a2,a3,a4,a5⟩
 ·exact e
 rw[<- e]
 have g:0<d3 p0 a b:=(C.low_iff h0 ha hb hm a1 a2 a4 b1 b6).2 a5
 constructor
 ·intro h
  exact four4 (C.th0 b hb) b1.1 a2.1 b2.2 g h
 intro h
 obtain⟨φ,f0,ff⟩:=C.out b hb
 exact four3 f0 (ff p0 h0 (C.ne h0 b1)) (ff a ha (C.ne ha a2)) (ff y hy (C.ne hb b2).symm) g h
end
def low (p0 m q:Corner):Bool:=decide (0<d3 p0 q m)
theorem zio (p b a:Corner) (r:List Corner):popR p (b :: a :: r)=if turn a b p<=0 then popR p (a :: r) else b :: a :: r:=rfl
section
variable {th:Corner->Half} {S:List Corner} (C:Conv th S) {p0 m:Corner} (h0:p0∈S) (hm:m∈S) (hpm:Bef th p0 m)
include C h0 hm hpm
theorem Conv.pop_low {F:List Corner} {y:Corner} (hy:y∈S) (hym:y=m \/ Bef th y m) (hF:(p0 :: (F ++ [y])).Pairwise (Bef th)) (hFS:∀ q∈F,q∈S/\Bef th q m/\low p0 m q=true):popR y (F.reverse ++ [p0])=F.reverse ++ [p0]:=by
 rw[List.pairwise_cons] at hF
 obtain⟨g1,g2⟩:=hF
 rcases List.eq_nil_or_concat F with rfl | ⟨F',b,rfl⟩
 ·rfl
 rw[List.concat_eq_append] at *
 have gb:=hFS b (by simp)
 rw[List.append_assoc,List.pairwise_append] at g2
 obtain⟨g3,g4,g5⟩:=g2
 have gby:Bef th b y:=by
  have:=(List.pairwise_cons.1 g4).1 y (by simp)
  exact this
 obtain⟨a,r,hr,hA⟩:∃ a r,F'.reverse ++ [p0]=a :: r/\(a=p0 \/ (a∈F')):=by
  rcases List.eq_nil_or_concat F' with rfl | ⟨F2,a,rfl⟩
  ·exact⟨p0,[],rfl,.inl rfl⟩
  exact⟨a,F2.reverse ++ [p0],by simp,.inr (by simp)⟩
 have hyB:Bef th p0 y:=g1 y (by simp)
 have haS:a∈S:=by
  rcases hA with rfl | hA
  ·exact h0
  exact (hFS a (by simp[hA])).1
 have key:=C.turn_low (a:=a) (b:=b) (y:=y) h0 hm haS gb.1 hy (g1 b (by simp)) gby hyB hym gb.2.1 hpm (by
  rcases hA with rfl | hA
  ·exact .inl rfl
  have ga:=hFS a (by simp[hA])
  exact .inr ⟨g1 a (by simp[hA]),g5 a hA b (by simp),g5 a hA y (by simp),ga.2.1,by have:=ga.2.2; unfold low at this; simpa using this⟩)
 have hl:0<d3 p0 b m:=by have:=gb.2.2; unfold low at this; simpa using this
 have ht:=key.2 hl
 rw[List.reverse_append,List.reverse_singleton,List.append_assoc,hr,List.singleton_append,zio,kF]
 rw[zh6 (C.den a haS)]
 omega
theorem Conv.pop_top {F:List Corner} {x y:Corner} (hx:x∈S) (hxm:Bef th x m) (hy:y∈S) (hym:y=m \/ Bef th y m) (hF:(p0 :: (F ++ [x,y])).Pairwise (Bef th)) (hFS:∀ q∈F,q∈S/\Bef th q m/\low p0 m q=true) :
  popR y (x :: (F.reverse ++ [p0]))=(F ++ [x].filter (low p0 m)).reverse ++ [p0]:=by
 by_cases hl:low p0 m x=true
 ·have e:[x].filter (low p0 m)=[x]:=by simp[hl]
  rw[e]
  have:=C.pop_low (F:=F ++ [x]) h0 hm hpm hy hym (by simpa using hF) (fun q hq=>by
   rcases qD.1 hq with hq | hq
   ·exact hFS q hq
   obtain rfl:q=x:=by simpa using hq
   exact⟨hx,hxm,hl⟩)
  rw[List.reverse_append,List.reverse_singleton] at this
  simpa using this
 have e:[x].filter (low p0 m)=[]:=by simp[hl]
 rw[e,jaD]
 have g:=hF
 rw[List.pairwise_cons] at g
 obtain⟨g1,g2⟩:=g
 rw[List.pairwise_append] at g2
 obtain⟨g3,g4,g5⟩:=g2
 have gxy:Bef th x y:=(List.pairwise_cons.1 g4).1 y (by simp)
 obtain⟨a,r,hr,hA⟩:∃ a r,F.reverse ++ [p0]=a :: r/\(a=p0 \/ (a∈F)):=by
  rcases List.eq_nil_or_concat F with rfl | ⟨F2,a,rfl⟩
  ·exact⟨p0,[],rfl,.inl rfl⟩
  exact⟨a,F2.reverse ++ [p0],by simp,.inr (by simp)⟩
 have haS:a∈S:=by
  rcases hA with rfl | hA
  ·exact h0
  exact (hFS a hA).1
 have key:=C.turn_low (a:=a) (b:=x) (y:=y) h0 hm haS hx hy (g1 x (by simp)) gxy (g1 y (by simp)) hym hxm hpm (by
  rcases hA with rfl | hA
  ·exact .inl rfl
  have ga:=hFS a hA
  exact .inr ⟨g1 a (by simp[hA]),g5 a hA x (by simp),g5 a hA y (by simp),ga.2.1,by have:=ga.2.2; unfold low at this; simpa using this⟩)
 have hnl:¬ 0<d3 p0 x m:=fun h=>hl (by unfold low; simpa using h)
 have ht:¬ 0<d3 a x y:=fun h=>hnl (key.1 h)
 have hp:=C.pop_low (F:=F) h0 hm hpm hy hym (by
  refine List.Pairwise.sublist ?_ hF
  refine List.Sublist.cons_cons p0 (List.Sublist.append_left ?_ F)
  exact List.sublist_cons_self x [y]) hFS
 rw[hr] at hp ⊢
 rw[zio,kG,hp]
 rw[zh6 (C.den a haS)]
 omega
theorem Conv.chain {post:List Corner}:∀ {F:List Corner} {x:Corner},(p0 :: (F++x :: post)).Pairwise (Bef th)->(∀ q∈F,q∈S/\Bef th q m/\low p0 m q=true)->(∀ q∈x :: post,q∈S/\(q=m \/ Bef th q m)) ->
  post.foldl stepR (x :: (F.reverse ++ [p0]))=(x :: post).getLast (by simp) :: ((F++(x :: post).dropLast.filter (low p0 m)).reverse ++ [p0]):=by
 induction post with
 | nil=>intro F x h1 h2 h3; simp
 | cons y post ih=>
 intro F x h1 h2 h3
 have hx:=h3 x (by simp)
 have hy:=h3 y (by simp)
 have g:=h1
 rw[List.pairwise_cons] at g
 obtain⟨g1,g2⟩:=g
 rw[List.pairwise_append] at g2
 obtain⟨g3,g4,g5⟩:=g2
 have gxy:Bef th x y:=(List.pairwise_cons.1 g4).1 y (by simp)
 have hxm:Bef th x m:=by
  rcases hx.2 with e | e
  ·subst e
   rcases hy.2 with e | e
   ·subst e; exact gxy
   exfalso
   have:=gxy.1
   have:=e.2
   omega
  exact e
 rw[qX]
 show post.foldl stepR (y :: popR y (x :: (F.reverse ++ [p0])))=_
 rw[C.pop_top h0 hm hpm hx.1 hxm hy.1 hy.2 (by
  refine List.Pairwise.sublist ?_ h1
  refine List.Sublist.cons_cons p0 (List.Sublist.append_left ?_ F)
  exact List.Sublist.cons_cons x (List.Sublist.cons_cons y (List.nil_sublist _))) h2]
 rw[ih (F:=F ++ [x].filter (low p0 m)) (x:=y) ?_ ?_ ?_]
 ·simp only[List.getLast_cons_cons,List.dropLast_cons₂]
  by_cases hl:low p0 m x=true <;> simp[hl]
 ·refine List.Pairwise.sublist ?_ h1
  refine List.Sublist.cons_cons p0 ?_
  rw[List.append_assoc]
  refine List.Sublist.append_left ?_ F
  show ([x].filter _++y :: post).Sublist ([x]++y :: post)
  exact List.Sublist.append_right List.filter_sublist _
 ·intro q hq
  rcases qD.1 hq with hq | hq
  ·exact h2 q hq
  obtain⟨hq1,hq2⟩:=qC.1 hq
  obtain rfl:q=x:=by simpa using hq1
  exact⟨hx.1,hxm,hq2⟩
 exact fun q hq=>h3 q (by simp at hq ⊢; right; exact hq)
end
theorem Conv.half {th:Corner->Half} {p0 m:Corner} {mid:List Corner} (C:Conv th (p0 :: (mid ++ [m]))):halfL (p0 :: (mid ++ [m]))=p0 :: mid.filter (low p0 m):=by
 have hs:halfL (p0 :: (mid ++ [m]))=((p0 :: (mid ++ [m])).foldl stepR []).tail.reverse:=by unfold halfL chainR; rfl
 have hall:∀ q∈mid ++ [m],q∈p0 :: (mid ++ [m])/\(q=m \/ Bef th q m):=fun q hq=>by
  refine⟨kO _ hq,?_⟩
  rcases qD.1 hq with h | h
  ·refine .inr ?_
   have:=(List.pairwise_cons.1 C.ord).2
   exact (List.pairwise_append.1 this).2.2 q h m (by simp)
  exact .inl (by simpa using h)
 have hpm:Bef th p0 m:=(List.pairwise_cons.1 C.ord).1 m (by simp)
 have hs2:(p0 :: (mid ++ [m])).foldl stepR []=(mid ++ [m]).foldl stepR [p0]:=rfl
 obtain⟨x,post,hx⟩:∃ x post,mid ++ [m]=x :: post:=by
  cases mid with
  | nil=>exact⟨m,[],rfl⟩
  | cons x r=>exact⟨x,r ++ [m],rfl⟩
 have hs3:(mid ++ [m]).foldl stepR [p0]=post.foldl stepR (x :: (([]:List Corner).reverse ++ [p0])):=by rw[hx]; rfl
 have hc:=C.chain (p0:=p0) (m:=m) (by simp) (by simp) hpm (post:=post) (F:=[]) (x:=x) (by rw[List.nil_append,<- hx]; exact C.ord) (fun q hq=>by cases hq) (by rw[<- hx]; exact hall)
 rw[hs,hs2,hs3,hc]
 simp only[<- hx]
 simp
end Go.Pg
namespace Go.Pg
def negH (h:Half):Half:=⟨-h.A,-h.B,-h.C⟩
theorem zlw (h:Half) (p:Corner):ef (negH h) p = -ef h p:=by unfold ef negH; grind
theorem Conv.rev {th:Corner->Half} {S:List Corner} (C:Conv th S):Conv (fun q=>negH (th q)) S.reverse where
  out q hq:=by
    obtain⟨φ,f0,ff⟩:=C.out q (List.mem_reverse.1 hq)
    exact⟨φ,f0,fun p hp=>ff p (List.mem_reverse.1 hp)⟩
  th0 q hq:=by rw[zlw,C.th0 q (List.mem_reverse.1 hq)]; rfl
  ord:=by
    rw[List.pairwise_reverse]
    refine C.ord.imp fun {p q} h=>?_
    unfold Bef at *
    rw[zlw,zlw]
    omega
  non p hp q hq r hr:=C.non p (List.mem_reverse.1 hp) q (List.mem_reverse.1 hq) r (List.mem_reverse.1 hr)
  den q hq:=C.den q (List.mem_reverse.1 hq)
def roundT (p0 m:Corner) (mid:List Corner):List Corner:=mid.filter (low p0 m)++m :: mid.reverse.filter (low m p0)
theorem Conv.hull {th:Corner->Half} {p0 m:Corner} {mid:List Corner} (C:Conv th (p0 :: (mid ++ [m]))) (hmid:mid ≠ []):hullL (p0 :: (mid ++ [m]))=p0 :: roundT p0 m mid:=by
 have hr:(p0 :: (mid ++ [m])).reverse=m :: (mid.reverse ++ [p0]):=by simp
 have C':=C.rev
 rw[hr] at C'
 have hl:¬ (p0 :: (mid ++ [m])).length<3:=by
  have:=List.length_pos_iff.2 hmid
  simp; omega
 unfold hullL
 rw[kF hl,C.half,hr,C'.half]
 unfold roundT
 simp
theorem zps {p0 m q:Corner}:low m p0 q=true ↔ d3 p0 q m<0:=by
 unfold low
 have h1:=ze1 p0 m q
 have h2:=zdv p0 q m
 simp only[kA]
 omega
theorem Conv.nodup {th:Corner->Half} {S:List Corner} (C:Conv th S):S.Nodup:=
 List.Pairwise.imp_of_mem (fun {p q} hp hq h=>C.ne hp h) C.ord
theorem Conv.round_mem {th:Corner->Half} {p0 m:Corner} {mid:List Corner} (C:Conv th (p0 :: (mid ++ [m]))) (q:Corner):q∈roundT p0 m mid ↔ q∈mid ++ [m]:=by
 unfold roundT
 have hlow:low m p0 q=true ↔ d3 p0 q m<0:=zps
 rw[qD,kL,qD,qC,qC,List.mem_reverse,hlow]
 simp only[qV]
 constructor
 ·rintro (h | h | h)
  ·exact .inl h.1
  ·exact .inr h
  exact .inl h.1
 rintro (h | h)
 ·have hnd:=C.nodup
  have hn:d3 p0 q m≠0:=by
   refine C.non p0 (by simp) q (by simp[h]) m (by simp) ?_ ?_ ?_
   ·rintro rfl; exact (qE.1 hnd).1 (by simp[h])
   ·rintro rfl; exact (qE.1 hnd).1 (by simp)
   rintro rfl
   have:=(qE.1 hnd).2
   have:=(List.pairwise_append.1 this).2.2 q h q (by simp)
   exact this rfl
  rcases Int.lt_or_gt_of_ne hn with g | g
  ·exact .inr (.inr ⟨h,g⟩)
  exact .inl ⟨h,by unfold low; simpa using g⟩
 exact .inr (.inl h)
end Go.Pg
namespace Go.Pg
open Go.Proofs Go.RowKit Go.Sort
theorem zcb (p:Corner):¬ ltC p p:=by unfold ltC; omega
theorem zkW {p q:Corner} (h:ltC p q):¬ ltC q p:=by unfold ltC at *; omega
theorem zjp {p q:Corner} (h:ltC p q):leC p q:=by unfold ltC at h; unfold leC; omega
theorem zcI {p q:Corner} (hp:valid p=true) (hq:valid q=true) (h:leC p q) (hn:p≠q):ltC p q:=by
 refine Classical.not_not.1 fun h1=>hn (zbV hp hq h (zaX.1 h1))
theorem denV {p:Corner} (h:valid p=true):0<p.Den:=by have:=(zaH h).d; omega
theorem zpr {p q r:Corner} (hp:valid p=true) (hq:valid q=true) (hr:valid r=true) (h1:ltC p q) (h2:leC q r):ltC p r:=by
 refine Classical.not_not.1 fun h=>?_
 have:=zbU (denV hq) (denV hr) (denV hp) h2 (zaX.1 h)
 exact (zaX.2 this) h1
theorem zpt {p q r:Corner} (hp:valid p=true) (hq:valid q=true) (hr:valid r=true) (h1:leC p q) (h2:ltC q r):ltC p r:=by
 refine Classical.not_not.1 fun h=>?_
 have:=zbU (denV hr) (denV hp) (denV hq) (zaX.1 h) h1
 exact (zaX.2 this) h2
theorem zcB:∀ {l m:List Corner},l.Pairwise ltC->m.Pairwise ltC->(∀ q,q∈l ↔ q∈m)->l=m
 | [],[],_,_,_=>rfl
 | [],b :: m,_,_,h=>by have:=(h b).2 (by simp); cases this
 | a :: l,[],_,_,h=>by have:=(h a).1 (by simp); cases this
 | a :: l,b :: m,h1,h2,h=>by
  rw[List.pairwise_cons] at h1 h2
  have hab:a=b:=by
   rcases kL.1 ((h a).1 (by simp)) with e | e
   ·exact e
   rcases kL.1 ((h b).2 (by simp)) with g | g
   ·exact g.symm
   exact absurd (h1.1 b g) (zkW (h2.1 a e))
  subst hab
  congr 1
  refine zcB h1.2 h2.2 fun q=>?_
  constructor
  ·intro hq
   rcases kL.1 ((h q).1 (kO _ hq)) with e | e
   ·subst e; exact absurd (h1.1 q hq) (zcb q)
   exact e
  intro hq
  rcases kL.1 ((h q).2 (kO _ hq)) with e | e
  ·subst e; exact absurd (h2.1 q hq) (zcb q)
  exact e
theorem gdI {α:Type} {l:List α} {i:Nat} (h:i<l.length) (d:α):l.getD i d=l[i]:=by rw[hU,kH h]; rfl
theorem zgR {l:List Corner}:∀ i,i<l.length->l.getD i default∈compL l
 | 0,h=>by
  unfold compL compP
  exact kI.2 ⟨0,qC.2 ⟨kK.2 h,keep0 l (by omega)⟩,rfl⟩
 | i+1,h=>by
  by_cases hk:keepC l (i+1)=true
  ·unfold compL compP
   exact kI.2 ⟨i+1,qC.2 ⟨kK.2 h,hk⟩,rfl⟩
  rw[zcc] at hk
  have e:l.getD (i+1) default=l.getD i default:=by
   simpa using hk
  rw[e]
  exact zgR i (by omega)
theorem zlF {l:List Corner} (q:Corner):q∈compL l ↔ q∈l:=by
 refine⟨zeh,fun h=>?_⟩
 obtain⟨i,hi,rfl⟩:=wG h
 rw[<- gdI hi default]
 exact zgR i hi
theorem zgP {l:List Corner} (hv:∀ q∈l,valid q=true) (h:l.Pairwise leC):(compL l).Pairwise ltC:=by
 have hle:∀ i j,i<j->j<l.length->leC (l.getD i default) (l.getD j default):=fun i j hij hj=>by
  rw[gdI (by omega) default,gdI hj default]
  exact ja5.1 h i j (by omega) hj hij
 have hlr:∀ i j,i<=j->j<l.length->leC (l.getD i default) (l.getD j default):=fun i j hij hj=>by
  rcases qT i j with h | h
  ·exact hle i j h hj
  obtain rfl:i=j:=by omega
  unfold leC; omega
 unfold compL compP
 rw[List.pairwise_map]
 refine List.Pairwise.imp_of_mem ?_ ((List.pairwise_lt_range (n:=l.length)).filter _)
 intro i j hi hj hij
 obtain⟨hi1,_⟩:=qC.1 hi
 obtain⟨hj1,hj2⟩:=qC.1 hj
 have hj1:=kK.1 hj1
 have hne:l.getD (j - 1) default≠l.getD j default:=by
  rw[zcc] at hj2
  have h0:j≠0:=by omega
  intro e
  rw[e] at hj2
  simp[h0] at hj2
 have v:∀ k,k<l.length->valid (l.getD k default)=true:=fun k hk=>hv _ (gd1 hk default)
 refine zpt (v i (by omega)) (v (j - 1) (by omega)) (v j hj1) (hlr i (j - 1) (by omega) (by omega)) ?_
 exact zcI (v (j - 1) (by omega)) (v j hj1) (hle (j - 1) j (by omega) hj1) hne
def insC (p:Corner):List Corner->List Corner
 | []=>[p]
 | q :: r=>if cmpC q p<0 then q :: insC p r else if q=p then q :: r else p :: q :: r
def insL (l:List Corner) (out:List Corner):List Corner:=l.foldl (fun out p=>insC p out) out
theorem zdt (p x:Corner):∀ out:List Corner,x∈insC p out ↔ x=p \/ x∈out
 | []=>by simp[insC]
 | q :: r=>by
  simp only[insC]
  split
  ·rw[kL,zdt p x r,kL]
   exact or_left_comm
  split
  ·rename_i h; subst h; simp
  simp
theorem zdZ {p:Corner} (hp:valid p=true):∀ {out:List Corner},(∀ q∈out,valid q=true)->out.Pairwise ltC->(insC p out).Pairwise ltC
 | [],_,_=>by simp[insC]
 | q :: r,hv,h=>by
  have hq:=hv q (by simp)
  have hr:=fun x hx=>hv x (kO _ hx)
  rw[List.pairwise_cons] at h
  simp only[insC]
  split
  ·rename_i h1
   rw[zhM hq hp] at h1
   rw[List.pairwise_cons]
   refine⟨fun x hx=>?_,zdZ hp hr h.2⟩
   rcases (zdt p x r).1 hx with rfl | hx
   ·exact h1
   exact h.1 x hx
  rename_i h1
  rw[zhM hq hp] at h1
  split
  ·rw[List.pairwise_cons]; exact h
  rename_i h2
  have h3:ltC p q:=zcI hp hq (zaX.1 h1) fun e=>h2 e.symm
  rw[List.pairwise_cons]
  refine⟨fun x hx=>?_,List.pairwise_cons.2 h⟩
  rcases kL.1 hx with rfl | hx
  ·exact h3
  exact zpr hp hq (hr x hx) h3 (zjp (h.1 x hx))
theorem zfH:∀ (l out:List Corner),(∀ q∈l,valid q=true)->(∀ q∈out,valid q=true)->out.Pairwise ltC->(insL l out).Pairwise ltC /\ ∀ x,x∈insL l out ↔ x∈l \/ x∈out
 | [],out,_,_,h=>⟨h,fun x=>by simp[insL]⟩
 | p :: l,out,hl,ho,h=>by
  have hp:=hl p (by simp)
  have ih:=zfH l (insC p out) (fun q hq=>hl q (kO _ hq)) (fun q hq=>by
   rcases (zdt p q out).1 hq with rfl | hq
   ·exact hp
   exact ho q hq) (zdZ hp ho h)
  refine⟨ih.1,fun x=>?_⟩
  have:=ih.2 x
  rw[zdt] at this
  show x∈insL l (insC p out) ↔ _
  rw[this,kL,or_assoc]
  exact or_left_comm
def ptL (l:List Half) (x:Num × Num):Option Corner:=if outsideL (allL l) (crossing x.1.h x.2.h) = -5 then some (crossing x.1.h x.2.h) else none
def ptsLh (l:List Half):List Corner:=(pairsL (allL l)).filterMap (ptL l)
@[irreducible] def crsL (l:List Half):List Corner:=insL (ptsLh l) []
theorem zij {l:List Half} (hl:∀ x∈l,okH x):(ptsV l (pairsL (allL l))).map (fun p:VC=>p.1)=ptsLh l:=by
 have hall:=zbN hl
 have key:∀ pre:List (Num × Num),(∀ x∈pre,x∈pairsL (allL l))->(ptsV l pre).map (fun p:VC=>p.1)=pre.filterMap (ptL l):=by
  intro pre
  unfold ptsV
  induction pre with
  | nil=>intro _; rfl
  | cons x r ih=>
  intro h
  obtain⟨m1,m2,m3⟩:=zbv (h x (by simp))
  have hv:=zau (hall _ m1) (hall _ m2) m3
  have ih:=ih fun y hy=>h y (kO _ hy)
  by_cases ho:outsideL (allL l) (crossing x.1.h x.2.h) = -5
  ·rw[List.filterMap_cons_some (b:=⟨crossing x.1.h x.2.h,hv⟩) (by unfold ptV; rw[dif_pos ⟨hv,ho⟩]),List.filterMap_cons_some (b:=crossing x.1.h x.2.h) (by unfold ptL; rw[kG ho]),kS,ih]
  rw[List.filterMap_cons_none (by unfold ptV; rw[dif_neg fun hh=>ho hh.2]),List.filterMap_cons_none (by unfold ptL; rw[kF ho]),ih]
 exact key _ fun x hx=>hx
theorem zeP {l:List Half} (hl:∀ x∈l,okH x):∀ q∈ptsLh l,valid q=true:=fun q hq=>by
 rw[<- zij hl] at hq
 obtain⟨p,_,rfl⟩:=kI.1 hq
 exact p.2
theorem zmD (l:List VC):(sortV l).Pairwise fun p q=>leC p.1 q.1:=by
 have h:=List.pairwise_mergeSort (le:=fun x y:VC=>!(ltOf cmpV) y x) (fun a b c h1 h2=>by
  rw[zb0] at *
  simp only[jY,qB] at *
  rw[zaX] at *
  exact zbU a.den b.den c.den h1 h2) (fun a b=>by
  rw[zb0,zb0]
  simp only[jX,jY,qB]
  rw[zaX,zaX]
  exact leC_total _ _) l
 refine h.imp fun {p q} h=>?_
 rw[zb0] at h
 simp only[jY,qB] at h
 exact zaX.1 h
theorem zgd (l:List VC) (p:VC):p∈sortV l ↔ p∈l:=List.mem_mergeSort
theorem zlD (vs:List VC):compL ((sortV vs).map fun p:VC=>p.1)=insL (vs.map fun p:VC=>p.1) []:=by
 have hv:∀ q∈vs.map (fun p:VC=>p.1),valid q=true:=fun q hq=>by
  obtain⟨p,_,rfl⟩:=kI.1 hq
  exact p.2
 have hi:=zfH (vs.map fun p:VC=>p.1) [] hv (fun q hq=>by cases hq) List.Pairwise.nil
 refine zcB (zgP (fun q hq=>by
  obtain⟨p,_,rfl⟩:=kI.1 hq
  exact p.2) (by rw[List.pairwise_map]; exact zmD vs)) hi.1 fun q=>?_
 rw[zlF,hi.2 q]
 simp only[kI,qQ,jaM]
 constructor
 ·rintro⟨p,hp,rfl⟩; exact⟨p,(zgd vs p).1 hp,rfl⟩
 rintro⟨p,hp,rfl⟩; exact⟨p,(zgd vs p).2 hp,rfl⟩
theorem zhK {l:List Half} (hl:∀ x∈l,okH x):cornersL l=hullL (crsL l):=by
 unfold cornersL sortedL crsL
 rw[zlD,zij hl]
theorem zee {l:List Half} (hl:∀ x∈l,okH x):(crsL l).Pairwise ltC:=by
 unfold crsL
 exact (zfH (ptsLh l) [] (zeP hl) (fun q hq=>by cases hq) List.Pairwise.nil).1
theorem znF {l:List Half} (hl:∀ x∈l,okH x) (q:Corner):q∈crsL l ↔ q∈ptsLh l:=by
 unfold crsL
 rw[(zfH (ptsLh l) [] (zeP hl) (fun q hq=>by cases hq) List.Pairwise.nil).2 q]
 simp
theorem zdc {x y d:Int} (hd:d≠0):∃ s:Int,s≠0/\(lowest x y d).X * s=x/\(lowest x y d).Y * s=y/\(lowest x y d).Den * s=d:=by
 have hg:0<gcdL [x,y,d]:=by rw[gcd3]; exact Nat.gcd_pos_of_pos_right _ (by omega)
 have e1:=gcd3 x y d
 generalize hG:gcdL [x,y,d]=G' at *
 have d1:G' ∣ x.natAbs:=by rw[e1]; exact Nat.dvd_trans (Nat.gcd_dvd_left _ _) (Nat.gcd_dvd_left _ _)
 have d2:G' ∣ y.natAbs:=by rw[e1]; exact Nat.dvd_trans (Nat.gcd_dvd_left _ _) (Nat.gcd_dvd_right _ _)
 have d3:G' ∣ d.natAbs:=by rw[e1]; exact Nat.gcd_dvd_right _ _
 obtain⟨s,hs,hsa⟩:∃ s:Int,s=(if d<0 then -(G':Int) else (G':Int))/\s.natAbs=G':=⟨_,rfl,by split <;> omega⟩
 have hl:lowest x y d=⟨x.tdiv s,y.tdiv s,d.tdiv s⟩:=by
  unfold lowest
  rw[hs,hG]
 have dv:∀ a:Int,G' ∣ a.natAbs->s ∣ a:=fun a h=>by
  rw[<- Int.natAbs_dvd_natAbs,hsa]; exact h
 refine⟨s,by omega,?_,?_,?_⟩
 ·rw[hl]; exact Int.tdiv_mul_cancel (dv x d1)
 ·rw[hl]; exact Int.tdiv_mul_cancel (dv y d2)
 rw[hl]; exact Int.tdiv_mul_cancel (dv d d3)
theorem zqy {g h:Half} {p:Corner} {s:Int} (h1:p.X * s=g.C * h.B - h.C * g.B) (h2:p.Y * s=g.A * h.C - h.A * g.C) (h3:p.Den * s=g.A * h.B - h.A * g.B):ef g p * s=0/\ef h p * s=0:=by
 unfold ef
 constructor <;> grind
theorem zav {g h:Half} (hd:det g h≠0):ef g (crossing g h)=0/\ef h (crossing g h)=0:=by
 obtain⟨s,hs,h1,h2,h3⟩:=zdc (x:=g.C * h.B - h.C * g.B) (y:=g.A * h.C - h.A * g.C) hd
 have hc:crossing g h=lowest (g.C * h.B - h.C * g.B) (g.A * h.C - h.A * g.C) (det g h):=by unfold crossing; rfl
 rw[<- hc] at h1 h2 h3
 obtain⟨k1,k2⟩:=zqy h1 h2 (by rw[h3]; unfold det; rfl)
 constructor
 ·rcases Int.mul_eq_zero.1 k1 with h | h
  ·exact h
  exact absurd h hs
 rcases Int.mul_eq_zero.1 k2 with h | h
 ·exact h
 exact absurd h hs
theorem zbO {g h:Half} {p q:Corner} (hp:valid p=true) (hq:valid q=true) (hd:det g h≠0) (p1:ef g p=0) (p2:ef h p=0) (q1:ef g q=0) (q2:ef h q=0):p=q:=by
 have hdet:det g h=g.A * h.B - h.A * g.B:=by unfold det; rfl
 rw[hdet] at hd
 unfold ef at p1 p2 q1 q2
 have kx:(p.X * q.Den - q.X * p.Den) * (g.A * h.B - h.A * g.B)=0:=by grind
 have ky:(p.Y * q.Den - q.Y * p.Den) * (g.A * h.B - h.A * g.B)=0:=by grind
 have ex:p.X * q.Den=q.X * p.Den:=by
  rcases Int.mul_eq_zero.1 kx with h | h
  ·omega
  exact absurd h hd
 have ey:p.Y * q.Den=q.Y * p.Den:=by
  rcases Int.mul_eq_zero.1 ky with h | h
  ·omega
  exact absurd h hd
 exact zbV hp hq (by unfold leC; omega) (by unfold leC; omega)
theorem zcN (g h:Half):det h g = -det g h:=by unfold det; grind
theorem zfT {g h:Half} (hg:okH g) (hh:okH h) (hd:det g h≠0):crossing h g=crossing g h:=by
 have hd':det h g≠0:=by rw[zcN]; omega
 obtain⟨a1,a2⟩:=zav hd
 obtain⟨b1,b2⟩:=zav hd'
 exact zbO (zau hh hg hd') (zau hg hh hd) hd b2 b1 a1 a2
def hsL (l:List Half):List Half:=l++sidesL
theorem ze9 (l:List Half):(allL l).map (fun x=>x.h)=hsL l:=by
 unfold allL hsL
 rw[List.map_map]
 refine List.ext_getElem (by simp[sidesL]) fun i h1 h2=>?_
 simp only[List.getElem_map,List.getElem_range,Function.comp]
 unfold allAt
 by_cases hi:i<l.length
 ·rw[kG hi,List.getElem_append_left hi]
  exact gdI hi default
 rw[kF hi,List.getElem_append_right (by omega)]
 exact gdI (by simp[hsL,jR] at h2; omega) default
theorem znW (l:List Half):∀ x∈allL l,x.n ≠ -5:=fun x hx=>by
 unfold allL at hx
 obtain⟨i,hi,rfl⟩:=kI.1 hx
 have hi:=kK.1 hi
 unfold allAt
 split
 ·show (i:Int) ≠ -5; omega
 show -1 - ((i:Int) - l.length) ≠ -5; omega
def Fe (hs:List Half) (q:Corner):Prop:=∀ h∈hs,ef h q<=0
theorem zho (L:List Num) (hL:∀ x∈L,x.n ≠ -5) (q:Corner):outsideL L q = -5 ↔ Fe (L.map fun x=>x.h) q:=by
 induction L with
 | nil=>simp[outsideL,Fe]
 | cons x r ih=>
 have ih:=ih fun y hy=>hL y (kO _ hy)
 simp only[outsideL]
 by_cases h:lies x.h q=true
 ·rw[kG h,ih]
  unfold Fe
  simp only[kS,kL,forall_eq_or_imp]
  exact⟨fun hh=>⟨(zk2 _ _).1 h,hh⟩,fun hh=>hh.2⟩
 rw[kF h]
 refine⟨fun hh=>absurd hh (hL x (by simp)),fun hh=>?_⟩
 exact absurd ((zk2 _ _).2 (hh x.h (by simp))) h
theorem zaS (l:List Half) (q:Corner):outsideL (allL l) q = -5 ↔ Fe (hsL l) q:=by
 rw[zho (allL l) (znW l) q,ze9]
theorem zri {l:List Half} (hl:∀ x∈l,okH x):∀ x∈hsL l,okH x:=fun x hx=>by
 rw[<- ze9] at hx
 obtain⟨y,hy,rfl⟩:=kI.1 hx
 exact zbN hl y hy
structure Vt (hs:List Half) (q:Corner):Prop where
  fe:Fe hs q
  va:valid q=true
  ti:∃ g∈hs,∃ h∈hs,det g h≠0/\ef g q=0/\ef h q=0
theorem pairs_of {L:List Num} {x y:Num} (hx:x∈L) (hy:y∈L) (hd:det x.h y.h≠0):(x,y)∈pairsL L \/ (y,x)∈pairsL L:=by
 obtain⟨i,hi,rfl⟩:=wG hx
 obtain⟨j,hj,rfl⟩:=wG hy
 have e1:=gdI hi default
 have e2:=gdI hj default
 rcases jai i j with h | h | h
 ·left
  have:=zdP L hj h (by rw[e1,e2]; exact hd)
  rw[e1,e2] at this
  exact kN this
 ·subst h
  exact absurd (show det L[i].h L[i].h=0 by unfold det; grind) hd
 right
 have:=zdP L hi h (by rw[e1,e2,zcN]; omega)
 rw[e1,e2] at this
 exact kN this
theorem zmV {l:List Half} (hl:∀ x∈l,okH x) (q:Corner):q∈ptsLh l ↔ Vt (hsL l) q:=by
 have hall:=zbN hl
 unfold ptsLh
 rw[List.mem_filterMap]
 constructor
 ·rintro⟨x,hx,he⟩
  obtain⟨m1,m2,m3⟩:=zbv hx
  unfold ptL at he
  split at he
  ·rename_i ho
   cases he
   refine⟨(zaS l _).1 ho,zau (hall _ m1) (hall _ m2) m3,x.1.h,?_,x.2.h,?_,m3,zav m3⟩
   ·rw[<- ze9]; exact kI.2 ⟨_,m1,rfl⟩
   rw[<- ze9]; exact kI.2 ⟨_,m2,rfl⟩
  cases he
 rintro⟨h1,h2,g,hg,h,hh,hd,t1,t2⟩
 rw[<- ze9] at hg hh
 obtain⟨x,hx,rfl⟩:=kI.1 hg
 obtain⟨y,hy,rfl⟩:=kI.1 hh
 have hv:=zau (hall x hx) (hall y hy) hd
 obtain⟨c1,c2⟩:=zav hd
 have e:crossing x.h y.h=q:=zbO hv h2 hd c1 c2 t1 t2
 have ho:=(zaS l q).2 h1
 rcases pairs_of hx hy hd with hp | hp
 ·refine⟨_,hp,?_⟩
  unfold ptL
  dsimp only
  rw[e,kG ho]
 refine⟨_,hp,?_⟩
 unfold ptL
 dsimp only
 rw[zfT (hall x hx) (hall y hy) hd,e,kG ho]
theorem zlC {l:List Half} (hl:∀ x∈l,okH x) (q:Corner):q∈crsL l ↔ Vt (hsL l) q:=by
 rw[znF hl,zmV hl]
def M48:Int:=281474976710656
def thH (p:Corner):Half:=⟨M48 * p.Den,p.Den,M48 * p.X+p.Y⟩
theorem zh7 (p:Corner):ef (thH p) p=0:=by unfold ef thH; grind
theorem zn0 (p q:Corner):ef (thH q) p=M48 * (p.X * q.Den - q.X * p.Den)+(p.Y * q.Den - q.Y * p.Den):=by unfold ef thH; grind
theorem zoM {hs:List Half} (hsub:∀ h∈sidesL,h∈hs) {q:Corner} (h:Fe hs q):(0<=q.X/\q.X<=48 * q.Den)/\(0<=q.Y/\q.Y<=48 * q.Den):=by
 have h1:=h _ (hsub ⟨-1,0,0⟩ (by decide))
 have h2:=h _ (hsub ⟨1,0,48⟩ (by decide))
 have h3:=h _ (hsub ⟨0,-1,0⟩ (by decide))
 have h4:=h _ (hsub ⟨0,1,48⟩ (by decide))
 unfold ef at *
 simp only at *
 omega
theorem zj7 (l:List Half):∀ h∈sidesL,h∈hsL l:=fun h hh=>List.mem_append_right _ hh
structure InM (q:Corner):Prop where
  va:valid q=true
  x:0<=q.X/\q.X<=48 * q.Den
  y:0<=q.Y/\q.Y<=48 * q.Den
theorem th_lt {p q:Corner} (hp:InM p) (hq:InM q) (h:ltC p q):Bef thH p q:=by
 have dp:=(zaH hp.va).d
 have dq:=(zaH hq.va).d
 have py:=hp.y
 have qy:=hq.y
 have b1:=mulB (a:=p.Y) (b:=q.Den) (x:=100663296) (y:=2097152) (by omega) (by omega)
 have b2:=mulB (a:=q.Y) (b:=p.Den) (x:=100663296) (y:=2097152) (by omega) (by omega)
 have b3:=kZ (a:=p.Y) (b:=q.Den) (by omega) (by omega)
 have b4:=kZ (a:=q.Y) (b:=p.Den) (by omega) (by omega)
 unfold Bef
 rw[zn0,zn0]
 unfold ltC at h
 unfold M48
 rcases h with h | ⟨h,h'⟩
 ·constructor <;> omega
 rw[h]
 constructor <;> omega
theorem non3 {φ:Half} {p q r:Corner} (f0:ef φ q=0) (fp:ef φ p<0) (fr:ef φ r<0) (h1:Bef thH p q) (h2:Bef thH q r):d3 p q r≠0:=by
 intro h
 have e1:=plu φ p q r ⟨1,-M48,0⟩
 have e2:=plu (thH q) p q r ⟨1,-M48,0⟩
 rw[f0,h] at e1
 rw[zh7,h] at e2
 have e3:d3 p q ⟨1,-M48,0⟩=ef (thH q) p:=by unfold d3 ef thH; grind
 have b0:=h1.1
 have b1:=h2.2
 rw[e3] at e1 e2
 have k1:=Int.mul_neg_of_pos_of_neg b1 b0
 have k2:=Int.mul_pos_of_neg_of_neg fr b0
 have c1:=zka b0 (b:=d3 q r ⟨1,-M48,0⟩) (by omega)
 have c2:=zge fp (b:=d3 q r ⟨1,-M48,0⟩) (by omega)
 omega
def addH (g h:Half):Half:=⟨g.A+h.A,g.B+h.B,g.C+h.C⟩
theorem zop (g h:Half) (p:Corner):ef (addH g h) p=ef g p+ef h p:=by unfold ef addH; grind
theorem Vt.out {hs:List Half} {q:Corner} (hq:Vt hs q):∃ φ:Half,ef φ q=0 /\ ∀ p,Fe hs p->valid p=true->ef φ p<=0/\(p≠q->ef φ p<0):=by
 obtain⟨g,hg,h,hh,hd,t1,t2⟩:=hq.ti
 refine⟨addH g h,by rw[zop,t1,t2]; rfl,fun p hp hv=>?_⟩
 rw[zop]
 have a1:=hp g hg
 have a2:=hp h hh
 refine⟨by omega,fun hne=>?_⟩
 have:¬ (ef g p=0/\ef h p=0):=fun⟨e1,e2⟩=>hne (zbO hv hq.va hd e1 e2 t1 t2)
 omega
theorem zm1 {S:List Corner} (h:S.Pairwise ltC) (hv:∀ p∈S,valid p=true) (key:∀ p∈S,∀ q∈S,∀ r∈S,ltC p q->ltC q r->d3 p q r≠0) :
  ∀ p∈S,∀ q∈S,∀ r∈S,p≠q->p≠r->q≠r->d3 p q r≠0:=by
 intro p hp q hq r hr h1 h2 h3
 have tri:∀ a∈S,∀ b∈S,a≠b->ltC a b \/ ltC b a:=fun a ha b hb hab=>by
  rcases leC_total a b with g | g
  ·exact .inl (zcI (hv a ha) (hv b hb) g hab)
  exact .inr (zcI (hv b hb) (hv a ha) g hab.symm)
 have r1:=ze1 p q r
 have r2:=ze1 q r p
 have s1:=zlB p q r
 have s2:=zdv p q r
 have s3:=zlB q r p
 have r3:=ze1 r p q
 rcases tri p hp q hq h1 with a | a <;> rcases tri q hq r hr h3 with b | b <;> rcases tri p hp r hr h2 with c | c
 ·exact key p hp q hq r hr a b
 ·exact key p hp q hq r hr a b
 ·have:=key p hp r hr q hq c b; omega
 ·have:=key r hr p hp q hq c a; omega
 ·have:=key q hq p hp r hr a c; omega
 ·have:=key q hq r hr p hp b c; omega
 ·have k:=key r hr q hq p hp b a
  have s4:=zdv r q p
  have:=ze1 r p q
  omega
 have k:=key r hr q hq p hp b a
 have s4:=zdv r q p
 have:=ze1 r p q
 omega
theorem Vt.inM {l:List Half} {q:Corner} (h:Vt (hsL l) q):InM q:=by
 have:=zoM (zj7 l) h.fe
 exact⟨h.va,this.1,this.2⟩
theorem znE {l:List Half} (hl:∀ x∈l,okH x):Conv thH (crsL l):=by
 have hV:∀ q∈crsL l,Vt (hsL l) q:=fun q hq=>(zlC hl q).1 hq
 have hout:∀ q∈crsL l,∃ φ:Half,ef φ q=0 /\ ∀ p∈crsL l,p≠q->ef φ p<0:=fun q hq=>by
  obtain⟨φ,f0,ff⟩:=(hV q hq).out
  exact⟨φ,f0,fun p hp hne=>(ff p (hV p hp).fe (hV p hp).va).2 hne⟩
 have hlt:∀ p∈crsL l,∀ q∈crsL l,ltC p q->Bef thH p q:=fun p hp q hq h=>th_lt (hV p hp).inM (hV q hq).inM h
 refine⟨hout,fun q _=>zh7 q,?_,?_,fun q hq=>denV (hV q hq).va⟩
 ·exact List.Pairwise.imp_of_mem (fun {p q} hp hq h=>hlt p hp q hq h) (zee hl)
 refine zm1 (zee hl) (fun p hp=>(hV p hp).va) fun p hp q hq r hr h1 h2=>?_
 obtain⟨φ,f0,ff⟩:=hout q hq
 refine non3 f0 (ff p hp ?_) (ff r hr ?_) (hlt p hp q hq h1) (hlt q hq r hr h2)
 ·rintro rfl; exact zcb _ h1
 rintro rfl; exact zcb _ h2
@[irreducible] def allowsE (l:List Half) (p:Corner):Int × Bool:=if checkL l=0/\valid p=true then (outsideL (allL l) p,outsideL (allL l) p == -5) else (-5,false)
theorem zmI (l:List Half) (p:Corner):Spec PP 41 [slH l,p.v] [N (allowsE l p).1,B (allowsE l p).2]:=by
 refine sA Tryz.func41 ?_
 refine cP (zhc l) rfl rfl ?_
 apply bY <;> intro h1
 ·have h1:checkL l≠0:=by simpa using h1
  have e:allowsE l p=(-5,false):=by unfold allowsE; rw[kF fun h=>h1 h.1]
  rw[e]
  exact sT (sT (r2IB rfl rfl rfl rfl))
 have h1:checkL l=0:=by simpa using h1
 obtain⟨n1,n2,n3⟩:=zaJ h1
 refine cP (zkk p) rfl rfl ?_
 refine sF ?_
 apply bY <;> intro h2
 ·have h2:¬ valid p=true:=by simpa using h2
  have e:allowsE l p=(-5,false):=by unfold allowsE; rw[kF fun h=>h2 h.2]
  rw[e]
  exact r2IB rfl rfl rfl rfl
 have h2:valid p=true:=by simpa using h2
 have e:allowsE l p=(outsideL (allL l) p,outsideL (allL l) p == -5):=by unfold allowsE; rw[kG ⟨h1,h2⟩]
 have hlen:=zcm l
 refine oN 5 ?_
 refine oRo (zmH l (by omega)) rfl rfl ?_
 refine oP (zdH (allL l) p (zbN n3) (zaH h2) (by omega)) rfl rfl ?_
 rw[e]
 exact r2IB rfl rfl rfl rfl
def fx (F:Form) (h:Half):Int:=F.X * h.B - F.Y * h.A
theorem zal (g h:Half):det g h=g.A * h.B - h.A * g.B:=by unfold det; rfl
structure Df (F:Form) (g h:Half):Prop where
  d:0<det g h
  s:0<=fx F h
  t:fx F g<=0
def Cert3 (g h j:Half):Prop:=0<det h j/\0<det j g/\0<det g h/\det h j * g.C+det j g * h.C+det g h * j.C<0
def nrm (h:Half):Int:=max (max h.A (-h.A)) (max h.B (-h.B))
def Cert2 (g h:Half):Prop:=det g h=0/\g.A * h.A+g.B * h.B<0/\nrm h * g.C+nrm g * h.C<0
def Cert (hs:List Half):Prop:=(∃ g∈hs,∃ h∈hs,Cert2 g h) \/ ∃ g∈hs,∃ h∈hs,∃ j∈hs,Cert3 g h j
def num (F:Form) (g h:Half):Int:=fx F h * g.C - fx F g * h.C
theorem zeW {α : Type} (n d : α -> Int) : ∀ (l : List α), (∀ x ∈ l, 0 < d x) -> l ≠ [] -> ∃ x ∈ l, ∀ y ∈ l, n x * d y <= n y * d x
  | [x], _, _ => ⟨x, by simp, fun y hy => by obtain rfl : y = x := by simpa using hy
                                             exact Int.le_refl _⟩
  | x :: y :: r, hd, _ => by
    obtain ⟨z, hz, hm⟩ := zeW n d (y :: r) (fun u hu => hd u (kO _ hu)) (by simp)
    have dx := hd x (by simp)
    have dz := hd z (kO _ hz)
    rcases Int.le_total (n x * d z) (n z * d x) with h | h
    · refine ⟨x, by simp, fun u hu => ?_⟩
      have du := hd u hu
      rcases kL.1 hu with rfl | hu
      · exact Int.le_refl _
      exact zby dz dx du h (hm u hu)
    refine ⟨z, kO _ hz, fun u hu => ?_⟩
    rcases kL.1 hu with rfl | hu
    · exact h
    exact hm u hu
section
variable {F:Form} {g h j:Half}
def jay (g h j:Half):Int:=-(det h j * g.C+det j g * h.C+det g h * j.C)
theorem pivA (D:Df F g h) (hJ:0<jay g h j) (ha:0<det j h) (hs:0<fx F h) (ht:fx F j<=0):Df F j h/\num F j h * det g h<num F g h * det j h:=by
 refine⟨⟨ha,D.s,ht⟩,?_⟩
 have e:num F j h * det g h - num F g h * det j h = -(fx F h * jay g h j):=by
  unfold num jay fx
  simp only[zal]
  grind
 have:=qI hs hJ
 omega
theorem pivB (D:Df F g h) (hJ:0<jay g h j) (hb:0<det g j) (ht:fx F g<0) (hs:0<=fx F j):Df F g j/\num F g j * det g h<num F g h * det g j:=by
 refine⟨⟨hb,hs,D.t⟩,?_⟩
 have e:num F g j * det g h - num F g h * det g j=fx F g * jay g h j:=by
  unfold num jay fx
  simp only[zal]
  grind
 have:=Int.mul_neg_of_neg_of_pos ht hJ
 omega
theorem zeV (h:Half):0<=nrm h:=by unfold nrm; omega
theorem zgo {b d:Int} (hb:0<b) (hd:0<d) (hA:d * j.A = -(b * h.A)) (hB:d * j.B = -(b * h.B)):d * nrm j=b * nrm h:=by
 have m2:∀ (c x y:Int),0<c->c * max x y=max (c * x) (c * y):=fun c x y hc=>by
  rcases Int.le_total x y with h | h
  ·rw[Int.max_eq_right h,Int.max_eq_right (kR h (by omega))]
  rw[Int.max_eq_left h,Int.max_eq_left (kR h (by omega))]
 unfold nrm
 simp only[m2 d _ _ hd,m2 b _ _ hb,Int.mul_neg,hA,hB]
 omega
theorem ziW {d b:Int} (hd:0<d) (hb:0<b) (hA:d * j.A = -(b * h.A)) (hB:d * j.B = -(b * h.B)) (hh:h.A≠0 \/ h.B≠0) (hs:b * h.C+d * j.C<0):Cert2 h j:=by
 have hsq:0<h.A * h.A+h.B * h.B:=by
  rcases hh with e | e
  ·have h1:0<h.A * h.A:=by
    rcases Int.lt_or_gt_of_ne e with g | g
    ·exact Int.mul_pos_of_neg_of_neg g g
    exact qI g g
   have h2:0<=h.B * h.B:=by
    rcases Int.le_total 0 h.B with g | g
    ·exact kZ g g
    exact Int.mul_nonneg_of_nonpos_of_nonpos g g
   omega
  have h1:0<h.B * h.B:=by
   rcases Int.lt_or_gt_of_ne e with g | g
   ·exact Int.mul_pos_of_neg_of_neg g g
   exact qI g g
  have h2:0<=h.A * h.A:=by
   rcases Int.le_total 0 h.A with g | g
   ·exact kZ g g
   exact Int.mul_nonneg_of_nonpos_of_nonpos g g
  omega
 have hn:=zgo (h:=h) hb hd hA hB
 refine⟨?_,?_,?_⟩
 ·have:d * det h j=0:=by rw[zal]; grind
  rcases Int.mul_eq_zero.1 this with e | e
  ·omega
  exact e
 ·have e:d * (h.A * j.A+h.B * j.B) = -(b * (h.A * h.A+h.B * h.B)):=by grind
  have:=qI hb hsq
  exact zn3 hd (by omega)
 have hpos:0<nrm h:=by unfold nrm; omega
 have e:d * (nrm j * h.C+nrm h * j.C)=nrm h * (b * h.C+d * j.C):=by grind
 have:=Int.mul_neg_of_pos_of_neg hpos hs
 exact zn3 hd (by omega)
theorem pivot (D:Df F g h) (hJ:0<jay g h j) (hs:0<fx F h) (ht:fx F g<0) (hj:j.A≠0 \/ j.B≠0) (hg:g.A≠0 \/ g.B≠0) (hh:h.A≠0 \/ h.B≠0) :
  Cert3 g h j \/ Cert2 h j \/ Cert2 g j \/ (Df F j h/\num F j h * det g h<num F g h * det j h) \/ (Df F g j/\num F g j * det g h<num F g h * det g j):=by
 have hd:=D.d
 have ej:det g h * fx F j=det j h * fx F g+det g j * fx F h:=by unfold fx; simp only[zal]; grind
 have swA:det j h = -det h j:=zcN h j
 have swB:det g j = -det j g:=zcN j g
 have eA:det g h * j.A=det j h * g.A+det g j * h.A:=by simp only[zal]; grind
 have eB:det g h * j.B=det j h * g.B+det g j * h.B:=by simp only[zal]; grind
 unfold jay at hJ
 by_cases ha:0<det j h
 ·by_cases hq:fx F j<=0
  ·exact .inr (.inr (.inr (.inl (pivA D (by unfold jay; exact hJ) ha hs hq))))
  have h1:=qI hd (show 0<fx F j by omega)
  have h2:=Int.mul_neg_of_pos_of_neg ha ht
  have hb:0<det g j:=by
   have h3:0<fx F h * det g j:=by rw[jau]; omega
   exact zkd hs h3
  exact .inr (.inr (.inr (.inr (pivB D (by unfold jay; exact hJ) hb ht (by omega)))))
 by_cases hb:0<det g j
 ·have h2:0<=det j h * fx F g:=Int.mul_nonneg_of_nonpos_of_nonpos (by omega) (by omega)
  have h3:=qI hb hs
  have hq:0<fx F j:=zkd hd (by omega)
  exact .inr (.inr (.inr (.inr (pivB D (by unfold jay; exact hJ) hb ht (by omega)))))
 rcases Int.lt_or_eq_of_le (show det j h<=0 by omega) with ha' | ha' <;> rcases Int.lt_or_eq_of_le (show det g j<=0 by omega) with hb' | hb'
 ·exact .inl ⟨by omega,by omega,hd,by omega⟩
 ·-- j is opposite to g
  refine .inr (.inr (.inl (ziW (d:=det g h) (b:=-det j h) hd (by omega) ?_ ?_ hg ?_)))
  ·rw[eA,hb']; grind
  ·rw[eB,hb']; grind
  have:det j g=0:=by omega
  rw[this] at hJ
  rw[show -det j h=det h j by omega]
  omega
 ·refine .inr (.inl (ziW (d:=det g h) (b:=-det g j) hd (by omega) ?_ ?_ hh ?_))
  ·rw[eA,ha']; grind
  ·rw[eB,ha']; grind
  have:det h j=0:=by omega
  rw[this] at hJ
  rw[show -det g j=det j g by omega]
  omega
 exfalso
 rw[ha',hb'] at eA eB
 rcases hj with e | e
 ·have:det g h * j.A=0:=by rw[eA]; simp
  rcases Int.mul_eq_zero.1 this with h | h
  ·omega
  exact e h
 have:det g h * j.B=0:=by rw[eB]; simp
 rcases Int.mul_eq_zero.1 this with h | h
 ·omega
 exact e h
end
def dualB (F:Form) (x:Half × Half):Bool:=decide (0<det x.1 x.2) && decide (0<=fx F x.2) && decide (fx F x.1<=0)
theorem zgM {F:Form} {x:Half × Half}:dualB F x=true ↔ Df F x.1 x.2:=by
 unfold dualB
 simp only[jP,kA]
 exact⟨fun h=>⟨h.1.1,h.1.2,h.2⟩,fun h=>⟨⟨h.d,h.s⟩,h.t⟩⟩
theorem zlx (F:Form):∃ g∈sidesL,∃ h∈sidesL,Df F g h:=by
 rcases Int.le_total 0 F.X with hx | hx <;> rcases Int.le_total 0 F.Y with hy | hy
 ·exact⟨⟨1,0,48⟩,by decide,⟨0,1,48⟩,by decide,⟨by rw[zal]; decide,by simp only[fx]; omega,by simp only[fx]; omega⟩⟩
 ·exact⟨⟨0,-1,0⟩,by decide,⟨1,0,48⟩,by decide,⟨by rw[zal]; decide,by simp only[fx]; omega,by simp only[fx]; omega⟩⟩
 ·exact⟨⟨0,1,48⟩,by decide,⟨-1,0,0⟩,by decide,⟨by rw[zal]; decide,by simp only[fx]; omega,by simp only[fx]; omega⟩⟩
 exact⟨⟨-1,0,0⟩,by decide,⟨0,-1,0⟩,by decide,⟨by rw[zal]; decide,by simp only[fx]; omega,by simp only[fx]; omega⟩⟩
theorem lp_gen {hs:List Half} (hsub:∀ h∈sidesL,h∈hs) (nz:∀ h∈hs,h.A≠0 \/ h.B≠0) (F:Form) (gen:∀ h∈hs,fx F h≠0) :
  Cert hs \/ ∃ g∈hs,∃ h∈hs,Df F g h /\ ∀ j∈hs,jay g h j<=0:=by
 by_cases hc:Cert hs
 ·exact .inl hc
 refine .inr ?_
 have hmem:∀ g h,(g,h)∈(hs.flatMap fun g=>hs.map fun h=>(g,h)).filter (dualB F) ↔ (g∈hs/\h∈hs)/\Df F g h:=fun g h=>by
  rw[qC,zgM,List.mem_flatMap]
  simp only[kI,Prod.mk.injEq]
  constructor
  ·rintro⟨⟨a,ha,b,hb,rfl,rfl⟩,hD⟩
   exact⟨⟨ha,hb⟩,hD⟩
  rintro⟨⟨ha,hb⟩,hD⟩
  exact⟨⟨g,ha,h,hb,rfl,rfl⟩,hD⟩
 obtain⟨g0,hg0,h0,hh0,hD0⟩:=zlx F
 obtain⟨⟨g,h⟩,hx,hmin⟩:=zeW (fun x:Half × Half=>num F x.1 x.2) (fun x=>det x.1 x.2) ((hs.flatMap fun g=>hs.map fun h=>(g,h)).filter (dualB F))
  (fun x hx=>(zgM.1 (qC.1 hx).2).d) (List.ne_nil_of_mem ((hmem g0 h0).2 ⟨⟨hsub _ hg0,hsub _ hh0⟩,hD0⟩))
 obtain⟨⟨hg,hh⟩,hD⟩:=(hmem g h).1 hx
 refine⟨g,hg,h,hh,hD,fun j hj=>?_⟩
 refine Int.not_lt.1 fun hJ=>?_
 have g1:=gen h hh
 have g2:=gen g hg
 have s1:=hD.s
 have t1:=hD.t
 rcases pivot hD hJ (by omega) (by omega) (nz j hj) (nz g hg) (nz h hh) with c | c | c | ⟨c1,c2⟩ | ⟨c1,c2⟩
 ·exact hc (.inr ⟨g,hg,h,hh,j,hj,c⟩)
 ·exact hc (.inl ⟨h,hh,j,hj,c⟩)
 ·exact hc (.inl ⟨g,hg,j,hj,c⟩)
 ·have:=hmin (j,h) ((hmem j h).2 ⟨⟨hj,hh⟩,c1⟩)
  simp only at this
  omega
 have:=hmin (g,j) ((hmem g j).2 ⟨⟨hg,hj⟩,c1⟩)
 simp only at this
 omega
def nearF (f:Form):Form:=⟨10000000 * f.X - f.Y,10000000 * f.Y+f.X⟩
theorem zln (f:Form) (h:Half):fx (nearF f) h=10000000 * fx f h - (f.X * h.A+f.Y * h.B):=by unfold fx nearF; grind
structure okF4 (f:Form):Prop where
  x:-4000<=f.X/\f.X<=4000
  y:-4000<=f.Y/\f.Y<=4000
theorem okF.to4 {f:Form} (h:okF f):okF4 f:=⟨by have:=h.x; omega,by have:=h.y; omega⟩
theorem zhq {f:Form} (hf:okF4 f) {h:Half} (hh:okH h):-8000000<=f.X * h.A+f.Y * h.B/\f.X * h.A+f.Y * h.B<=8000000:=by
 have h1:=mulB hf.x hh.a
 have h2:=mulB hf.y hh.b
 omega
theorem zgb {a b:Int} (h:a≠0 \/ b≠0):0<a * a+b * b:=by
 have p:∀ x:Int,0<=x * x:=fun x=>by
  rcases Int.le_total 0 x with g | g
  ·exact kZ g g
  exact Int.mul_nonneg_of_nonpos_of_nonpos g g
 have q:∀ x:Int,x≠0->0<x * x:=fun x hx=>by
  rcases Int.lt_or_gt_of_ne hx with g | g
  ·exact Int.mul_pos_of_neg_of_neg g g
  exact qI g g
 have pa:=p a
 have pb:=p b
 rcases h with h | h
 ·have:=q a h; omega
 have:=q b h; omega
theorem zm4 {f:Form} (hf:okF4 f) (h0:f.X≠0 \/ f.Y≠0) {h:Half} (hh:okH h) (hn:h.A≠0 \/ h.B≠0):fx (nearF f) h≠0:=by
 rw[zln]
 have hb:=zhq hf hh
 by_cases hz:fx f h=0
 ·intro e
  have e1:f.X * h.A+f.Y * h.B=0:=by omega
  unfold fx at hz
  have hp:=zgb h0
  have k1:(f.X * f.X+f.Y * f.Y) * h.A=0:=by grind
  have k2:(f.X * f.X+f.Y * f.Y) * h.B=0:=by grind
  rcases Int.mul_eq_zero.1 k1 with g | g
  ·omega
  rcases Int.mul_eq_zero.1 k2 with g' | g'
  ·omega
  rcases hn with hn | hn
  ·exact hn g
  exact hn g'
 omega
theorem zpm {f:Form} (hf:okF4 f) {g h:Half} (hg:okH g) (hh:okH h) (D:Df (nearF f) g h):Df f g h:=by
 have h1:=D.s
 have h2:=D.t
 rw[zln] at h1 h2
 have b1:=zhq hf hh
 have b2:=zhq hf hg
 exact⟨D.d,by omega,by omega⟩
theorem zrd {g h j:Half} (hd:0<det g h) (hv:valid (crossing g h)=true) (hJ:jay g h j<=0):ef j (crossing g h)<=0:=by
 obtain⟨s,hs,h1,h2,h3⟩:=zdc (x:=g.C * h.B - h.C * g.B) (y:=g.A * h.C - h.A * g.C) (d:=det g h) (by omega)
 have hc:crossing g h=lowest (g.C * h.B - h.C * g.B) (g.A * h.C - h.A * g.C) (det g h):=by unfold crossing; rfl
 rw[<- hc] at h1 h2 h3
 have hD:=denV hv
 have hs':0<s:=zkd hD (by rw[h3]; exact hd)
 have e:s * ef j (crossing g h)=jay g h j:=by
  rw[zal] at h3
  unfold ef jay
  simp only[zal]
  grind
 refine Int.not_lt.1 fun hh=>?_
 have:=qI hs' hh
 omega
structure OkS (hs:List Half):Prop where
  sub:∀ h∈sidesL,h∈hs
  ok:∀ h∈hs,okH h
  nz:∀ h∈hs,h.A≠0 \/ h.B≠0
theorem lp {hs:List Half} (S:OkS hs) {f:Form} (hf:okF4 f):Cert hs \/ ∃ g∈hs,∃ h∈hs,Df f g h/\Vt hs (crossing g h):=by
 have main:∀ f:Form,okF4 f->(f.X≠0 \/ f.Y≠0)->Cert hs \/ ∃ g∈hs,∃ h∈hs,Df f g h/\Vt hs (crossing g h):=fun f hf h0=>by
  rcases lp_gen S.sub S.nz (nearF f) (fun h hh=>zm4 hf h0 (S.ok h hh) (S.nz h hh)) with c | ⟨g,hg,h,hh,D,hJ⟩
  ·exact .inl c
  have hd:=D.d
  have hv:=zau (S.ok g hg) (S.ok h hh) (by omega)
  obtain⟨c1,c2⟩:=zav (g:=g) (h:=h) (by omega)
  exact .inr ⟨g,hg,h,hh,zpm hf (S.ok g hg) (S.ok h hh) D,fun j hj=>zrd hd hv (hJ j hj),hv,g,hg,h,hh,by omega,c1,c2⟩
 by_cases h0:f.X≠0 \/ f.Y≠0
 ·exact main f hf h0
 rcases main ⟨1,0⟩ ⟨by decide,by decide⟩ (by decide) with c | ⟨g,hg,h,hh,D,hV⟩
 ·exact .inl c
 have e1:f.X=0:=by omega
 have e2:f.Y=0:=by omega
 exact .inr ⟨g,hg,h,hh,⟨D.d,by simp[fx,e1,e2],by simp[fx,e1,e2]⟩,hV⟩
theorem zjT {f:Form} {g h:Half} (D:Df f g h) {q:Corner} (h1:ef g q<=0) (h2:ef h q<=0):det g h * (f.X * q.X+f.Y * q.Y)<=num f g h * q.Den:=by
 have e:det g h * (f.X * q.X+f.Y * q.Y) - num f g h * q.Den=fx f h * ef g q - fx f g * ef h q:=by
  unfold num fx ef
  simp only[zal]
  grind
 have a1:=Int.mul_nonneg_of_nonpos_of_nonpos D.t h2
 have a2:fx f h * ef g q<=0:=Int.mul_nonpos_of_nonneg_of_nonpos D.s h1
 omega
theorem zfU {hs:List Half} (hc:Cert hs) {q:Corner} (hD:0<q.Den) (hq:Fe hs q):False:=by
 rcases hc with⟨g,hg,h,hh,c1,c2,c3⟩ | ⟨g,hg,h,hh,j,hj,c1,c2,c3,c4⟩
 ·have h1:=hq g hg
  have h2:=hq h hh
  rw[zal] at c1
  have hgz:g.A≠0 \/ g.B≠0:=by
   refine Classical.not_not.1 fun hn=>?_
   have e1:g.A=0:=by omega
   have e2:g.B=0:=by omega
   rw[e1,e2] at c2
   simp at c2
  have hp:=zgb hgz
  have kA:(g.A * g.A+g.B * g.B) * h.A = -(-(g.A * h.A+g.B * h.B) * g.A):=by grind
  have kB:(g.A * g.A+g.B * g.B) * h.B = -(-(g.A * h.A+g.B * h.B) * g.B):=by grind
  have hn:=zgo (h:=g) (j:=h) (b:=-(g.A * h.A+g.B * h.B)) (d:=g.A * g.A+g.B * g.B) (by omega) hp kA kB
  have zA:(g.A * g.A+g.B * g.B) * (nrm h * g.A+nrm g * h.A)=0:=by grind
  have zB:(g.A * g.A+g.B * g.B) * (nrm h * g.B+nrm g * h.B)=0:=by grind
  have yA:nrm h * g.A+nrm g * h.A=0:=by
   rcases Int.mul_eq_zero.1 zA with e | e
   ·omega
   exact e
  have yB:nrm h * g.B+nrm g * h.B=0:=by
   rcases Int.mul_eq_zero.1 zB with e | e
   ·omega
   exact e
  have a1:=Int.mul_nonpos_of_nonneg_of_nonpos (zeV h) h1
  have a2:=Int.mul_nonpos_of_nonneg_of_nonpos (zeV g) h2
  have e:nrm h * ef g q+nrm g * ef h q=(nrm h * g.A+nrm g * h.A) * q.X+(nrm h * g.B+nrm g * h.B) * q.Y - (nrm h * g.C+nrm g * h.C) * q.Den:=by unfold ef; grind
  rw[yA,yB] at e
  have:=Int.mul_neg_of_neg_of_pos c3 hD
  omega
 have a1:=Int.mul_nonpos_of_nonneg_of_nonpos (kQ c1) (hq g hg)
 have a2:=Int.mul_nonpos_of_nonneg_of_nonpos (kQ c2) (hq h hh)
 have a3:=Int.mul_nonpos_of_nonneg_of_nonpos (kQ c3) (hq j hj)
 have e:det h j * ef g q+det j g * ef h q+det g h * ef j q = -((det h j * g.C+det j g * h.C+det g h * j.C) * q.Den):=by
  unfold ef
  simp only[zal]
  grind
 have:=Int.mul_neg_of_neg_of_pos c4 hD
 omega
theorem zjs {S:List Corner} (h:3<=S.length):∃ p0 mid m,S=p0 :: (mid ++ [m])/\mid ≠ []:=by
 match S,h with
 | p0 :: r,h=>
  rcases List.eq_nil_or_concat r with rfl | ⟨mid,m,rfl⟩
  ·simp at h
  refine⟨p0,mid,m,by simp,?_⟩
  rintro rfl
  simp at h
theorem znk {th:Corner->Half} {S:List Corner} (C:Conv th S) (q:Corner):q∈hullL S ↔ q∈S:=by
 by_cases h:S.length<3
 ·have e:hullL S=S:=by unfold hullL; rw[kG h]
  rw[e]
 obtain⟨p0,mid,m,rfl,hm⟩:=zjs (Nat.le_of_not_lt h)
 rw[C.hull hm,kL,C.round_mem,kL]
theorem zc1 {l:List Half} (hl:∀ x∈l,okH x) (q:Corner):q∈cornersL l ↔ Vt (hsL l) q:=by
 rw[zhK hl,znk (znE hl),zlC hl]
theorem ziA {l:List Half} (h:checkL l=0):OkS (hsL l):=by
 obtain⟨n1,n2,n3⟩:=zaJ h
 refine⟨zj7 l,zri n3,fun x hx=>?_⟩
 rcases qD.1 hx with hx | hx
 ·have:=n2 x hx
  unfold fit at this
  simp only[jP,jX,bne_iff_ne,ne_eq] at this
  exact this.1.2
 have:∀ y∈sidesL,y.A≠0 \/ y.B≠0:=by decide
 exact this x hx
theorem zqo {hs:List Half} {q:Corner} (h:Vt hs q):0<q.Den:=denV h.va
theorem zhL {l:List Half} (hl:∀ x∈l,okH x):cornersL l=[] ↔ ¬ ∃ q,Vt (hsL l) q:=by
 constructor
 ·rintro h ⟨q,hq⟩
  have:=(zc1 hl q).2 hq
  rw[h] at this
  cases this
 intro h
 refine List.eq_nil_iff_forall_not_mem.2 fun q hq=>h ⟨q,(zc1 hl q).1 hq⟩
theorem zqn {hs:List Half} (S:OkS hs) {f:Form} (hf:okF4 f) {q:Corner} (hD:0<q.Den) (hq:Fe hs q):∃ p,Vt hs p/\(f.X * q.X+f.Y * q.Y) * p.Den<=(f.X * p.X+f.Y * p.Y) * q.Den /\
  ∀ r,0<r.Den->Fe hs r->(f.X * r.X+f.Y * r.Y) * p.Den<=(f.X * p.X+f.Y * p.Y) * r.Den:=by
 rcases lp S hf with c | ⟨g,hg,h,hh,D,hV⟩
 ·exact (zfU c hD hq).elim
 have key:∀ r,0<r.Den->Fe hs r->(f.X * r.X+f.Y * r.Y) * (crossing g h).Den<=(f.X * (crossing g h).X+f.Y * (crossing g h).Y) * r.Den:=fun r hr hrF=>by
  have hd:=D.d
  have w:=zjT D (hrF g hg) (hrF h hh)
  obtain⟨t1,t2⟩:=zav (g:=g) (h:=h) (by omega)
  have e:det g h * (f.X * (crossing g h).X+f.Y * (crossing g h).Y) - num f g h * (crossing g h).Den=fx f h * ef g (crossing g h) - fx f g * ef h (crossing g h):=by
   unfold num fx ef
   simp only[zal]
   grind
  rw[t1,t2] at e
  simp at e
  have hp:=zqo hV
  have w2:=jV w (kQ hp)
  have e2:num f g h * r.Den * (crossing g h).Den=det g h * ((f.X * (crossing g h).X+f.Y * (crossing g h).Y) * r.Den):=by grind
  have e3:det g h * (f.X * r.X+f.Y * r.Y) * (crossing g h).Den=det g h * ((f.X * r.X+f.Y * r.Y) * (crossing g h).Den):=by grind
  rw[e2,e3] at w2
  exact Int.le_of_mul_le_mul_left w2 hd
 exact⟨crossing g h,hV,key q hD hq,key⟩
theorem znz (g:Half):det g g=0:=by rw[zal]; grind
def Pt (l:List Half) (q:Corner):Prop:=0<q.Den/\Fe (hsL l) q
theorem zpZ {l:List Half} (h1:checkL l=0):Cert (hsL l) ↔ ∀ q,¬ Pt l q:=by
 constructor
 ·exact fun c q hq=>zfU c hq.1 hq.2
 intro h
 rcases lp (ziA h1) (f:=⟨0,0⟩) ⟨by decide,by decide⟩ with c | ⟨g,_,k,_,D,hV⟩
 ·exact c
 exact (h _ ⟨by have:=(zaH hV.va).d; omega,hV.fe⟩).elim
theorem zob {l:List Half} (h1:checkL l=0):cornersL l=[] ↔ ∀ q,¬ Pt l q:=by
 obtain⟨_,_,hl⟩:=zaJ h1
 rw[zhL hl,<- zpZ h1]
 constructor
 ·intro h
  rcases lp (ziA h1) (f:=⟨0,0⟩) ⟨by decide,by decide⟩ with c | ⟨g,_,k,_,D,hV⟩
  ·exact c
  exact (h ⟨_,hV⟩).elim
 rintro c ⟨q,hV⟩
 exact zfU c (by have:=(zaH hV.va).d; omega) hV.fe
theorem zlL {l m:List Half} (h:checkL l=0) (hm:∀ x∈m,x∈l) (hn:m.length<=40):checkL m=0:=by
 obtain⟨n1,n2,n3⟩:=zaJ h
 unfold checkL
 rw[kF (by omega),kG (jC.2 fun x hx=>n2 x (hm x hx))]
theorem zhf (l:List Int) (i j:Nat):(rmLh l i)[j]?=if j<i then l[j]? else l[j+1]?:=by
 have e:rmLh l i=l.eraseIdx i:=by unfold rmLh; rw[List.eraseIdx_eq_take_drop_succ]
 rw[e,List.getElem?_eraseIdx]
theorem zqM {l:List Int} {i:Nat} {x:Int}:x∈rmLh l i ↔ ∃ j,j≠i/\l[j]?=some x:=by
 rw[List.mem_iff_getElem?]
 constructor
 ·rintro⟨j,hj⟩
  rw[zhf] at hj
  split at hj
  ·exact⟨j,by omega,hj⟩
  exact⟨j+1,by omega,hj⟩
 rintro⟨j,hne,hj⟩
 rcases Nat.lt_or_gt_of_ne hne with h | h
 ·exact⟨j,by rw[zhf,kG h,hj]⟩
 exact⟨j - 1,by rw[zhf,kF (by omega),show j - 1+1=j by omega,hj]⟩
structure Js (l:List Half) (js:List Int):Prop where
  len:js.length<=40
  mem:∀ j∈js,0<=j/\j<l.length
theorem Js.ck {l:List Half} {js:List Int} (h:Js l js) (h1:checkL l=0):checkL (pickL l js)=0:=zlL h1 (zkD h.mem) (by rw[zkE]; exact h.len)
theorem Js.all {l:List Half} (h1:checkL l=0):Js l (upTo l.length):=⟨by rw[zmo]; exact (zaJ h1).1,fun j hj=>zmn hj⟩
theorem still (l:List Half) (js:List Int) {g:Half} (hg:g∈hsL (pickL l js)):∃ a,∀ m,m≠a->g∈hsL (pickL l (rmLh js m)):=by
 rcases qD.1 hg with h | h
 ·unfold pickL at h
  obtain⟨j,hj,rfl⟩:=kI.1 h
  obtain⟨a,ha⟩:=List.mem_iff_getElem?.1 hj
  refine⟨a,fun m hm=>ja1 _ ?_⟩
  unfold pickL
  exact kI.2 ⟨j,zqM.2 ⟨a,fun e=>hm e.symm,ha⟩,rfl⟩
 exact⟨0,fun m _=>List.mem_append_right _ h⟩
def plusH (a:Half) (t:Int) (h:Half):Half:=⟨a.A+t * h.A,a.B+t * h.B,a.C+t * h.C⟩
theorem zlv (a:Half) (t:Int) (h:Half) (q:Corner):ef (plusH a t h) q=ef a q+t * ef h q:=by unfold plusH ef; grind
def useH (l:List Half) (n:Int):Half:=if n<0 then sidesL.getD (-1 - n).toNat default else l.getD n.toNat default
def sumU (l:List Half) (Uh:List Use):Half:=Uh.foldl (fun a u=>plusH a u.T (useH l u.H)) ⟨0,0,0⟩
theorem zdx {l:List Half} {x:Num} (hx:x∈allL l):x.h=useH l x.n /\ -4<=x.n/\x.n<l.length:=by
 unfold allL at hx
 obtain⟨i,hi,rfl⟩:=kI.1 hx
 have hi:=kK.1 hi
 unfold allAt
 by_cases h:i<l.length
 ·rw[kG h]
  refine⟨?_,(by show -4<=(i:Int); omega),(by show (i:Int)<_; omega)⟩
  show l.getD i default=useH l (i:Int)
  unfold useH
  rw[kF (by omega),wH]
 rw[kF h]
 refine⟨?_,(by show -4 <= -1 - ((i:Int) - l.length); omega),(by show -1 - ((i:Int) - l.length)<_; omega)⟩
 show sidesL.getD (i - l.length) default=useH l (-1 - ((i:Int) - l.length))
 unfold useH
 rw[kG (by omega)]
 congr 1; omega
theorem zpP {g h:Half} (hg:okH g) (hh:okH h):-2000000<=det g h/\det g h<=2000000:=by
 have b1:=mulB hg.a hh.b
 have b2:=mulB hh.a hg.b
 rw[zal]; omega
theorem zpk {l:List Half} {x y:Num} (hx:x∈allL l) (hy:y∈allL l) (h:x.h≠y.h):x.n≠y.n:=fun e=>h (by rw[(zdx hx).1,(zdx hy).1,e])
theorem zgk {T:TT} {s:St} {a t i u:Nat} {ti:TI} {cs:List AV} {xs ys:List D} (h1:s.sl a = .box i 0) (h2:T t=some ti) (h3:s.ob i=some (.box cs)) (h4:Nat.beq cs.length ti.size=true) (h5:ti.agg=true) (h6:allD cs=some xs) {b c:Bool} (h7:s.sl u = .d (.bool b)) (he:eqvs xs ys) (e:b=c) :
  RetAll T s [.cell a t,.tmp u] [.agg ys,.d (.bool c)]:=⟨rtC (a:=a) h1 h2 h3 h4 h5 h6 he,rtB h7 e,trivial⟩
abbrev bxHs (h:Half):Ob:=.box [.d (I h.A),.d (I h.B),.d (I h.C)]
theorem obHs {s:St} {ob:Nat->Option Ob} {a b c:Int} {h:Half} {o:Option Ob} (g:o=some (.box [.d (I a),.d (I b),.d (I c)])) (e:(⟨a,b,c⟩:Half)=h):Oble s ob o (bxHs h):=by
 subst e; exact obD [I a,I b,I c] g
def useOk (n:Nat) (u:Use) (ks:List Int):Bool:=within u.H (-4) ((n:Int) - 1) && !ks.contains u.H && within u.T 1 2097152
@[irreducible] def keysTo (Uh:List Use) (i:Nat):List Int:=(Uh.take i).map fun u=>u.H
theorem zhv (Uh:List Use):keysTo Uh 0=[]:=by unfold keysTo; rfl
theorem zhw (Uh:List Use) {i:Nat} (h:i<Uh.length):keysTo Uh (i+1)=keysTo Uh i ++ [(Uh.getD i default).H]:=by
 unfold keysTo
 rw[za6 h default,jT]; rfl
@[irreducible] def okTo (n:Nat) (Uh:List Use) (i:Nat):Bool:=(List.range i).all fun j=>useOk n (Uh.getD j default) (keysTo Uh j)
theorem zdS (n:Nat) (Uh:List Use):okTo n Uh 0=true:=by unfold okTo; rfl
theorem zdT (n:Nat) (Uh:List Use) (i:Nat):okTo n Uh (i+1)=(okTo n Uh i && useOk n (Uh.getD i default) (keysTo Uh i)):=by
 unfold okTo
 rw[jad,List.all_append]; simp
theorem zpj {n:Nat} {Uh:List Use} {i m:Nat} (hi:i<m) (h:useOk n (Uh.getD i default) (keysTo Uh i)=false):okTo n Uh m=false:=by
 unfold okTo
 exact List.all_eq_false.2 ⟨i,kK.2 hi,by rw[h]; decide⟩
@[irreducible] def formedL (n:Nat) (Uh:List Use):Bool:=decide (Uh.length<=4) && okTo n Uh Uh.length
@[irreducible] def sumE (l:List Half) (Uh:List Use):Half × Bool:=if formedL l.length Uh=true then (sumU l Uh,true) else (⟨0,0,0⟩,false)
@[irreducible] def sumAt (l:List Half) (Uh:List Use) (i:Nat):Half:=sumU l (Uh.take i)
theorem zeC (l:List Half) (Uh:List Use):sumAt l Uh 0=⟨0,0,0⟩:=by unfold sumAt; rfl
theorem zeD (l:List Half) (Uh:List Use) {i:Nat} (h:i<Uh.length):sumAt l Uh (i+1)=plusH (sumAt l Uh i) (Uh.getD i default).T (useH l (Uh.getD i default).H):=by
 unfold sumAt sumU
 rw[za6 h default,jaS]; rfl
theorem zga (l:List Half) (Uh:List Use):sumAt l Uh Uh.length=sumU l Uh:=by unfold sumAt; rw[jZ]
structure SmallU (i:Nat) (h:Half):Prop where
  a:-(2097152000 * i:Int)<=h.A/\h.A<=2097152000 * i
  b:-(2097152000 * i:Int)<=h.B/\h.B<=2097152000 * i
  c:-(549755813888 * i:Int)<=h.C/\h.C<=549755813888 * i
theorem zim {t:Int} {h:Half} (ht:1<=t/\t<=2097152) (hh:okH h):(-2097152000<=t * h.A/\t * h.A<=2097152000)/\(-2097152000<=t * h.B/\t * h.B<=2097152000)/\(-549755813888<=t * h.C/\t * h.C<=549755813888):=by
 have q:-2097152<=t/\t<=2097152:=by omega
 exact⟨mulB q hh.a,mulB q hh.b,mulB q hh.c⟩
theorem SmallU.plus {i:Nat} {a h:Half} {t:Int} (s:SmallU i a) (ht:1<=t/\t<=2097152) (hh:okH h):SmallU (i+1) (plusH a t h):=by
 obtain⟨b1,b2,b3⟩:=zim ht hh
 have:=s.a; have:=s.b; have:=s.c
 exact⟨(by show _<=a.A+t * h.A/\a.A+t * h.A<=_; omega),(by show _<=a.B+t * h.B/\a.B+t * h.B<=_; omega),(by show _<=a.C+t * h.C/\a.C+t * h.C<=_; omega)⟩
theorem zmW {i:Nat} {a h:Half} {t:Int} (hi:i<=4) (s:SmallU i a) (ht:1<=t/\t<=2097152) (hh:okH h) :
  inR .i64 (t * h.A)/\inR .i64 (a.A+t * h.A)/\inR .i64 (t * h.B)/\inR .i64 (a.B+t * h.B)/\inR .i64 (t * h.C)/\inR .i64 (a.C+t * h.C):=by
 obtain⟨b1,b2,b3⟩:=zim ht hh
 have:=s.a; have:=s.b; have:=s.c
 exact⟨i6,i6,i6,i6,i6,i6⟩
theorem zdB {n:Nat} {u:Use} {ks:List Int} (h:useOk n u ks=true):(-4<=u.H/\u.H<n)/\ks.contains u.H=false/\1<=u.T/\u.T<=2097152:=by
 unfold useOk at h
 simp only[jP,zaa,jY] at h
 exact⟨⟨h.1.1.1,by omega⟩,h.1.2,h.2⟩
theorem zjY {l:List Half} (hl:∀ x∈l,okH x) {n:Int} (h:-4<=n/\n<l.length):okH (useH l n):=by
 unfold useH
 split
 ·rename_i hn
  have:sidesL.getD (-1 - n).toNat default∈sidesL:=gd1 (by show (-1 - n).toNat<4; omega) default
  have all:∀ x∈sidesL,okH x:=fun x hx=>by
   simp only[sidesL,kL,qQ,jaM] at hx
   rcases hx with rfl | rfl | rfl | rfl <;> exact⟨by decide,by decide,by decide⟩
  exact all _ this
 exact hl _ (gd1 (by omega) default)
theorem zdE {l:List Half} (hl:∀ x∈l,okH x) {Uh:List Use}:∀ i,i<=Uh.length->okTo l.length Uh i=true->SmallU i (sumAt l Uh i)
 | 0,_,_=>by rw[zeC]; exact⟨by decide,by decide,by decide⟩
 | i+1,hi,h=>by
  rw[zdT,jP] at h
  obtain⟨h1,h2⟩:=h
  obtain⟨p1,p2,p3⟩:=zdB h2
  rw[zeD l Uh (by omega)]
  exact (zdE hl i (by omega) h1).plus p3 (zjY hl p1)
theorem s_sum (l:List Half) (Uh:List Use) (hl:∀ x∈l,okH x) (hn:l.length<=60):Spec PP 102 [slH l,slU Uh] [(sumE l Uh).1.v,B (sumE l Uh).2]:=by
 refine sA Tryz.func102 ?_
 apply bY <;> intro h1
 ·have h1:4<Uh.length:=by have:=dT h1; omega
  have e:sumE l Uh=(⟨0,0,0⟩,false):=by unfold sumE formedL; rw[kF]; rw[jP,kM]; omega
  rw[e]
  exact zgk rfl rfl rfl rfl rfl rfl rfl (zab _) rfl
 have h1:Uh.length<=4:=by have:=dF h1; omega
 refine lOf (σ:=Nat) (fun i=>([(0,avOf (slH l)),(4,.box 4 0),(6,.box 6 0),(7,.own 15),(16,avOf (slU Uh)),(17,.d (I Uh.length)),(18,.d (I i))],[(4,bxHs ⟨0,0,0⟩),(6,bxHs (sumAt l Uh i)),(15,.mp 1 ((keysTo Uh i).map fun x=>[x]) fun _=>.bool true)])) (fun i=>i<=Uh.length/\okTo l.length Uh i=true) (fun i=>Uh.length - i) 0
  ⟨rfl,⟨obHs rfl rfl,obHs rfl (by rw[zeC]),obMp rfl (by rw[zhv]; exact⟨rfl,rfl,fun j hj=>absurd hj (wC _)⟩),trivial⟩,wq rfl⟩ ⟨jF _,zdS _ _⟩ fun i hi=>?_
 obtain⟨i1,i2⟩:=hi
 have sm:=zdE hl i i1 i2
 apply bY <;> intro g1
 ·have g1:i<Uh.length:=by have:=dT g1; omega
  have bad:useOk l.length (Uh.getD i default) (keysTo Uh i)=false->sumE l Uh=(⟨0,0,0⟩,false):=fun h=>by
   unfold sumE formedL; rw[kF]; rw[jP,zpj g1 h]; simp
  refine⟨⟨rfl,by omega,by omega⟩,?_⟩
  refine⟨i6,?_⟩
  refine cP (zbo (Uh.getD i default).H (-4) ((l.length:Int) - 1)) rfl rfl ?_
  apply bY <;> intro g2
  ·have g2:within (Uh.getD i default).H (-4) ((l.length:Int) - 1)=false:=by simpa using g2
   repeat first | apply sT | apply sF
   rw[bad (by unfold useOk; rw[g2]; rfl)]
   exact zgk rfl rfl rfl rfl rfl rfl rfl (zab _) rfl
  have g2:within (Uh.getD i default).H (-4) ((l.length:Int) - 1)=true:=by simpa using g2
  repeat first | apply sT | apply sF
  refine⟨⟨kInt,rfl⟩,.bool ((keysTo Uh i).contains (Uh.getD i default).H),D.eqv_of_eq (zod _ _),?_⟩
  repeat first | apply sT | apply sF
  apply bY <;> intro g3
  ·have g3:(keysTo Uh i).contains (Uh.getD i default).H=true:=g3
   repeat first | apply sT | apply sF
   rw[bad (by unfold useOk; rw[g2,g3]; rfl)]
   exact zgk rfl rfl rfl rfl rfl rfl rfl (zab _) rfl
  have g3:(keysTo Uh i).contains (Uh.getD i default).H=false:=g3
  refine cP (zbo (Uh.getD i default).T 1 2097152) rfl rfl ?_
  repeat first | apply sT | apply sF
  apply bY <;> intro g4
  ·have g4:within (Uh.getD i default).T 1 2097152=false:=by simpa using g4
   rw[bad (by unfold useOk; rw[g2,g3,g4]; rfl)]
   exact zgk rfl rfl rfl rfl rfl rfl rfl (zab _) rfl
  have g4:within (Uh.getD i default).T 1 2097152=true:=by simpa using g4
  have uok:useOk l.length (Uh.getD i default) (keysTo Uh i)=true:=by unfold useOk; rw[g2,g3,g4]; rfl
  have next:okTo l.length Uh (i+1)=true:=by rw[zdT,i2,uok]; rfl
  obtain⟨p1,p2,p3⟩:=zdB uok
  have hk:=zjY hl p1
  obtain⟨r1,r2,r3,r4,r5,r6⟩:=zmW (by omega) sm p3 hk
  have es:=zeD l Uh g1
  have ek:=zhw Uh g1
  refine⟨⟨kInt,rfl⟩,?_⟩
  refine cP zha rfl rfl ?_
  refine⟨⟨by decide,by decide⟩,?_⟩
  apply bY <;> intro g5
  ·have g5:(Uh.getD i default).H<0:=dT g5
   refine oN 6 ?_
   refine oP zha rfl rfl ?_
   refine⟨(show inR .i64 (-1 - (Uh.getD i default).H) from i6),?_⟩
   refine⟨⟨(show 0 <= -1 - (Uh.getD i default).H by omega),(show -1 - (Uh.getD i default).H<4 by omega)⟩,?_⟩
   have neg:useH l (Uh.getD i default).H=sidesL.getD (-1 - (Uh.getD i default).H).toNat default:=by unfold useH; rw[kG g5]
   have rr:=And.intro r1 (And.intro r2 (And.intro r3 (And.intro r4 (And.intro r5 r6))))
   rw[neg] at rr es
   by_cases c1:(Uh.getD i default).H = -1
   ·have cc:(Uh.getD (i:Int).toNat default).H = -1:=c1
    rw[c1] at rr es
    obtain⟨q1,q2,q3,q4,q5,q6⟩:=rr
    rw[cc]
    refine⟨q1,⟨q2,⟨q3,⟨q4,⟨q5,⟨q6,?_⟩⟩⟩⟩⟩⟩
    refine⟨i6,?_⟩
    refine⟨i+1,⟨rfl,⟨obHs rfl rfl,obHs rfl (by rw[es]; rfl),obMp rfl (by rw[ek,c1]; exact zcV (by rw[<- c1]; exact g3)),trivial⟩,wq rfl⟩,⟨g1,next⟩,(msr (by omega))⟩
   by_cases c2:(Uh.getD i default).H = -2
   ·have cc:(Uh.getD (i:Int).toNat default).H = -2:=c2
    rw[c2] at rr es
    obtain⟨q1,q2,q3,q4,q5,q6⟩:=rr
    rw[cc]
    refine⟨q1,⟨q2,⟨q3,⟨q4,⟨q5,⟨q6,?_⟩⟩⟩⟩⟩⟩
    refine⟨i6,?_⟩
    refine⟨i+1,⟨rfl,⟨obHs rfl rfl,obHs rfl (by rw[es]; rfl),obMp rfl (by rw[ek,c2]; exact zcV (by rw[<- c2]; exact g3)),trivial⟩,wq rfl⟩,⟨g1,next⟩,(msr (by omega))⟩
   by_cases c3:(Uh.getD i default).H = -3
   ·have cc:(Uh.getD (i:Int).toNat default).H = -3:=c3
    rw[c3] at rr es
    obtain⟨q1,q2,q3,q4,q5,q6⟩:=rr
    rw[cc]
    refine⟨q1,⟨q2,⟨q3,⟨q4,⟨q5,⟨q6,?_⟩⟩⟩⟩⟩⟩
    refine⟨i6,?_⟩
    refine⟨i+1,⟨rfl,⟨obHs rfl rfl,obHs rfl (by rw[es]; rfl),obMp rfl (by rw[ek,c3]; exact zcV (by rw[<- c3]; exact g3)),trivial⟩,wq rfl⟩,⟨g1,next⟩,(msr (by omega))⟩
   have c4:(Uh.getD i default).H = -4:=by omega
   have cc:(Uh.getD (i:Int).toNat default).H = -4:=c4
   rw[c4] at rr es
   obtain⟨q1,q2,q3,q4,q5,q6⟩:=rr
   rw[cc]
   refine⟨q1,⟨q2,⟨q3,⟨q4,⟨q5,⟨q6,?_⟩⟩⟩⟩⟩⟩
   refine⟨i6,?_⟩
   refine⟨i+1,⟨rfl,⟨obHs rfl rfl,obHs rfl (by rw[es]; rfl),obMp rfl (by rw[ek,c4]; exact zcV (by rw[<- c4]; exact g3)),trivial⟩,wq rfl⟩,⟨g1,next⟩,(msr (by omega))⟩
  have g5:¬ (Uh.getD i default).H<0:=dF g5
  have neg:useH l (Uh.getD i default).H=l.getD (Uh.getD i default).H.toNat default:=by unfold useH; rw[kF g5]
  rw[neg] at r1 r2 r3 r4 r5 r6
  refine⟨⟨rfl,(show (0:Int)<=(Uh.getD i default).H by omega),(show (Uh.getD i default).H<(l.length:Int) by omega)⟩,?_⟩
  refine⟨r1,⟨r2,⟨r3,⟨r4,⟨r5,⟨r6,?_⟩⟩⟩⟩⟩⟩
  refine⟨i6,?_⟩
  refine⟨i+1,⟨rfl,⟨obHs rfl rfl,obHs rfl (by rw[es]; unfold useH; rw[kF g5]; rfl),obMp rfl (by rw[ek]; exact zcV g3),trivial⟩,wq rfl⟩,⟨g1,next⟩,(msr (by omega))⟩
 have g1:i=Uh.length:=by have:=dF g1; omega
 subst g1
 have e:sumE l Uh=(sumU l Uh,true):=by unfold sumE formedL; rw[kG]; rw[jP,kM]; exact⟨h1,i2⟩
 rw[e,<- zga]
 exact zgk rfl rfl rfl rfl rfl rfl rfl (zab _) rfl
theorem zkK {n:Nat} {Uh:List Use} (h:∀ u∈Uh,(-4<=u.H/\u.H<n)/\1<=u.T/\u.T<=2097152) (hd:(Uh.map fun u=>u.H).Nodup):∀ i,i<=Uh.length->okTo n Uh i=true
 | 0,_=>zdS n Uh
 | i+1,hi=>by
  rw[zdT,zkK h hd i (by omega),qJ]
  have hm:=h _ (gd1 (show i<Uh.length by omega) default)
  unfold useOk
  simp only[jP,zaa,jY]
  refine⟨⟨⟨hm.1.1,by omega⟩,?_⟩,hm.2⟩
  rw[wI]
  intro hc
  have hc:(Uh.getD i default).H∈keysTo Uh i:=by simpa using hc
  unfold keysTo at hc
  rw[List.map_take] at hc
  obtain⟨j,hj,e⟩:=wG hc
  rw[jQ,qA] at hj
  rw[List.getElem_take,gdI (show i<Uh.length by omega)] at e
  have hp:=ja5.1 hd j i (by rw[qA]; omega) (by rw[qA]; omega) (by omega)
  exact hp (by rw[e]; simp)
end Go.Pg
