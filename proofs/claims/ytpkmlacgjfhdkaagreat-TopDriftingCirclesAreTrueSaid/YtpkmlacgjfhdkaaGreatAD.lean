/- Lemmas, joined by program. -/
import Derived.Test.YtpkmlacgjfhdkaaGreatAC
set_option maxHeartbeats 4000000
set_option linter.all false
namespace Go.Pg
open Go.Proofs Go.RowKit
theorem p4:(1073741824:Nat) ^ 4=1329227995784915872903807060280344576:=by decide
structure Bst (l:List Half) (f:Form) (b:Bound):Prop where
  sm:(sumE l b.Uses).2=true
  sc:within b.Scale 1 2097152=true
  fr:fraction b.V=true
  va:valid b.At=true
  A:(sumE l b.Uses).1.A=b.Scale * f.X
  B:(sumE l b.Uses).1.B=b.Scale * f.Y
  C:(sumE l b.Uses).1.C * b.V.Den=b.Scale * b.V.Num
  inn:outsideL (allL l) b.At = -5
  at_:value f b.At=b.V
theorem zp7 (l:List Half) (f:Form) (b:Bound):Bst l f b ↔ ((sumE l b.Uses).2=true/\within b.Scale 1 2097152=true/\fraction b.V=true/\valid b.At=true/\(sumE l b.Uses).1.A=b.Scale * f.X/\(sumE l b.Uses).1.B=b.Scale * f.Y/\(sumE l b.Uses).1.C * b.V.Den=b.Scale * b.V.Num/\outsideL (allL l) b.At = -5/\value f b.At=b.V):=
 ⟨fun h=>⟨h.sm,h.sc,h.fr,h.va,h.A,h.B,h.C,h.inn,h.at_⟩,fun⟨a,b,c,d,e,f,g,h,i⟩=>⟨a,b,c,d,e,f,g,h,i⟩⟩
noncomputable instance (l:List Half) (f:Form) (b:Bound):Decidable (Bst l f b):=decidable_of_iff' _ (zp7 l f b)
@[irreducible] noncomputable def cbE (l:List Half) (f:Form) (b:Bound):Int:=if checkL l=0 then if slope f.X f.Y=true then if Bst l f b then 0 else 8 else 1 else checkL l
theorem zqv {l:List Half} {Uh:List Use} (hl:∀ x∈l,okH x):(-8388608000<=(sumE l Uh).1.A/\(sumE l Uh).1.A<=8388608000)/\(-8388608000<=(sumE l Uh).1.B/\(sumE l Uh).1.B<=8388608000)/\(-2199023255552<=(sumE l Uh).1.C/\(sumE l Uh).1.C<=2199023255552):=by
 unfold sumE
 split
 ·rename_i h
  unfold formedL at h
  rw[jP,kM] at h
  have s:=zdE hl Uh.length (jE _) h.2
  rw[zga] at s
  have:=s.a; have:=s.b; have:=s.c
  have hl:=h.1
  show (-8388608000<=(sumU l Uh).A/\(sumU l Uh).A<=8388608000)/\(-8388608000<=(sumU l Uh).B/\(sumU l Uh).B<=8388608000)/\(-2199023255552<=(sumU l Uh).C/\(sumU l Uh).C<=2199023255552)
  omega
 exact⟨⟨by decide,by decide⟩,⟨by decide,by decide⟩,⟨by decide,by decide⟩⟩
theorem ziv {a b:Int}:ord a b=0 ↔ a=b:=by
 unfold ord
 constructor
 ·intro h
  split at h
  ·cases h
  split at h
  ·cases h
  omega
 rintro rfl; simp
theorem zhb (l:List Half) (f:Form) (b:Bound):Spec PP 45 [slH l,f.v,b.v] [N (cbE l f b)]:=by
 refine zg3 Tryz.func45 rfl (by kernel_rfl) rfl ?_
 refine cP (zhc l) rfl rfl ?_
 refine bY (fun h1=>?_) (fun h1=>?_)
 ·have h1:checkL l≠0:=by simpa using h1
  exact r1I rfl (by unfold cbE; rw[kF h1])
 have h1:checkL l=0:=by simpa using h1
 obtain⟨n1,n2,n3⟩:=zaJ h1
 refine cP (zg9 f.X f.Y) rfl rfl ?_
 refine bY (fun h2=>?_) (fun h2=>?_)
 ·have h2:slope f.X f.Y=false:=by simpa using h2
  exact r1I rfl (by unfold cbE; rw[kG h1,kF (by rw[h2]; decide)])
 have h2:slope f.X f.Y=true:=by simpa using h2
 have oF:=zeU h2
 have fx:=oF.x
 have fy:=oF.y
 have bad:¬ Bst l f b->cbE l f b=8:=fun h=>by unfold cbE; rw[kG h1,kG h2,kF h]
 obtain⟨sA,sB,sC⟩:=zqv (Uh:=b.Uses) n3
 refine cP (s_sum l b.Uses n3 (by omega)) rfl rfl ?_
 refine bY (fun g1=>?_) (fun g1=>?_)
 ·have g1:(sumE l b.Uses).2=false:=by simpa using g1
  refine sT ?_
  refine sT ?_
  refine sT ?_
  refine sT ?_
  refine sT ?_
  refine sT ?_
  exact r1I rfl (bad fun h=>by have:=h.sm; rw[g1] at this; cases this).symm
 have g1:(sumE l b.Uses).2=true:=by simpa using g1
 refine cP (zbo b.Scale 1 2097152) rfl rfl ?_
 refine sF ?_
 refine bY (fun g2=>?_) (fun g2=>?_)
 ·have g2:within b.Scale 1 2097152=false:=by simpa using g2
  refine sT ?_
  refine sT ?_
  refine sT ?_
  refine sT ?_
  exact r1I rfl (bad fun h=>by have:=h.sc; rw[g2] at this; cases this).symm
 have g2:within b.Scale 1 2097152=true:=by simpa using g2
 have sc:=zaa.1 g2
 refine cP (zbe b.V) rfl rfl ?_
 refine sF ?_
 refine bY (fun g3=>?_) (fun g3=>?_)
 ·have g3:fraction b.V=false:=by simpa using g3
  refine sT ?_
  refine sT ?_
  exact r1I rfl (bad fun h=>by have:=h.fr; rw[g3] at this; cases this).symm
 have g3:fraction b.V=true:=by simpa using g3
 obtain⟨vd,vn⟩:=zcu g3
 refine cP (zkk b.At) rfl rfl ?_
 refine sF ?_
 refine bY (fun g4=>?_) (fun g4=>?_)
 ·have g4:valid b.At=false:=by simpa using g4
  exact r1I rfl (bad fun h=>by have:=h.va; rw[g4] at this; cases this).symm
 have g4:valid b.At=true:=by simpa using g4
 have q:-2097152<=b.Scale/\b.Scale<=2097152:=by omega
 have m1:=mulB q fx
 have m2:=mulB q fy
 refine Exists.intro (List.range 35) (And.intro (by kernel_rfl) (fNo ?_))
 refine⟨i6,?_⟩
 refine bY (fun g5=>?_) (fun g5=>?_)
 case refine_2=>
  have g5:(sumE l b.Uses).1.A≠b.Scale * f.X:=by simpa using g5
  refine sF ?_
  refine sF ?_
  refine sF ?_
  refine Exists.intro (List.range 19) (And.intro (by kernel_rfl) (fNo ?_))
  refine sT ?_
  refine sT ?_
  refine sT ?_
  refine sT ?_
  refine sT ?_
  exact r1I rfl (bad fun h=>g5 h.A).symm
 have g5:(sumE l b.Uses).1.A=b.Scale * f.X:=by simpa using g5
 refine⟨i6,?_⟩
 refine sT ?_
 refine bY (fun g6=>?_) (fun g6=>?_)
 case refine_2=>
  have g6:(sumE l b.Uses).1.B≠b.Scale * f.Y:=by simpa using g6
  refine sF ?_
  refine Exists.intro (List.range 19) (And.intro (by kernel_rfl) (fNo ?_))
  refine sT ?_
  refine sT ?_
  refine sT ?_
  refine sT ?_
  refine sT ?_
  exact r1I rfl (bad fun h=>g6 h.B).symm
 have g6:(sumE l b.Uses).1.B=b.Scale * f.Y:=by simpa using g6
 refine oP (zfs (sumE l b.Uses).1.C b.V.Den (by omega) (by omega)) rfl rfl ?_
 refine oP (zfs b.Scale b.V.Num (by omega) (by omega)) rfl rfl ?_
 refine oP (zn4 ((sumE l b.Uses).1.C * b.V.Den) (b.Scale * b.V.Num)) rfl rfl ?_
 refine sT ?_
 refine Exists.intro (List.range 19) (And.intro (by kernel_rfl) (fNo ?_))
 refine bY (fun g7=>?_) (fun g7=>?_)
 ·have g7:ord ((sumE l b.Uses).1.C * b.V.Den) (b.Scale * b.V.Num)≠0:=by simpa using g7
  refine sT ?_
  refine sT ?_
  refine sT ?_
  refine sT ?_
  exact r1I rfl (bad fun h=>g7 (ziv.2 h.C)).symm
 have g7:(sumE l b.Uses).1.C * b.V.Den=b.Scale * b.V.Num:=by
  have:ord ((sumE l b.Uses).1.C * b.V.Den) (b.Scale * b.V.Num)=0:=by simpa using g7
  exact ziv.1 this
 have hlen:=zcm l
 refine oRo (zmH l (by omega)) rfl rfl ?_
 refine oP (zdH (allL l) b.At (zbN n3) (zaH g4) (by omega)) rfl rfl ?_
 refine sF ?_
 refine bY (fun g8=>?_) (fun g8=>?_)
 ·have g8:outsideL (allL l) b.At ≠ -5:=by simpa using g8
  refine sT ?_
  refine sT ?_
  exact r1I rfl (bad fun h=>g8 h.inn).symm
 have g8:outsideL (allL l) b.At = -5:=by simpa using g8
 refine oP (zfr f b.At oF (zaH g4)) rfl rfl ?_
 refine sF ?_
 refine bY (fun g9=>?_) (fun g9=>?_)
 ·have g9:value f b.At≠b.V:=fun e=>by
   have g9:(!((value f b.At).Num==b.V.Num && ((value f b.At).Den==b.V.Den && true)))=true:=g9
   rw[e] at g9; simp at g9
  exact r1I rfl (bad fun h=>g9 h.at_).symm
 have g9:value f b.At=b.V:=by
  have g9:(!((value f b.At).Num==b.V.Num && ((value f b.At).Den==b.V.Den && true)))=false:=g9
  simp only[kY,jP,qP,and_true] at g9
  cases hv:value f b.At; cases hb:b.V; rw[hv,hb] at g9; simp at g9; rw[g9.1,g9.2]
 exact r1I rfl (by unfold cbE; rw[kG h1,kG h2,kG ⟨g1,g2,g3,g4,g5,g6,g7,g8,g9⟩])
theorem zi1 {l:List Half} {f:Form} (h1:checkL l=0) (h0:cornersL l ≠ []) (hf:slope f.X f.Y=true):∃ b,bestE l f=(b,0)/\b.V=value f (bestAt f (cornersL l)):=by
 unfold bestE
 rw[kG h1,kG hf,kF h0]
 split
 ·exact⟨_,rfl,rfl⟩
 split
 ·exact⟨_,rfl,rfl⟩
 exact⟨_,rfl,rfl⟩
theorem zc5 {l:List Corner} (f:Form) (h0:l ≠ []):bestAt f l∈l:=by
 unfold bestAt
 exact zcl f l (List.length_pos_iff.2 h0) l.length (jE _)
theorem zcQ {l:List Half} {f:Form} (h1:checkL l=0) (hf:slope f.X f.Y=false):bestE l f=(noBound,1):=by
 unfold bestE
 rw[kG h1,kF (by rw[hf]; decide)]
def fv (f:Form) (p:Corner):Int:=f.X * p.X+f.Y * p.Y
theorem zbs {f:Form} {p:Corner} (hf:slope f.X f.Y=true) (hp:valid p=true):fraction (value f p)=true /\ ∃ g:Int,0<g/\fv f p=g * (value f p).Num/\p.Den=g * (value f p).Den:=by
 have oF:=zeU hf
 have oC:=zaH hp
 have b1:=mulB oF.x oC.x
 have b2:=mulB oF.y oC.y
 have d:=oC.d
 have e:value f p=⟨(fv f p).tdiv (Nat.gcd (fv f p).natAbs p.Den.natAbs),p.Den.tdiv (Nat.gcd (fv f p).natAbs p.Den.natAbs)⟩:=by
  unfold value fv
  simp only[gcdL,qX,List.foldl_nil,Nat.gcd_zero_left]
 have nb:-2199023255552<=fv f p/\fv f p<=2199023255552:=by unfold fv; omega
 have hg:0<Nat.gcd (fv f p).natAbs p.Den.natAbs:=Nat.gcd_pos_of_pos_right _ (by omega)
 rw[e]
 generalize fv f p=n at *
 generalize hG:Nat.gcd n.natAbs p.Den.natAbs=G at *
 obtain⟨a,ha⟩:(G:Int) ∣ n:=Int.ofNat_dvd_left.2 (by rw[<- hG]; exact Nat.gcd_dvd_left _ _)
 obtain⟨b,hb⟩:(G:Int) ∣ p.Den:=Int.ofNat_dvd_left.2 (by rw[<- hG]; exact Nat.gcd_dvd_right _ _)
 have gpos:(0:Int)<G:=by omega
 have e1:n.tdiv G=a:=by rw[ha]; exact Int.mul_tdiv_cancel_left _ (by omega)
 have e2:p.Den.tdiv G=b:=by rw[hb]; exact Int.mul_tdiv_cancel_left _ (by omega)
 have hbpos:0<b:=by
  have:0<(G:Int) * b:=by omega
  exact Int.pos_of_mul_pos_right this (by omega) |> fun h=>h
 have hle:b<=(G:Int) * b:=by
  have:=jV (show (1:Int)<=G by omega) (show 0<=b by omega)
  omega
 have hna:a.natAbs<=n.natAbs:=by
  rw[ha,Int.natAbs_mul,Int.natAbs_natCast]
  exact Nat.le_mul_of_pos_left _ hg
 have hone:Nat.gcd a.natAbs b.natAbs=1:=by
  have:G * Nat.gcd a.natAbs b.natAbs=G:=by
   rw[<- Nat.gcd_mul_left]
   have q1:G * a.natAbs=n.natAbs:=by rw[ha,Int.natAbs_mul,Int.natAbs_natCast]
   have q2:G * b.natAbs=p.Den.natAbs:=by rw[hb,Int.natAbs_mul,Int.natAbs_natCast]
   rw[q1,q2,hG]
  exact Nat.eq_of_mul_eq_mul_left hg (by omega)
 refine⟨?_,G,gpos,by rw[e1]; exact ha,by rw[e2]; exact hb⟩
 unfold fraction
 rw[e1,e2]
 simp only[jP,zaa,qP,gcdL,qX,List.foldl_nil,Nat.gcd_zero_left,hone]
 exact⟨⟨⟨by omega,by omega⟩,by omega,by omega⟩,rfl⟩
def vle (f:Form) (p q:Corner):Prop:=fv f p * q.Den<=fv f q * p.Den
theorem zh3 (f:Form) (p:Corner):vle f p p:=Int.le_refl _
theorem zdz {f:Form} {p q r:Corner} (hp:0<p.Den) (hq:0<q.Den) (hr:0<r.Den) (h1:vle f p q) (h2:vle f q r):vle f p r:=by
 unfold vle at *
 have a1:=jV h1 (kQ hr)
 have a2:=jV h2 (kQ hp)
 have e1:fv f q * p.Den * r.Den=fv f q * r.Den * p.Den:=by grind
 have e2:fv f p * q.Den * r.Den=q.Den * (fv f p * r.Den):=by grind
 have e3:fv f r * q.Den * p.Den=q.Den * (fv f r * p.Den):=by grind
 have:q.Den * (fv f p * r.Den)<=q.Den * (fv f r * p.Den):=by omega
 exact Int.le_of_mul_le_mul_left this hq
theorem ziG {f:Form} {p q:Corner} (hf:slope f.X f.Y=true) (hp:valid p=true) (hq:valid q=true):¬ less (value f p) (value f q)<0 ↔ vle f q p:=by
 obtain⟨f1,g1,p1,n1,d1⟩:=zbs hf hp
 obtain⟨f2,g2,p2,n2,d2⟩:=zbs hf hq
 unfold less
 rw[kG ⟨f1,f2⟩]
 unfold vle
 rw[n1,n2,d1,d2]
 have e1:g2 * (value f q).Num * (g1 * (value f p).Den)=g1 * g2 * ((value f q).Num * (value f p).Den):=by grind
 have e2:g1 * (value f p).Num * (g2 * (value f q).Den)=g1 * g2 * ((value f p).Num * (value f q).Den):=by grind
 rw[e1,e2]
 have gp:=qI p1 p2
 unfold ord
 constructor
 ·intro h
  refine kR ?_ (kQ gp)
  refine jL fun hh=>h ?_
  rw[kG (by omega)]; decide
 intro h
 have:=Int.le_of_mul_le_mul_left h gp
 rw[kF (by omega)]
 split <;> decide
theorem zbz {f:Form} {l:List Corner} (hf:slope f.X f.Y=true) (hl:∀ q∈l,valid q=true) (h0:0<l.length):∀ i,i<=l.length -> ∀ j,j<i \/ j=0->vle f (l.getD j default) (bestTo f l i)
 | 0,_,j,hj=>by
  obtain rfl:j=0:=by omega
  rw[zcx]; exact zh3 f _
 | i+1,hi,j,hj=>by
  have vi:=hl _ (gd1 (show i<l.length by omega) default)
  have vb:=hl _ (zcl f l h0 i (by omega))
  have den:=fun (q:Corner) (h:valid q=true)=>(zaH h).d
  have vj:valid (l.getD j default)=true:=hl _ (gd1 (by omega) default)
  rw[zbL f l (by omega)]
  unfold stepB
  by_cases hc:less (value f (bestTo f l i)) (value f (l.getD i default))<0
  ·rw[kG hc]
   have hle:vle f (bestTo f l i) (l.getD i default):=by
    unfold vle
    have:¬ vle f (l.getD i default) (bestTo f l i):=fun h=>((ziG hf vb vi).2 h) hc
    unfold vle at this
    omega
   rcases qT j i with h | h
   ·exact zdz (by have:=den _ vj; omega) (by have:=den _ vb; omega) (by have:=den _ vi; omega) (zbz hf hl h0 i (by omega) j (.inl h)) hle
   by_cases hj0:j=0
   ·exact zdz (by have:=den _ vj; omega) (by have:=den _ vb; omega) (by have:=den _ vi; omega) (zbz hf hl h0 i (by omega) j (.inr hj0)) hle
   obtain rfl:j=i:=by omega
   exact zh3 f _
  rw[kF hc]
  rcases qT j i with h | h
  ·exact zbz hf hl h0 i (by omega) j (.inl h)
  by_cases hj0:j=0
  ·exact zbz hf hl h0 i (by omega) j (.inr hj0)
  obtain rfl:j=i:=by omega
  exact (ziG hf vb vi).1 hc
theorem zjH {f:Form} {l:List Corner} (hf:slope f.X f.Y=true) (hl:∀ q∈l,valid q=true) {q:Corner} (hq:q∈l):vle f q (bestAt f l):=by
 obtain⟨j,hj,rfl⟩:=wG hq
 have:=zbz hf hl (by omega) l.length (jE _) j (.inl hj)
 unfold bestAt
 rwa [gdI hj] at this
theorem zi2 {l:List Half} {f:Form} (h1:checkL l=0) (hf:slope f.X f.Y=true) {q:Corner} (hq:Pt l q):vle f q (bestAt f (cornersL l)):=by
 obtain⟨_,_,n3⟩:=zaJ h1
 obtain⟨p,hV,_,hmax⟩:=zqn (ziA h1) (f:=f) (zeU hf).to4 hq.1 hq.2
 have hp:=(zc1 n3 p).2 hV
 have hb:=zc5 f (l:=cornersL l) (fun e=>by rw[e] at hp; cases hp)
 have vb:=((zc1 n3 _).1 hb).va
 have d1:=(zaH hV.va).d
 have d2:=(zaH vb).d
 refine zdz hq.1 (by omega) (by omega) (hmax q hq.1 hq.2) (zjH hf (zef n3) hp)
theorem zff (h:Half) (q:Corner):tight h q=true ↔ ef h q=0:=by
 unfold tight ef
 rw[qP]; omega
theorem zgF {n m:Int} (h:n≠0):flip (-n) (-m)=flip n m:=by unfold flip; split <;> split <;> omega
theorem zfM {n:Int} (h:n≠0):0<flip n n:=by unfold flip; split <;> omega
theorem zce (n a b:Int):flip n (a * b)=flip n a * b:=by
 unfold flip
 split
 ·rw[Int.neg_mul]
 rfl
theorem ziN (n a b:Int):flip n (a+b)=flip n a+flip n b:=by unfold flip; split <;> omega
theorem zhD {n m b:Int} (h:-b<=m/\m<=b):flip n m<=b:=by unfold flip; split <;> omega
def Cn (f:Form) (g h:Half):Prop:=0<=flip (det g h) (fx f h)/\0<=flip (det g h) (-fx f g)
theorem Cn.symm {f:Form} {g h:Half} (hd:det g h≠0) (c:Cn f g h):Cn f h g:=by
 unfold Cn at *
 have e:det h g = -det g h:=by rw[zcN]
 have e1:=zgF (n:=det g h) (m:=-fx f g) hd
 have e2:=zgF (n:=det g h) (m:=fx f h) hd
 rw[Int.neg_neg] at e1
 rw[e,e1,e2]
 exact⟨c.2,c.1⟩
theorem zf6 {f:Form} {a:Corner} {x:Num × Num} (h1:ef x.1.h a=0) (h2:ef x.2.h a=0) (c:Cn f x.1.h x.2.h):usesB f a x≠none:=by
 unfold usesB
 have e:f.Y * x.1.h.A - f.X * x.1.h.B = -fx f x.1.h:=by unfold fx; omega
 have c2:0<=flip (det x.1.h x.2.h) (f.Y * x.1.h.A - f.X * x.1.h.B):=by rw[e]; exact c.2
 rw[kG ⟨⟨(zff _ _).2 h1,(zff _ _).2 h2⟩,c.1,c2⟩]
 exact fun e=>by cases e
theorem zdQ {l:List Half} {f:Form} {a:Corner} {g h:Half} (hg:g∈hsL l) (hh:h∈hsL l) (hd:det g h≠0) (h1:ef g a=0) (h2:ef h a=0) (c:Cn f g h):∃ x∈pairsL (allL l),usesB f a x≠none:=by
 rw[<- ze9] at hg hh
 obtain⟨x,hx,rfl⟩:=kI.1 hg
 obtain⟨y,hy,rfl⟩:=kI.1 hh
 rcases pairs_of hx hy hd with hp | hp
 ·exact⟨_,hp,zf6 h1 h2 c⟩
 exact⟨_,hp,zf6 h2 h1 (c.symm hd)⟩
theorem zor {f:Form} {h j:Half} (hd:det h j≠0) (h0:fx f h=0) (hp:0<=f.X * h.A+f.Y * h.B):Cn f h j:=by
 have hz:h.A≠0 \/ h.B≠0:=by
  refine Classical.not_not.1 fun hn=>hd ?_
  have e1:h.A=0:=by omega
  have e2:h.B=0:=by omega
  rw[zal,e1,e2]; simp
 have sq:=zgb hz
 have e:(h.A * h.A+h.B * h.B) * fx f j=(f.X * h.A+f.Y * h.B) * det h j:=by
  unfold fx at h0 ⊢
  rw[zal]
  have h0':f.X * h.B=f.Y * h.A:=by omega
  grind
 unfold Cn
 rw[h0]
 refine⟨?_,by unfold flip; split <;> omega⟩
 unfold flip
 split
 ·rename_i hn
  have:(f.X * h.A+f.Y * h.B) * det h j<=0:=Int.mul_nonpos_of_nonneg_of_nonpos hp (by omega)
  rcases jaF 0 (fx f j) with g | g
  ·have:=qI sq g; omega
  omega
 have:0<=(f.X * h.A+f.Y * h.B) * det h j:=kZ hp (by omega)
 rcases jaF (fx f j) 0 with g | g
 ·have:=Int.mul_neg_of_pos_of_neg sq g; omega
 omega
theorem other_edge {h g1 g2:Half} (hz:h.A≠0 \/ h.B≠0) (hd:det g1 g2≠0):det h g1≠0 \/ det h g2≠0:=by
 refine Classical.not_not.1 fun hn=>hd ?_
 have e1:det h g1=0:=by omega
 have e2:det h g2=0:=by omega
 rw[zal] at e1 e2 ⊢
 rcases hz with hz | hz
 ·have:h.A * (g1.A * g2.B - g2.A * g1.B)=0:=by
   have q1:h.A * g1.B=g1.A * h.B:=by omega
   have q2:h.A * g2.B=g2.A * h.B:=by omega
   grind
  rcases Int.mul_eq_zero.1 this with e | e
  ·exact absurd e hz
  exact e
 have:h.B * (g1.A * g2.B - g2.A * g1.B)=0:=by
  have q1:h.A * g1.B=g1.A * h.B:=by omega
  have q2:h.A * g2.B=g2.A * h.B:=by omega
  grind
 rcases Int.mul_eq_zero.1 this with e | e
 ·exact absurd e hz
 exact e
theorem zit {l:List Half} {f:Form} {a:Corner} (V:Vt (hsL l) a) {h:Half} (hh:h∈hsL l) (hz:h.A≠0 \/ h.B≠0) (ht:ef h a=0) (h0:fx f h=0) (hp:0<=f.X * h.A+f.Y * h.B):∃ x∈pairsL (allL l),usesB f a x≠none:=by
 obtain⟨g1,m1,g2,m2,hd,t1,t2⟩:=V.ti
 rcases other_edge hz hd with e | e
 ·exact zdQ hh m1 e ht t1 (zor e h0 hp)
 exact zdQ hh m2 e ht t2 (zor e h0 hp)
theorem zjG {l:List Half} {f:Form} {a:Corner} (h1:checkL l=0) (hf:slope f.X f.Y=true) (h0:f≠⟨0,0⟩) (V:Vt (hsL l) a) (hmax:∀ q,Pt l q->vle f q a):∃ x∈pairsL (allL l),usesB f a x≠none:=by
 have S:=ziA h1
 have aD:0<a.Den:=by have:=(zaH V.va).d; omega
 rcases lp S (f:=f) (zeU hf).to4 with c | ⟨g,hg,h,hh,D,hV⟩
 ·exact (zfU c aD V.fe).elim
 have pD:0<(crossing g h).Den:=by have:=(zaH hV.va).d; omega
 have dp:=D.d
 obtain⟨t1,t2⟩:=zav (g:=g) (h:=h) (by omega)
 have slack:∀ q:Corner,det g h * fv f q - num f g h * q.Den=fx f h * ef g q - fx f g * ef h q:=fun q=>by
  unfold num fx ef fv
  simp only[zal]
  grind
 have sp:=slack (crossing g h)
 rw[t1,t2,Int.mul_zero,Int.mul_zero] at sp
 have sa:=slack a
 have hm:=hmax (crossing g h) ⟨pD,hV.fe⟩
 unfold vle at hm
 have k1:=kR hm (kQ dp)
 have e1:det g h * (fv f (crossing g h) * a.Den)=(num f g h * (crossing g h).Den) * a.Den:=by
  have:det g h * fv f (crossing g h)=num f g h * (crossing g h).Den:=by omega
  rw[<- Int.mul_assoc,this]
 have e2:num f g h * (crossing g h).Den * a.Den=(crossing g h).Den * (num f g h * a.Den):=by grind
 have e3:det g h * (fv f a * (crossing g h).Den)=(crossing g h).Den * (det g h * fv f a):=by grind
 have k2:num f g h * a.Den<=det g h * fv f a:=Int.le_of_mul_le_mul_left (by omega) pD
 have ga:=V.fe g hg
 have ha:=V.fe h hh
 have u1:fx f h * ef g a<=0:=Int.mul_nonpos_of_nonneg_of_nonpos D.s ga
 have u2:0<=fx f g * ef h a:=Int.mul_nonneg_of_nonpos_of_nonpos D.t ha
 have z1:fx f h * ef g a=0:=by omega
 have z2:fx f g * ef h a=0:=by omega
 have gz:=S.nz g hg
 have hz:=S.nz h hh
 by_cases c1:fx f h=0
 ·-- the form lies along h's normal
  have hp:0<=f.X * h.A+f.Y * h.B:=by
   have e:(h.A * h.A+h.B * h.B) * fx f g = -((f.X * h.A+f.Y * h.B) * det g h):=by
    unfold fx at c1 ⊢
    rw[zal]
    have c1':f.X * h.B=f.Y * h.A:=by omega
    grind
   have hs:=Int.mul_nonpos_of_nonneg_of_nonpos (kQ (zgb hz)) D.t
   rcases jaF (f.X * h.A+f.Y * h.B) 0 with q | q
   ·have:=Int.mul_neg_of_neg_of_pos q dp; omega
   exact q
  by_cases c2:fx f g=0
  ·exfalso
   apply h0
   have q1:det g h * f.X=0:=by
    have:det g h * f.X=fx f h * g.A - fx f g * h.A:=by unfold fx; rw[zal]; grind
    rw[this,c1,c2]; simp
   have q2:det g h * f.Y=0:=by
    have:det g h * f.Y=fx f h * g.B - fx f g * h.B:=by unfold fx; rw[zal]; grind
    rw[this,c1,c2]; simp
   have r1:f.X=0:=by rcases Int.mul_eq_zero.1 q1 with e | e <;> omega
   have r2:f.Y=0:=by rcases Int.mul_eq_zero.1 q2 with e | e <;> omega
   cases f; simp at r1 r2; rw[r1,r2]
  have th:ef h a=0:=by rcases Int.mul_eq_zero.1 z2 with e | e; exact absurd e c2; exact e
  exact zit V hh hz th c1 hp
 have tg:ef g a=0:=by rcases Int.mul_eq_zero.1 z1 with e | e; exact absurd e c1; exact e
 by_cases c2:fx f g=0
 ·have hp:0<=f.X * g.A+f.Y * g.B:=by
   have e:(g.A * g.A+g.B * g.B) * fx f h=(f.X * g.A+f.Y * g.B) * det g h:=by
    unfold fx at c2 ⊢
    rw[zal]
    have c2':f.X * g.B=f.Y * g.A:=by omega
    grind
   have hs:=kZ (kQ (zgb gz)) D.s
   rcases jaF (f.X * g.A+f.Y * g.B) 0 with q | q
   ·have:=Int.mul_neg_of_neg_of_pos q dp; omega
   exact q
  exact zit V hg gz tg c2 hp
 have th:ef h a=0:=by rcases Int.mul_eq_zero.1 z2 with e | e; exact absurd e c2; exact e
 refine zdQ hg hh (by omega) tg th ⟨?_,?_⟩
 ·unfold flip; rw[kF (by omega)]; exact D.s
 unfold flip; rw[kF (by omega)]; have:=D.t; omega
theorem zh5 (u v:Use):usedL [u,v]=(if u.T=0 then [] else [u])++(if v.T=0 then [] else [v]):=by
 have e:usedL [u,v]=filtP unused [u,v] 2:=by unfold usedL; rfl
 rw[e,zbf,zbf,ze0,List.nil_append]
 have e1:unused ([u,v].getD 0 default)=(u.T==0):=rfl
 have e2:unused ([u,v].getD 1 default)=(v.T==0):=rfl
 rw[e1,e2]
 simp only[qP]
 rfl
theorem zoJ (l:List Half) (u v:Use):sumU l (usedL [u,v])=⟨u.T * (useH l u.H).A+v.T * (useH l v.H).A,u.T * (useH l u.H).B+v.T * (useH l v.H).B,u.T * (useH l u.H).C+v.T * (useH l v.H).C⟩:=by
 rw[zh5]
 split
 ·rename_i h1
  split
  ·rename_i h2; simp[sumU,h1,h2]
  simp[sumU,plusH,h1]
 split
 ·rename_i h2; simp[sumU,plusH,h2]
 simp[sumU,plusH]
theorem znt {l:List Half} {f:Form} {a:Corner} (h1:checkL l=0) (hf:slope f.X f.Y=true) (V:Vt (hsL l) a) {x:Num × Num} (hx:x∈pairsL (allL l)) {d:Int} {u:List Use} (hu:usesB f a x=some (d,u)):Bst l f ⟨value f a,a,d,u⟩:=by
 obtain⟨_,_,n3⟩:=zaJ h1
 obtain⟨m1,m2,m3⟩:=zbv hx
 have a1:=zdx m1
 have a2:=zdx m2
 have o1:=zbN n3 _ m1
 have o2:=zbN n3 _ m2
 have oF:=zeU hf
 unfold usesB at hu
 split at hu
 case isFalse=>cases hu
 rename_i hc
 obtain⟨⟨t1,t2⟩,c1,c2⟩:=hc
 rw[zff] at t1 t2
 simp only[jO,Prod.mk.injEq] at hu
 obtain⟨rfl,rfl⟩:=hu
 generalize hs:flip (det x.1.h x.2.h) (f.X * x.2.h.B - f.Y * x.2.h.A)=s at *
 generalize ht:flip (det x.1.h x.2.h) (f.Y * x.1.h.A - f.X * x.1.h.B)=t at *
 have bs:s<=2000000:=by
  rw[<- hs]
  have b1:=mulB oF.x o2.b
  have b2:=mulB oF.y o2.a
  exact zhD (by omega)
 have bt:t<=2000000:=by
  rw[<- ht]
  have b1:=mulB oF.y o1.a
  have b2:=mulB oF.x o1.b
  exact zhD (by omega)
 have dp:=zfM m3
 have db:flip (det x.1.h x.2.h) (det x.1.h x.2.h)<=2000000:=zhD (zpP o1 o2)
 have hne:x.1.n≠x.2.n:=zpk m1 m2 fun e=>m3 (by rw[e,znz])
 have fm:formedL l.length (usedL [⟨x.1.n,s⟩,⟨x.2.n,t⟩])=true:=by
  unfold formedL
  rw[jP,kM,zh5]
  refine⟨?_,zkK (fun u hu=>?_) ?_ _ (jE _)⟩
  ·split <;> split <;> simp
  ·rcases qD.1 hu with hu | hu
   ·split at hu
    ·cases hu
    rename_i h0
    obtain rfl:=qV.1 hu
    exact⟨a1.2,(by show 1<=s; have:s≠0:=h0; omega),(by show s<=2097152; omega)⟩
   split at hu
   ·cases hu
   rename_i h0
   obtain rfl:=qV.1 hu
   exact⟨a2.2,(by show 1<=t; have:t≠0:=h0; omega),(by show t<=2097152; omega)⟩
  split <;> split <;> simp[hne]
 have es:sumE l (usedL [⟨x.1.n,s⟩,⟨x.2.n,t⟩])=(⟨s * x.1.h.A+t * x.2.h.A,s * x.1.h.B+t * x.2.h.B,s * x.1.h.C+t * x.2.h.C⟩,true):=by
  unfold sumE
  rw[kG fm,zoJ,<- a1.1,<- a2.1]
 have idA:s * x.1.h.A+t * x.2.h.A=flip (det x.1.h x.2.h) (det x.1.h x.2.h) * f.X:=by
  rw[<- hs,<- ht,<- zce,<- zce,<- ziN,<- zce]
  congr 1
  rw[zal]; grind
 have idB:s * x.1.h.B+t * x.2.h.B=flip (det x.1.h x.2.h) (det x.1.h x.2.h) * f.Y:=by
  rw[<- hs,<- ht,<- zce,<- zce,<- ziN,<- zce]
  congr 1
  rw[zal]; grind
 obtain⟨vf,g,gp,vn,vd⟩:=zbs hf V.va
 refine⟨by rw[es],?_,vf,V.va,by rw[es]; exact idA,by rw[es]; exact idB,?_,(zaS l a).2 V.fe,rfl⟩
 ·rw[zaa]
  show 1<=flip (det x.1.h x.2.h) (det x.1.h x.2.h)/\flip (det x.1.h x.2.h) (det x.1.h x.2.h)<=2097152
  omega
 rw[es]
 show (s * x.1.h.C+t * x.2.h.C) * (value f a).Den=flip (det x.1.h x.2.h) (det x.1.h x.2.h) * (value f a).Num
 generalize flip (det x.1.h x.2.h) (det x.1.h x.2.h)=d at *
 unfold ef at t1 t2
 unfold fv at vn
 have e1:(s * x.1.h.C+t * x.2.h.C) * a.Den=d * (f.X * a.X+f.Y * a.Y):=by
  have q1:x.1.h.C * a.Den=x.1.h.A * a.X+x.1.h.B * a.Y:=by omega
  have q2:x.2.h.C * a.Den=x.2.h.A * a.X+x.2.h.B * a.Y:=by omega
  grind
 rw[vn,vd] at e1
 have e2:g * ((s * x.1.h.C+t * x.2.h.C) * (value f a).Den)=g * (d * (value f a).Num):=by grind
 exact Int.eq_of_mul_eq_mul_left (by omega) e2
theorem zp8 {l:List Half} {f:Form} (e:(bestE l f).2=0):cbE l f (bestE l f).1=0:=by
 by_cases h1:checkL l=0
 case neg=>unfold bestE at e; rw[kF h1] at e; exact absurd e h1
 by_cases hf:slope f.X f.Y=true
 case neg=>rw[zcQ h1 (by simpa using hf)] at e; cases e
 by_cases h0:cornersL l=[]
 ·rw[show bestE l f=(noBound,9) by unfold bestE; rw[kG h1,kG hf,kG h0]] at e; cases e
 obtain⟨n1,n2,n3⟩:=zaJ h1
 have V:=(zc1 n3 _).1 (zc5 f h0)
 have B:Bst l f (bestE l f).1:=by
  unfold bestE
  rw[kG h1,kG hf,kF h0]
  by_cases hz:f=⟨0,0⟩
  ·rw[kG hz]
   obtain⟨vf,g,gp,vn,vd⟩:=zbs hf V.va
   have fm:formedL l.length []=true:=by
    unfold formedL
    rw[jP,kM]
    exact⟨by simp,zdS _ _⟩
   have es:sumE l []=(⟨0,0,0⟩,true):=by unfold sumE; rw[kG fm]; rfl
   refine⟨by rw[es],zaa.2 (show (1:Int)<=1/\(1:Int)<=2097152 by decide),vf,V.va,?_,?_,?_,(zaS l _).2 V.fe,rfl⟩
   ·rw[es,hz]; rfl
   ·rw[es,hz]; rfl
   rw[es]
   show 0 * _=1 * (value f (bestAt f (cornersL l))).Num
   have:fv f (bestAt f (cornersL l))=0:=by unfold fv; rw[hz]; simp
   rw[this] at vn
   rcases Int.mul_eq_zero.1 vn.symm with q | q
   ·omega
   rw[q]; simp
  rw[kF hz]
  obtain⟨x,hx,hn⟩:=zjG h1 hf hz V fun q hq=>zi2 h1 hf hq
  cases hfs:(pairsL (allL l)).findSome? (usesB f (bestAt f (cornersL l))) with
  | none=>
   exfalso
   have:=List.findSome?_eq_none_iff.1 hfs x hx
   exact hn this
  | some p=>
  obtain⟨d,u⟩:=p
  obtain⟨y,hy,hyu⟩:=List.exists_of_findSome?_eq_some hfs
  exact znt h1 hf V hy hyu
 unfold cbE
 rw[kG h1,kG hf,kG B]
theorem zif {w:World} {ok:Nat->Prop}:∀ {xs ys:List D} {vs:List Value},All2 (Rep w ok) xs vs->eqvs xs ys->All2 (Rep w ok) ys vs
 | [],[],_,h,_=>h
 | _ :: _,_ :: _,_,.cons h r,⟨e,es⟩=>.cons (Rep.eqv h e) (zif r es)
abbrev shI (k:Nat):Sh:=.sl k fun j=>shSl.getD' (List.replicate k (.int .i64)) j
theorem zqA {k j:Nat} (h:j<k):shSl.getD' (List.replicate k (.int .i64)) j = .int .i64:=by
 induction k generalizing j with
 | zero=>omega
 | succ k ih=>
 cases j with
 | zero=>rfl
 | succ j=>exact ih (j:=j) (by omega)
theorem fitI {α:Type} [Inhabited α] {k:Nat} {at_:α->Nat->D} {x:D} (mkα:(Nat->Int)->α) (hk:∀ g:Nat->Int,∀ j,j<k->at_ (mkα g) j=I (g j)) (h:Fits (shI k) x):∃ l:List α,D.eqv x (.slc k l.length fun i=>at_ (l.getD i default)):=by
 obtain⟨l,_,_,e⟩:=fitsL (at_:=at_) mkα (fun j hj=>zqA hj) hk h
 exact⟨l,e⟩
abbrev shSvc:List Sh:=[.int .i64,.int .i64,shI 1,shI 4,shI 3,shI 8,shI 7]
theorem rep_Svc {w:World} {ok:Nat->Prop} {xs:List D} {v:Value} (hr:Rep1 w ok (.agg xs) v) (h:All2 Fits shSvc xs):∃ s:Svc,Rep1 w ok s.v v:=by
 obtain⟨vs,e,hv⟩:=hr
 cases h with | cons h0 h=>
 cases h with | cons h1 h=>
 cases h with | cons h2 h=>
 cases h with | cons h3 h=>
 cases h with | cons h4 h=>
 cases h with | cons h5 h=>
 cases h with | cons h6 h=>
 cases h
 obtain⟨n0,-,rfl⟩:=h0
 obtain⟨n1,-,rfl⟩:=h1
 obtain⟨l2,e2⟩:=fitI (α:=Int) (at_:=fun a _=>I a) (fun g=>g 0) (fun g j hj=>by
  match j,hj with
  | 0,_=>rfl) h2
 obtain⟨l3,e3⟩:=fitI (α:=Twr) (at_:=Twr.at) (fun g=>⟨g 0,⟨g 1,g 2⟩,g 3⟩) (fun g j hj=>by
  match j,hj with
  | 0,_=>rfl
  | 1,_=>rfl
  | 2,_=>rfl
  | 3,_=>rfl) h3
 obtain⟨l4,e4⟩:=fitI (α:=Hz) (at_:=Hz.at) (fun g=>⟨g 0,g 1,g 2⟩) (fun g j hj=>by
  match j,hj with
  | 0,_=>rfl
  | 1,_=>rfl
  | 2,_=>rfl) h4
 obtain⟨l5,e5⟩:=fitI (α:=Cir) (at_:=Cir.at) (fun g=>⟨g 0,⟨g 1,g 2⟩,g 3,g 4,g 5,g 6,g 7⟩) (fun g j hj=>by
  match j,hj with
  | 0,_=>rfl
  | 1,_=>rfl
  | 2,_=>rfl
  | 3,_=>rfl
  | 4,_=>rfl
  | 5,_=>rfl
  | 6,_=>rfl
  | 7,_=>rfl) h5
 obtain⟨l6,e6⟩:=fitI (α:=Chk) (at_:=Chk.at) (fun g=>⟨g 0,g 1,g 2,⟨g 3,g 4⟩,g 5,g 6⟩) (fun g j hj=>by
  match j,hj with
  | 0,_=>rfl
  | 1,_=>rfl
  | 2,_=>rfl
  | 3,_=>rfl
  | 4,_=>rfl
  | 5,_=>rfl
  | 6,_=>rfl) h6
 exact⟨⟨⟨⟨n0,n1,l2⟩,l3,l4⟩,⟨l5,l6⟩⟩,vs,e,zif hv ⟨⟨rfl,rfl⟩,⟨rfl,rfl⟩,e2,e3,e4,e5,e6,trivial⟩⟩
theorem zqX {m:Mp} {y x:Nat} (hx:x<m.w):plc m (y * m.w+x)=⟨(x:Int),(y:Int)⟩:=by
 unfold plc
 have e1:(y * m.w+x) % m.w=x:=by rw[Nat.add_comm,Nat.add_mul_mod_self_right,jak hx]
 have e2:(y * m.w+x) / m.w=y:=by rw[Nat.add_comm,Nat.add_mul_div_right _ _ (by omega),Nat.div_eq_of_lt hx,k9]
 rw[e1,e2]
def co (p:Place):Corner:=⟨p.X,p.Y,1⟩
theorem zq6 {p:Place} (h:on p=true):ofP p=co p:=by unfold ofP co; rw[kG h]
def hO:Half:=⟨64,1,0⟩
def sepStep (l m:List Half) (p:Half × Half) (u:Use):Half × Half:=
 if (l.length:Int)<=u.H then (p.1,plusH p.2 u.T (m.getD (u.H - l.length).toNat default))
 else if 0<=u.H then (plusH p.1 u.T (l.getD u.H.toNat default),p.2) else p
structure SmallH (i:Nat) (h:Half):Prop where
  a:-(2000000000 * i:Int)<=h.A/\h.A<=2000000000 * i
  b:-(2000000000 * i:Int)<=h.B/\h.B<=2000000000 * i
  c:-(524288000000 * i:Int)<=h.C/\h.C<=524288000000 * i
theorem SmallH.up {i:Nat} {h:Half} (s:SmallH i h):SmallH (i+1) h:=⟨by have:=s.a; omega,by have:=s.b; omega,by have:=s.c; omega⟩
theorem zo7 {t:Int} {h:Half} (ht:0<t/\t<=2000000) (hh:okH h):(-2000000000<=t * h.A/\t * h.A<=2000000000)/\(-2000000000<=t * h.B/\t * h.B<=2000000000)/\(-524288000000<=t * h.C/\t * h.C<=524288000000):=by
 have q:-2000000<=t/\t<=2000000:=by omega
 exact⟨mulB q hh.a,mulB q hh.b,mulB q hh.c⟩
theorem SmallH.plus {i:Nat} {a h:Half} {t:Int} (s:SmallH i a) (ht:0<t/\t<=2000000) (hh:okH h):SmallH (i+1) (plusH a t h):=by
 obtain⟨b1,b2,b3⟩:=zo7 ht hh
 have:=s.a; have:=s.b; have:=s.c
 exact⟨(by show _<=a.A+t * h.A/\a.A+t * h.A<=_; omega),(by show _<=a.B+t * h.B/\a.B+t * h.B<=_; omega),(by show _<=a.C+t * h.C/\a.C+t * h.C<=_; omega)⟩
structure SepInv (l m:List Half) (i:Nat) (p:Half × Half) (s:Half):Prop where
  one:SmallH i p.1
  two:SmallH i p.2
  h1:∀ q,0<q.Den->Fe (hsL l) q->ef p.1 q<=0
  h2:∀ q,0<q.Den->Fe (hsL m) q->ef p.2 q<=0
  rest:max 0 (s.A - p.1.A - p.2.A) * 48+max 0 (s.B - p.1.B - p.2.B) * 48<=s.C - p.1.C - p.2.C
theorem sides_get {n:Int} (h1:-4<=n) (h2:n<0):(n = -1/\sidesL.getD (-1 - n).toNat default=⟨-1,0,0⟩) \/ (n = -2/\sidesL.getD (-1 - n).toNat default=⟨1,0,48⟩) \/ (n = -3/\sidesL.getD (-1 - n).toNat default=⟨0,-1,0⟩) \/ (n = -4/\sidesL.getD (-1 - n).toNat default=⟨0,1,48⟩):=by
 obtain rfl | rfl | rfl | rfl:n = -1 \/ n = -2 \/ n = -3 \/ n = -4:=by omega
 ·exact .inl ⟨rfl,rfl⟩
 ·exact .inr (.inl ⟨rfl,rfl⟩)
 ·exact .inr (.inr (.inl ⟨rfl,rfl⟩))
 exact .inr (.inr (.inr ⟨rfl,rfl⟩))
theorem zml (l m:List Half) {n:Int} (h1:0<=n) (h2:n<l.length):useH (l++m) n=l.getD n.toNat default:=by
 unfold useH
 rw[kF (by omega),hU,jJ (by omega),<- hU]
theorem zjX (l m:List Half) {n:Int} (h1:l.length<=n):useH (l++m) n=m.getD (n - l.length).toNat default:=by
 unfold useH
 rw[kF (by omega),hU,jK (by omega),<- hU]
 congr 1; omega
theorem SepInv.step {l m:List Half} (hl:∀ x∈l,okH x) (hm:∀ x∈m,okH x) {i:Nat} {p:Half × Half} {s:Half} (I:SepInv l m i p s) {u:Use} (hu:(-4<=u.H/\u.H<(l++m).length)/\0<u.T/\u.T<=2000000) :
  SepInv l m (i+1) (sepStep l m p u) (plusH s u.T (useH (l++m) u.H)):=by
 obtain⟨⟨u1,u2⟩,u3⟩:=hu
 rw[jR] at u2
 have r:=I.rest
 unfold sepStep
 by_cases c1:(l.length:Int)<=u.H
 ·rw[kG c1,zjX l m c1]
  have hmem:=gd1 (show (u.H - l.length).toNat<m.length by omega) (default:Half)
  generalize m.getD (u.H - l.length).toNat default=h at *
  refine⟨I.one.up,I.two.plus u3 (hm h hmem),I.h1,fun q hD hq=>?_,?_⟩
  ·have a1:=I.h2 q hD hq
   have a2:=Int.mul_nonpos_of_nonneg_of_nonpos (kQ u3.1) (hq h (ja1 _ hmem))
   rw[zlv]; omega
  show max 0 (s.A+u.T * h.A - p.1.A - (p.2.A+u.T * h.A)) * 48+max 0 (s.B+u.T * h.B - p.1.B - (p.2.B+u.T * h.B)) * 48<=s.C+u.T * h.C - p.1.C - (p.2.C+u.T * h.C)
  omega
 rw[kF c1]
 by_cases c2:0<=u.H
 ·rw[kG c2,zml l m c2 (by omega)]
  have hmem:=gd1 (show u.H.toNat<l.length by omega) (default:Half)
  generalize l.getD u.H.toNat default=h at *
  refine⟨I.one.plus u3 (hl h hmem),I.two.up,fun q hD hq=>?_,I.h2,?_⟩
  ·have a1:=I.h1 q hD hq
   have a2:=Int.mul_nonpos_of_nonneg_of_nonpos (kQ u3.1) (hq h (ja1 _ hmem))
   rw[zlv]; omega
  show max 0 (s.A+u.T * h.A - (p.1.A+u.T * h.A) - p.2.A) * 48+max 0 (s.B+u.T * h.B - (p.1.B+u.T * h.B) - p.2.B) * 48<=s.C+u.T * h.C - (p.1.C+u.T * h.C) - p.2.C
  omega
 rw[kF c2]
 have e:useH (l++m) u.H=sidesL.getD (-1 - u.H).toNat default:=by unfold useH; rw[kG (by omega)]
 rw[e]
 refine⟨I.one.up,I.two.up,I.h1,I.h2,?_⟩
 rcases sides_get u1 (by omega) with⟨_,h⟩ | ⟨_,h⟩ | ⟨_,h⟩ | ⟨_,h⟩ <;> rw[h] <;> simp only[plusH] <;> omega
theorem znm (s:Svc) (b:Brn) (l:List Rpt):(plcR s b l).2=givE s b l:=by
 unfold plcR
 split
 ·rfl
 rename_i h; exact (jL h).symm
structure Sn where
  w:Wdg
  a:Place
  deriving DecidableEq,Inhabited
def Sn.at (x:Sn):Nat->D
 | 0=>I x.w.F
 | 1=>I x.w.T
 | 2=>I x.a.X
 | _=>I x.a.Y
theorem zde {w:Wdg} {a:Place} (h:halvesB w a=true):validW w=true/\1<=openW w/\on a=true:=by
 unfold halvesB at h
 simp only[jP,kM] at h
 exact⟨h.1.1,h.1.2,h.2⟩
theorem zon {w:Wdg} {a:Place} (h:halvesB w a=true):fit (hvA w a)=true/\fit (hvB w a)=true:=by
 obtain⟨h1,h2,h3⟩:=zde h
 obtain⟨v1,v2,-,-⟩:=zb4 h1
 obtain⟨a1,a2⟩:=za9.1 h3
 obtain⟨u1,u2,u3⟩:=zh4 v1
 obtain⟨z1,z2,z3⟩:=zh4 v2
 unfold hvA hvB fit slope
 generalize vecP w.F=u at *
 generalize vecP w.T=z at *
 have m1:=mulB (b:=a.X) (y:=48) u2 (by omega)
 have m2:=mulB (b:=a.Y) (y:=48) u1 (by omega)
 have m3:=mulB (b:=a.Y) (y:=48) z1 (by omega)
 have m4:=mulB (b:=a.X) (y:=48) z2 (by omega)
 simp only[jP,jX,zaa,bne_iff_ne,ne_eq]
 omega
theorem zre {w:Wdg} {a p:Place} (hh:halvesB w a=true) (hp:on p=true):(ef (hvA w a) ⟨p.X,p.Y,1⟩<=0/\ef (hvB w a) ⟨p.X,p.Y,1⟩<=0) ↔ (decide (p=a) || liesW w a p)=true:=by
 obtain⟨h1,h2,h3⟩:=zde hh
 obtain⟨v1,v2,v3,v4⟩:=zb4 h1
 have e1:ef (hvA w a) ⟨p.X,p.Y,1⟩ = -((vecP w.F).X * (p.Y - a.Y) - (vecP w.F).Y * (p.X - a.X)):=by unfold ef hvA; grind
 have e2:ef (hvB w a) ⟨p.X,p.Y,1⟩=(vecP w.T).X * (p.Y - a.Y) - (vecP w.T).Y * (p.X - a.X):=by unfold ef hvB; grind
 rw[e1,e2,jX,kM]
 by_cases e:p=a
 ·subst e
  simp
 have ne:a≠p:=fun h=>e h.symm
 obtain⟨hs,hd⟩:=zen (zfy ne)
 have hb:=zbM h3 hp ne
 rw[v3] at h2 v4
 have w1:=zjS hs hd v1 v2 v4 h2
 have el:liesW w a p=true ↔ ((bearP (p.X - a.X) (p.Y - a.Y)).1 - w.F * (bearP (p.X - a.X) (p.Y - a.Y)).2) % (3600 * (bearP (p.X - a.X) (p.Y - a.Y)).2)<=(w.T - w.F) % 3600 * (bearP (p.X - a.X) (p.Y - a.Y)).2:=by
  unfold liesW
  rw[h1,h3,hp,jH ne,v3]
  unfold bear
  dsimp only
  simp only[Bool.and_self,Bool.not_false,qJ,kM]
  rw[Int.sub_emod,Int.emod_emod,<- Int.sub_emod]
 rw[el,<- w1]
 constructor
 ·intro h; exact .inr (by omega)
 rintro (h | h)
 ·exact absurd h e
 omega
theorem zo8 {S:List Half} (h1:checkL S=0) (h0:cornersL S=[]) {x y:Nat}:inP (allL S) x y=false:=by
 rw[wI]
 intro h
 unfold inP at h
 rw[qP,zaS] at h
 exact (zob h1).1 h0 _ ⟨by show (0:Int)<1; decide,h⟩
theorem zjF {S:List Half} {f:Form} (h1:checkL S=0) (hb:(bestE S f).2=0) {x y:Nat} (h:inP (allL S) x y=true):slope f.X f.Y=true/\((1<=(bestE S f).1.V.Den/\(bestE S f).1.V.Den<=2097152)) /\ ¬ (bestE S f).1.V.Num<(f.X * x+f.Y * y) * (bestE S f).1.V.Den:=by
 have hf:slope f.X f.Y=true:=by
  by_cases hf:slope f.X f.Y=true
  ·exact hf
  rw[zcQ h1 (by simpa using hf)] at hb; cases hb
 have h0:cornersL S ≠ []:=fun h0=>by rw[zo8 h1 h0] at h; cases h
 obtain⟨b,eb,ev⟩:=zi1 h1 h0 hf
 obtain⟨_,_,n3⟩:=zaJ h1
 unfold inP at h
 rw[qP,zaS] at h
 have hv:=zi2 h1 hf (q:=⟨x,y,1⟩) ⟨by show (0:Int)<1; decide,h⟩
 have hq:=((zc1 n3 _).1 (zc5 f h0)).va
 obtain⟨fr,g,hg,e1,e2⟩:=zbs hf hq
 rw[eb]
 dsimp only
 rw[ev]
 unfold fraction at fr
 simp only[jP,zaa] at fr
 refine⟨hf,fr.1.1,?_⟩
 unfold vle at hv
 rw[e1,e2] at hv
 unfold fv at hv
 dsimp only at hv
 generalize (value f (bestAt f (cornersL S))).Num=N at *
 generalize (value f (bestAt f (cornersL S))).Den=Q at *
 generalize f.X * (x:Int)+f.Y * (y:Int)=v at *
 intro hlt
 have:=Int.mul_lt_mul_of_pos_left hlt hg
 rw[show v * (g * Q)=g * (v * Q) by grind] at hv
 omega
theorem zoL {r:Place} (h:on r=true):∀ x∈sidesL,ef x (co r)<=0:=fun x hx=>by
 have b:=zq3 h
 unfold sidesL at hx
 simp only[kL,qQ,jaM] at hx
 rcases hx with rfl | rfl | rfl | rfl <;> (unfold ef co; simp; omega)
end Go.Pg
