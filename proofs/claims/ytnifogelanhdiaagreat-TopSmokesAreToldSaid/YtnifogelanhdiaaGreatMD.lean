/- Lemmas, joined by program. -/
import Derived.Test.YtnifogelanhdiaaGreatMC
set_option maxHeartbeats 4000000
set_option linter.all false
set_option maxRecDepth 100000
namespace Go.Pg
open Go.Proofs Go.RowKit
def sepStep (l m:List Half) (p:Half × Half) (u:Use):Half × Half:=
 if (l.length:Int)<=u.H then (p.1,plusH p.2 u.T (m.getD (u.H - l.length).toNat default))
 else if 0<=u.H then (plusH p.1 u.T (l.getD u.H.toNat default),p.2) else p
structure SmallH (i:Nat) (h:Half):Prop where
  a:-(2000000000 * i:Int)<=h.A/\h.A<=2000000000 * i
  b:-(2000000000 * i:Int)<=h.B/\h.B<=2000000000 * i
  c:-(524288000000 * i:Int)<=h.C/\h.C<=524288000000 * i
theorem SmallH.up {i:Nat} {h:Half} (s:SmallH i h):SmallH (i+1) h:=⟨by have:=s.a; omega,by have:=s.b; omega,by have:=s.c; omega⟩
theorem zpB {t:Int} {h:Half} (ht:0<t/\t<=2000000) (hh:okH h):(-2000000000<=t * h.A/\t * h.A<=2000000000)/\(-2000000000<=t * h.B/\t * h.B<=2000000000)/\(-524288000000<=t * h.C/\t * h.C<=524288000000):=by
 have q:-2000000<=t/\t<=2000000:=by omega
 exact⟨mulB q hh.a,mulB q hh.b,mulB q hh.c⟩
theorem SmallH.plus {i:Nat} {a h:Half} {t:Int} (s:SmallH i a) (ht:0<t/\t<=2000000) (hh:okH h):SmallH (i+1) (plusH a t h):=by
 obtain⟨b1,b2,b3⟩:=zpB ht hh
 have:=s.a; have:=s.b; have:=s.c
 exact⟨(by show _<=a.A+t * h.A/\a.A+t * h.A<=_; omega),(by show _<=a.B+t * h.B/\a.B+t * h.B<=_; omega),(by show _<=a.C+t * h.C/\a.C+t * h.C<=_; omega)⟩
structure SepInv (l m:List Half) (i:Nat) (p:Half × Half) (s:Half):Prop where
  one:SmallH i p.1
  two:SmallH i p.2
  h1:∀ q,0<q.Den->Fe (hsL l) q->ef p.1 q<=0
  h2:∀ q,0<q.Den->Fe (hsL m) q->ef p.2 q<=0
  rest:max 0 (s.A - p.1.A - p.2.A) * 48+max 0 (s.B - p.1.B - p.2.B) * 48<=s.C - p.1.C - p.2.C
theorem sides_get {n:Int} (h1:-4<=n) (h2:n<0):(n = -1/\sidesL.getD (-1 - n).toNat default=⟨-1,0,0⟩) \/ (n = -2/\sidesL.getD (-1 - n).toNat default=⟨1,0,48⟩) \/ (n = -3/\sidesL.getD (-1 - n).toNat default=⟨0,-1,0⟩) \/ (n = -4/\sidesL.getD (-1 - n).toNat default=⟨0,1,48⟩):=by
 obtain rfl | rfl | rfl | rfl:n = -1 \/ n = -2 \/ n = -3 \/ n = -4:=by omega
 ·exact .inl ⟨rfl,rfl⟩
 ·exact .inr (.inl ⟨rfl,rfl⟩)
 ·exact .inr (.inr (.inl ⟨rfl,rfl⟩))
 exact .inr (.inr (.inr ⟨rfl,rfl⟩))
theorem zmn (l m:List Half) {n:Int} (h1:0<=n) (h2:n<l.length):useH (l++m) n=l.getD n.toNat default:=by
 unfold useH
 rw[kG (by omega),hU,jJ (by omega),<- hU]
theorem zjR (l m:List Half) {n:Int} (h1:l.length<=n):useH (l++m) n=m.getD (n - l.length).toNat default:=by
 unfold useH
 rw[kG (by omega),hU,jK (by omega),<- hU]
 congr 1; omega
theorem SepInv.step {l m:List Half} (hl:∀ x∈l,okH x) (hm:∀ x∈m,okH x) {i:Nat} {p:Half × Half} {s:Half} (I:SepInv l m i p s) {u:Use} (hu:(-4<=u.H/\u.H<(l++m).length)/\0<u.T/\u.T<=2000000) :
  SepInv l m (i+1) (sepStep l m p u) (plusH s u.T (useH (l++m) u.H)):=by
 obtain⟨⟨u1,u2⟩,u3⟩:=hu
 rw[jR] at u2
 have r:=I.rest
 unfold sepStep
 by_cases c1:(l.length:Int)<=u.H
 ·rw[kH c1,zjR l m c1]
  have hmem:=gd1 (show (u.H - l.length).toNat<m.length by omega) (default:Half)
  generalize m.getD (u.H - l.length).toNat default=h at *
  refine⟨I.one.up,I.two.plus u3 (hm h hmem),I.h1,fun q hD hq=>?_,?_⟩
  ·have a1:=I.h2 q hD hq
   have a2:=Int.mul_nonpos_of_nonneg_of_nonpos (wE u3.1) (hq h (qE _ hmem))
   rw[zly]; omega
  show max 0 (s.A+u.T * h.A - p.1.A - (p.2.A+u.T * h.A)) * 48+max 0 (s.B+u.T * h.B - p.1.B - (p.2.B+u.T * h.B)) * 48<=s.C+u.T * h.C - p.1.C - (p.2.C+u.T * h.C)
  omega
 rw[kG c1]
 by_cases c2:0<=u.H
 ·rw[kH c2,zmn l m c2 (by omega)]
  have hmem:=gd1 (show u.H.toNat<l.length by omega) (default:Half)
  generalize l.getD u.H.toNat default=h at *
  refine⟨I.one.plus u3 (hl h hmem),I.two.up,fun q hD hq=>?_,I.h2,?_⟩
  ·have a1:=I.h1 q hD hq
   have a2:=Int.mul_nonpos_of_nonneg_of_nonpos (wE u3.1) (hq h (qE _ hmem))
   rw[zly]; omega
  show max 0 (s.A+u.T * h.A - (p.1.A+u.T * h.A) - p.2.A) * 48+max 0 (s.B+u.T * h.B - (p.1.B+u.T * h.B) - p.2.B) * 48<=s.C+u.T * h.C - (p.1.C+u.T * h.C) - p.2.C
  omega
 rw[kG c2]
 have e:useH (l++m) u.H=sidesL.getD (-1 - u.H).toNat default:=by unfold useH; rw[kH (by omega)]
 rw[e]
 refine⟨I.one.up,I.two.up,I.h1,I.h2,?_⟩
 rcases sides_get u1 (by omega) with⟨_,h⟩ | ⟨_,h⟩ | ⟨_,h⟩ | ⟨_,h⟩ <;> rw[h] <;> simp only[plusH] <;> omega
structure Sn where
  w:Wdg
  a:Place
  deriving DecidableEq,Inhabited
def Sn.at (x:Sn):Nat->D
 | 0=>I x.w.F
 | 1=>I x.w.T
 | 2=>I x.a.X
 | _=>I x.a.Y
theorem zpf {r:Rpt} (h:frmB r=true):1<=r.Slack:=by
 unfold frmB at h
 simp only[jP,jY] at h
 have h2:=h.1
 unfold frmC at h2
 simp only[qT,qV] at h2
 exact (zaa.1 h2.2).1
theorem ziA {v m:Int} {a p:Place} (hm:0<=m/\m<=900) (ha:on a=true) (hp:on p=true) (hne:a≠p):liesW (wdg v m) a p=decide (((bear a p).1 - v * (bear a p).2) % (3600 * (bear a p).2)<=m * (bear a p).2):=by
 have o1:openW (wdg v m)=m:=by
  rw[zft (by unfold wdg; dsimp only; omega) (by unfold wdg; dsimp only; omega)]
  unfold wdg; dsimp only; omega
 unfold liesW
 have hv:validW (wdg v m)=true:=by unfold validW; rw[o1]; exact zaa.2 hm
 rw[hv,ha,hp,jH hne,o1]
 generalize (bear a p).1=n
 generalize (bear a p).2=d
 have e1:(n - (wdg v m).F * d) % (3600 * d)=(n - v * d) % (3600 * d):=by
  have:(wdg v m).F=v - 3600 * (v / 3600):=by unfold wdg; dsimp only; omega
  rw[this]
  have e:n - (v - 3600 * (v / 3600)) * d=(n - v * d)+v / 3600 * (3600 * d):=by grind
  rw[e,Int.add_mul_emod_self_right]
 rw[e1]; simp
theorem zlI {m d:Int} (hd:0<d):m <= -(-m / d) * d:=by
 have h:=Int.ediv_mul_le (-m) (show d≠0 by omega)
 rw[Int.neg_mul]; omega
theorem zqp {m d:Int} (hd:0<d):-(-m / d) * d<m+d:=by
 have h:=Int.lt_ediv_add_one_mul_self (-m) hd
 rw[Int.add_mul] at h
 rw[Int.neg_mul]; omega
theorem zjs {m d:Int} (hd:0<d):m / d * d<=m:=Int.ediv_mul_le m (show d≠0 by omega)
theorem znG {m d:Int} (hd:0<d):m<m / d * d+d:=by
 have h:=Int.lt_ediv_add_one_mul_self m hd
 rw[Int.add_mul] at h; omega
theorem zh3 {a p:Place} {z sl:Int} (h:shwB a p z sl=true):(on a=true/\on p=true/\a≠p)/\(1<=sl/\sl<=100) /\
  ((bear a p).1+(z - sl) * (bear a p).2<=(shwS a p z sl).Lo * (bear a p).2/\(shwS a p z sl).Hi * (bear a p).2<=(bear a p).1+(z+sl) * (bear a p).2)/\(shwS a p z sl).Lo<=(shwS a p z sl).Hi:=by
 have e:shwS a p z sl=⟨-(-((bear a p).1+(z - sl) * (bear a p).2) / (bear a p).2),((bear a p).1+(z+sl) * (bear a p).2) / (bear a p).2⟩:=by unfold shwS; rw[kH h]
 unfold shwB at h
 simp only[jP,jY,jae,zaa] at h
 obtain⟨⟨⟨⟨h1,h2⟩,h3⟩,h4⟩,h5⟩:=h
 obtain⟨⟨d1,d2⟩,n1,n2⟩:=zbX h1 h2 h3
 rw[e]
 dsimp only
 generalize (bear a p).1=n at *
 generalize (bear a p).2=d at *
 have u1:=zlI (m:=n+(z - sl) * d) d1
 have u2:=zqp (m:=n+(z - sl) * d) d1
 have u3:=zjs (m:=n+(z+sl) * d) d1
 have u4:=znG (m:=n+(z+sl) * d) d1
 refine⟨⟨h1,h2,h3⟩,h5,⟨u1,u3⟩,?_⟩
 generalize -(-(n+(z - sl) * d) / d)=A at *
 generalize (n+(z+sl) * d) / d=B at *
 refine Int.not_lt.1 fun g=>?_
 have g2:=jV (show B+1<=A by omega) (wE d1)
 have g3:=jV (show 1<=sl by omega) (wE d1)
 rw[Int.add_mul] at g2
 rw[ja0] at u2
 rw[Int.add_mul] at u4
 omega
theorem zjg {a p:Place} {z sl f:Int} (h:shwB a p z sl=true) (hf:(f - (shwS a p z sl).Lo) % 3600<=(shwS a p z sl).Hi - (shwS a p z sl).Lo):liesW (wdg (f - sl - z) (2 * sl)) a p=true:=by
 obtain⟨⟨h1,h2,h3⟩,h4,⟨h5,h6⟩,h7⟩:=zh3 h
 obtain⟨⟨d1,d2⟩,n1,n2⟩:=zbX h1 h2 h3
 rw[ziA (by omega) h1 h2 h3,kJ]
 generalize (shwS a p z sl).Lo=L at *
 generalize (shwS a p z sl).Hi=H at *
 generalize (bear a p).1=n at *
 generalize (bear a p).2=d at *
 obtain⟨q,hq⟩:∃ q:Int,f - 3600 * q=L+(f - L) % 3600:=⟨(f - L) / 3600,by omega⟩
 have e0:=Int.emod_nonneg (f - L) (show (3600:Int)≠0 by decide)
 have l1:L<=f - 3600 * q:=by omega
 have l2:f - 3600 * q<=H:=by omega
 have m1:=jV l1 (wE d1)
 have m2:=jV l2 (wE d1)
 have w0:0<=n - (f - 3600 * q - sl - z) * d:=by grind
 have w1:n - (f - 3600 * q - sl - z) * d<=2 * sl * d:=by grind
 have w2:2 * sl * d<3600 * d:=Int.mul_lt_mul_of_pos_right (by omega) d1
 have e:n - (f - sl - z) * d=(n - (f - 3600 * q - sl - z) * d) + -q * (3600 * d):=by grind
 rw[e,Int.add_mul_emod_self_right,Int.emod_eq_of_lt w0 (by omega)]
 exact w1
theorem zn1 {a p:Place} {z sl f t zl zh:Int} (h:shwB a p z sl=true) (hz:zl<=z/\z<=zh) (hl:((bear a p).1 - (f+sl - zl) * (bear a p).2) % (3600 * (bear a p).2)<=((t - f) % 3600 - (2 * sl+zh - zl)) * (bear a p).2) :
  ((shwS a p z sl).Lo - f) % 3600+(shwS a p z sl).Hi - (shwS a p z sl).Lo<=(t - f) % 3600:=by
 obtain⟨⟨h1,h2,h3⟩,h4,⟨h5,h6⟩,h7⟩:=zh3 h
 obtain⟨⟨d1,d2⟩,n1,n2⟩:=zbX h1 h2 h3
 have w0:=Int.emod_nonneg (t - f) (show (3600:Int)≠0 by decide)
 have w1:=ja9 (t - f) (show (0:Int)<3600 by decide)
 generalize (t - f) % 3600=W at *
 generalize (shwS a p z sl).Lo=L at *
 generalize (shwS a p z sl).Hi=H at *
 generalize (bear a p).1=n at *
 generalize (bear a p).2=d at *
 have e0:=Int.emod_nonneg (n - (f+sl - zl) * d) (show 3600 * d≠0 by omega)
 have e1:=Int.emod_add_mul_ediv (n - (f+sl - zl) * d) (3600 * d)
 generalize (n - (f+sl - zl) * d) % (3600 * d)=e at *
 generalize (n - (f+sl - zl) * d) / (3600 * d)=K at *
 have x1:=jV hz.1 (wE d1)
 have x2:=jV hz.2 (wE d1)
 have a1:(f+3600 * K) * d<=L * d:=by grind
 have a2:H * d<=(f+3600 * K+W) * d:=by grind
 have b1:=Int.le_of_mul_le_mul_right a1 d1
 have b2:=Int.le_of_mul_le_mul_right a2 d1
 omega
theorem zgZ {s:Svc} {b:Brn} {p:Place} {z:Int} {r:Rpt} (hr:rptE s r=0) (hz:(zerR s.k r.C r.Tick).1.Lo<=z/\z<=(zerR s.k r.C r.Tick).1.Hi) (z3:-300<=z/\z<=300) (ht:tolB s b p z r=true):allB s b r p=true:=by
 obtain⟨f1,f2,f3,f4⟩:=zcq hr
 obtain⟨z1,z2⟩:=hz
 have hs:=zpf f1
 by_cases hk:r.Kind=1
 ·unfold tolB at ht
  rw[kH hk] at ht
  simp only[jP,kA] at ht
  obtain⟨⟨t1,t2⟩,t3⟩:=ht
  have hl:=zjg t2 t3
  have hw:=rpt_w hr hk
  unfold allB
  rw[kH hk]
  unfold seenB secR
  rw[kH hk]
  rw[jG hw,t1,kN,jak]
  unfold wdgR at hw ⊢
  split at hw
  ·rename_i g; exact absurd hw g
  rename_i g1
  split at hw
  ·rename_i g; exact absurd hw g
  rename_i g2
  split at hw
  ·cases hw
  rename_i g3
  rw[kG g1,kG g2,kG g3]
  have g3:¬ 900<2 * r.Slack+(zerR s.k r.C r.Tick).1.Hi - (zerR s.k r.C r.Tick).1.Lo:=g3
  have W:=zk0 (u:=r.From - r.Slack - (zerR s.k r.C r.Tick).1.Hi) (t:=(zerR s.k r.C r.Tick).1.Hi - z) (T:=(zerR s.k r.C r.Tick).1.Hi - (zerR s.k r.C r.Tick).1.Lo) (m:=2 * r.Slack) (a:=(towG s.c.T r.Tower).1.At) (p:=p) (by omega) (by omega) (by omega)
   (by rw[show r.From - r.Slack - (zerR s.k r.C r.Tick).1.Hi+((zerR s.k r.C r.Tick).1.Hi - z)=r.From - r.Slack - z by omega]; exact hl)
  rw[show (zerR s.k r.C r.Tick).1.Hi - (zerR s.k r.C r.Tick).1.Lo+2 * r.Slack=2 * r.Slack+(zerR s.k r.C r.Tick).1.Hi - (zerR s.k r.C r.Tick).1.Lo by omega] at W
  exact W
 have fb:=zp9 f1 hk
 obtain⟨b1,b2,b3⟩:=fb
 unfold tolB at ht
 rw[kG hk] at ht
 unfold allB
 rw[kG hk]
 rw[jY,qF]
 intro hsn
 unfold seenB secR at hsn
 rw[kG hk] at hsn
 simp only[jP] at hsn
 obtain⟨⟨s1,s2⟩,s3⟩:=hsn
 rw[s3] at ht
 unfold blkR at s1 s2
 split at s1
 ·cases s1
 rename_i g
 rw[kG g] at s2
 have w1:=ja9 (r.To - r.From) (show (0:Int)<3600 by decide)
 have ew:(⟨(r.From+r.Slack - (zerR s.k r.C r.Tick).1.Lo) % 3600,(r.To - r.Slack - (zerR s.k r.C r.Tick).1.Hi) % 3600⟩:Wdg)=wdg (r.From+r.Slack - (zerR s.k r.C r.Tick).1.Lo) ((r.To - r.From) % 3600 - (2 * r.Slack+(zerR s.k r.C r.Tick).1.Hi - (zerR s.k r.C r.Tick).1.Lo)):=by
  unfold wdg
  rw[Wdg.mk.injEq]
  exact⟨rfl,by omega⟩
 dsimp only at s2
 rw[ew] at s2
 have s4:=s2
 unfold liesW at s4
 simp only[jP,jY,jae] at s4
 obtain⟨⟨⟨q1,q2,q3⟩,q4⟩,-⟩:=s4
 have o1:openW (wdg (r.From+r.Slack - (zerR s.k r.C r.Tick).1.Lo) ((r.To - r.From) % 3600 - (2 * r.Slack+(zerR s.k r.C r.Tick).1.Hi - (zerR s.k r.C r.Tick).1.Lo)))=(r.To - r.From) % 3600 - (2 * r.Slack+(zerR s.k r.C r.Tick).1.Hi - (zerR s.k r.C r.Tick).1.Lo):=by
  rw[zft (by unfold wdg; dsimp only; omega) (by unfold wdg; dsimp only; omega)]
  unfold wdg; dsimp only; omega
 unfold validW at q1
 rw[o1] at q1
 have q1:=zaa.1 q1
 rw[ziA q1 q2 q3 q4,kJ] at s2
 have sh:shwB (towG s.c.T r.Tower).1.At p z r.Slack=true:=by
  unfold shwB; rw[q2,q3,jH q4,zaa.2 z3,zaa.2 b3]; rfl
 have:=zn1 (t:=r.To) sh ⟨z1,z2⟩ s2
 rw[sh] at ht
 have ht:decide ((r.To - r.From) % 3600<((shwS (towG s.c.T r.Tower).1.At p z r.Slack).Lo - r.From) % 3600+(shwS (towG s.c.T r.Tower).1.At p z r.Slack).Hi - (shwS (towG s.c.T r.Tower).1.At p z r.Slack).Lo)=true:=ht
 have ht:=kQ ht
 omega
structure Zs where
  C:Int
  T:Int
  Z:List Int
  deriving Inhabited
abbrev Zs.ds (z:Zs):List D:=[I z.C,I z.T,lI z.Z]
abbrev Zs.v (z:Zs):V1:=.agg z.ds
def Zs.at (z:Zs):Nat->D
 | 0=>I z.C
 | 1=>I z.T
 | _=>lI z.Z
abbrev lZs (l:List Zs):D:=.slc 3 l.length fun i=>(l.getD i default).at
def zOk (x:Cir) (l:List Thg) (z:Zs) (i:Nat):Bool:=within (z.Z.getD i 0) (zer x l (z.T+i)).lo (zer x l (z.T+i)).hi && (List.range i).all fun k=>decide (max (z.Z.getD i 0 - z.Z.getD k 0) (z.Z.getD k 0 - z.Z.getD i 0)<=drf x k i)
def fitB (c:Cirs) (z:Zs):Bool:=decide ((knw c z.C [z.T]).2.2=0) && within z.Z.length 1 400 && decide (z.T+z.Z.length - 1<=(knw c z.C [z.T]).1.To) && decide (agrE (knw c z.C [z.T]).1 (knw c z.C [z.T]).2.1=0) && (List.range z.Z.length).all (zOk (knw c z.C [z.T]).1 (knw c z.C [z.T]).2.1 z)
theorem znH {c:Cirs} {z:Zs} {t:Int} (h:fitB c z=true) (h1:z.T<=t) (h2:t - z.T<z.Z.length) (h3:(zerR c z.C t).2=0):(zerR c z.C t).1.Lo<=z.Z.getD (t - z.T).toNat 0/\z.Z.getD (t - z.T).toNat 0<=(zerR c z.C t).1.Hi:=by
 unfold fitB at h
 simp only[jP,kA,jC] at h
 obtain⟨⟨⟨⟨f1,f2⟩,f3⟩,f4⟩,f5⟩:=h
 obtain⟨k1,k2,k3,k4,k5⟩:=zho f1
 have q:=f5 (t - z.T).toNat (kI.2 (by omega))
 unfold zOk at q
 rw[jP] at q
 have q:=zaa.1 q.1
 rw[show z.T+(((t - z.T).toNat:Nat):Int)=t by omega,k4,k5] at q
 unfold zerR at h3 ⊢
 split at h3
 ·rename_i g; exact absurd h3 g
 rename_i g
 rw[kG g]
 have g:(atR c z.C t).2.2=0:=jL g
 obtain⟨m1,m2,m3,m4,m5⟩:=zho (zn7 g)
 have e1:(atR c z.C t).1=c.C.getD (cirI c z.C).toNat default:=m4
 have e2:(atR c z.C t).2.1=thsL c (c.C.getD (cirI c z.C).toNat default):=m5
 rw[e1,e2]
 exact q
def zIn (id t:Int) (z:Zs):Bool:=(z.C==id && decide (z.T<=t)) && decide (t - z.T<z.Z.length)
def zatR (zs:List Zs) (id t:Int):Int × Bool:=if idxL (zIn id t) zs<0 then (0,false) else ((zs.getD (idxL (zIn id t) zs).toNat default).Z.getD (t - (zs.getD (idxL (zIn id t) zs).toNat default).T).toNat 0,true)
def drfC (s:Svc) (zs:List Zs) (i:Nat):Bool:=(zs.getD i default).C==(s.k.C.getD i default).ID && (zs.getD i default).T==(s.k.C.getD i default).From && decide (((zs.getD i default).Z.length:Int)=(s.k.C.getD i default).To - (s.k.C.getD i default).From+1) && fitB s.k (zs.getD i default)
def drfB (s:Svc) (zs:List Zs):Bool:=decide (zs.length=s.k.C.length) && (List.range s.k.C.length).all (drfC s zs)
theorem zju {s:Svc} {zs:List Zs} {id t:Int} (h:drfB s zs=true) (h3:(zerR s.k id t).2=0) (hz:(zatR zs id t).2=true):((zerR s.k id t).1.Lo<=(zatR zs id t).1/\(zatR zs id t).1<=(zerR s.k id t).1.Hi)/\(-300<=(zatR zs id t).1/\(zatR zs id t).1<=300):=by
 unfold drfB at h
 simp only[jP,kA,jC] at h
 obtain⟨h0,h1⟩:=h
 rcases idxL_cases (zIn id t) zs default with⟨e,-⟩ | ⟨i,hi,e,e1,-⟩
 ·unfold zatR at hz
  rw[e,kH (by decide)] at hz
  cases hz
 have ez:(zatR zs id t).1=(zs.getD i default).Z.getD (t - (zs.getD i default).T).toNat 0:=by
  unfold zatR
  rw[e,kG (by omega),jar]
 unfold zIn at e1
 simp only[jP,jaf,kA] at e1
 obtain⟨⟨a1,a2⟩,a3⟩:=e1
 have d:=h1 i (kI.2 (by omega))
 unfold drfC at d
 simp only[jP] at d
 have hf:=d.2
 rw[<- a1] at h3 ⊢
 have b:=znH hf a2 a3 h3
 have bd:=zgW h3
 rw[a1] at b bd ⊢
 rw[ez]
 exact⟨b,by omega⟩
theorem zfJ {s:Svc} {zs:List Zs} {b:Brn} {p:Place} {r:Rpt} (h:drfB s zs=true) (hr:rptE s r=0) (hz:(zatR zs r.C r.Tick).2=true) (ht:tolB s b p (zatR zs r.C r.Tick).1 r=true):allB s b r p=true:=by
 obtain⟨f1,f2,f3,f4⟩:=zcq hr
 obtain⟨a,b'⟩:=zju h f4 hz
 exact zgZ hr a b' ht
theorem rgD {n i:Nat} (h:i<n):(List.range n).getD i default=i:=by
 rw[hU,qR h]; rfl
def ftzX (c:Cirs) (z:Zs):Int × Bool:=
 if (knw c z.C [z.T]).2.2≠0 then (-1,false) else if within z.Z.length 1 400=false then (-1,false)
 else if (knw c z.C [z.T]).1.To<z.T+z.Z.length - 1 then (-1,false)
 else if agrE (knw c z.C [z.T]).1 (knw c z.C [z.T]).2.1≠0 then (z.T,false)
 else if idxL (fun i=>!zOk (knw c z.C [z.T]).1 (knw c z.C [z.T]).2.1 z i) (List.range z.Z.length)<0 then (-1,true)
 else (z.T+idxL (fun i=>!zOk (knw c z.C [z.T]).1 (knw c z.C [z.T]).2.1 z i) (List.range z.Z.length),false)
theorem zp8 (c:Cirs) (z:Zs):(ftzX c z).2=fitB c z:=by
 unfold ftzX fitB
 by_cases h1:(knw c z.C [z.T]).2.2≠0
 ·rw[kH h1,jH h1]; rfl
 rw[kG h1,jG (Classical.not_not.1 h1)]
 cases h2:within z.Z.length 1 400 with
 | false=>rfl
 | true=>
 rw[kG (by decide)]
 by_cases h3:(knw c z.C [z.T]).1.To<z.T+z.Z.length - 1
 ·rw[kH h3,jH (by omega)]; rfl
 rw[kG h3,jG (by omega)]
 by_cases h4:agrE (knw c z.C [z.T]).1 (knw c z.C [z.T]).2.1≠0
 ·rw[kH h4,jH h4]; rfl
 rw[kG h4,jG (Classical.not_not.1 h4)]
 rcases idxL_cases (fun i=>!zOk (knw c z.C [z.T]).1 (knw c z.C [z.T]).2.1 z i) (List.range z.Z.length) default with⟨e,a⟩ | ⟨i,hi,e,a,-⟩
 ·rw[e,kH (by decide)]
  symm
  show (List.range z.Z.length).all _=true
  rw[jC]
  intro j hj
  have hj:=kI.1 hj
  have:=a j (by simpa using hj)
  rw[rgD hj] at this
  simpa using this
 rw[e,kG (by omega)]
 symm
 show (List.range z.Z.length).all _=false
 rw[List.all_eq_false]
 have hi:i<z.Z.length:=by simpa using hi
 refine⟨i,kI.2 hi,?_⟩
 rw[rgD hi] at a
 simpa using a
theorem zfd (n:Int) (hn:-1000000000000<=n/\n<=1000000000000):Spec PP 93 [N n] [N (n % 3600)]:=by
 have h1:=jaB n (show (0:Int)<3600 by decide)
 have h2:=jaB (-n) (show (0:Int)<3600 by decide)
 rw[Int.neg_tmod] at h2
 refine sA Tryz.func93 ?_
 refine⟨by omega,⟨i6,⟨by omega,?_⟩⟩⟩
 refine r1I rfl ?_
 rw[jal (by omega),jbp]
 rw[Int.tmod_def,ja3]
theorem zmk (zs:List Zs) (id t:Int) (hz:∀ z∈zs,0<=z.T/\z.T<=1048576) (ht:0<=t/\t<=1048576) (hn:zs.length<=1000000):Spec PP 91 [.d (lZs zs),N id,N t] [N (zatR zs id t).1,B (zatR zs id t).2]:=by
 refine sA Tryz.func91 ?_
 refine lOf (σ:=Nat) (fun i=>([(1,.d (I id)),(2,.d (I t)),(10,.d (lZs zs)),(11,.d (I zs.length)),(12,.d (I i))],[])) (fun i=>i<=zs.length /\ ∀ j,j<i->zIn id t (zs.getD j default)=false) (fun i=>zs.length - i) 0
  ⟨rfl,trivial,wq rfl⟩ z0L fun i hi=>?_
 obtain⟨i1,i2⟩:=hi
 apply bY <;> intro g1
 ·have g1:i<zs.length:=by have:=dT g1; omega
  have hz1:=hz _ (gd1 g1 default)
  refine⟨⟨rfl,by omega,by omega⟩,?_⟩
  have nxt:zIn id t (zs.getD i default)=false -> ∀ j,j<i+1->zIn id t (zs.getD j default)=false:=fun h j hj=>by
   by_cases e:j=i
   ·subst e; exact h
   exact i2 j (by omega)
  apply bY <;> intro g2
  rotate_left
  ·have g2:((zs.getD i default).C==id)=false:=g2
   repeat first | apply sT | apply sF
   refine⟨i6,?_⟩
   exact⟨i+1,⟨rfl,trivial,wq rfl⟩,⟨g1,nxt (by unfold zIn; rw[g2]; rfl)⟩,msr g1⟩
  have g2:((zs.getD i default).C==id)=true:=g2
  repeat first | apply sT | apply sF
  apply bY <;> intro g3
  rotate_left
  ·have g3:¬ (zs.getD i default).T<=t:=dF g3
   repeat first | apply sT | apply sF
   refine⟨i6,?_⟩
   exact⟨i+1,⟨rfl,trivial,wq rfl⟩,⟨g1,nxt (by unfold zIn; rw[g2,jH g3]; rfl)⟩,msr g1⟩
  have g3:(zs.getD i default).T<=t:=dT g3
  repeat first | apply sT | apply sF
  refine⟨(show inR .i64 (t - (zs.getD i default).T) from i6),?_⟩
  repeat first | apply sT | apply sF
  apply bY <;> intro g4
  rotate_left
  ·have g4:¬ t - (zs.getD i default).T<(zs.getD i default).Z.length:=dF g4
   repeat first | apply sT | apply sF
   refine⟨i6,?_⟩
   exact⟨i+1,⟨rfl,trivial,wq rfl⟩,⟨g1,nxt (by unfold zIn; rw[jH g4]; simp)⟩,msr g1⟩
  have g4:t - (zs.getD i default).T<(zs.getD i default).Z.length:=dT g4
  repeat first | apply sT | apply sF
  refine⟨(show inR .i64 (t - (zs.getD i default).T) from i6),?_⟩
  refine⟨⟨rfl,(show 0<=t - (zs.getD i default).T by omega),(show t - (zs.getD i default).T<((zs.getD i default).Z.length:Int) from g4)⟩,?_⟩
  have e:=zaj (p:=zIn id t) default g1 (by unfold zIn; rw[g2,jG g3,jG g4]; rfl) i2
  have e2:zatR zs id t=((zs.getD i default).Z.getD (t - (zs.getD i default).T).toNat 0,true):=by unfold zatR; rw[e,kG (by omega)]; rfl
  rw[e2]
  exact⟨rtI rfl rfl,rtB rfl rfl,trivial⟩
 have g1:i=zs.length:=by have:=dF g1; omega
 subst g1
 have e:idxL (zIn id t) zs = -1:=zam (p:=zIn id t) default i2
 have e2:zatR zs id t=(0,false):=by unfold zatR; rw[e,kH (by decide)]
 rw[e2]
 exact⟨rtI rfl rfl,rtB rfl rfl,trivial⟩
theorem cut_I (Z:List Int) (k:Nat) (h:k<=Z.length):D.eqv (.slc 1 k fun i _=>I (Z.getD i 0)) (lI (Z.take k)):=by
 refine⟨by rw[jQ]; omega,.inr ⟨rfl,fun i hi j hj=>?_⟩⟩
 show D.eqv (I (Z.getD i 0)) (I ((Z.take k).getD i 0))
 rw[hU,hU,jS,kH hi]; exact dE _
theorem zr8 (c:Cirs) (z:Zs):Spec PP 25 [c.v,z.v] [N (ftzX c z).1,B (ftzX c z).2]:=by
 refine sA Tryz.func25 ?_
 refine fEq [26] (zlO c z.C [z.T] (jD rfl)) rfl ⟨zab _,⟨rfl,rfl⟩,zek rfl,trivial⟩ rfl ?_
 apply bY <;> intro h1
 ·have h1:(knw c z.C [z.T]).2.2≠0:=by simpa using h1
  have e:ftzX c z=(-1,false):=by unfold ftzX; rw[kH h1]
  repeat first | apply sT | apply sF
  rw[e]
  exact⟨rtI rfl rfl,rtB rfl rfl,trivial⟩
 have h1:(knw c z.C [z.T]).2.2=0:=by simpa using h1
 obtain⟨k1,k2,k3,k4,k5⟩:=zho h1
 have ok:=zbS k1
 have hx:=ok.cs _ (zbk k2).1
 have bt:=zaa.1 k3
 have e0:ftzX c z=if within z.Z.length 1 400=false then (-1,false) else if (knw c z.C [z.T]).1.To<z.T+z.Z.length - 1 then (-1,false) else if agrE (knw c z.C [z.T]).1 (knw c z.C [z.T]).2.1≠0 then (z.T,false)
  else if idxL (fun i=>!zOk (knw c z.C [z.T]).1 (knw c z.C [z.T]).2.1 z i) (List.range z.Z.length)<0 then (-1,true)
  else (z.T+idxL (fun i=>!zOk (knw c z.C [z.T]).1 (knw c z.C [z.T]).2.1 z i) (List.range z.Z.length),false):=by unfold ftzX; rw[kG (fun h=>h h1)]
 obtain⟨x,hX⟩:∃ x,x=(knw c z.C [z.T]).1:=⟨_,rfl⟩
 obtain⟨l,hL⟩:∃ l,l=(knw c z.C [z.T]).2.1:=⟨_,rfl⟩
 rw[<- hX,<- hL] at e0
 have xo:CirOk x:=by rw[hX,k4]; exact hx
 have xt:x.From<=z.T/\z.T<=x.To:=by rw[hX,k4]; exact bt
 have lo:∀ t∈l,ThgOk t:=by rw[hL,k5]; exact zhW ok k2
 have ln:l.length<=100:=by rw[hL,k5]; have:=zfg c (c.C.getD (cirI c z.C).toNat default); have:=ok.m; omega
 have xd:=xo.d
 have xT:=xo.t
 rw[<- hX,<- hL]
 refine cP (zaB z.Z.length 1 400) rfl rfl ?_
 repeat first | apply sT | apply sF
 apply bY <;> intro h2
 ·have h2:within z.Z.length 1 400=false:=by simpa using h2
  repeat first | apply sT | apply sF
  rw[e0,kH h2]
  exact⟨rtI rfl rfl,rtB rfl rfl,trivial⟩
 have h2:within z.Z.length 1 400=true:=by simpa using h2
 rw[kG (by rw[h2]; decide)] at e0
 have b2:=zaa.1 h2
 repeat first | apply sT | apply sF
 refine⟨i6,⟨i6,?_⟩⟩
 repeat first | apply sT | apply sF
 apply bY <;> intro h3
 ·have h3:x.To<z.T+z.Z.length - 1:=dT h3
  repeat first | apply sT | apply sF
  rw[e0,kH h3]
  exact⟨rtI rfl rfl,rtB rfl rfl,trivial⟩
 have h3:¬ x.To<z.T+z.Z.length - 1:=dF h3
 rw[kG h3] at e0
 repeat first | apply sT | apply sF
 refine cP (zlU x l xd lo ln) rfl rfl ?_
 apply bY <;> intro h4
 ·have h4:agrE x l≠0:=by simpa using h4
  rw[e0,kH h4]
  exact⟨rtI rfl rfl,rtB rfl rfl,trivial⟩
 have h4:agrE x l=0:=by simpa using h4
 rw[kG (fun h=>h h4)] at e0
 have stop:∀ i,i<z.Z.length->(∀ j,j<i->zOk x l z j=true)->zOk x l z i=false->ftzX c z=(z.T+i,false):=fun i hi a b=>by
  have e:=zaj (p:=fun i=>!zOk x l z i) (l:=List.range z.Z.length) (i:=i) default (by simpa using hi) (by rw[rgD hi,b]; rfl) (fun j hj=>by rw[rgD (by omega),a j hj]; rfl)
  rw[e0,e,kG (by omega)]
 have zin:∀ i,i<z.Z.length->zOk x l z i=true -> -300<=z.Z.getD i 0/\z.Z.getD i 0<=300:=fun i hi a=>by
  unfold zOk at a
  rw[jP] at a
  have a1:=zaa.1 a.1
  have b1:=zjH (x:=x) (l:=l) (t:=z.T+i) xd lo (by omega) ⟨-300,300,0,0⟩ (by dsimp only; omega) (by dsimp only; omega)
  unfold zer at a1
  omega
 refine lOf (σ:=Nat) (fun i=>([(3,.box 3 0),(7,.box 7 0),(8,.d (lTh l)),(55,.d (lI z.Z)),(56,.d (I z.Z.length)),(57,.d (I i))],[(3,.box (z.ds.map AV.d)),(7,.box (x.ds.map AV.d))])) (fun i=>i<=z.Z.length /\ ∀ j,j<i->zOk x l z j=true) (fun i=>z.Z.length - i) 0
  ⟨rfl,⟨obD z.ds rfl,obD x.ds rfl,trivial⟩,wq rfl⟩ z0L fun i hi=>?_
 obtain⟨i1,i2⟩:=hi
 apply bY <;> intro g1
 ·have g1:i<z.Z.length:=by have:=dT g1; omega
  refine⟨⟨rfl,by omega,by omega⟩,?_⟩
  refine⟨i6,?_⟩
  refine cP (zoS x l (z.T+i) xd lo ln (by omega)) rfl rfl ?_
  refine cP (zaB (z.Z.getD i 0) (zer x l (z.T+i)).lo (zer x l (z.T+i)).hi) rfl rfl ?_
  apply bY <;> intro g2
  ·have g2:within (z.Z.getD i 0) (zer x l (z.T+i)).lo (zer x l (z.T+i)).hi=false:=by simpa using g2
   refine⟨i6,?_⟩
   rw[stop i g1 i2 (by unfold zOk; rw[g2]; rfl)]
   exact⟨rtI rfl rfl,rtB rfl rfl,trivial⟩
  have g2:within (z.Z.getD i 0) (zer x l (z.T+i)).lo (zer x l (z.T+i)).hi=true:=by simpa using g2
  have a1:=zaa.1 g2
  have b1:=zjH (x:=x) (l:=l) (t:=z.T+i) xd lo (by omega) ⟨-300,300,0,0⟩ (by dsimp only; omega) (by dsimp only; omega)
  have bi:-300<=z.Z.getD i 0/\z.Z.getD i 0<=300:=by unfold zer at a1; omega
  refine⟨⟨.inr rfl,(show (0:Int)<=i/\(i:Int)<=z.Z.length by omega)⟩,?_⟩
  refine lOf (σ:=Nat) (fun k=>([(3,.box 3 0),(7,.box 7 0),(8,.d (lTh l)),(10,.d (I i)),(11,.d (I (z.Z.getD i 0))),(55,.d (lI z.Z)),(56,.d (I z.Z.length)),(57,.d (I i)),(87,.d (lI (z.Z.take i))),(88,.d (I i)),(89,.d (I k))],[(3,.box (z.ds.map AV.d)),(7,.box (x.ds.map AV.d))])) (fun k=>k<=i /\ ∀ j,j<k->max (z.Z.getD i 0 - z.Z.getD j 0) (z.Z.getD j 0 - z.Z.getD i 0)<=drf x j i) (fun k=>i - k) 0
   ⟨rfl,⟨obD z.ds rfl,obD x.ds rfl,trivial⟩,avQ rfl,avQ rfl,avQ rfl,avQ rfl,avQ rfl,avQ rfl,avQ rfl,avQ rfl,cut_I z.Z i (by omega),avQ rfl,avQ rfl,trivial⟩ z0L fun k hk=>?_
  obtain⟨q1,q2⟩:=hk
  apply bY <;> intro g3
  ·have g3:k<i:=by have:=dT g3; omega
   have bk:=zin k (by omega) (i2 k g3)
   have ek:(z.Z.take i).getD k 0=z.Z.getD k 0:=by
    rw[hU,jS,kH g3,<- hU]
   refine⟨⟨rfl,by omega,(show (k:Int)<((z.Z.take i).length:Int) by rw[jQ]; omega)⟩,?_⟩
   refine⟨(show inR .i64 (z.Z.getD i 0 - (z.Z.take i).getD k 0) by rw[ek]; exact i6),⟨(show inR .i64 ((z.Z.take i).getD k 0 - z.Z.getD i 0) by rw[ek]; exact i6),?_⟩⟩
   refine cP (zhH x k i xd (by omega) (by omega)) rfl rfl ?_
   apply bY <;> intro g4
   ·have g4:drf x k i<max (z.Z.getD i 0 - (z.Z.take i).getD k 0) ((z.Z.take i).getD k 0 - z.Z.getD i 0):=dT g4
    rw[ek] at g4
    refine⟨i6,?_⟩
    rw[stop i g1 i2 (by
     unfold zOk
     rw[g2,kN,List.all_eq_false]
     exact⟨k,kI.2 g3,by simp only[kA]; omega⟩)]
    exact⟨rtI rfl rfl,rtB rfl rfl,trivial⟩
   have g4:¬ drf x k i<max (z.Z.getD i 0 - (z.Z.take i).getD k 0) ((z.Z.take i).getD k 0 - z.Z.getD i 0):=dF g4
   rw[ek] at g4
   refine⟨i6,?_⟩
   refine⟨k+1,⟨rfl,⟨obD z.ds rfl,obD x.ds rfl,trivial⟩,wq rfl⟩,⟨g3,fun j hj=>?_⟩,msr g3⟩
   by_cases e:j=k
   ·subst e; omega
   exact q2 j (by omega)
  have g3:k=i:=by have:=dF g3; omega
  subst g3
  refine⟨i6,?_⟩
  refine⟨k+1,⟨rfl,⟨obD z.ds rfl,obD x.ds rfl,trivial⟩,wq rfl⟩,⟨g1,fun j hj=>?_⟩,msr g1⟩
  by_cases e:j=k
  ·subst e
   unfold zOk
   rw[g2,kN,jC]
   exact fun m hm=>jG (q2 m (kI.1 hm))
  exact i2 j (by omega)
 have g1:i=z.Z.length:=by have:=dF g1; omega
 subst g1
 have e:=zam (p:=fun i=>!zOk x l z i) (l:=List.range z.Z.length) default (fun j hj=>by
  have hj:j<z.Z.length:=by simpa using hj
  rw[rgD hj,i2 j hj]; rfl)
 rw[e0,e,kH (by decide)]
 exact⟨rtI rfl rfl,rtB rfl rfl,trivial⟩
theorem zi8 (s:Svc) (zs:List Zs) (hs:svcE s=0):Spec PP 6 [s.v,.d (lZs zs)] [B (drfB s zs)]:=by
 have ok:=(zbI hs).k
 have okn:=ok.n
 refine sA Tryz.func6 ?_
 apply bY <;> intro h0
 ·have h0:zs.length≠s.k.C.length:=by
   have:¬ (zs.length:Int)=s.k.C.length:=by simpa using h0
   omega
  exact r1B rfl (by unfold drfB; rw[jH h0]; rfl)
 have h0:zs.length=s.k.C.length:=by
  have:(zs.length:Int)=s.k.C.length:=by simpa using h0
  omega
 have eD:drfB s zs=(List.range s.k.C.length).all (drfC s zs):=by unfold drfB; rw[jG h0]; rfl
 refine lOf (σ:=Nat) (fun i=>([(1,.d (lZs zs)),(2,.box 2 0),(19,.d (lC s.k.C)),(20,.d (I s.k.C.length)),(21,.d (I i))],[(2,.box (s.ds.map AV.d))])) (fun i=>i<=s.k.C.length /\ ∀ j,j<i->drfC s zs j=true) (fun i=>s.k.C.length - i) 0
  ⟨rfl,⟨obD s.ds rfl,trivial⟩,wq rfl⟩ z0L fun i hi=>?_
 obtain⟨i1,i2⟩:=hi
 apply bY <;> intro g1
 ·have g1:i<s.k.C.length:=by have:=dT g1; omega
  have co:=(ok.cs i g1).t
  have bad:drfC s zs i=false->drfB s zs=false:=fun h=>by
   rw[eD,List.all_eq_false]
   exact⟨i,kI.2 g1,by rw[h]; decide⟩
  refine⟨⟨rfl,by omega,by omega⟩,?_⟩
  refine⟨⟨rfl,by omega,(show (i:Int)<(zs.length:Int) by omega)⟩,?_⟩
  apply bY <;> intro g2
  ·have g2:((zs.getD i default).C != (s.k.C.getD i default).ID)=true:=g2
   repeat first | apply sT | apply sF
   exact r1B rfl (bad (by unfold drfC; rw[show ((zs.getD i default).C==(s.k.C.getD i default).ID)=false by simpa using g2]; rfl)).symm
  have g2:((zs.getD i default).C==(s.k.C.getD i default).ID)=true:=by
   have:((zs.getD i default).C != (s.k.C.getD i default).ID)=false:=g2
   simpa using this
  repeat first | apply sT | apply sF
  apply bY <;> intro g3
  ·have g3:((zs.getD i default).T != (s.k.C.getD i default).From)=true:=g3
   repeat first | apply sT | apply sF
   exact r1B rfl (bad (by unfold drfC; rw[show ((zs.getD i default).T==(s.k.C.getD i default).From)=false by simpa using g3,qP]; rfl)).symm
  have g3:((zs.getD i default).T==(s.k.C.getD i default).From)=true:=by
   have:((zs.getD i default).T != (s.k.C.getD i default).From)=false:=g3
   simpa using this
  repeat first | apply sT | apply sF
  refine⟨(show inR .i64 ((s.k.C.getD i default).To - (s.k.C.getD i default).From) from i6),⟨(show inR .i64 ((s.k.C.getD i default).To - (s.k.C.getD i default).From+1) from i6),?_⟩⟩
  repeat first | apply sT | apply sF
  apply bY <;> intro g4
  ·have g4:((((zs.getD i default).Z.length:Int)) != (s.k.C.getD i default).To - (s.k.C.getD i default).From+1)=true:=g4
   exact r1B rfl (bad (by unfold drfC; rw[jH (by simpa using g4),qP]; rfl)).symm
  have g4:((((zs.getD i default).Z.length:Int)) != (s.k.C.getD i default).To - (s.k.C.getD i default).From+1)=false:=g4
  have cf:=zr8 s.k (zs.getD i default)
  rw[zp8] at cf
  refine cP cf rfl rfl ?_
  apply bY <;> intro g5
  ·have g5:fitB s.k (zs.getD i default)=false:=by simpa using g5
   exact r1B rfl (bad (by unfold drfC; rw[g5,qP])).symm
  have g5:fitB s.k (zs.getD i default)=true:=by simpa using g5
  refine⟨i6,?_⟩
  refine⟨i+1,⟨rfl,⟨obD s.ds rfl,trivial⟩,wq rfl⟩,⟨g1,fun j hj=>?_⟩,msr g1⟩
  by_cases e:j=i
  ·subst e
   unfold drfC
   rw[g2,g3,g5,jG (by simpa using g4)]; rfl
  exact i2 j (by omega)
 have g1:i=s.k.C.length:=by have:=dF g1; omega
 subst g1
 exact r1B rfl (by rw[eD]; symm; rw[jC]; exact fun j hj=>i2 j (kI.1 hj))
def tinB (s:Svc):Bool:=decide ((s.c.M.G.length:Int)<=200) && (decide (s.c.M.W<=12) && (decide (s.c.M.H<=12) && (decide ((s.c.T.length:Int)<=4) && (decide ((s.c.Z.length:Int)<=4) && (decide ((s.k.C.length:Int)<=4) && decide ((s.k.K.length:Int)<=8))))))
theorem zqJ (s:Svc):Spec PP 4 [s.v] [B (tinB s)]:=by
 refine sA Tryz.func4 ?_
 unfold tinB
 apply bY <;> intro h
 rotate_left
 ·repeat first | apply sT | apply sF
  exact r1B rfl (by rw[show decide ((s.c.M.G.length:Int)<=200)=false from h]; rfl)
 rw[show decide ((s.c.M.G.length:Int)<=200)=true from h,kN]
 clear h
 repeat first | apply sT | apply sF
 apply bY <;> intro h
 rotate_left
 ·repeat first | apply sT | apply sF
  exact r1B rfl (by rw[show decide (s.c.M.W<=12)=false from h]; rfl)
 rw[show decide (s.c.M.W<=12)=true from h,kN]
 clear h
 repeat first | apply sT | apply sF
 apply bY <;> intro h
 rotate_left
 ·repeat first | apply sT | apply sF
  exact r1B rfl (by rw[show decide (s.c.M.H<=12)=false from h]; rfl)
 rw[show decide (s.c.M.H<=12)=true from h,kN]
 clear h
 repeat first | apply sT | apply sF
 apply bY <;> intro h
 rotate_left
 ·repeat first | apply sT | apply sF
  exact r1B rfl (by rw[show decide ((s.c.T.length:Int)<=4)=false from h]; rfl)
 rw[show decide ((s.c.T.length:Int)<=4)=true from h,kN]
 clear h
 repeat first | apply sT | apply sF
 apply bY <;> intro h
 rotate_left
 ·repeat first | apply sT | apply sF
  exact r1B rfl (by rw[show decide ((s.c.Z.length:Int)<=4)=false from h]; rfl)
 rw[show decide ((s.c.Z.length:Int)<=4)=true from h,kN]
 clear h
 repeat first | apply sT | apply sF
 apply bY <;> intro h
 rotate_left
 ·repeat first | apply sT | apply sF
  exact r1B rfl (by rw[show decide ((s.k.C.length:Int)<=4)=false from h]; rfl)
 rw[show decide ((s.k.C.length:Int)<=4)=true from h,kN]
 clear h
 repeat first | apply sT | apply sF
 exact r1B rfl rfl
def inB (s:Svc) (ps:List Place) (a n:Nat):Bool:=decide (a<ps.length) && decide (ps.getD a default=plc s.c.M n)
def outB (s:Svc) (rs:List Rsn) (w n:Nat):Bool:=decide (w<rs.length) && decide ((rs.getD w default).At=plc s.c.M n)
def rptI (l:List Rpt) (id:Int):Int:=idxL (fun r=>r.ID==id) l
def cks (s:Svc) (l:List Rpt) (L:List (Nat->Bool)) (ps:List Place) (rs:List Rsn) (n:Nat) (q:Nat × Nat):Option (Nat × Nat):=
 if inB s ps q.1 n=outB s rs q.2 n then none
 else if inB s ps q.1 n=true then (if 0<=fstI L n then none else some (q.1+1,q.2))
 else if rptI l (rs.getD q.2 default).R<0 \/ L.getD (rptI l (rs.getD q.2 default).R).toNat default n=true then none else some (q.1,q.2+1)
def ckR (s:Svc) (l:List Rpt) (L:List (Nat->Bool)) (ps:List Place) (rs:List Rsn):Nat->Option (Nat × Nat)
 | 0=>some (0,0)
 | n+1=>(ckR s l L ps rs n).bind (cks s l L ps rs n)
def ckE (s:Svc) (l:List Rpt) (L:List (Nat->Bool)) (ps:List Place) (rs:List Rsn):Bool:=
 match ckR s l L ps rs s.n with
 | none=>false
 | some q=>decide (ps.length<=q.1) && decide (rs.length<=q.2)
theorem zlE {s:Svc} {l:List Rpt} {L:List (Nat->Bool)} {ps:List Place} {rs:List Rsn}:∀ {n:Nat} {q:Nat × Nat},ckR s l L ps rs n=some q->q.1<=n/\q.2<=n/\q.1<=ps.length/\q.2<=rs.length
 | 0,q,h=>by
  have:q=(0,0):=(qM h).symm
  subst this; exact⟨jE _,jE _,jF _,jF _⟩
 | n+1,q,h=>by
  have h:(ckR s l L ps rs n).bind (cks s l L ps rs n)=some q:=h
  cases hc:ckR s l L ps rs n with
  | none=>rw[hc] at h; cases h
  | some p=>
  rw[hc] at h
  have h:cks s l L ps rs n p=some q:=h
  obtain⟨h1,h2,h3,h4⟩:=zlE hc
  unfold cks at h
  split at h
  ·cases h
  rename_i g1
  split at h
  ·rename_i g2
   split at h
   ·cases h
   have e:=(qM h).symm
   subst e
   have:p.1<ps.length:=by
    unfold inB at g2
    rw[jP,kJ] at g2
    exact g2.1
   exact⟨by dsimp only; omega,by dsimp only; omega,this,h4⟩
  rename_i g2
  split at h
  ·cases h
  have e:=(qM h).symm
  subst e
  have g2:inB s ps p.1 n=false:=by simpa using g2
  have:outB s rs p.2 n=true:=by
   cases ho:outB s rs p.2 n with
   | true=>rfl
   | false=>rw[g2,ho] at g1; exact absurd rfl g1
  unfold outB at this
  rw[jP,kJ] at this
  exact⟨by dsimp only; omega,by dsimp only; omega,h3,this.1⟩
theorem zgK {s:Svc} {b:Brn} {l:List Rpt} {ps:List Place} {rs:List Rsn}:∀ {n:Nat} {q:Nat × Nat},n<=s.n->ckR s l (l.map (alwP s b)) ps rs n=some q->ps.take q.1=plsK s.c.M (metP (l.map (alwP s b))) n
 | 0,q,_,h=>by
  have:q=(0,0):=(qM h).symm
  subst this; rfl
 | n+1,q,hn,h=>by
  have h:(ckR s l (l.map (alwP s b)) ps rs n).bind (cks s l (l.map (alwP s b)) ps rs n)=some q:=h
  cases hc:ckR s l (l.map (alwP s b)) ps rs n with
  | none=>rw[hc] at h; cases h
  | some p=>
  rw[hc] at h
  have h:cks s l (l.map (alwP s b)) ps rs n p=some q:=h
  have ih:=zgK (by omega) hc
  unfold cks at h
  split at h
  ·cases h
  rename_i g1
  split at h
  ·rename_i g2
   split at h
   ·cases h
   rename_i g3
   have e:=(qM h).symm
   subst e
   unfold inB at g2
   rw[jP,kJ,kJ] at g2
   have hm:metP (l.map (alwP s b)) n=true:=by
    rw[zfy]
    intro P hP
    cases hh:P n with
    | true=>rfl
    | false=>
    have:(l.map (alwP s b)).any (fun P=>!P n)=true:=kL.2 ⟨P,hP,by rw[hh]; rfl⟩
    exact absurd ((za0 (fun P:Nat->Bool=>!P n) (l.map (alwP s b)) default).2 this) g3
   rw[zdr hm,zay g2.1 default,ih,g2.2]
  rename_i g2
  split at h
  ·cases h
  rename_i g3
  have e:=(qM h).symm
  subst e
  have g3:¬ rptI l (rs.getD p.2 default).R<0 /\ ¬ (l.map (alwP s b)).getD (rptI l (rs.getD p.2 default).R).toNat default n=true:=⟨fun hh=>g3 (.inl hh),fun hh=>g3 (.inr hh)⟩
  have hm:metP (l.map (alwP s b)) n=false:=by
   cases hh:metP (l.map (alwP s b)) n with
   | false=>rfl
   | true=>
   rcases idxL_cases (fun r:Rpt=>r.ID==(rs.getD p.2 default).R) l default with⟨e,-⟩ | ⟨i,hi,e,-,-⟩
   ·exact absurd (show rptI l (rs.getD p.2 default).R<0 by unfold rptI; rw[e]; decide) g3.1
   have e:rptI l (rs.getD p.2 default).R=(i:Int):=e
   have:=zfy.1 hh _ (gd1 (l:=l.map (alwP s b)) (i:=i) (by rw[kU]; exact hi) default)
   exact absurd (by rw[e]; exact this) g3.2
  rw[zfr hm]; exact ih
theorem znP {s:Svc} {b:Brn} {l:List Rpt} {ps:List Place} {rs:List Rsn} (h:ckE s l (l.map (alwP s b)) ps rs=true):ps=plsL s.c.M (metP (l.map (alwP s b))):=by
 unfold ckE at h
 split at h
 ·cases h
 rename_i q hq
 rw[jP,kJ] at h
 have:=zgK (jE _) hq
 rw[List.take_of_length_le h.1] at this
 exact this
theorem zkr {m:Mp} {i j:Nat} (hw:0<m.w) (h:plc m i=plc m j):i=j:=by
 unfold plc at h
 have h1:((i % m.w:Nat):Int)=((j % m.w:Nat):Int):=jI Place.X h
 have h2:((i / m.w:Nat):Int)=((j / m.w:Nat):Int):=jI Place.Y h
 have a:=jaY i m.w
 have c:=jaY j m.w
 rw[show i / m.w=j / m.w by omega,show i % m.w=j % m.w by omega] at a
 omega
theorem zhy {P:Nat->Bool} {k n:Nat} (h:k<n):((List.range n).filter P)[((List.range k).filter P).length]?=if P k=true then some k else (((List.range' (k+1) (n - (k+1))).filter P)[0]?):=by
 have e:List.range n=List.range k++(k :: List.range' (k+1) (n - (k+1))):=by
  rw[List.range_eq_range',List.range_eq_range',show n=k+((n - (k+1))+1) by omega,<- List.range'_append_1,qH,show k+(n - (k+1)+1) - (k+1)=n - (k+1) by omega]; rfl
 rw[e,qA,jK (jE _),kE]
 split
 ·rename_i hP; rw[qN hP]; rfl
 rename_i hP; rw[qO hP]
theorem zgC {P:Nat->Bool} {k n:Nat} (h:k<n) (hP:P k=false) {j:Nat} (hj:((List.range n).filter P)[((List.range k).filter P).length]?=some j):k<j:=by
 rw[zhy h,kG (by rw[hP]; decide)] at hj
 have:=qD hj
 have:=(kW.1 this).1
 rw[List.mem_range'_1] at this
 omega
theorem zlD {s:Svc} {b:Brn} {l:List Rpt} (h:givE s b l=0):∀ n,n<=s.n->ckR s l (l.map (alwP s b)) (plsL s.c.M (metP (l.map (alwP s b)))) (rsnK s l (l.map (alwP s b)) s.n) n=some ((plsK s.c.M (metP (l.map (alwP s b))) n).length,(rsnK s l (l.map (alwP s b)) n).length)
 | 0,_=>rfl
 | n+1,hn=>by
  have ih:=zlD h n (by omega)
  obtain⟨bw,bh,-,-⟩:=zag (zde h).s.c.m
  have hw:0<s.c.M.w:=by show 0<s.c.M.W.toNat; omega
  have ok:=zrL (zde h)
  obtain⟨L,hL⟩:∃ L,L=l.map (alwP s b):=⟨_,rfl⟩
  rw[<- hL] at ih ⊢
  have hLl:L.length=l.length:=by rw[hL]; exact kU _
  have hn':n<s.c.M.w * s.c.M.h:=hn
  have hq:fstI L n<0 ↔ metP L n=true:=by
   have h1:=za0 (fun P:Nat->Bool=>!P n) L default
   rw[zfy]
   constructor
   ·intro g P hP
    cases hh:P n with
    | true=>rfl
    | false=>
    have:=h1.2 (kL.2 ⟨P,hP,by rw[hh]; rfl⟩)
    have:0<=fstI L n:=this
    omega
   intro g
   refine jL fun q=>?_
   obtain⟨P,hP,e⟩:=kL.1 (h1.1 (show 0<=fstI L n by omega))
   rw[g P hP] at e; cases e
  show (ckR s l L (plsL s.c.M (metP L)) (rsnK s l L s.n) n).bind _=_
  rw[ih]
  show cks s l L (plsL s.c.M (metP L)) (rsnK s l L s.n) n ((plsK s.c.M (metP L) n).length,(rsnK s l L n).length)=_
  have gp:(plsL s.c.M (metP L))[(plsK s.c.M (metP L) n).length]?=(((List.range s.n).filter (metP L))[((List.range n).filter (metP L)).length]?).map (plc s.c.M):=by
   unfold plsL plsK
   rw[jU,kU]
  have gr:(rsnK s l L s.n)[(rsnK s l L n).length]?=(((List.range s.n).filter fun n=>decide (0<=fstI L n))[((List.range n).filter fun n=>decide (0<=fstI L n)).length]?).map (rsnA s l L):=by
   unfold rsnK
   rw[jU,kU]
  cases hm:metP L n with
  | true=>
   have hf:=hq.2 hm
   have hi:inB s (plsL s.c.M (metP L)) (plsK s.c.M (metP L) n).length n=true:=by
    rw[zhy hn',kH hm] at gp
    have hlt:(plsK s.c.M (metP L) n).length<(plsL s.c.M (metP L)).length:=by
     rcases jaA (plsK s.c.M (metP L) n).length (plsL s.c.M (metP L)).length with g | g
     ·exact g
     rw[qU g] at gp; cases gp
    unfold inB
    rw[jG hlt,hU,gp]
    exact jG rfl
   have ho:outB s (rsnK s l L s.n) (rsnK s l L n).length n=false:=by
    cases hh:outB s (rsnK s l L s.n) (rsnK s l L n).length n with
    | false=>rfl
    | true=>
    unfold outB at hh
    rw[jP,kJ,kJ] at hh
    rw[kF hh.1] at gr
    cases hg:((List.range s.n).filter fun n=>decide (0<=fstI L n))[((List.range n).filter fun n=>decide (0<=fstI L n)).length]? with
    | none=>rw[hg] at gr; cases gr
    | some j=>
    rw[hg] at gr
    have hj:=zgC (P:=fun n=>decide (0<=fstI L n)) hn' (jH (by omega)) hg
    have e1:(rsnK s l L s.n).getD (rsnK s l L n).length default=rsnA s l L j:=by
     rw[hU,kF hh.1]; exact qM gr
    rw[e1] at hh
    have:=zkr hw (show plc s.c.M j=plc s.c.M n from hh.2)
    omega
   unfold cks
   dsimp only
   rw[hi,ho,kG (by decide),kH rfl,kG (by omega),zdr hm,zkd (by omega)]
   simp
  | false=>
  have hf:0<=fstI L n:=by
   refine jL fun g=>?_
   rw[hq.1 (by omega)] at hm; cases hm
  have hi:inB s (plsL s.c.M (metP L)) (plsK s.c.M (metP L) n).length n=false:=by
   cases hh:inB s (plsL s.c.M (metP L)) (plsK s.c.M (metP L) n).length n with
   | false=>rfl
   | true=>
   unfold inB at hh
   rw[jP,kJ,kJ] at hh
   rw[kF hh.1] at gp
   cases hg:((List.range s.n).filter (metP L))[((List.range n).filter (metP L)).length]? with
   | none=>rw[hg] at gp; cases gp
   | some j=>
   rw[hg] at gp
   have hj:=zgC hn' hm hg
   have e1:(plsL s.c.M (metP L)).getD (plsK s.c.M (metP L) n).length default=plc s.c.M j:=by
    rw[hU,kF hh.1]; exact qM gp
   rw[e1] at hh
   have:=zkr hw hh.2
   omega
  rw[zhy (P:=fun n=>decide (0<=fstI L n)) hn',kH (jG hf)] at gr
  have hlt:(rsnK s l L n).length<(rsnK s l L s.n).length:=by
   rcases jaA (rsnK s l L n).length (rsnK s l L s.n).length with g | g
   ·exact g
   rw[qU g] at gr; cases gr
  have e1:(rsnK s l L s.n).getD (rsnK s l L n).length default=rsnA s l L n:=by
   rw[hU,gr]; rfl
  have ho:outB s (rsnK s l L s.n) (rsnK s l L n).length n=true:=by
   unfold outB
   rw[jG hlt,e1]
   exact jG rfl
  have hfl:=zlq hf
  have hri:rptI l (l.getD (fstI L n).toNat default).ID=fstI L n:=by
   have:=zaj (p:=fun r:Rpt=>r.ID==(l.getD (fstI L n).toNat default).ID) (l:=l) (i:=(fstI L n).toNat) default (by omega) (by simp) fun j hj=>by
    have:(l.getD j default).ID≠(l.getD (fstI L n).toNat default).ID:=fun q=>by
     have:=ok.d j (fstI L n).toNat (by omega) (by omega) q
     omega
    simpa using this
   unfold rptI
   rw[this]; omega
  have hno:L.getD (fstI L n).toNat default n=false:=by
   rcases idxL_cases (fun P:Nat->Bool=>!P n) L default with⟨e,-⟩ | ⟨i,hi,e,hp,-⟩
   ·have:fstI L n = -1:=e
    omega
   have e:fstI L n=(i:Int):=e
   rw[e]
   simpa using hp
  unfold cks
  dsimp only
  rw[hi,ho,kG (by decide),kG (by decide),e1]
  show (if rptI l (l.getD (fstI L n).toNat default).ID<0 \/ L.getD (rptI l (l.getD (fstI L n).toNat default).ID).toNat default n=true then none else _)=_
  rw[hri,kG (by rw[hno]; simp; omega),zfr hm,zh6 hf]
  simp
theorem zhD {s:Svc} {b:Brn} {l:List Rpt} (h:givE s b l=0):ckE s l (l.map (alwP s b)) (plsL s.c.M (metP (l.map (alwP s b)))) (rsnK s l (l.map (alwP s b)) s.n)=true:=by
 unfold ckE
 rw[zlD h s.n (jE _)]
 show (decide ((plsL s.c.M (metP (l.map (alwP s b)))).length<=(plsL s.c.M (metP (l.map (alwP s b)))).length) && decide ((rsnK s l (l.map (alwP s b)) s.n).length<=(rsnK s l (l.map (alwP s b)) s.n).length))=true
 rw[jG (jE _),jG (jE _)]; rfl
end Go.Pg
namespace Go.Pg
open Go.Proofs Go.RowKit Go.Sort Go.Shelf
section
variable {s:St} {o:Oper} {fo:Operand} {f:FuncId} {K:St->Prop} {E:Env}
theorem CallSt.lend (ids:List Nat) {args:Array Operand} {at':Array TypeId} (hop:o.op = .call { callee:=.value fo,args,argTypes:=at' }) {xs ys res:List V1} (h:SpecG E.dr PP f ys res) (hx:toV1c (s.freezes ids) fo args.toList=some (f,xs)) (he:eqV1s xs ys)
  (hr:res.all V1.flat=true) (hk:K (s.putO o.dst (resAV res))):CallSt E PP s o fo args.toList K:=by
 obtain⟨ex,h1,h2⟩:=zaP hx
 rw[zaf]
 refine .inr (.inr (.inl ⟨_,⟨fun cx a w hD hd hR=>?_⟩,hk⟩))
 obtain⟨γ,hg⟩:=hR
 obtain⟨γ',h'⟩:=R.freezes ids ⟨γ,hg⟩
 obtain⟨cvs,hcx,hcm⟩:=za5 h1 (ev_m h' fo).1
 have hm:=(zbt h' h2 ((zbH h' args.toList).append hcm)).1
 refine .enter (zaF hop hcx h.1) ?_
 refine ((h.eqv he).2 w _ _ (fun b hb=>hb) hm).mono fun en w' ⟨v,e,hb,hres⟩=>⟨v,e,γ,?_⟩
 exact (hg.grow hb.1 fun e=>hb.2 (hD e)).putO hd (zaS (.inr hr) hres) (fun j hj=>by rw[zav] at hj; cases hj)
end
theorem CodeOb.rangeC (ids:List Nat) {K:KK} {s:St} {fo:Operand} {ps:Array Tmp} {asg body:Code} {g m:Nat} {cap:Nat->D} {τ:Type} {enc:τ->List V1} {xs:List τ} (hseq:SeqC PP g m cap enc xs) (hc:callee (ev s fo)=some (g,(List.range m).map fun j=>AV.d (cap j)))
  (hps:∀ x,(enc x).length=ps.size) (hnd:ps.toList.Nodup)
  (sl:List (Nat × AV)) (rc:List (Nat × Nat)) (ob:List τ->List (Nat × Ob)) (hsl:okSl sl=true) (hob:∀ pre,okOb sl rc (ob pre)=true) (hw:Weak s sl (ob []))
  {Iv:List τ->Prop} (hI0:Iv [])
  (hbody:∀ (v:Nat->Value) pre x,pre ++ [x] <+: xs->Iv pre->awp PP TTab (EC ids) asg (St.of (psl ps.toList (enc x)++pinS v sl) (ob pre)) (Ka PP TTab (EC ids) K sl rc v ob Iv body pre x))
  (hend:Iv xs->K .normal (St.of sl (ob xs))):CodeOb (EC ids).dr (EC ids).it PP (.rangeFunc fo ps asg body) s K:=
 CodeOb.range (E:=EC ids) hT hE hM hseq hc hps hnd sl rc ob hsl hob hw hI0 hbody hend
theorem zok (l:List Rpt) (g:FuncId) (c0:D) (p:Rpt->Bool) (hn:l.length<=1000000) (hp:∀ i,i<l.length->Spec PP g [(l.getD i default).v,.d c0] [B (p (l.getD i default))]):Spec PP 146 [.d (lR l),.d (cloB g [c0])] [N (idxL p l)]:=by
 refine sA Tryz.func146 ?_
 refine lOf (σ:=Nat) (fun i=>([(0,.d (lR l)),(1,.d (cloB g [c0])),(6,.d (lR l)),(7,.d (I l.length)),(8,.d (I i))],[])) (fun i=>i<=l.length /\ ∀ j,j<i->p (l.getD j default)=false) (fun i=>l.length - i) 0
  ⟨rfl,trivial,wq rfl⟩ z0L fun i hi=>?_
 obtain⟨hi,ha⟩:=hi
 apply bY <;> intro h1
 ·have h1:i<l.length:=by have:=dT h1; omega
  refine⟨⟨rfl,by omega,by omega⟩,?_⟩
  refine cP (hp i h1) rfl rfl ?_
  apply bY <;> intro h2
  ·refine r1I rfl ?_
   exact (zaj default h1 h2 ha).symm
  refine⟨i6,?_⟩
  refine⟨i+1,⟨rfl,trivial,wq rfl⟩,⟨h1,fun j hj=>?_⟩,(msr (by omega))⟩
  by_cases e:j=i
  ·subst e; exact h2
  exact ha j (by omega)
 have h1:i=l.length:=by have:=dF h1; omega
 subst h1
 refine r1I rfl ?_
 exact (zam default ha).symm
theorem zpm (l:List Rpt) (g:FuncId) (c0 c1:D) (p:Rpt->Bool) (hn:l.length<=1000000) (hp:∀ i,i<l.length->Spec PP g [(l.getD i default).v,.d c0,.d c1] [B (p (l.getD i default))]):Spec PP 146 [.d (lR l),.d (cloB g [c0,c1])] [N (idxL p l)]:=by
 refine sA Tryz.func146 ?_
 refine lOf (σ:=Nat) (fun i=>([(0,.d (lR l)),(1,.d (cloB g [c0,c1])),(6,.d (lR l)),(7,.d (I l.length)),(8,.d (I i))],[])) (fun i=>i<=l.length /\ ∀ j,j<i->p (l.getD j default)=false) (fun i=>l.length - i) 0
  ⟨rfl,trivial,wq rfl⟩ z0L fun i hi=>?_
 obtain⟨hi,ha⟩:=hi
 apply bY <;> intro h1
 ·have h1:i<l.length:=by have:=dT h1; omega
  refine⟨⟨rfl,by omega,by omega⟩,?_⟩
  refine cP (hp i h1) rfl rfl ?_
  apply bY <;> intro h2
  ·refine r1I rfl ?_
   exact (zaj default h1 h2 ha).symm
  refine⟨i6,?_⟩
  refine⟨i+1,⟨rfl,trivial,wq rfl⟩,⟨h1,fun j hj=>?_⟩,(msr (by omega))⟩
  by_cases e:j=i
  ·subst e; exact h2
  exact ha j (by omega)
 have h1:i=l.length:=by have:=dF h1; omega
 subst h1
 refine r1I rfl ?_
 exact (zam default ha).symm
theorem zgp (r:Rpt) (rs:List Rsn) (w:Nat) (hw:w<rs.length):Spec PP 179 [r.v,.d (capB [lRs rs]),.d (capB [I (w:Int)])] [B (r.ID==(rs.getD w default).R)]:=by
 refine sA Tryz.func179 ?_
 refine oN 9 ?_
 refine⟨⟨rfl,by omega,by omega⟩,?_⟩
 exact r1B rfl rfl
theorem ziV {s:Svc} {l:List Rpt} {L:List (Nat->Bool)} {ps:List Place} {rs:List Rsn} {n:Nat} (h:ckR s l L ps rs n=none):∀ m,n<=m->ckR s l L ps rs m=none
 | 0,hm=>by
  have:n=0:=by omega
  rw[this] at h; exact h
 | m+1,hm=>by
  by_cases e:n=m+1
  ·rw[<- e]; exact h
  have:=ziV h m (by omega)
  show (ckR s l L ps rs m).bind _=none
  rw[this]; rfl
def ckQ (s:Svc) (l:List Rpt) (L:List (Nat->Bool)) (ps:List Place) (rs:List Rsn) (n:Nat):Nat × Nat:=(ckR s l L ps rs n).getD (0,0)
def chkR (s:Svc) (b:Brn) (l:List Rpt) (ps:List Place) (rs:List Rsn):Int:=if givE s b l≠0 then givE s b l else if ckE s l (l.map (alwP s b)) ps rs=true then 0 else 8
def obCk (s:Svc) (l:List Rpt) (L:List (Nat->Bool)) (ps:List Place) (rs:List Rsn) (e:Int) (q:Nat × Nat):List (Nat × Ob):=
 [(7,.box [.d (lR l)]),(8,.box [.d (lP ps)]),(9,.box [.d (lRs rs)]),(10,.box [.d (I e)]),(11,.box [.d (lB L)]),(13,.box [.d (I (q.1:Int))]),(14,.box [.d (I (q.2:Int))])]
structure Key (G:Prop):Prop where
  out:G
theorem two_ {G T:Prop} (h:Key G->T) (g:G):T:=h ⟨g⟩
section
variable {s:Svc} {l:List Rpt} {L:List (Nat->Bool)} {ps:List Place} {rs:List Rsn} {n:Nat} {q:Nat × Nat}
theorem ck_no (hq:ckR s l L ps rs n=some q) (hn:n<s.n) (h:cks s l L ps rs n q=none):ckE s l L ps rs=false:=by
 have h1:ckR s l L ps rs (n+1)=none:=by
  show (ckR s l L ps rs n).bind _=none
  rw[hq]; exact h
 unfold ckE
 rw[ziV h1 s.n (by omega)]
theorem zr4 {q':Nat × Nat} (hq:ckR s l L ps rs n=some q) (h:cks s l L ps rs n q=some q'):ckR s l L ps rs (n+1)=some q':=by
 show (ckR s l L ps rs n).bind _=_
 rw[hq]; exact h
theorem zr3 (h:inB s ps q.1 n=outB s rs q.2 n):cks s l L ps rs n q=none:=by unfold cks; rw[kH h]
theorem zr2 (h1:inB s ps q.1 n=true) (h2:outB s rs q.2 n=false):cks s l L ps rs n q=if 0<=fstI L n then none else some (q.1+1,q.2):=by
 unfold cks; rw[kG (by rw[h1,h2]; decide),kH h1]
theorem zqm (h1:inB s ps q.1 n=false) (h2:outB s rs q.2 n=true):cks s l L ps rs n q=if rptI l (rs.getD q.2 default).R<0 \/ L.getD (rptI l (rs.getD q.2 default).R).toNat default n=true then none else some (q.1,q.2+1):=by
 unfold cks; rw[kG (by rw[h1,h2]; decide),kG (by rw[h1]; decide)]
theorem zpJ (h:outB s rs q.2 n=true):q.2<rs.length:=by
 unfold outB at h
 rw[jP,kJ] at h
 exact h.1
end
theorem zpt {l:List Rpt} {id:Int} (h:¬ rptI l id<0):(rptI l id).toNat<l.length/\0<=rptI l id:=by
 rcases idxL_cases (fun r:Rpt=>r.ID==id) l default with⟨h1,_⟩ | ⟨i,h1,h2,_⟩
 ·exact absurd (show rptI l id<0 by unfold rptI; rw[h1]; decide) h
 unfold rptI; rw[h2]; exact⟨h1,by omega⟩
theorem zr7 (x y:D) {f:Nat->D} (h0:f 0 = .ptr 1 (getD' [x])) (h1:f 1 = .ptr 1 (getD' [y])):∀ j,j<2->D.eqv (f j) (getD' [capB [x],capB [y]] j)
 | 0,_=>by rw[h0]; exact dE _
 | 1,_=>by rw[h1]; exact dE _
abbrev ckSl:List (Nat × AV):=[(7,.box 7 0),(8,.box 8 0),(9,.box 9 0),(10,.box 10 0),(11,.box 11 0),(13,.box 13 0),(14,.box 14 0)]
abbrev ckP (s:Svc) (n:Nat):List (Nat × Ob):=[(16,.box [.d (I (plc s.c.M n).X),.d (I (plc s.c.M n).Y)])]
theorem zhn (s:Svc) (b:Brn) (l:List Rpt) (ps:List Place) (rs:List Rsn) (hp:ps.length<=1000000) (hr:rs.length<=1000000):Spec PP 116 [s.v,b.v,.d (lR l),.d (lP ps),.d (lRs rs)] [.d (.int .i64 (chkR s b l ps rs))]:=by
 refine za3 [9,14] Tryz.func116 rfl (by kernel_rfl) rfl ?_
 refine cR (zpS s b l) rfl rfl ?_
 by_cases h0:givE s b l=0
 ·have e:allR s b l=(l.map (alwP s b),0):=by unfold allR; rw[kG (fun hh=>hh h0)]
  have e1:chkR s b l ps rs=if ckE s l (l.map (alwP s b)) ps rs=true then 0 else 8:=by unfold chkR; rw[kG (fun hh=>hh h0)]
  have ok:=zde h0
  have hn:=ok.n
  have hL:(l.map (alwP s b)).length=l.length:=kU _
  have hl:=zbv ok.s.c.m
  rw[e,e1]
  generalize l.map (alwP s b)=L at hL
  refine sF ?_
  refine cR (zfC s.c.M) rfl rfl ?_
  refine CodeOb.rangeC [9,14] (zdA s.c.M ok.s.c.m) rfl (fun _=>rfl) (by decide) ckSl []
   (fun pre=>obCk s l L ps rs 0 (ckQ s l L ps rs pre.length)) rfl (fun _=>rfl) ?_ (Iv:=fun pre=>ckR s l L ps rs pre.length=some (ckQ s l L ps rs pre.length)) rfl (fun v pre x hx hI=>?_) (fun hI=>?_)
  ·exact⟨rfl,⟨obX rfl,obX rfl,obX rfl,obX rfl,obX rfl,obX rfl,obX rfl,trivial⟩,wq rfl⟩
  ·obtain⟨rfl,hk⟩:=zh1 hx
   have hnn:=zco ok.s.c.m (k:=pre.length)
   obtain⟨q,hq⟩:∃ q,ckQ s l L ps rs pre.length=q:=⟨_,rfl⟩
   have hle:=zlE hI
   have hpl:(pre ++ [(pre.length / s.c.M.w,pre.length % s.c.M.w)]).length=pre.length+1:=by simp
   rw[hq] at hI hle ⊢
   have nx:∀ q',cks s l L ps rs pre.length q=some q'->ckR s l L ps rs (pre ++ [(pre.length / s.c.M.w,pre.length % s.c.M.w)]).length=some (ckQ s l L ps rs (pre ++ [(pre.length / s.c.M.w,pre.length % s.c.M.w)]).length)/\ckQ s l L ps rs (pre ++ [(pre.length / s.c.M.w,pre.length % s.c.M.w)]).length=q':=fun q' h=>by
    have h1:=zr4 hI h
    rw[hpl]
    have h2:ckQ s l L ps rs (pre.length+1)=q':=by unfold ckQ; rw[h1]; rfl
    exact⟨by rw[h1,h2],h2⟩
   have stop:cks s l L ps rs pre.length q=none->(8:Int)=if ckE s l L ps rs=true then 0 else 8:=fun h=>by rw[kG (by rw[ck_no hI hk h]; decide)]
   refine oN 13 ?_
   apply two_
   ·intro key
    apply bY <;> intro h1
    ·have h1:q.1<ps.length:=by have:=dT h1; omega
     refine⟨⟨rfl,by omega,by omega⟩,?_⟩
     repeat first | apply sT | apply sF
     refine kAt (pinS v ckSl ++ [(15,.d (I pre.length)),(16,.box 16 0),(17,.d (.bool (inB s ps q.1 pre.length)))]) (obCk s l L ps rs 0 q++ckP s pre.length) ?_ ?_
     refine⟨rfl,⟨obX rfl,obX rfl,obX rfl,obX rfl,obX rfl,obX rfl,obX rfl,obX rfl,trivial⟩,avQ rfl,avQ rfl,avQ rfl,avQ rfl,avQ rfl,avQ rfl,avQ rfl,avI rfl hnn,avQ rfl,avE rfl ?_,trivial⟩
     ·refine D.eqv_of_eq (jI D.bool ?_)
      unfold inB
      rw[jG h1,kN]
      exact eqPW (ps.getD q.1 default) (plc s.c.M pre.length)
     exact key.out
    have h1:¬ q.1<ps.length:=by have:=dF h1; omega
    repeat first | apply sT | apply sF
    refine kAt (pinS v ckSl ++ [(15,.d (I pre.length)),(16,.box 16 0),(17,.d (.bool (inB s ps q.1 pre.length)))]) (obCk s l L ps rs 0 q++ckP s pre.length) ?_ ?_
    refine⟨rfl,⟨obX rfl,obX rfl,obX rfl,obX rfl,obX rfl,obX rfl,obX rfl,obX rfl,trivial⟩,avQ rfl,avQ rfl,avQ rfl,avQ rfl,avQ rfl,avQ rfl,avQ rfl,avI rfl hnn,avQ rfl,avE rfl ?_,trivial⟩
    ·refine D.eqv_of_eq (jI D.bool ?_)
     unfold inB
     rw[jH h1]; rfl
    exact key.out
   refine oN 14 ?_
   apply two_
   ·intro key
    apply bY <;> intro h1
    ·have h1:q.2<rs.length:=by have:=dT h1; omega
     refine⟨⟨rfl,by omega,by omega⟩,?_⟩
     repeat first | apply sT | apply sF
     refine kAt (pinS v ckSl ++ [(15,.d (I pre.length)),(16,.box 16 0),(17,.d (.bool (inB s ps q.1 pre.length))),(18,.d (.bool (outB s rs q.2 pre.length)))]) (obCk s l L ps rs 0 q++ckP s pre.length) ?_ ?_
     refine⟨rfl,⟨obX rfl,obX rfl,obX rfl,obX rfl,obX rfl,obX rfl,obX rfl,obX rfl,trivial⟩,avQ rfl,avQ rfl,avQ rfl,avQ rfl,avQ rfl,avQ rfl,avQ rfl,avR _ rfl,avQ rfl,avR _ rfl,avE rfl ?_,trivial⟩
     ·refine D.eqv_of_eq (jI D.bool ?_)
      unfold outB
      rw[jG h1,kN]
      exact eqPW (rs.getD q.2 default).At (plc s.c.M pre.length)
     exact key.out
    have h1:¬ q.2<rs.length:=by have:=dF h1; omega
    repeat first | apply sT | apply sF
    refine kAt (pinS v ckSl ++ [(15,.d (I pre.length)),(16,.box 16 0),(17,.d (.bool (inB s ps q.1 pre.length))),(18,.d (.bool (outB s rs q.2 pre.length)))]) (obCk s l L ps rs 0 q++ckP s pre.length) ?_ ?_
    refine⟨rfl,⟨obX rfl,obX rfl,obX rfl,obX rfl,obX rfl,obX rfl,obX rfl,obX rfl,trivial⟩,avQ rfl,avQ rfl,avQ rfl,avQ rfl,avQ rfl,avQ rfl,avQ rfl,avR _ rfl,avQ rfl,avR _ rfl,avE rfl ?_,trivial⟩
    ·refine D.eqv_of_eq (jI D.bool ?_)
     unfold outB
     rw[jH h1]; rfl
    exact key.out
   have fail:cks s l L ps rs pre.length q=none->_:=fun h=>stop h
   apply bY <;> intro h1
   ·have h1:inB s ps q.1 pre.length=outB s rs q.2 pre.length:=by simpa using h1
    refine⟨obCk s l L ps rs 8 q,rfl,⟨rfl,⟨obX rfl,obX rfl,obX rfl,obX rfl,obX rfl,obX rfl,obX rfl,trivial⟩,wq rfl⟩,?_⟩
    exact r1CD rfl rfl rfl rfl rfl ⟨rfl,stop (zr3 h1)⟩
   have h1:inB s ps q.1 pre.length≠outB s rs q.2 pre.length:=by simpa using h1
   apply bY <;> intro h2
   ·have h2:inB s ps q.1 pre.length=true:=h2
    have h3:outB s rs q.2 pre.length=false:=by
     cases ho:outB s rs q.2 pre.length with
     | false=>rfl
     | true=>rw[h2,ho] at h1; exact absurd rfl h1
    have hc:=zr2 h2 h3 (l:=l) (L:=L)
    refine⟨i6,?_⟩
    refine cP (zk4 L pre.length pre.length rfl (by omega) (by omega)) rfl rfl ?_
    apply bY <;> intro h4
    ·have h4:0<=fstI L pre.length:=dT h4
     refine⟨obCk s l L ps rs 8 (q.1+1,q.2),rfl,⟨rfl,⟨obX rfl,obX rfl,obX rfl,obX rfl,obX rfl,obX rfl,obX rfl,trivial⟩,wq rfl⟩,?_⟩
     exact r1CD rfl rfl rfl rfl rfl ⟨rfl,stop (by rw[hc,kH h4])⟩
    have h4:¬ 0<=fstI L pre.length:=dF h4
    obtain⟨n1,n2⟩:=nx _ (by rw[hc,kG h4])
    exact⟨n1,rfl,⟨obX rfl,obX rfl,obX rfl,obX rfl,obX rfl,obX (by rw[n2]; rfl),obX (by rw[n2]; rfl),trivial⟩,wq rfl⟩
   have h2:inB s ps q.1 pre.length=false:=h2
   have h3:outB s rs q.2 pre.length=true:=by
    cases ho:outB s rs q.2 pre.length with
    | true=>rfl
    | false=>rw[h2,ho] at h1; exact absurd rfl h1
   have hc:=zqm h2 h3 (l:=l) (L:=L)
   have hw:=zpJ h3
   refine CallSt.lend [9,14] rfl (zpm l 179 (capB [lRs rs]) (capB [I (q.2:Int)]) (fun r=>r.ID==(rs.getD q.2 default).R) (by omega) (fun i hi=>zgp _ rs q.2 hw)) rfl ⟨dE _,⟨rfl,rfl,zr7 _ _ rfl rfl⟩,trivial⟩ rfl ?_
   apply bY <;> intro h4
   ·have h4:rptI l (rs.getD q.2 default).R<0:=dT h4
    repeat first | apply sT | apply sF
    refine⟨obCk s l L ps rs 8 q,rfl,⟨rfl,⟨obX rfl,obX rfl,obX rfl,obX rfl,obX rfl,obX rfl,obX rfl,trivial⟩,wq rfl⟩,?_⟩
    exact r1CD rfl rfl rfl rfl rfl ⟨rfl,stop (by rw[hc,kH (.inl h4)])⟩
   have h4:¬ rptI l (rs.getD q.2 default).R<0:=dF h4
   obtain⟨h5,h6⟩:=zpt h4
   have h7:(rptI l (rs.getD q.2 default).R).toNat<L.length:=by omega
   have hh:=zpQ (L.getD (rptI l (rs.getD q.2 default).R).toNat default) pre.length (by omega)
   refine⟨⟨rfl,h6,by show rptI l (rs.getD q.2 default).R<(L.length:Int); omega⟩,?_⟩
   refine cP hh rfl rfl ?_
   repeat first | apply sT | apply sF
   apply bY <;> intro h8
   ·have h8:L.getD (rptI l (rs.getD q.2 default).R).toNat default pre.length=true:=h8
    refine⟨obCk s l L ps rs 8 q,rfl,⟨rfl,⟨obX rfl,obX rfl,obX rfl,obX rfl,obX rfl,obX rfl,obX rfl,trivial⟩,wq rfl⟩,?_⟩
    exact r1CD rfl rfl rfl rfl rfl ⟨rfl,stop (by rw[hc,kH (.inr h8)])⟩
   have h8:L.getD (rptI l (rs.getD q.2 default).R).toNat default pre.length=false:=h8
   obtain⟨n1,n2⟩:=nx _ (by rw[hc,kG (fun h=>h.elim h4 (fun g=>by rw[h8] at g; cases g))])
   refine⟨i6,?_⟩
   exact⟨n1,rfl,⟨obX rfl,obX rfl,obX rfl,obX rfl,obX rfl,obX (by rw[n2]; rfl),obX (by rw[n2]; rfl),trivial⟩,wq rfl⟩
  rw[zcR] at hI ⊢
  obtain⟨q,hq⟩:∃ q,ckQ s l L ps rs (s.c.M.w * s.c.M.h)=q:=⟨_,rfl⟩
  rw[hq] at hI ⊢
  have hle:=zlE hI
  have ee:ckE s l L ps rs=(decide (ps.length<=q.1) && decide (rs.length<=q.2)):=by unfold ckE; rw[show ckR s l L ps rs s.n=some q from hI]
  apply bY <;> intro h1
  ·have h1:q.1<ps.length:=by have:=dT h1; omega
   repeat first | apply sT | apply sF
   exact r1CD rfl rfl rfl rfl rfl ⟨rfl,by rw[ee,jH (show ¬ ps.length<=q.1 by omega),kZ,kG (by decide)]⟩
  have h1:¬ q.1<ps.length:=by have:=dF h1; omega
  repeat first | apply sT | apply sF
  apply bY <;> intro h2
  ·have h2:q.2<rs.length:=by have:=dT h2; omega
   exact r1CD rfl rfl rfl rfl rfl ⟨rfl,by rw[ee,jH (show ¬ rs.length<=q.2 by omega),qP,kG (by decide)]⟩
  have h2:¬ q.2<rs.length:=by have:=dF h2; omega
  exact r1CD rfl rfl rfl rfl rfl ⟨rfl,by rw[ee,jG (show ps.length<=q.1 by omega),jG (show rs.length<=q.2 by omega)]; rfl⟩
 have e:allR s b l=([],givE s b l):=by unfold allR; rw[kH h0]
 have e1:chkR s b l ps rs=givE s b l:=by unfold chkR; rw[kH h0]
 rw[e,e1]
 refine sYe (by simpa using h0) ?_
 exact r1CD rfl rfl rfl rfl rfl (dE _)
abbrev rowRp (l:List Rpt):Nat->Nat->D:=fun i=>(l.getD i default).at
theorem zq7 {vs:List Rpt} {p:Rpt} {g:Nat->Nat->D} (hg:∀ j,j<8->D.eqv (g 0 j) (p.at j)):D.eqv (.slc 8 (vs.length+1) (appRow vs.length (rowRp vs) g)) (.slc 8 (vs ++ [p]).length (rowRp (vs ++ [p]))):=by
 refine⟨by simp,.inr ⟨rfl,fun i hi j hj=>?_⟩⟩
 show D.eqv (appRow vs.length (rowRp vs) g i j) (((vs ++ [p]).getD i default).at j)
 unfold appRow
 by_cases h:i<vs.length
 ·rw[kH h,hU,jJ h,<- hU]
  exact dE _
 have e:i=vs.length:=by omega
 subst e
 rw[kG h,kE,hU,jK (jE _),kE]
 exact hg j hj
theorem zqK (l:List Rpt) (g:FuncId) (c0:D) (p:Rpt->Bool) (hn:l.length<=1000000) (hp:∀ i,i<l.length->Spec PP g [(l.getD i default).v,.d c0] [B (p (l.getD i default))]):Spec PP 95 [.d (lR l),.d (cloB g [c0])] [B (l.any p)]:=by
 refine sA Tryz.func95 ?_
 refine cP (zok l g c0 p hn hp) rfl rfl ?_
 refine r1B rfl ?_
 rw[kO,kJ]
 exact za0 p l default
theorem zm6 (l:List Rpt) (hn:l.length<=1000000):SpecO PP 106 [.d (lR l)] 101 8 l.length (rowRp l):=by
 refine zh0 Tryz.func106 rfl (by kernel_rfl) rfl ?_
 refine fun b hb=>?_
 apply bY <;> intro h1
 ·have h0:=hb h1
  refine⟨rfl,rfl,h0.symm,fun i hi=>?_⟩
  omega
 refine⟨⟨.inr rfl,by unfold maxLen; omega,by show (0+l.length) * 64<=140737488355328; omega⟩,?_⟩
 refine⟨rfl,rfl,qH _,fun i hi j hj=>?_⟩
 exact dE _
theorem zoM (l:List Rpt) (m j:Nat):(rowRp l m j).flat=true:=by
 show ((l.getD m default).at j).flat=true
 unfold Rpt.at
 split <;> rfl
theorem zqY (l:List Int) (x:Int) (hn:l.length<=1000000):Spec PP 120 [.d (lI l),N x] [N (idxL (· == x) l)]:=by
 refine sA Tryz.func120 ?_
 refine lOf (σ:=Nat) (fun i=>([(0,.d (lI l)),(1,.d (I x)),(6,.d (lI l)),(7,.d (I l.length)),(8,.d (I i))],[])) (fun i=>i<=l.length /\ ∀ j,j<i->(l.getD j 0==x)=false) (fun i=>l.length - i) 0
  ⟨rfl,trivial,wq rfl⟩ z0L fun i hi=>?_
 obtain⟨hi,ha⟩:=hi
 apply bY <;> intro h1
 ·have h1:i<l.length:=by have:=dT h1; omega
  refine⟨⟨rfl,by omega,by omega⟩,?_⟩
  apply bY <;> intro h2
  ·have h2:(l.getD i 0==x)=true:=by rw[BEq.comm]; exact h2
   refine r1I rfl ?_
   exact (zaj 0 h1 h2 ha).symm
  have h2:(l.getD i 0==x)=false:=by rw[BEq.comm]; exact h2
  refine⟨i6,?_⟩
  refine⟨i+1,⟨rfl,trivial,wq rfl⟩,⟨h1,fun j hj=>?_⟩,(msr (by omega))⟩
  by_cases e:j=i
  ·subst e; exact h2
  exact ha j (by omega)
 have h1:i=l.length:=by have:=dF h1; omega
 subst h1
 refine r1I rfl ?_
 exact (zam 0 ha).symm
theorem zqD (l:List Int) (x:Int):l.any (· == x)=l.contains x:=by
 rw[kO,kL,kD]
 exact⟨fun⟨y,hy,e⟩=>by rw[<- eq_of_beq e]; exact hy,fun h=>⟨x,h,by simp⟩⟩
theorem zc7 (l:List Int) (x:Int) (hn:l.length<=1000000):Spec PP 62 [.d (lI l),N x] [B (l.contains x)]:=by
 refine sA Tryz.func62 ?_
 refine cP (zqY l x hn) rfl rfl ?_
 refine r1B rfl ?_
 rw[kO,kJ,<- zqD]
 exact za0 (· == x) l 0
theorem zpn (l:List Int) (g:FuncId) (c0:D) (p:Int->Bool) (hn:l.length<=1000000) (hp:∀ i,i<l.length->Spec PP g [N (l.getD i 0),.d c0] [B (p (l.getD i 0))]):Spec PP 180 [.d (lI l),.d (cloB g [c0])] [N (idxL p l)]:=by
 refine sA Tryz.func180 ?_
 refine lOf (σ:=Nat) (fun i=>([(0,.d (lI l)),(1,.d (cloB g [c0])),(6,.d (lI l)),(7,.d (I l.length)),(8,.d (I i))],[])) (fun i=>i<=l.length /\ ∀ j,j<i->p (l.getD j 0)=false) (fun i=>l.length - i) 0
  ⟨rfl,trivial,wq rfl⟩ z0L fun i hi=>?_
 obtain⟨hi,ha⟩:=hi
 apply bY <;> intro h1
 ·have h1:i<l.length:=by have:=dT h1; omega
  refine⟨⟨rfl,by omega,by omega⟩,?_⟩
  refine cP (hp i h1) rfl rfl ?_
  apply bY <;> intro h2
  ·refine r1I rfl ?_
   exact (zaj 0 h1 h2 ha).symm
  refine⟨i6,?_⟩
  refine⟨i+1,⟨rfl,trivial,wq rfl⟩,⟨h1,fun j hj=>?_⟩,(msr (by omega))⟩
  by_cases e:j=i
  ·subst e; exact h2
  exact ha j (by omega)
 have h1:i=l.length:=by have:=dF h1; omega
 subst h1
 refine r1I rfl ?_
 exact (zam 0 ha).symm
theorem zpq (l:List Int) (g:FuncId) (c0:D) (p:Int->Bool) (hn:l.length<=1000000) (hp:∀ i,i<l.length->Spec PP g [N (l.getD i 0),.d c0] [B (p (l.getD i 0))]):Spec PP 118 [.d (lI l),.d (cloB g [c0])] [B (l.any p)]:=by
 refine sA Tryz.func118 ?_
 refine cP (zpn l g c0 p hn hp) rfl rfl ?_
 refine r1B rfl ?_
 rw[kO,kJ]
 exact za0 p l 0
abbrev lII (l:List (List Int)):D:=.slc 1 l.length fun i _=>lI (l.getD i [])
theorem zmK (l:List (List Int)) (g:FuncId) (c0 c1:D) (p:List Int->Bool) (hn:l.length<=1000000) (hp:∀ i,i<l.length->Spec PP g [.d (lI (l.getD i [])),.d c0,.d c1] [B (p (l.getD i []))]):Spec PP 100 [.d (lII l),.d (cloB g [c0,c1])] [N (idxL p l)]:=by
 refine sA Tryz.func100 ?_
 refine lOf (σ:=Nat) (fun i=>([(0,.d (lII l)),(1,.d (cloB g [c0,c1])),(6,.d (lII l)),(7,.d (I l.length)),(8,.d (I i))],[])) (fun i=>i<=l.length /\ ∀ j,j<i->p (l.getD j [])=false) (fun i=>l.length - i) 0
  ⟨rfl,trivial,wq rfl⟩ z0L fun i hi=>?_
 obtain⟨hi,ha⟩:=hi
 apply bY <;> intro h1
 ·have h1:i<l.length:=by have:=dT h1; omega
  refine⟨⟨rfl,by omega,by omega⟩,?_⟩
  refine cP (hp i h1) rfl rfl ?_
  apply bY <;> intro h2
  ·refine r1I rfl ?_
   exact (zaj [] h1 h2 ha).symm
  refine⟨i6,?_⟩
  refine⟨i+1,⟨rfl,trivial,wq rfl⟩,⟨h1,fun j hj=>?_⟩,(msr (by omega))⟩
  by_cases e:j=i
  ·subst e; exact h2
  exact ha j (by omega)
 have h1:i=l.length:=by have:=dF h1; omega
 subst h1
 refine r1I rfl ?_
 exact (zam [] ha).symm
theorem zmL (l:List (List Int)) (g:FuncId) (c0 c1:D) (p:List Int->Bool) (hn:l.length<=1000000) (hp:∀ i,i<l.length->Spec PP g [.d (lI (l.getD i [])),.d c0,.d c1] [B (p (l.getD i []))]):Spec PP 36 [.d (lII l),.d (cloB g [c0,c1])] [B (l.any p)]:=by
 refine sA Tryz.func36 ?_
 refine cP (zmK l g c0 c1 p hn hp) rfl rfl ?_
 refine r1B rfl ?_
 rw[kO,kJ]
 exact za0 p l []
@[irreducible] def filR (p:Rpt->Bool) (l:List Rpt) (j:Nat):List Rpt:=(l.take j).filter fun r=>!p r
theorem zcG (p:Rpt->Bool) (l:List Rpt) {j:Nat} (hj:j<l.length):filR p l (j+1)=filR p l j++(if p (l.getD j default)=true then [] else [l.getD j default]):=by
 unfold filR
 rw[zay hj default,qA]
 congr 1
 by_cases h:p (l.getD j default)=true
 ·rw[kH h,qO (by rw[h]; decide)]; rfl
 rw[kG h,qN (by rw[qF.2 h]; rfl)]; rfl
theorem ziO (p:Rpt->Bool) (l:List Rpt) {j:Nat} (hj:j<=l.length) (h:∀ i,i<j->p (l.getD i default)=false):filR p l j=l.take j:=by
 induction j with
 | zero=>unfold filR; simp
 | succ j ih=>rw[zcG p l (by omega),kG (by rw[h j (by omega)]; decide),ih (by omega) fun i hi=>h i (by omega),zay (by omega) default]
structure Day where
  s:Svc
  Rise:Int
  Long:Int
  R:List Rpt
  deriving Inhabited
abbrev Day.ds (d:Day):List D:=[I d.s.c.M.W,I d.s.c.M.H,lI d.s.c.M.G,lT d.s.c.T,lZ d.s.c.Z,lC d.s.k.C,lK d.s.k.K,I d.Rise,I d.Long,lR d.R]
abbrev Day.v (d:Day):V1:=.agg d.ds
theorem ziE (n lo hi:Int):Spec PP 94 [N n,N lo,N hi] [B (within n lo hi)]:=by
 refine sA Tryz.func94 ?_
 unfold within
 apply bY <;> intro h1
 ·repeat first | apply sT | apply sF
  exact r1B rfl (by rw[h1,kN])
 repeat first | apply sT | apply sF
 exact r1B rfl (by rw[h1,kZ])
def isSg (r:Rpt):Bool:=r.Kind==1
def sigK (l:List Rpt):List Int:=(l.filter isSg).map Rpt.ID
def sigL (l:List Rpt):List Int:=(sigK l).mergeSort fun x y=>decide (x<=y)
theorem zmG {l:List Rpt} {i:Nat} (h:i<l.length) (h1:isSg (l.getD i default)=true):sigK (l.take (i+1))=sigK (l.take i) ++ [(l.getD i default).ID]:=by
 unfold sigK
 rw[zay h default,qA,qN h1,jT]; rfl
theorem zpg {l:List Rpt} {i:Nat} (h:i<l.length) (h1:isSg (l.getD i default)=false):sigK (l.take (i+1))=sigK (l.take i):=by
 unfold sigK
 rw[zay h default,qA,qO (by rw[h1]; decide)]; simp
theorem zdp (l:List Rpt):(sigK l).length<=l.length:=by unfold sigK; rw[kU]; exact jaq _ _
theorem zcp (l:List Rpt):(sigL l).length=(sigK l).length:=kY _
theorem zar (d:Day) (hn:d.R.length<=1000000):Spec PP 33 [d.v] [.d (lI (sigL d.R))]:=by
 refine sA Tryz.func33 ?_
 refine lOf (σ:=Nat) (fun i=>([(3,.own 3),(7,.d (lR d.R)),(8,.d (I d.R.length)),(9,.d (I i))],[(3,.row 3 1 (sigK (d.R.take i)).length (rowI (sigK (d.R.take i))))])) (fun i=>i<=d.R.length) (fun i=>d.R.length - i) 0
  ⟨rfl,⟨obR rfl ⟨rfl,.inl rfl⟩,trivial⟩,wq rfl⟩ (jF _) fun i hi=>?_
 have hi:i<=d.R.length:=hi
 have hl:=zdp (d.R.take i)
 rw[jQ] at hl
 apply bY <;> intro h1
 ·have h1:i<d.R.length:=by have:=dT h1; omega
  refine⟨⟨rfl,by omega,by omega⟩,?_⟩
  apply bY <;> intro h2
  ·refine⟨⟨.inr rfl,by unfold maxLen; omega,by show ((sigK (d.R.take i)).length+1) * 8<=140737488355328; omega⟩,?_⟩
   refine⟨i6,?_⟩
   refine⟨i+1,⟨rfl,⟨obR rfl ?_,trivial⟩,wq rfl⟩,h1,msr h1⟩
   rw[zmG h1 h2]
   exact zra rfl
  refine⟨i6,?_⟩
  refine⟨i+1,⟨rfl,⟨obR rfl ?_,trivial⟩,wq rfl⟩,h1,msr h1⟩
  rw[zpg h1 h2]
  exact dE _
 have h1:i=d.R.length:=by have:=dF h1; omega
 subst h1
 rw[jZ] at hl ⊢
 refine CallSt.rw' rfl (zid (sigK d.R) (by omega)) ⟨⟨[],.tmp 22,[],[],rfl,rfl,rfl,rfl,rfl,rfl,rfl⟩⟩ rfl ?_
 exact⟨⟨_,_,_,_,rfl,(zcp d.R).symm,.inr ⟨rfl,fun i _ j _=>dE _⟩⟩,trivial⟩
def risB (l:List Int):Bool:=(List.range (l.length - 1)).all fun i=>decide (l.getD i 0<l.getD (i+1) 0)
def setB (l:List Int):Bool:=risB l && decide (0<l.length)
theorem zfG (l:List Int) (hn:l.length<=1000000):Spec PP 99 [.d (lI l)] [B (setB l)]:=by
 refine sA Tryz.func99 ?_
 refine lOf (σ:=Nat) (fun i=>([(0,.d (lI l)),(3,.d (I i))],[])) (fun i=>1<=i /\ ∀ j,j+1<i->j+1<l.length->l.getD j 0<l.getD (j+1) 0) (fun i=>l.length - i) 1
  ⟨rfl,trivial,wq rfl⟩ ⟨jE _,fun j hj=>by omega⟩ fun i hi=>?_
 obtain⟨hi,ha⟩:=hi
 apply bY <;> intro h1
 ·have h1:i<l.length:=by have:=dT h1; omega
  refine oN 10 ?_
  refine⟨⟨rfl,by omega,by omega⟩,?_⟩
  refine⟨i6,?_⟩
  refine⟨⟨rfl,by omega,by omega⟩,?_⟩
  have e:((i:Int) - 1).toNat=i - 1:=by omega
  apply bY <;> intro h2
  ·have h2:=dT h2
   rw[e,jar] at h2
   refine r1B rfl ?_
   symm
   unfold setB risB
   rw[Bool.and_eq_false_iff]; left
   rw[qF]
   intro h
   have:=jC.1 h (i - 1) (kI.2 (by omega))
   rw[show i - 1+1=i by omega] at this
   have:=kQ this
   omega
  have h2:=dF h2
  rw[e,jar] at h2
  refine⟨i6,?_⟩
  refine⟨i+1,⟨rfl,trivial,wq rfl⟩,⟨by omega,fun j hj hl=>?_⟩,msr h1⟩
  by_cases ej:j+1=i
  ·have:j=i - 1:=by omega
   subst this
   rw[show i - 1+1=i by omega]
   omega
  exact ha j (by omega) hl
 have h1:l.length<=i:=by have:=dF h1; omega
 refine r1B rfl ?_
 unfold setB
 have:risB l=true:=jC.2 fun j hj=>by
  have:=kI.1 hj
  exact jG (ha j (by omega) (by omega))
 rw[this,kN]
 exact wF.2 (by omega)
def partB (a b:List Int):Bool:=a.all fun x=>b.contains x
theorem zpW (x:Int) (b:List Int) (hn:b.length<=1000000):Spec PP 119 [N x,.d (capB [lI b])] [B (!b.contains x)]:=by
 refine sA Tryz.func119 ?_
 refine cP (zc7 b x hn) rfl rfl ?_
 exact r1B rfl rfl
theorem zeW (a b:List Int) (ha:a.length<=1000000) (hb:b.length<=1000000):Spec PP 61 [.d (lI a),.d (lI b)] [B (partB a b)]:=by
 refine sA Tryz.func61 ?_
 refine fEq [3] (zpq a 119 (capB [lI b]) (fun x=>!b.contains x) ha fun i _=>zpW _ b hb) rfl ⟨dE _,⟨rfl,rfl,fun j hj=>by obtain rfl:j=0:=jab.1 hj; exact dE _⟩,trivial⟩ rfl ?_
 refine r1B rfl ?_
 unfold partB
 rw[kO,jY,wI,jC]
 simp
end Go.Pg
