/- Lemmas, joined by program. -/
import Derived.Test.YtpkmlacgjfhdkaaGreatAD
import Derived.Shelf.SlLaysE0
import Derived.Shelf.RegionOpenPlain
import Derived.WalkKit
import Derived.Deep.LoopGhost
import Derived.Deep.RegionLaw
import Derived.Lib.Walk
import Derived.Sort.WalkB12
import Derived.Lib.SliceRun
import Derived.Lib.SlicesDelete
set_option maxHeartbeats 4000000
set_option linter.all false
namespace Go.Pg
open Go.Proofs Go.RowKit
theorem zcO {s:Svc} {b:Brn} {l:List Rpt} {q:Place} (hq:q∈(plcR s b l).1):givE s b l=0/\on q=true/\onM s.c.M q=true /\ ∀ r∈l,allB s b r q=true:=by
 have h1:=zkA (s:=s) (b:=b) (l:=l) q hq
 unfold plcR at hq
 split at hq
 ·cases hq
 rename_i h
 have h:=jL h
 have ok:=zco h
 refine⟨h,h1,zn9 ok.s.c.m q hq,fun r hr=>?_⟩
 unfold plsL plsK at hq
 obtain⟨n,hn,rfl⟩:=kI.1 hq
 have hp:=(qC.1 hn).2
 unfold metP at hp
 have:=jC.1 hp _ (kI.2 ⟨r,hr,rfl⟩)
 have e:alwP s b r n=(decide (n<s.n) && allB s b r (plc s.c.M n)):=rfl
 rw[e,jP] at this
 exact this.2
theorem zkb {r:Rpt} (h:frmB r=true):1<=r.Slack:=by
 unfold frmB at h
 simp only[jP,jY] at h
 have h2:=h.1
 unfold frmC at h2
 simp only[kU,kY] at h2
 exact (zaa.1 h2.2).1
theorem zh8 {s:Svc} {b:Brn} {r:Rpt} {q:Place} (h:rptE s r=0) (hk:r.Kind=1) (hq:allB s b r q=true):halvesB (wdgR s.k (rdgO r)).1 (towG s.c.T r.Tower).1.At=true/\liesW (wdgR s.k (rdgO r)).1 (towG s.c.T r.Tower).1.At q=true:=by
 have hl:liesW (wdgR s.k (rdgO r)).1 (towG s.c.T r.Tower).1.At q=true:=by
  unfold allB at hq
  rw[kG hk] at hq
  unfold seenB secR at hq
  rw[kG hk] at hq
  simp only[jP] at hq
  exact hq.1.2
 refine⟨?_,hl⟩
 obtain⟨f1,f2,f3,f4⟩:=zbQ h
 have hw:=zqK h hk
 have hs:=zkb f1
 have hz:=zow f4
 have h2:=hl
 unfold liesW at h2
 simp only[jP] at h2
 have hv:=h2.1.1.1
 have ha:=h2.1.1.2.1
 unfold halvesB
 rw[hv,ha,qJ,jaP,kM]
 have e:(wdgR s.k (rdgO r)).1=wdg (r.From - r.Slack - (zerR s.k r.C r.Tick).1.Hi) (2 * r.Slack+(zerR s.k r.C r.Tick).1.Hi - (zerR s.k r.C r.Tick).1.Lo)/\2 * r.Slack+(zerR s.k r.C r.Tick).1.Hi - (zerR s.k r.C r.Tick).1.Lo<=900:=by
  unfold wdgR at hw ⊢
  split at hw
  ·rename_i g; exact absurd hw g
  rename_i g1
  split at hw
  ·rename_i g; exact absurd hw g
  rename_i g2
  split at hw
  ·cases hw
  rename_i g3
  rw[kF g1,kF g2,kF g3]
  refine⟨rfl,?_⟩
  have g3:¬ 900<2 * r.Slack+(zerR s.k r.C r.Tick).1.Hi - (zerR s.k r.C r.Tick).1.Lo:=g3
  omega
 rw[e.1,zdR (by unfold wdg; dsimp only; omega) (by unfold wdg; dsimp only; omega)]
 have:=e.2
 unfold wdg; dsimp only; omega
theorem zlg {s:Svc} {l:List Rpt} {h:Half}:h∈hvL s l ↔ ∃ r∈l,r.Kind=1/\(h=(hvO s r).1 \/ h=(hvO s r).2):=by
 unfold hvL isSg
 simp only[List.mem_flatMap,qC,qP,kL,qQ,jaM]
 constructor
 ·rintro⟨r,⟨h1,h2⟩,h3⟩; exact⟨r,h1,h2,h3⟩
 rintro⟨r,h1,h2,h3⟩; exact⟨r,⟨h1,h2⟩,h3⟩
theorem zoj {s:Svc} {r:Rpt} (h:halvesB (wdgR s.k (rdgO r)).1 (towG s.c.T r.Tower).1.At=true):hvO s r=(hvA (wdgR s.k (rdgO r)).1 (towG s.c.T r.Tower).1.At,hvB (wdgR s.k (rdgO r)).1 (towG s.c.T r.Tower).1.At):=by
 unfold hvO halvesW; rw[kG h]
theorem zok {s:Svc} {b:Brn} {l:List Rpt} {q:Place} (hq:q∈(plcR s b l).1) (hn:l.length<=20):checkL (hvL s l)=0:=by
 obtain⟨h0,h1,_,h2⟩:=zcO hq
 have hr:=(zbE.1 h0).2.2.2.1
 unfold checkL
 rw[kF (by have:=zhA s l; omega),kG]
 rw[jC]
 intro h hh
 obtain⟨r,m1,m2,m3⟩:=zlg.1 hh
 obtain⟨k1,_⟩:=zh8 (hr r m1) m2 (h2 r m1)
 rw[zoj k1] at m3
 rcases m3 with rfl | rfl
 ·exact (zon k1).1
 exact (zon k1).2
theorem zlh {s:Svc} {b:Brn} {l:List Rpt} {q:Place} (hq:q∈(plcR s b l).1):Fe (hsL (hvL s l)) (co q):=fun h hh=>by
 obtain⟨h0,h1,_,h2⟩:=zcO hq
 have hr:=(zbE.1 h0).2.2.2.1
 rcases qD.1 hh with hh | hh
 ·obtain⟨r,m1,m2,m3⟩:=zlg.1 hh
  obtain⟨k1,k2⟩:=zh8 (hr r m1) m2 (h2 r m1)
  rw[zoj k1] at m3
  have:=(zre k1 h1).2 (by rw[k2,qO])
  rcases m3 with rfl | rfl
  ·exact this.1
  exact this.2
 exact zoL h1 h hh
theorem zlq {L:List Half} {q:Place} (hc:checkL L=0) (hq:on q=true) (h:Fe (hsL L) (co q)):(allowsE L (ofP q)).2=true:=by
 have ho:=(zaS L (co q)).2 h
 unfold allowsE
 rw[kG ⟨hc,zkO hq⟩,zq6 hq,ho]
 rfl
theorem bst_mem {fx fy:Int}:∀ (l:List Place) (p:Place),bstP fx fy l p=p \/ bstP fx fy l p∈l
 | [],p=>.inl rfl
 | x :: r,p=>by
  show bstP fx fy r (if valP fx fy p<valP fx fy x then x else p)=p \/ bstP fx fy r (if valP fx fy p<valP fx fy x then x else p)∈x :: r
  rcases bst_mem (fx:=fx) (fy:=fy) r (if valP fx fy p<valP fx fy x then x else p) with h | h
  ·rw[h]
   split
   ·exact .inr (by simp)
   exact .inl rfl
  exact .inr (kO _ h)
theorem zoc {s:Svc} {b:Brn} {l:List Rpt} {fx fy:Int} {q:Place} (hq:q∈(plcR s b l).1):(slope fx fy=false->(mstR s b l fx fy).2.2=1)/\(slope fx fy=true->(mstR s b l fx fy).2.2=0/\(mstR s b l fx fy).2.1∈(plcR s b l).1/\(mstR s b l fx fy).1=valP fx fy (mstR s b l fx fy).2.1):=by
 obtain⟨h0,-⟩:=zcO hq
 have eg:=znm s b l
 rw[h0] at eg
 have sl:slope fx fy=(within fx (-1000) 1000 && within fy (-1000) 1000):=by unfold slope; rfl
 have ne:(plcR s b l).1.length≠0:=fun h=>by rw[jav.1 h] at hq; cases hq
 have m0:(plcR s b l).1.getD 0 default∈(plcR s b l).1:=gd1 (by omega) default
 rw[sl]
 constructor
 ·intro h
  unfold mstR
  rw[kF (fun hh=>hh eg),kG h]
 intro h
 have e:mstR s b l fx fy=(valP fx fy (bstP fx fy (plcR s b l).1 ((plcR s b l).1.getD 0 default)),bstP fx fy (plcR s b l).1 ((plcR s b l).1.getD 0 default),0):=by
  unfold mstR; rw[kF (fun hh=>hh eg),kF (by rw[h]; decide),kF ne]
 rw[e]
 refine⟨rfl,?_,rfl⟩
 dsimp only
 rcases bst_mem (fx:=fx) (fy:=fy) (plcR s b l).1 ((plcR s b l).1.getD 0 default) with g | g
 ·rw[g]; exact m0
 exact g
theorem zoi {s:Svc} {b:Brn} {l:List Rpt} (h0:givE s b l=0) (hn:l.length<=20):hvsR s b l=((hvL s l,hvI l),0):=by
 have:=zhA s l
 unfold hvsR
 rw[kF (fun hh=>hh h0),kF (by omega)]
theorem znP {s:Svc} {b:Brn} {l:List Rpt} {fx fy:Int} {q:Place} (hq:q∈(plcR s b l).1) (hn:l.length<=20):(mstR s b l fx fy).2.2=(bndR s b l ⟨fx,fy⟩).2/\((bndR s b l ⟨fx,fy⟩).2=0->(mstR s b l fx fy).2.1∈(plcR s b l).1/\(1<=(bndR s b l ⟨fx,fy⟩).1.V.Den/\(bndR s b l ⟨fx,fy⟩).1.V.Den<=2097152)/\(-96000<=(mstR s b l fx fy).1/\(mstR s b l fx fy).1<=96000)/\(mstR s b l fx fy).1 * (bndR s b l ⟨fx,fy⟩).1.V.Den<=(bndR s b l ⟨fx,fy⟩).1.V.Num/\cbE (hvL s l) ⟨fx,fy⟩ (bndR s b l ⟨fx,fy⟩).1=0):=by
 obtain⟨h0,-⟩:=zcO hq
 have e:=zoi h0 hn
 have ck:=zok hq hn
 have eb:bndR s b l ⟨fx,fy⟩=bestE (hvL s l) ⟨fx,fy⟩:=by unfold bndR; rw[e,kF (fun hh=>hh rfl)]
 obtain⟨m1,m2⟩:=zoc (fx:=fx) (fy:=fy) hq
 rw[eb]
 have c0:cornersL (hvL s l) ≠ []:=fun h=>(zob ck).1 h (co q) ⟨Int.zero_lt_one,zlh hq⟩
 by_cases hs:slope fx fy=true
 ·obtain⟨b0,b1⟩:=m2 hs
  obtain⟨v,ev,_⟩:=zi1 ck c0 (f:=⟨fx,fy⟩) hs
  have z:(bestE (hvL s l) ⟨fx,fy⟩).2=0:=by rw[ev]
  refine⟨by rw[b0,z],fun _=>?_⟩
  obtain⟨q1,q2⟩:=b1
  obtain⟨_,p1,_,_⟩:=zcO q1
  obtain⟨px,py⟩:=za9.1 p1
  generalize hP:(mstR s b l fx fy).2.1=P at *
  have hin:inP (allL (hvL s l)) P.X.toNat P.Y.toNat=true:=by
   unfold inP
   rw[qP,zaS]
   have e1:(⟨((P.X.toNat:Nat):Int),((P.Y.toNat:Nat):Int),1⟩:Corner)=co P:=by
    unfold co
    rw[show ((P.X.toNat:Nat):Int)=P.X by omega,show ((P.Y.toNat:Nat):Int)=P.Y by omega]
   rw[e1]
   exact zlh q1
  obtain⟨s1,s2,s3⟩:=zjF (f:=⟨fx,fy⟩) ck z hin
  rw[show ((P.X.toNat:Nat):Int)=P.X by omega,show ((P.Y.toNat:Nat):Int)=P.Y by omega] at s3
  have bx:=hs
  unfold slope at bx
  simp only[jP,zaa] at bx
  have m1:=mulB (a:=fx) (b:=P.X) (x:=1000) (y:=48) (by omega) (by omega)
  have m2:=mulB (a:=fy) (b:=P.Y) (x:=1000) (y:=48) (by omega) (by omega)
  refine⟨q1,s2,?_,?_,zp8 z⟩
  ·rw[q2]; unfold valP; omega
  rw[q2]; unfold valP; exact Int.not_lt.1 s3
 have hs:slope fx fy=false:=by simpa using hs
 refine⟨by rw[m1 hs,zcQ ck hs],fun h=>?_⟩
 rw[zcQ ck (f:=⟨fx,fy⟩) hs] at h
 cases h
theorem ziF {v m:Int} {a p:Place} (hm:0<=m/\m<=900) (ha:on a=true) (hp:on p=true) (hne:a≠p):liesW (wdg v m) a p=decide (((bear a p).1 - v * (bear a p).2) % (3600 * (bear a p).2)<=m * (bear a p).2):=by
 have o1:openW (wdg v m)=m:=by
  rw[zdR (by unfold wdg; dsimp only; omega) (by unfold wdg; dsimp only; omega)]
  unfold wdg; dsimp only; omega
 unfold liesW
 have hv:validW (wdg v m)=true:=by unfold validW; rw[o1]; exact zaa.2 hm
 rw[hv,ha,hp,jH hne,o1]
 generalize (bear a p).1=n
 generalize (bear a p).2=d
 have e1:(n - (wdg v m).F * d) % (3600 * d)=(n - v * d) % (3600 * d):=by
  have:(wdg v m).F=v - 3600 * (v / 3600):=by unfold wdg; dsimp only; omega
  rw[this]
  have e:n - (v - 3600 * (v / 3600)) * d=(n - v * d)+v / 3600 * (3600 * d):=by grind
  rw[e,Int.add_mul_emod_self_right]
 rw[e1]; simp
theorem zlM {m d:Int} (hd:0<d):m <= -(-m / d) * d:=by
 have h:=Int.ediv_mul_le (-m) (show d≠0 by omega)
 rw[Int.neg_mul]; omega
theorem zp2 {m d:Int} (hd:0<d):-(-m / d) * d<m+d:=by
 have h:=Int.lt_ediv_add_one_mul_self (-m) hd
 rw[Int.add_mul] at h
 rw[Int.neg_mul]; omega
theorem zju {m d:Int} (hd:0<d):m / d * d<=m:=Int.ediv_mul_le m (show d≠0 by omega)
theorem znu {m d:Int} (hd:0<d):m<m / d * d+d:=by
 have h:=Int.lt_ediv_add_one_mul_self m hd
 rw[Int.add_mul] at h; omega
theorem zh9 {a p:Place} {z sl:Int} (h:shwB a p z sl=true):(on a=true/\on p=true/\a≠p)/\(1<=sl/\sl<=100) /\
  ((bear a p).1+(z - sl) * (bear a p).2<=(shwS a p z sl).Lo * (bear a p).2/\(shwS a p z sl).Hi * (bear a p).2<=(bear a p).1+(z+sl) * (bear a p).2)/\(shwS a p z sl).Lo<=(shwS a p z sl).Hi:=by
 have e:shwS a p z sl=⟨-(-((bear a p).1+(z - sl) * (bear a p).2) / (bear a p).2),((bear a p).1+(z+sl) * (bear a p).2) / (bear a p).2⟩:=by unfold shwS; rw[kG h]
 unfold shwB at h
 simp only[jP,jY,qB,zaa] at h
 obtain⟨⟨⟨⟨h1,h2⟩,h3⟩,h4⟩,h5⟩:=h
 obtain⟨⟨d1,d2⟩,n1,n2⟩:=zbM h1 h2 h3
 rw[e]
 dsimp only
 generalize (bear a p).1=n at *
 generalize (bear a p).2=d at *
 have u1:=zlM (m:=n+(z - sl) * d) d1
 have u2:=zp2 (m:=n+(z - sl) * d) d1
 have u3:=zju (m:=n+(z+sl) * d) d1
 have u4:=znu (m:=n+(z+sl) * d) d1
 refine⟨⟨h1,h2,h3⟩,h5,⟨u1,u3⟩,?_⟩
 generalize -(-(n+(z - sl) * d) / d)=A at *
 generalize (n+(z+sl) * d) / d=B at *
 refine Int.not_lt.1 fun g=>?_
 have g2:=jV (show B+1<=A by omega) (kQ d1)
 have g3:=jV (show 1<=sl by omega) (kQ d1)
 rw[Int.add_mul] at g2
 rw[jaE] at u2
 rw[Int.add_mul] at u4
 omega
theorem zjb {a p:Place} {z sl f:Int} (h:shwB a p z sl=true) (hf:(f - (shwS a p z sl).Lo) % 3600<=(shwS a p z sl).Hi - (shwS a p z sl).Lo):liesW (wdg (f - sl - z) (2 * sl)) a p=true:=by
 obtain⟨⟨h1,h2,h3⟩,h4,⟨h5,h6⟩,h7⟩:=zh9 h
 obtain⟨⟨d1,d2⟩,n1,n2⟩:=zbM h1 h2 h3
 rw[ziF (by omega) h1 h2 h3,kM]
 generalize (shwS a p z sl).Lo=L at *
 generalize (shwS a p z sl).Hi=H at *
 generalize (bear a p).1=n at *
 generalize (bear a p).2=d at *
 obtain⟨q,hq⟩:∃ q:Int,f - 3600 * q=L+(f - L) % 3600:=⟨(f - L) / 3600,by omega⟩
 have e0:=Int.emod_nonneg (f - L) (show (3600:Int)≠0 by decide)
 have l1:L<=f - 3600 * q:=by omega
 have l2:f - 3600 * q<=H:=by omega
 have m1:=jV l1 (kQ d1)
 have m2:=jV l2 (kQ d1)
 have w0:0<=n - (f - 3600 * q - sl - z) * d:=by grind
 have w1:n - (f - 3600 * q - sl - z) * d<=2 * sl * d:=by grind
 have w2:2 * sl * d<3600 * d:=Int.mul_lt_mul_of_pos_right (by omega) d1
 have e:n - (f - sl - z) * d=(n - (f - 3600 * q - sl - z) * d) + -q * (3600 * d):=by grind
 rw[e,Int.add_mul_emod_self_right,Int.emod_eq_of_lt w0 (by omega)]
 exact w1
theorem znQ {a p:Place} {z sl f t zl zh:Int} (h:shwB a p z sl=true) (hz:zl<=z/\z<=zh) (hl:((bear a p).1 - (f+sl - zl) * (bear a p).2) % (3600 * (bear a p).2)<=((t - f) % 3600 - (2 * sl+zh - zl)) * (bear a p).2) :
  ((shwS a p z sl).Lo - f) % 3600+(shwS a p z sl).Hi - (shwS a p z sl).Lo<=(t - f) % 3600:=by
 obtain⟨⟨h1,h2,h3⟩,h4,⟨h5,h6⟩,h7⟩:=zh9 h
 obtain⟨⟨d1,d2⟩,n1,n2⟩:=zbM h1 h2 h3
 have w0:=Int.emod_nonneg (t - f) (show (3600:Int)≠0 by decide)
 have w1:=jaO (t - f) (show (0:Int)<3600 by decide)
 generalize (t - f) % 3600=W at *
 generalize (shwS a p z sl).Lo=L at *
 generalize (shwS a p z sl).Hi=H at *
 generalize (bear a p).1=n at *
 generalize (bear a p).2=d at *
 have e0:=Int.emod_nonneg (n - (f+sl - zl) * d) (show 3600 * d≠0 by omega)
 have e1:=Int.emod_add_mul_ediv (n - (f+sl - zl) * d) (3600 * d)
 generalize (n - (f+sl - zl) * d) % (3600 * d)=e at *
 generalize (n - (f+sl - zl) * d) / (3600 * d)=K at *
 have x1:=jV hz.1 (kQ d1)
 have x2:=jV hz.2 (kQ d1)
 have a1:(f+3600 * K) * d<=L * d:=by grind
 have a2:H * d<=(f+3600 * K+W) * d:=by grind
 have b1:=Int.le_of_mul_le_mul_right a1 d1
 have b2:=Int.le_of_mul_le_mul_right a2 d1
 omega
theorem zgZ {s:Svc} {b:Brn} {p:Place} {z:Int} {r:Rpt} (hr:rptE s r=0) (hz:(zerR s.k r.C r.Tick).1.Lo<=z/\z<=(zerR s.k r.C r.Tick).1.Hi) (z3:-300<=z/\z<=300) (ht:tolB s b p z r=true):allB s b r p=true:=by
 obtain⟨f1,f2,f3,f4⟩:=zbQ hr
 obtain⟨z1,z2⟩:=hz
 have hs:=zkb f1
 by_cases hk:r.Kind=1
 ·unfold tolB at ht
  rw[kG hk] at ht
  simp only[jP,kA] at ht
  obtain⟨⟨t1,t2⟩,t3⟩:=ht
  have hl:=zjb t2 t3
  have hw:=zqK hr hk
  unfold allB
  rw[kG hk]
  unfold seenB secR
  rw[kG hk]
  rw[jG hw,t1,qJ,jaP]
  unfold wdgR at hw ⊢
  split at hw
  ·rename_i g; exact absurd hw g
  rename_i g1
  split at hw
  ·rename_i g; exact absurd hw g
  rename_i g2
  split at hw
  ·cases hw
  rename_i g3
  rw[kF g1,kF g2,kF g3]
  have g3:¬ 900<2 * r.Slack+(zerR s.k r.C r.Tick).1.Hi - (zerR s.k r.C r.Tick).1.Lo:=g3
  have W:=zk1 (u:=r.From - r.Slack - (zerR s.k r.C r.Tick).1.Hi) (t:=(zerR s.k r.C r.Tick).1.Hi - z) (T:=(zerR s.k r.C r.Tick).1.Hi - (zerR s.k r.C r.Tick).1.Lo) (m:=2 * r.Slack) (a:=(towG s.c.T r.Tower).1.At) (p:=p) (by omega) (by omega) (by omega)
   (by rw[show r.From - r.Slack - (zerR s.k r.C r.Tick).1.Hi+((zerR s.k r.C r.Tick).1.Hi - z)=r.From - r.Slack - z by omega]; exact hl)
  rw[show (zerR s.k r.C r.Tick).1.Hi - (zerR s.k r.C r.Tick).1.Lo+2 * r.Slack=2 * r.Slack+(zerR s.k r.C r.Tick).1.Hi - (zerR s.k r.C r.Tick).1.Lo by omega] at W
  exact W
 have fb:=zpF f1 hk
 obtain⟨b1,b2,b3⟩:=fb
 unfold tolB at ht
 rw[kF hk] at ht
 unfold allB
 rw[kF hk]
 rw[jY,wI]
 intro hsn
 unfold seenB secR at hsn
 rw[kF hk] at hsn
 simp only[jP] at hsn
 obtain⟨⟨s1,s2⟩,s3⟩:=hsn
 rw[s3] at ht
 unfold blkR at s1 s2
 split at s1
 ·cases s1
 rename_i g
 rw[kF g] at s2
 have w1:=jaO (r.To - r.From) (show (0:Int)<3600 by decide)
 have ew:(⟨(r.From+r.Slack - (zerR s.k r.C r.Tick).1.Lo) % 3600,(r.To - r.Slack - (zerR s.k r.C r.Tick).1.Hi) % 3600⟩:Wdg)=wdg (r.From+r.Slack - (zerR s.k r.C r.Tick).1.Lo) ((r.To - r.From) % 3600 - (2 * r.Slack+(zerR s.k r.C r.Tick).1.Hi - (zerR s.k r.C r.Tick).1.Lo)):=by
  unfold wdg
  rw[Wdg.mk.injEq]
  exact⟨rfl,by omega⟩
 dsimp only at s2
 rw[ew] at s2
 have s4:=s2
 unfold liesW at s4
 simp only[jP,jY,qB] at s4
 obtain⟨⟨⟨q1,q2,q3⟩,q4⟩,-⟩:=s4
 have o1:openW (wdg (r.From+r.Slack - (zerR s.k r.C r.Tick).1.Lo) ((r.To - r.From) % 3600 - (2 * r.Slack+(zerR s.k r.C r.Tick).1.Hi - (zerR s.k r.C r.Tick).1.Lo)))=(r.To - r.From) % 3600 - (2 * r.Slack+(zerR s.k r.C r.Tick).1.Hi - (zerR s.k r.C r.Tick).1.Lo):=by
  rw[zdR (by unfold wdg; dsimp only; omega) (by unfold wdg; dsimp only; omega)]
  unfold wdg; dsimp only; omega
 unfold validW at q1
 rw[o1] at q1
 have q1:=zaa.1 q1
 rw[ziF q1 q2 q3 q4,kM] at s2
 have sh:shwB (towG s.c.T r.Tower).1.At p z r.Slack=true:=by
  unfold shwB; rw[q2,q3,jH q4,zaa.2 z3,zaa.2 b3]; rfl
 have:=znQ (t:=r.To) sh ⟨z1,z2⟩ s2
 rw[sh] at ht
 have ht:decide ((r.To - r.From) % 3600<((shwS (towG s.c.T r.Tower).1.At p z r.Slack).Lo - r.From) % 3600+(shwS (towG s.c.T r.Tower).1.At p z r.Slack).Hi - (shwS (towG s.c.T r.Tower).1.At p z r.Slack).Lo)=true:=ht
 have ht:=jaQ ht
 omega
structure Zs where
  C:Int
  T:Int
  Z:List Int
  deriving Inhabited
abbrev Zs.ds (z:Zs):List D:=[I z.C,I z.T,lI z.Z]
abbrev Zs.v (z:Zs):V1:=.agg z.ds
def Zs.at (z:Zs):Nat->D
 | 0=>I z.C
 | 1=>I z.T
 | _=>lI z.Z
abbrev lZs (l:List Zs):D:=.slc 3 l.length fun i=>(l.getD i default).at
def zOk (x:Cir) (l:List Thg) (z:Zs) (i:Nat):Bool:=within (z.Z.getD i 0) (zer x l (z.T+i)).lo (zer x l (z.T+i)).hi && (List.range i).all fun k=>decide (max (z.Z.getD i 0 - z.Z.getD k 0) (z.Z.getD k 0 - z.Z.getD i 0)<=drf x k i)
def fitB (c:Cirs) (z:Zs):Bool:=decide ((knw c z.C [z.T]).2.2=0) && within z.Z.length 1 400 && decide (z.T+z.Z.length - 1<=(knw c z.C [z.T]).1.To) && decide (agrE (knw c z.C [z.T]).1 (knw c z.C [z.T]).2.1=0) && (List.range z.Z.length).all (zOk (knw c z.C [z.T]).1 (knw c z.C [z.T]).2.1 z)
theorem znv {c:Cirs} {z:Zs} {t:Int} (h:fitB c z=true) (h1:z.T<=t) (h2:t - z.T<z.Z.length) (h3:(zerR c z.C t).2=0):(zerR c z.C t).1.Lo<=z.Z.getD (t - z.T).toNat 0/\z.Z.getD (t - z.T).toNat 0<=(zerR c z.C t).1.Hi:=by
 unfold fitB at h
 simp only[jP,kA,jC] at h
 obtain⟨⟨⟨⟨f1,f2⟩,f3⟩,f4⟩,f5⟩:=h
 obtain⟨k1,k2,k3,k4,k5⟩:=zgy f1
 have q:=f5 (t - z.T).toNat (kK.2 (by omega))
 unfold zOk at q
 rw[jP] at q
 have q:=zaa.1 q.1
 rw[show z.T+(((t - z.T).toNat:Nat):Int)=t by omega,k4,k5] at q
 unfold zerR at h3 ⊢
 split at h3
 ·rename_i g; exact absurd h3 g
 rename_i g
 rw[kF g]
 have g:(atR c z.C t).2.2=0:=jL g
 obtain⟨m1,m2,m3,m4,m5⟩:=zgy (zl7 g)
 have e1:(atR c z.C t).1=c.C.getD (cirI c z.C).toNat default:=m4
 have e2:(atR c z.C t).2.1=thsL c (c.C.getD (cirI c z.C).toNat default):=m5
 rw[e1,e2]
 exact q
def zIn (id t:Int) (z:Zs):Bool:=(z.C==id && decide (z.T<=t)) && decide (t - z.T<z.Z.length)
def zatR (zs:List Zs) (id t:Int):Int × Bool:=if idxL (zIn id t) zs<0 then (0,false) else ((zs.getD (idxL (zIn id t) zs).toNat default).Z.getD (t - (zs.getD (idxL (zIn id t) zs).toNat default).T).toNat 0,true)
def drfC (s:Svc) (zs:List Zs) (i:Nat):Bool:=(zs.getD i default).C==(s.k.C.getD i default).ID && (zs.getD i default).T==(s.k.C.getD i default).From && decide (((zs.getD i default).Z.length:Int)=(s.k.C.getD i default).To - (s.k.C.getD i default).From+1) && fitB s.k (zs.getD i default)
def drfB (s:Svc) (zs:List Zs):Bool:=decide (zs.length=s.k.C.length) && (List.range s.k.C.length).all (drfC s zs)
theorem zjx {s:Svc} {zs:List Zs} {id t:Int} (h:drfB s zs=true) (h3:(zerR s.k id t).2=0) (hz:(zatR zs id t).2=true):((zerR s.k id t).1.Lo<=(zatR zs id t).1/\(zatR zs id t).1<=(zerR s.k id t).1.Hi)/\(-300<=(zatR zs id t).1/\(zatR zs id t).1<=300):=by
 unfold drfB at h
 simp only[jP,kA,jC] at h
 obtain⟨h0,h1⟩:=h
 rcases idxL_cases (zIn id t) zs default with⟨e,-⟩ | ⟨i,hi,e,e1,-⟩
 ·unfold zatR at hz
  rw[e,kG (by decide)] at hz
  cases hz
 have ez:(zatR zs id t).1=(zs.getD i default).Z.getD (t - (zs.getD i default).T).toNat 0:=by
  unfold zatR
  rw[e,kF (by omega),wH]
 unfold zIn at e1
 simp only[jP,qP,kA] at e1
 obtain⟨⟨a1,a2⟩,a3⟩:=e1
 have d:=h1 i (kK.2 (by omega))
 unfold drfC at d
 simp only[jP] at d
 have hf:=d.2
 rw[<- a1] at h3 ⊢
 have b:=znv hf a2 a3 h3
 have bd:=zgX h3
 rw[a1] at b bd ⊢
 rw[ez]
 exact⟨b,by omega⟩
theorem zfJ {s:Svc} {zs:List Zs} {b:Brn} {p:Place} {r:Rpt} (h:drfB s zs=true) (hr:rptE s r=0) (hz:(zatR zs r.C r.Tick).2=true) (ht:tolB s b p (zatR zs r.C r.Tick).1 r=true):allB s b r p=true:=by
 obtain⟨f1,f2,f3,f4⟩:=zbQ hr
 obtain⟨a,b'⟩:=zjx h f4 hz
 exact zgZ hr a b' ht
theorem rgD {n i:Nat} (h:i<n):(List.range n).getD i default=i:=by
 rw[hU,qG h]; rfl
def fitX (c:Cirs) (z:Zs):Int × Bool:=
 if (knw c z.C [z.T]).2.2≠0 then (-1,false) else if within z.Z.length 1 400=false then (-1,false)
 else if (knw c z.C [z.T]).1.To<z.T+z.Z.length - 1 then (-1,false)
 else if agrE (knw c z.C [z.T]).1 (knw c z.C [z.T]).2.1≠0 then (z.T,false)
 else if idxL (fun i=>!zOk (knw c z.C [z.T]).1 (knw c z.C [z.T]).2.1 z i) (List.range z.Z.length)<0 then (-1,true)
 else (z.T+idxL (fun i=>!zOk (knw c z.C [z.T]).1 (knw c z.C [z.T]).2.1 z i) (List.range z.Z.length),false)
theorem zpI (c:Cirs) (z:Zs):(fitX c z).2=fitB c z:=by
 unfold fitX fitB
 by_cases h1:(knw c z.C [z.T]).2.2≠0
 ·rw[kG h1,jH h1]; rfl
 rw[kF h1,jG (Classical.not_not.1 h1)]
 cases h2:within z.Z.length 1 400 with
 | false=>rfl
 | true=>
 rw[kF (by decide)]
 by_cases h3:(knw c z.C [z.T]).1.To<z.T+z.Z.length - 1
 ·rw[kG h3,jH (by omega)]; rfl
 rw[kF h3,jG (by omega)]
 by_cases h4:agrE (knw c z.C [z.T]).1 (knw c z.C [z.T]).2.1≠0
 ·rw[kG h4,jH h4]; rfl
 rw[kF h4,jG (Classical.not_not.1 h4)]
 rcases idxL_cases (fun i=>!zOk (knw c z.C [z.T]).1 (knw c z.C [z.T]).2.1 z i) (List.range z.Z.length) default with⟨e,a⟩ | ⟨i,hi,e,a,-⟩
 ·rw[e,kG (by decide)]
  symm
  show (List.range z.Z.length).all _=true
  rw[jC]
  intro j hj
  have hj:=kK.1 hj
  have:=a j (by simpa using hj)
  rw[rgD hj] at this
  simpa using this
 rw[e,kF (by omega)]
 symm
 show (List.range z.Z.length).all _=false
 rw[List.all_eq_false]
 have hi:i<z.Z.length:=by simpa using hi
 refine⟨i,kK.2 hi,?_⟩
 rw[rgD hi] at a
 simpa using a
theorem zfd (n:Int) (hn:-1000000000000<=n/\n<=1000000000000):Spec PP 30 [N n] [N (n % 3600)]:=by
 have h1:=jaf n (show (0:Int)<3600 by decide)
 have h2:=jaf (-n) (show (0:Int)<3600 by decide)
 rw[Int.neg_tmod] at h2
 refine sA Tryz.func30 ?_
 refine⟨by omega,⟨i6,⟨by omega,?_⟩⟩⟩
 refine r1I rfl ?_
 rw[jab (by omega),ja4]
 rw[Int.tmod_def,jaJ]
theorem zmd (zs:List Zs) (id t:Int) (hz:∀ z∈zs,0<=z.T/\z.T<=1048576) (ht:0<=t/\t<=1048576) (hn:zs.length<=1000000):Spec PP 28 [.d (lZs zs),N id,N t] [N (zatR zs id t).1,B (zatR zs id t).2]:=by
 refine sA Tryz.func28 ?_
 refine lOf (σ:=Nat) (fun i=>([(1,.d (I id)),(2,.d (I t)),(10,.d (lZs zs)),(11,.d (I zs.length)),(12,.d (I i))],[])) (fun i=>i<=zs.length /\ ∀ j,j<i->zIn id t (zs.getD j default)=false) (fun i=>zs.length - i) 0
  ⟨rfl,trivial,wq rfl⟩ z0L fun i hi=>?_
 obtain⟨i1,i2⟩:=hi
 apply bY <;> intro g1
 ·have g1:i<zs.length:=by have:=dT g1; omega
  have hz1:=hz _ (gd1 g1 default)
  refine⟨⟨rfl,by omega,by omega⟩,?_⟩
  have nxt:zIn id t (zs.getD i default)=false -> ∀ j,j<i+1->zIn id t (zs.getD j default)=false:=fun h j hj=>by
   by_cases e:j=i
   ·subst e; exact h
   exact i2 j (by omega)
  apply bY <;> intro g2
  rotate_left
  ·have g2:((zs.getD i default).C==id)=false:=g2
   repeat first | apply sT | apply sF
   refine⟨i6,?_⟩
   exact⟨i+1,⟨rfl,trivial,wq rfl⟩,⟨g1,nxt (by unfold zIn; rw[g2]; rfl)⟩,msr g1⟩
  have g2:((zs.getD i default).C==id)=true:=g2
  repeat first | apply sT | apply sF
  apply bY <;> intro g3
  rotate_left
  ·have g3:¬ (zs.getD i default).T<=t:=dF g3
   repeat first | apply sT | apply sF
   refine⟨i6,?_⟩
   exact⟨i+1,⟨rfl,trivial,wq rfl⟩,⟨g1,nxt (by unfold zIn; rw[g2,jH g3]; rfl)⟩,msr g1⟩
  have g3:(zs.getD i default).T<=t:=dT g3
  repeat first | apply sT | apply sF
  refine⟨(show inR .i64 (t - (zs.getD i default).T) from i6),?_⟩
  repeat first | apply sT | apply sF
  apply bY <;> intro g4
  rotate_left
  ·have g4:¬ t - (zs.getD i default).T<(zs.getD i default).Z.length:=dF g4
   repeat first | apply sT | apply sF
   refine⟨i6,?_⟩
   exact⟨i+1,⟨rfl,trivial,wq rfl⟩,⟨g1,nxt (by unfold zIn; rw[jH g4]; simp)⟩,msr g1⟩
  have g4:t - (zs.getD i default).T<(zs.getD i default).Z.length:=dT g4
  repeat first | apply sT | apply sF
  refine⟨(show inR .i64 (t - (zs.getD i default).T) from i6),?_⟩
  refine⟨⟨rfl,(show 0<=t - (zs.getD i default).T by omega),(show t - (zs.getD i default).T<((zs.getD i default).Z.length:Int) from g4)⟩,?_⟩
  have e:=zaI (p:=zIn id t) default g1 (by unfold zIn; rw[g2,jG g3,jG g4]; rfl) i2
  have e2:zatR zs id t=((zs.getD i default).Z.getD (t - (zs.getD i default).T).toNat 0,true):=by unfold zatR; rw[e,kF (by omega)]; rfl
  rw[e2]
  exact⟨rtI rfl rfl,rtB rfl rfl,trivial⟩
 have g1:i=zs.length:=by have:=dF g1; omega
 subst g1
 have e:idxL (zIn id t) zs = -1:=zaN (p:=zIn id t) default i2
 have e2:zatR zs id t=(0,false):=by unfold zatR; rw[e,kG (by decide)]
 rw[e2]
 exact⟨rtI rfl rfl,rtB rfl rfl,trivial⟩
theorem cut_I (Z:List Int) (k:Nat) (h:k<=Z.length):D.eqv (.slc 1 k fun i _=>I (Z.getD i 0)) (lI (Z.take k)):=by
 refine⟨by rw[jQ]; omega,.inr ⟨rfl,fun i hi j hj=>?_⟩⟩
 show D.eqv (I (Z.getD i 0)) (I ((Z.take k).getD i 0))
 rw[hU,hU,jS,kG hi]; exact dE _
theorem zrB (c:Cirs) (z:Zs):Spec PP 21 [c.v,z.v] [N (fitX c z).1,B (fitX c z).2]:=by
 refine sA Tryz.func21 ?_
 refine fEq [26] (zlS c z.C [z.T] (jD rfl)) rfl ⟨zab _,⟨rfl,rfl⟩,zed rfl,trivial⟩ rfl ?_
 apply bY <;> intro h1
 ·have h1:(knw c z.C [z.T]).2.2≠0:=by simpa using h1
  have e:fitX c z=(-1,false):=by unfold fitX; rw[kG h1]
  repeat first | apply sT | apply sF
  rw[e]
  exact⟨rtI rfl rfl,rtB rfl rfl,trivial⟩
 have h1:(knw c z.C [z.T]).2.2=0:=by simpa using h1
 obtain⟨k1,k2,k3,k4,k5⟩:=zgy h1
 have ok:=zbJ k1
 have hx:=ok.cs _ (zbn k2).1
 have bt:=zaa.1 k3
 have e0:fitX c z=if within z.Z.length 1 400=false then (-1,false) else if (knw c z.C [z.T]).1.To<z.T+z.Z.length - 1 then (-1,false) else if agrE (knw c z.C [z.T]).1 (knw c z.C [z.T]).2.1≠0 then (z.T,false)
  else if idxL (fun i=>!zOk (knw c z.C [z.T]).1 (knw c z.C [z.T]).2.1 z i) (List.range z.Z.length)<0 then (-1,true)
  else (z.T+idxL (fun i=>!zOk (knw c z.C [z.T]).1 (knw c z.C [z.T]).2.1 z i) (List.range z.Z.length),false):=by unfold fitX; rw[kF (fun h=>h h1)]
 obtain⟨x,hX⟩:∃ x,x=(knw c z.C [z.T]).1:=⟨_,rfl⟩
 obtain⟨l,hL⟩:∃ l,l=(knw c z.C [z.T]).2.1:=⟨_,rfl⟩
 rw[<- hX,<- hL] at e0
 have xo:CirOk x:=by rw[hX,k4]; exact hx
 have xt:x.From<=z.T/\z.T<=x.To:=by rw[hX,k4]; exact bt
 have lo:∀ t∈l,ThgOk t:=by rw[hL,k5]; exact zf9 ok k2
 have ln:l.length<=100:=by rw[hL,k5]; have:=zfh c (c.C.getD (cirI c z.C).toNat default); have:=ok.m; omega
 have xd:=xo.d
 have xT:=xo.t
 rw[<- hX,<- hL]
 refine cP (zaB z.Z.length 1 400) rfl rfl ?_
 repeat first | apply sT | apply sF
 apply bY <;> intro h2
 ·have h2:within z.Z.length 1 400=false:=by simpa using h2
  repeat first | apply sT | apply sF
  rw[e0,kG h2]
  exact⟨rtI rfl rfl,rtB rfl rfl,trivial⟩
 have h2:within z.Z.length 1 400=true:=by simpa using h2
 rw[kF (by rw[h2]; decide)] at e0
 have b2:=zaa.1 h2
 repeat first | apply sT | apply sF
 refine⟨i6,⟨i6,?_⟩⟩
 repeat first | apply sT | apply sF
 apply bY <;> intro h3
 ·have h3:x.To<z.T+z.Z.length - 1:=dT h3
  repeat first | apply sT | apply sF
  rw[e0,kG h3]
  exact⟨rtI rfl rfl,rtB rfl rfl,trivial⟩
 have h3:¬ x.To<z.T+z.Z.length - 1:=dF h3
 rw[kF h3] at e0
 repeat first | apply sT | apply sF
 refine cP (zlY x l xd lo ln) rfl rfl ?_
 apply bY <;> intro h4
 ·have h4:agrE x l≠0:=by simpa using h4
  rw[e0,kG h4]
  exact⟨rtI rfl rfl,rtB rfl rfl,trivial⟩
 have h4:agrE x l=0:=by simpa using h4
 rw[kF (fun h=>h h4)] at e0
 have stop:∀ i,i<z.Z.length->(∀ j,j<i->zOk x l z j=true)->zOk x l z i=false->fitX c z=(z.T+i,false):=fun i hi a b=>by
  have e:=zaI (p:=fun i=>!zOk x l z i) (l:=List.range z.Z.length) (i:=i) default (by simpa using hi) (by rw[rgD hi,b]; rfl) (fun j hj=>by rw[rgD (by omega),a j hj]; rfl)
  rw[e0,e,kF (by omega)]
 have zin:∀ i,i<z.Z.length->zOk x l z i=true -> -300<=z.Z.getD i 0/\z.Z.getD i 0<=300:=fun i hi a=>by
  unfold zOk at a
  rw[jP] at a
  have a1:=zaa.1 a.1
  have b1:=zjO (x:=x) (l:=l) (t:=z.T+i) xd lo (by omega) ⟨-300,300,0,0⟩ (by dsimp only; omega) (by dsimp only; omega)
  unfold zer at a1
  omega
 refine lOf (σ:=Nat) (fun i=>([(3,.box 3 0),(7,.box 7 0),(8,.d (lTh l)),(55,.d (lI z.Z)),(56,.d (I z.Z.length)),(57,.d (I i))],[(3,.box (z.ds.map AV.d)),(7,.box (x.ds.map AV.d))])) (fun i=>i<=z.Z.length /\ ∀ j,j<i->zOk x l z j=true) (fun i=>z.Z.length - i) 0
  ⟨rfl,⟨obD z.ds rfl,obD x.ds rfl,trivial⟩,wq rfl⟩ z0L fun i hi=>?_
 obtain⟨i1,i2⟩:=hi
 apply bY <;> intro g1
 ·have g1:i<z.Z.length:=by have:=dT g1; omega
  refine⟨⟨rfl,by omega,by omega⟩,?_⟩
  refine⟨i6,?_⟩
  refine cP (zot x l (z.T+i) xd lo ln (by omega)) rfl rfl ?_
  refine cP (zaB (z.Z.getD i 0) (zer x l (z.T+i)).lo (zer x l (z.T+i)).hi) rfl rfl ?_
  apply bY <;> intro g2
  ·have g2:within (z.Z.getD i 0) (zer x l (z.T+i)).lo (zer x l (z.T+i)).hi=false:=by simpa using g2
   refine⟨i6,?_⟩
   rw[stop i g1 i2 (by unfold zOk; rw[g2]; rfl)]
   exact⟨rtI rfl rfl,rtB rfl rfl,trivial⟩
  have g2:within (z.Z.getD i 0) (zer x l (z.T+i)).lo (zer x l (z.T+i)).hi=true:=by simpa using g2
  have a1:=zaa.1 g2
  have b1:=zjO (x:=x) (l:=l) (t:=z.T+i) xd lo (by omega) ⟨-300,300,0,0⟩ (by dsimp only; omega) (by dsimp only; omega)
  have bi:-300<=z.Z.getD i 0/\z.Z.getD i 0<=300:=by unfold zer at a1; omega
  refine⟨⟨.inr rfl,(show (0:Int)<=i/\(i:Int)<=z.Z.length by omega)⟩,?_⟩
  refine lOf (σ:=Nat) (fun k=>([(3,.box 3 0),(7,.box 7 0),(8,.d (lTh l)),(10,.d (I i)),(11,.d (I (z.Z.getD i 0))),(55,.d (lI z.Z)),(56,.d (I z.Z.length)),(57,.d (I i)),(87,.d (lI (z.Z.take i))),(88,.d (I i)),(89,.d (I k))],[(3,.box (z.ds.map AV.d)),(7,.box (x.ds.map AV.d))])) (fun k=>k<=i /\ ∀ j,j<k->max (z.Z.getD i 0 - z.Z.getD j 0) (z.Z.getD j 0 - z.Z.getD i 0)<=drf x j i) (fun k=>i - k) 0
   ⟨rfl,⟨obD z.ds rfl,obD x.ds rfl,trivial⟩,avQ rfl,avQ rfl,avQ rfl,avQ rfl,avQ rfl,avQ rfl,avQ rfl,avQ rfl,cut_I z.Z i (by omega),avQ rfl,avQ rfl,trivial⟩ z0L fun k hk=>?_
  obtain⟨q1,q2⟩:=hk
  apply bY <;> intro g3
  ·have g3:k<i:=by have:=dT g3; omega
   have bk:=zin k (by omega) (i2 k g3)
   have ek:(z.Z.take i).getD k 0=z.Z.getD k 0:=by
    rw[hU,jS,kG g3,<- hU]
   refine⟨⟨rfl,by omega,(show (k:Int)<((z.Z.take i).length:Int) by rw[jQ]; omega)⟩,?_⟩
   refine⟨(show inR .i64 (z.Z.getD i 0 - (z.Z.take i).getD k 0) by rw[ek]; exact i6),⟨(show inR .i64 ((z.Z.take i).getD k 0 - z.Z.getD i 0) by rw[ek]; exact i6),?_⟩⟩
   refine cP (zhR x k i xd (by omega) (by omega)) rfl rfl ?_
   apply bY <;> intro g4
   ·have g4:drf x k i<max (z.Z.getD i 0 - (z.Z.take i).getD k 0) ((z.Z.take i).getD k 0 - z.Z.getD i 0):=dT g4
    rw[ek] at g4
    refine⟨i6,?_⟩
    rw[stop i g1 i2 (by
     unfold zOk
     rw[g2,qJ,List.all_eq_false]
     exact⟨k,kK.2 g3,by simp only[kA]; omega⟩)]
    exact⟨rtI rfl rfl,rtB rfl rfl,trivial⟩
   have g4:¬ drf x k i<max (z.Z.getD i 0 - (z.Z.take i).getD k 0) ((z.Z.take i).getD k 0 - z.Z.getD i 0):=dF g4
   rw[ek] at g4
   refine⟨i6,?_⟩
   refine⟨k+1,⟨rfl,⟨obD z.ds rfl,obD x.ds rfl,trivial⟩,wq rfl⟩,⟨g3,fun j hj=>?_⟩,msr g3⟩
   by_cases e:j=k
   ·subst e; omega
   exact q2 j (by omega)
  have g3:k=i:=by have:=dF g3; omega
  subst g3
  refine⟨i6,?_⟩
  refine⟨k+1,⟨rfl,⟨obD z.ds rfl,obD x.ds rfl,trivial⟩,wq rfl⟩,⟨g1,fun j hj=>?_⟩,msr g1⟩
  by_cases e:j=k
  ·subst e
   unfold zOk
   rw[g2,qJ,jC]
   exact fun m hm=>jG (q2 m (kK.1 hm))
  exact i2 j (by omega)
 have g1:i=z.Z.length:=by have:=dF g1; omega
 subst g1
 have e:=zaN (p:=fun i=>!zOk x l z i) (l:=List.range z.Z.length) default (fun j hj=>by
  have hj:j<z.Z.length:=by simpa using hj
  rw[rgD hj,i2 j hj]; rfl)
 rw[e0,e,kG (by decide)]
 exact⟨rtI rfl rfl,rtB rfl rfl,trivial⟩
theorem zi5 (s:Svc) (zs:List Zs) (hs:svcE s=0):Spec PP 6 [s.v,.d (lZs zs)] [B (drfB s zs)]:=by
 have ok:=(zc9 hs).k
 have okn:=ok.n
 refine sA Tryz.func6 ?_
 apply bY <;> intro h0
 ·have h0:zs.length≠s.k.C.length:=by
   have:¬ (zs.length:Int)=s.k.C.length:=by simpa using h0
   omega
  exact r1B rfl (by unfold drfB; rw[jH h0]; rfl)
 have h0:zs.length=s.k.C.length:=by
  have:(zs.length:Int)=s.k.C.length:=by simpa using h0
  omega
 have eD:drfB s zs=(List.range s.k.C.length).all (drfC s zs):=by unfold drfB; rw[jG h0]; rfl
 refine lOf (σ:=Nat) (fun i=>([(1,.d (lZs zs)),(2,.box 2 0),(19,.d (lC s.k.C)),(20,.d (I s.k.C.length)),(21,.d (I i))],[(2,.box (s.ds.map AV.d))])) (fun i=>i<=s.k.C.length /\ ∀ j,j<i->drfC s zs j=true) (fun i=>s.k.C.length - i) 0
  ⟨rfl,⟨obD s.ds rfl,trivial⟩,wq rfl⟩ z0L fun i hi=>?_
 obtain⟨i1,i2⟩:=hi
 apply bY <;> intro g1
 ·have g1:i<s.k.C.length:=by have:=dT g1; omega
  have co:=(ok.cs i g1).t
  have bad:drfC s zs i=false->drfB s zs=false:=fun h=>by
   rw[eD,List.all_eq_false]
   exact⟨i,kK.2 g1,by rw[h]; decide⟩
  refine⟨⟨rfl,by omega,by omega⟩,?_⟩
  refine⟨⟨rfl,by omega,(show (i:Int)<(zs.length:Int) by omega)⟩,?_⟩
  apply bY <;> intro g2
  ·have g2:((zs.getD i default).C != (s.k.C.getD i default).ID)=true:=g2
   repeat first | apply sT | apply sF
   exact r1B rfl (bad (by unfold drfC; rw[show ((zs.getD i default).C==(s.k.C.getD i default).ID)=false by simpa using g2]; rfl)).symm
  have g2:((zs.getD i default).C==(s.k.C.getD i default).ID)=true:=by
   have:((zs.getD i default).C != (s.k.C.getD i default).ID)=false:=g2
   simpa using this
  repeat first | apply sT | apply sF
  apply bY <;> intro g3
  ·have g3:((zs.getD i default).T != (s.k.C.getD i default).From)=true:=g3
   repeat first | apply sT | apply sF
   exact r1B rfl (bad (by unfold drfC; rw[show ((zs.getD i default).T==(s.k.C.getD i default).From)=false by simpa using g3,jaW]; rfl)).symm
  have g3:((zs.getD i default).T==(s.k.C.getD i default).From)=true:=by
   have:((zs.getD i default).T != (s.k.C.getD i default).From)=false:=g3
   simpa using this
  repeat first | apply sT | apply sF
  refine⟨(show inR .i64 ((s.k.C.getD i default).To - (s.k.C.getD i default).From) from i6),⟨(show inR .i64 ((s.k.C.getD i default).To - (s.k.C.getD i default).From+1) from i6),?_⟩⟩
  repeat first | apply sT | apply sF
  apply bY <;> intro g4
  ·have g4:((((zs.getD i default).Z.length:Int)) != (s.k.C.getD i default).To - (s.k.C.getD i default).From+1)=true:=g4
   exact r1B rfl (bad (by unfold drfC; rw[jH (by simpa using g4),jaW]; rfl)).symm
  have g4:((((zs.getD i default).Z.length:Int)) != (s.k.C.getD i default).To - (s.k.C.getD i default).From+1)=false:=g4
  have cf:=zrB s.k (zs.getD i default)
  rw[zpI] at cf
  refine cP cf rfl rfl ?_
  apply bY <;> intro g5
  ·have g5:fitB s.k (zs.getD i default)=false:=by simpa using g5
   exact r1B rfl (bad (by unfold drfC; rw[g5,jaW])).symm
  have g5:fitB s.k (zs.getD i default)=true:=by simpa using g5
  refine⟨i6,?_⟩
  refine⟨i+1,⟨rfl,⟨obD s.ds rfl,trivial⟩,wq rfl⟩,⟨g1,fun j hj=>?_⟩,msr g1⟩
  by_cases e:j=i
  ·subst e
   unfold drfC
   rw[g2,g3,g5,jG (by simpa using g4)]; rfl
  exact i2 j (by omega)
 have g1:i=s.k.C.length:=by have:=dF g1; omega
 subst g1
 exact r1B rfl (by rw[eD]; symm; rw[jC]; exact fun j hj=>i2 j (kK.1 hj))
def tinB (s:Svc):Bool:=decide ((s.c.M.G.length:Int)<=200) && (decide (s.c.M.W<=12) && (decide (s.c.M.H<=12) && (decide ((s.c.T.length:Int)<=4) && (decide ((s.c.Z.length:Int)<=4) && (decide ((s.k.C.length:Int)<=4) && decide ((s.k.K.length:Int)<=8))))))
theorem zqk (s:Svc):Spec PP 4 [s.v] [B (tinB s)]:=by
 refine sA Tryz.func4 ?_
 unfold tinB
 apply bY <;> intro h
 rotate_left
 ·repeat first | apply sT | apply sF
  exact r1B rfl (by rw[show decide ((s.c.M.G.length:Int)<=200)=false from h]; rfl)
 rw[show decide ((s.c.M.G.length:Int)<=200)=true from h,qJ]
 clear h
 repeat first | apply sT | apply sF
 apply bY <;> intro h
 rotate_left
 ·repeat first | apply sT | apply sF
  exact r1B rfl (by rw[show decide (s.c.M.W<=12)=false from h]; rfl)
 rw[show decide (s.c.M.W<=12)=true from h,qJ]
 clear h
 repeat first | apply sT | apply sF
 apply bY <;> intro h
 rotate_left
 ·repeat first | apply sT | apply sF
  exact r1B rfl (by rw[show decide (s.c.M.H<=12)=false from h]; rfl)
 rw[show decide (s.c.M.H<=12)=true from h,qJ]
 clear h
 repeat first | apply sT | apply sF
 apply bY <;> intro h
 rotate_left
 ·repeat first | apply sT | apply sF
  exact r1B rfl (by rw[show decide ((s.c.T.length:Int)<=4)=false from h]; rfl)
 rw[show decide ((s.c.T.length:Int)<=4)=true from h,qJ]
 clear h
 repeat first | apply sT | apply sF
 apply bY <;> intro h
 rotate_left
 ·repeat first | apply sT | apply sF
  exact r1B rfl (by rw[show decide ((s.c.Z.length:Int)<=4)=false from h]; rfl)
 rw[show decide ((s.c.Z.length:Int)<=4)=true from h,qJ]
 clear h
 repeat first | apply sT | apply sF
 apply bY <;> intro h
 rotate_left
 ·repeat first | apply sT | apply sF
  exact r1B rfl (by rw[show decide ((s.k.C.length:Int)<=4)=false from h]; rfl)
 rw[show decide ((s.k.C.length:Int)<=4)=true from h,qJ]
 clear h
 repeat first | apply sT | apply sF
 exact r1B rfl rfl
def inB (s:Svc) (ps:List Place) (a n:Nat):Bool:=decide (a<ps.length) && decide (ps.getD a default=plc s.c.M n)
def outB (s:Svc) (rs:List Rsn) (w n:Nat):Bool:=decide (w<rs.length) && decide ((rs.getD w default).At=plc s.c.M n)
def rptI (l:List Rpt) (id:Int):Int:=idxL (fun r=>r.ID==id) l
def cks (s:Svc) (l:List Rpt) (L:List (Nat->Bool)) (ps:List Place) (rs:List Rsn) (n:Nat) (q:Nat × Nat):Option (Nat × Nat):=
 if inB s ps q.1 n=outB s rs q.2 n then none
 else if inB s ps q.1 n=true then (if 0<=fstI L n then none else some (q.1+1,q.2))
 else if rptI l (rs.getD q.2 default).R<0 \/ L.getD (rptI l (rs.getD q.2 default).R).toNat default n=true then none else some (q.1,q.2+1)
def ckR (s:Svc) (l:List Rpt) (L:List (Nat->Bool)) (ps:List Place) (rs:List Rsn):Nat->Option (Nat × Nat)
 | 0=>some (0,0)
 | n+1=>(ckR s l L ps rs n).bind (cks s l L ps rs n)
def ckE (s:Svc) (l:List Rpt) (L:List (Nat->Bool)) (ps:List Place) (rs:List Rsn):Bool:=
 match ckR s l L ps rs s.n with
 | none=>false
 | some q=>decide (ps.length<=q.1) && decide (rs.length<=q.2)
theorem zlI {s:Svc} {l:List Rpt} {L:List (Nat->Bool)} {ps:List Place} {rs:List Rsn}:∀ {n:Nat} {q:Nat × Nat},ckR s l L ps rs n=some q->q.1<=n/\q.2<=n/\q.1<=ps.length/\q.2<=rs.length
 | 0,q,h=>by
  have:q=(0,0):=(qL h).symm
  subst this; exact⟨jE _,jE _,jF _,jF _⟩
 | n+1,q,h=>by
  have h:(ckR s l L ps rs n).bind (cks s l L ps rs n)=some q:=h
  cases hc:ckR s l L ps rs n with
  | none=>rw[hc] at h; cases h
  | some p=>
  rw[hc] at h
  have h:cks s l L ps rs n p=some q:=h
  obtain⟨h1,h2,h3,h4⟩:=zlI hc
  unfold cks at h
  split at h
  ·cases h
  rename_i g1
  split at h
  ·rename_i g2
   split at h
   ·cases h
   have e:=(qL h).symm
   subst e
   have:p.1<ps.length:=by
    unfold inB at g2
    rw[jP,kM] at g2
    exact g2.1
   exact⟨by dsimp only; omega,by dsimp only; omega,this,h4⟩
  rename_i g2
  split at h
  ·cases h
  have e:=(qL h).symm
  subst e
  have g2:inB s ps p.1 n=false:=by simpa using g2
  have:outB s rs p.2 n=true:=by
   cases ho:outB s rs p.2 n with
   | true=>rfl
   | false=>rw[g2,ho] at g1; exact absurd rfl g1
  unfold outB at this
  rw[jP,kM] at this
  exact⟨by dsimp only; omega,by dsimp only; omega,h3,this.1⟩
theorem zkB {m:Mp} {i j:Nat} (hw:0<m.w) (h:plc m i=plc m j):i=j:=by
 unfold plc at h
 have h1:((i % m.w:Nat):Int)=((j % m.w:Nat):Int):=jI Place.X h
 have h2:((i / m.w:Nat):Int)=((j / m.w:Nat):Int):=jI Place.Y h
 have a:=jar i m.w
 have c:=jar j m.w
 rw[show i / m.w=j / m.w by omega,show i % m.w=j % m.w by omega] at a
 omega
theorem zhE {P:Nat->Bool} {k n:Nat} (h:k<n):((List.range n).filter P)[((List.range k).filter P).length]?=if P k=true then some k else (((List.range' (k+1) (n - (k+1))).filter P)[0]?):=by
 have e:List.range n=List.range k++(k :: List.range' (k+1) (n - (k+1))):=by
  rw[List.range_eq_range',List.range_eq_range',show n=k+((n - (k+1))+1) by omega,<- List.range'_append_1,k9,show k+(n - (k+1)+1) - (k+1)=n - (k+1) by omega]; rfl
 rw[e,kX,jK (jE _),kE]
 split
 ·rename_i hP; rw[wA hP]; rfl
 rename_i hP; rw[wB hP]
theorem zgH {P:Nat->Bool} {k n:Nat} (h:k<n) (hP:P k=false) {j:Nat} (hj:((List.range n).filter P)[((List.range k).filter P).length]?=some j):k<j:=by
 rw[zhE h,kF (by rw[hP]; decide)] at hj
 have:=kN hj
 have:=(qC.1 this).1
 rw[List.mem_range'_1] at this
 omega
theorem zlH {s:Svc} {b:Brn} {l:List Rpt} (h:givE s b l=0):∀ n,n<=s.n->ckR s l (l.map (alwP s b)) (plsL s.c.M (metP (l.map (alwP s b)))) (rsnK s l (l.map (alwP s b)) s.n) n=some ((plsK s.c.M (metP (l.map (alwP s b))) n).length,(rsnK s l (l.map (alwP s b)) n).length)
 | 0,_=>rfl
 | n+1,hn=>by
  have ih:=zlH h n (by omega)
  obtain⟨bw,bh,-,-⟩:=zah (zco h).s.c.m
  have hw:0<s.c.M.w:=by show 0<s.c.M.W.toNat; omega
  have ok:=zrf (zco h)
  obtain⟨L,hL⟩:∃ L,L=l.map (alwP s b):=⟨_,rfl⟩
  rw[<- hL] at ih ⊢
  have hLl:L.length=l.length:=by rw[hL]; exact qA _
  have hn':n<s.c.M.w * s.c.M.h:=hn
  have hq:fstI L n<0 ↔ metP L n=true:=by
   have h1:=zfI (fun P:Nat->Bool=>!P n) L default
   rw[zm5]
   constructor
   ·intro g P hP
    cases hh:P n with
    | true=>rfl
    | false=>
    have:=h1.2 (qK.2 ⟨P,hP,by rw[hh]; rfl⟩)
    have:0<=fstI L n:=this
    omega
   intro g
   refine jL fun q=>?_
   obtain⟨P,hP,e⟩:=qK.1 (h1.1 (show 0<=fstI L n by omega))
   rw[g P hP] at e; cases e
  show (ckR s l L (plsL s.c.M (metP L)) (rsnK s l L s.n) n).bind _=_
  rw[ih]
  show cks s l L (plsL s.c.M (metP L)) (rsnK s l L s.n) n ((plsK s.c.M (metP L) n).length,(rsnK s l L n).length)=_
  have gp:(plsL s.c.M (metP L))[(plsK s.c.M (metP L) n).length]?=(((List.range s.n).filter (metP L))[((List.range n).filter (metP L)).length]?).map (plc s.c.M):=by
   unfold plsL plsK
   rw[jU,qA]
  have gr:(rsnK s l L s.n)[(rsnK s l L n).length]?=(((List.range s.n).filter fun n=>decide (0<=fstI L n))[((List.range n).filter fun n=>decide (0<=fstI L n)).length]?).map (rsnA s l L):=by
   unfold rsnK
   rw[jU,qA]
  cases hm:metP L n with
  | true=>
   have hf:=hq.2 hm
   have hi:inB s (plsL s.c.M (metP L)) (plsK s.c.M (metP L) n).length n=true:=by
    rw[zhE hn',kG hm] at gp
    have hlt:(plsK s.c.M (metP L) n).length<(plsL s.c.M (metP L)).length:=by
     rcases qT (plsK s.c.M (metP L) n).length (plsL s.c.M (metP L)).length with g | g
     ·exact g
     rw[qN g] at gp; cases gp
    unfold inB
    rw[jG hlt,hU,gp]
    exact jG rfl
   have ho:outB s (rsnK s l L s.n) (rsnK s l L n).length n=false:=by
    cases hh:outB s (rsnK s l L s.n) (rsnK s l L n).length n with
    | false=>rfl
    | true=>
    unfold outB at hh
    rw[jP,kM,kM] at hh
    rw[kH hh.1] at gr
    cases hg:((List.range s.n).filter fun n=>decide (0<=fstI L n))[((List.range n).filter fun n=>decide (0<=fstI L n)).length]? with
    | none=>rw[hg] at gr; cases gr
    | some j=>
    rw[hg] at gr
    have hj:=zgH (P:=fun n=>decide (0<=fstI L n)) hn' (jH (by omega)) hg
    have e1:(rsnK s l L s.n).getD (rsnK s l L n).length default=rsnA s l L j:=by
     rw[hU,kH hh.1]; exact qL gr
    rw[e1] at hh
    have:=zkB hw (show plc s.c.M j=plc s.c.M n from hh.2)
    omega
   unfold cks
   dsimp only
   rw[hi,ho,kF (by decide),kG rfl,kF (by omega),zfw hm,zkm (by omega)]
   simp
  | false=>
  have hf:0<=fstI L n:=by
   refine jL fun g=>?_
   rw[hq.1 (by omega)] at hm; cases hm
  have hi:inB s (plsL s.c.M (metP L)) (plsK s.c.M (metP L) n).length n=false:=by
   cases hh:inB s (plsL s.c.M (metP L)) (plsK s.c.M (metP L) n).length n with
   | false=>rfl
   | true=>
   unfold inB at hh
   rw[jP,kM,kM] at hh
   rw[kH hh.1] at gp
   cases hg:((List.range s.n).filter (metP L))[((List.range n).filter (metP L)).length]? with
   | none=>rw[hg] at gp; cases gp
   | some j=>
   rw[hg] at gp
   have hj:=zgH hn' hm hg
   have e1:(plsL s.c.M (metP L)).getD (plsK s.c.M (metP L) n).length default=plc s.c.M j:=by
    rw[hU,kH hh.1]; exact qL gp
   rw[e1] at hh
   have:=zkB hw hh.2
   omega
  rw[zhE (P:=fun n=>decide (0<=fstI L n)) hn',kG (jG hf)] at gr
  have hlt:(rsnK s l L n).length<(rsnK s l L s.n).length:=by
   rcases qT (rsnK s l L n).length (rsnK s l L s.n).length with g | g
   ·exact g
   rw[qN g] at gr; cases gr
  have e1:(rsnK s l L s.n).getD (rsnK s l L n).length default=rsnA s l L n:=by
   rw[hU,gr]; rfl
  have ho:outB s (rsnK s l L s.n) (rsnK s l L n).length n=true:=by
   unfold outB
   rw[jG hlt,e1]
   exact jG rfl
  have hfl:=zlo hf
  have hri:rptI l (l.getD (fstI L n).toNat default).ID=fstI L n:=by
   have:=zaI (p:=fun r:Rpt=>r.ID==(l.getD (fstI L n).toNat default).ID) (l:=l) (i:=(fstI L n).toNat) default (by omega) (by simp) fun j hj=>by
    have:(l.getD j default).ID≠(l.getD (fstI L n).toNat default).ID:=fun q=>by
     have:=ok.d j (fstI L n).toNat (by omega) (by omega) q
     omega
    simpa using this
   unfold rptI
   rw[this]; omega
  have hno:L.getD (fstI L n).toNat default n=false:=by
   rcases idxL_cases (fun P:Nat->Bool=>!P n) L default with⟨e,-⟩ | ⟨i,hi,e,hp,-⟩
   ·have:fstI L n = -1:=e
    omega
   have e:fstI L n=(i:Int):=e
   rw[e]
   simpa using hp
  unfold cks
  dsimp only
  rw[hi,ho,kF (by decide),kF (by decide),e1]
  show (if rptI l (l.getD (fstI L n).toNat default).ID<0 \/ L.getD (rptI l (l.getD (fstI L n).toNat default).ID).toNat default n=true then none else _)=_
  rw[hri,kF (by rw[hno]; simp; omega),zhm hm,zic hf]
  simp
theorem zhN {s:Svc} {b:Brn} {l:List Rpt} (h:givE s b l=0):ckE s l (l.map (alwP s b)) (plsL s.c.M (metP (l.map (alwP s b)))) (rsnK s l (l.map (alwP s b)) s.n)=true:=by
 unfold ckE
 rw[zlH h s.n (jE _)]
 show (decide ((plsL s.c.M (metP (l.map (alwP s b)))).length<=(plsL s.c.M (metP (l.map (alwP s b)))).length) && decide ((rsnK s l (l.map (alwP s b)) s.n).length<=(rsnK s l (l.map (alwP s b)) s.n).length))=true
 rw[jG (jE _),jG (jE _)]; rfl
end Go.Pg
namespace Go.Pg
open Go.Proofs Go.RowKit Go.Sort Go.Shelf
section
variable {s:St} {o:Oper} {fo:Operand} {f:FuncId} {K:St->Prop} {E:Env}
theorem CallSt.lend (ids:List Nat) {args:Array Operand} {at':Array TypeId} (hop:o.op = .call { callee:=.value fo,args,argTypes:=at' }) {xs ys res:List V1} (h:SpecG E.dr PP f ys res) (hx:toV1c (s.freezes ids) fo args.toList=some (f,xs)) (he:eqV1s xs ys)
  (hr:res.all V1.flat=true) (hk:K (s.putO o.dst (resAV res))):CallSt E PP s o fo args.toList K:=by
 obtain⟨ex,h1,h2⟩:=zaE hx
 rw[zaf]
 refine .inr (.inr (.inl ⟨_,⟨fun cx a w hD hd hR=>?_⟩,hk⟩))
 obtain⟨γ,hg⟩:=hR
 obtain⟨γ',h'⟩:=R.freezes ids ⟨γ,hg⟩
 obtain⟨cvs,hcx,hcm⟩:=zaP h1 (ev_m h' fo).1
 have hm:=(zbq h' h2 ((zbG h' args.toList).append hcm)).1
 refine .enter (zaD hop hcx h.1) ?_
 refine ((h.eqv he).2 w _ _ (fun b hb=>hb) hm).mono fun en w' ⟨v,e,hb,hres⟩=>⟨v,e,γ,?_⟩
 exact (hg.grow hb.1 fun e=>hb.2 (hD e)).putO hd (za3 (.inr hr) hres) (fun j hj=>by rw[zaF] at hj; cases hj)
end
theorem CodeOb.rangeC (ids:List Nat) {K:KK} {s:St} {fo:Operand} {ps:Array Tmp} {asg body:Code} {g m:Nat} {cap:Nat->D} {τ:Type} {enc:τ->List V1} {xs:List τ} (hseq:SeqC PP g m cap enc xs) (hc:callee (ev s fo)=some (g,(List.range m).map fun j=>AV.d (cap j)))
  (hps:∀ x,(enc x).length=ps.size) (hnd:ps.toList.Nodup)
  (sl:List (Nat × AV)) (rc:List (Nat × Nat)) (ob:List τ->List (Nat × Ob)) (hsl:okSl sl=true) (hob:∀ pre,okOb sl rc (ob pre)=true) (hw:Weak s sl (ob []))
  {Iv:List τ->Prop} (hI0:Iv [])
  (hbody:∀ (v:Nat->Value) pre x,pre ++ [x] <+: xs->Iv pre->awp PP TTab (EC ids) asg (St.of (psl ps.toList (enc x)++pinS v sl) (ob pre)) (Ka PP TTab (EC ids) K sl rc v ob Iv body pre x))
  (hend:Iv xs->K .normal (St.of sl (ob xs))):CodeOb (EC ids).dr (EC ids).it PP (.rangeFunc fo ps asg body) s K:=
 CodeOb.range (E:=EC ids) hT hE hM hseq hc hps hnd sl rc ob hsl hob hw hI0 hbody hend
theorem zki (l:List Rpt) (g:FuncId) (c0:D) (p:Rpt->Bool) (hn:l.length<=1000000) (hp:∀ i,i<l.length->Spec PP g [(l.getD i default).v,.d c0] [B (p (l.getD i default))]):Spec PP 34 [.d (lR l),.d (cloB g [c0])] [N (idxL p l)]:=by
 refine sA Tryz.func34 ?_
 refine lOf (σ:=Nat) (fun i=>([(0,.d (lR l)),(1,.d (cloB g [c0])),(6,.d (lR l)),(7,.d (I l.length)),(8,.d (I i))],[])) (fun i=>i<=l.length /\ ∀ j,j<i->p (l.getD j default)=false) (fun i=>l.length - i) 0
  ⟨rfl,trivial,wq rfl⟩ z0L fun i hi=>?_
 obtain⟨hi,ha⟩:=hi
 apply bY <;> intro h1
 ·have h1:i<l.length:=by have:=dT h1; omega
  refine⟨⟨rfl,by omega,by omega⟩,?_⟩
  refine cP (hp i h1) rfl rfl ?_
  apply bY <;> intro h2
  ·refine r1I rfl ?_
   exact (zaI default h1 h2 ha).symm
  refine⟨i6,?_⟩
  refine⟨i+1,⟨rfl,trivial,wq rfl⟩,⟨h1,fun j hj=>?_⟩,(msr (by omega))⟩
  by_cases e:j=i
  ·subst e; exact h2
  exact ha j (by omega)
 have h1:i=l.length:=by have:=dF h1; omega
 subst h1
 refine r1I rfl ?_
 exact (zaN default ha).symm
theorem zoQ (l:List Rpt) (g:FuncId) (c0 c1:D) (p:Rpt->Bool) (hn:l.length<=1000000) (hp:∀ i,i<l.length->Spec PP g [(l.getD i default).v,.d c0,.d c1] [B (p (l.getD i default))]):Spec PP 34 [.d (lR l),.d (cloB g [c0,c1])] [N (idxL p l)]:=by
 refine sA Tryz.func34 ?_
 refine lOf (σ:=Nat) (fun i=>([(0,.d (lR l)),(1,.d (cloB g [c0,c1])),(6,.d (lR l)),(7,.d (I l.length)),(8,.d (I i))],[])) (fun i=>i<=l.length /\ ∀ j,j<i->p (l.getD j default)=false) (fun i=>l.length - i) 0
  ⟨rfl,trivial,wq rfl⟩ z0L fun i hi=>?_
 obtain⟨hi,ha⟩:=hi
 apply bY <;> intro h1
 ·have h1:i<l.length:=by have:=dT h1; omega
  refine⟨⟨rfl,by omega,by omega⟩,?_⟩
  refine cP (hp i h1) rfl rfl ?_
  apply bY <;> intro h2
  ·refine r1I rfl ?_
   exact (zaI default h1 h2 ha).symm
  refine⟨i6,?_⟩
  refine⟨i+1,⟨rfl,trivial,wq rfl⟩,⟨h1,fun j hj=>?_⟩,(msr (by omega))⟩
  by_cases e:j=i
  ·subst e; exact h2
  exact ha j (by omega)
 have h1:i=l.length:=by have:=dF h1; omega
 subst h1
 refine r1I rfl ?_
 exact (zaN default ha).symm
theorem zgx (r:Rpt) (rs:List Rsn) (w:Nat) (hw:w<rs.length):Spec PP 90 [r.v,.d (capB [lRs rs]),.d (capB [I (w:Int)])] [B (r.ID==(rs.getD w default).R)]:=by
 refine sA Tryz.func90 ?_
 refine oN 9 ?_
 refine⟨⟨rfl,by omega,by omega⟩,?_⟩
 exact r1B rfl rfl
theorem ziV {s:Svc} {l:List Rpt} {L:List (Nat->Bool)} {ps:List Place} {rs:List Rsn} {n:Nat} (h:ckR s l L ps rs n=none):∀ m,n<=m->ckR s l L ps rs m=none
 | 0,hm=>by
  have:n=0:=by omega
  rw[this] at h; exact h
 | m+1,hm=>by
  by_cases e:n=m+1
  ·rw[<- e]; exact h
  have:=ziV h m (by omega)
  show (ckR s l L ps rs m).bind _=none
  rw[this]; rfl
def ckQ (s:Svc) (l:List Rpt) (L:List (Nat->Bool)) (ps:List Place) (rs:List Rsn) (n:Nat):Nat × Nat:=(ckR s l L ps rs n).getD (0,0)
def chkR (s:Svc) (b:Brn) (l:List Rpt) (ps:List Place) (rs:List Rsn):Int:=if givE s b l≠0 then givE s b l else if ckE s l (l.map (alwP s b)) ps rs=true then 0 else 8
def obCk (s:Svc) (l:List Rpt) (L:List (Nat->Bool)) (ps:List Place) (rs:List Rsn) (e:Int) (q:Nat × Nat):List (Nat × Ob):=
 [(7,.box [.d (lR l)]),(8,.box [.d (lP ps)]),(9,.box [.d (lRs rs)]),(10,.box [.d (I e)]),(11,.box [.d (lB L)]),(13,.box [.d (I (q.1:Int))]),(14,.box [.d (I (q.2:Int))])]
structure Key (G:Prop):Prop where
  out:G
theorem two_ {G T:Prop} (h:Key G->T) (g:G):T:=h ⟨g⟩
section
variable {s:Svc} {l:List Rpt} {L:List (Nat->Bool)} {ps:List Place} {rs:List Rsn} {n:Nat} {q:Nat × Nat}
theorem ck_no (hq:ckR s l L ps rs n=some q) (hn:n<s.n) (h:cks s l L ps rs n q=none):ckE s l L ps rs=false:=by
 have h1:ckR s l L ps rs (n+1)=none:=by
  show (ckR s l L ps rs n).bind _=none
  rw[hq]; exact h
 unfold ckE
 rw[ziV h1 s.n (by omega)]
theorem zry {q':Nat × Nat} (hq:ckR s l L ps rs n=some q) (h:cks s l L ps rs n q=some q'):ckR s l L ps rs (n+1)=some q':=by
 show (ckR s l L ps rs n).bind _=_
 rw[hq]; exact h
theorem zrx (h:inB s ps q.1 n=outB s rs q.2 n):cks s l L ps rs n q=none:=by unfold cks; rw[kG h]
theorem zrw (h1:inB s ps q.1 n=true) (h2:outB s rs q.2 n=false):cks s l L ps rs n q=if 0<=fstI L n then none else some (q.1+1,q.2):=by
 unfold cks; rw[kF (by rw[h1,h2]; decide),kG h1]
theorem zpY (h1:inB s ps q.1 n=false) (h2:outB s rs q.2 n=true):cks s l L ps rs n q=if rptI l (rs.getD q.2 default).R<0 \/ L.getD (rptI l (rs.getD q.2 default).R).toNat default n=true then none else some (q.1,q.2+1):=by
 unfold cks; rw[kF (by rw[h1,h2]; decide),kF (by rw[h1]; decide)]
theorem zpc (h:outB s rs q.2 n=true):q.2<rs.length:=by
 unfold outB at h
 rw[jP,kM] at h
 exact h.1
end
theorem zoT {l:List Rpt} {id:Int} (h:¬ rptI l id<0):(rptI l id).toNat<l.length/\0<=rptI l id:=by
 rcases idxL_cases (fun r:Rpt=>r.ID==id) l default with⟨h1,_⟩ | ⟨i,h1,h2,_⟩
 ·exact absurd (show rptI l id<0 by unfold rptI; rw[h1]; decide) h
 unfold rptI; rw[h2]; exact⟨h1,by omega⟩
theorem capB2 (x y:D) {f:Nat->D} (h0:f 0 = .ptr 1 (getD' [x])) (h1:f 1 = .ptr 1 (getD' [y])):∀ j,j<2->D.eqv (f j) (getD' [capB [x],capB [y]] j)
 | 0,_=>by rw[h0]; exact dE _
 | 1,_=>by rw[h1]; exact dE _
abbrev ckSl:List (Nat × AV):=[(7,.box 7 0),(8,.box 8 0),(9,.box 9 0),(10,.box 10 0),(11,.box 11 0),(13,.box 13 0),(14,.box 14 0)]
abbrev ckP (s:Svc) (n:Nat):List (Nat × Ob):=[(16,.box [.d (I (plc s.c.M n).X),.d (I (plc s.c.M n).Y)])]
theorem zhu (s:Svc) (b:Brn) (l:List Rpt) (ps:List Place) (rs:List Rsn) (hp:ps.length<=1000000) (hr:rs.length<=1000000):Spec PP 39 [s.v,b.v,.d (lR l),.d (lP ps),.d (lRs rs)] [.d (.int .i64 (chkR s b l ps rs))]:=by
 refine zcD [9,14] Tryz.func39 rfl (by kernel_rfl) rfl ?_
 refine cR (zpu s b l) rfl rfl ?_
 by_cases h0:givE s b l=0
 ·have e:allR s b l=(l.map (alwP s b),0):=by unfold allR; rw[kF (fun hh=>hh h0)]
  have e1:chkR s b l ps rs=if ckE s l (l.map (alwP s b)) ps rs=true then 0 else 8:=by unfold chkR; rw[kF (fun hh=>hh h0)]
  have ok:=zco h0
  have hn:=ok.n
  have hL:(l.map (alwP s b)).length=l.length:=qA _
  have hl:=zbB ok.s.c.m
  rw[e,e1]
  generalize l.map (alwP s b)=L at hL
  refine sF ?_
  refine cR (zdX s.c.M) rfl rfl ?_
  refine CodeOb.rangeC [9,14] (zcJ s.c.M ok.s.c.m) rfl (fun _=>rfl) (by decide) ckSl []
   (fun pre=>obCk s l L ps rs 0 (ckQ s l L ps rs pre.length)) rfl (fun _=>rfl) ?_ (Iv:=fun pre=>ckR s l L ps rs pre.length=some (ckQ s l L ps rs pre.length)) rfl (fun v pre x hx hI=>?_) (fun hI=>?_)
  ·exact⟨rfl,⟨obX rfl,obX rfl,obX rfl,obX rfl,obX rfl,obX rfl,obX rfl,trivial⟩,wq rfl⟩
  ·obtain⟨rfl,hk⟩:=zgc hx
   have hnn:=zbP ok.s.c.m (k:=pre.length)
   obtain⟨q,hq⟩:∃ q,ckQ s l L ps rs pre.length=q:=⟨_,rfl⟩
   have hle:=zlI hI
   have hpl:(pre ++ [(pre.length / s.c.M.w,pre.length % s.c.M.w)]).length=pre.length+1:=by simp
   rw[hq] at hI hle ⊢
   have nx:∀ q',cks s l L ps rs pre.length q=some q'->ckR s l L ps rs (pre ++ [(pre.length / s.c.M.w,pre.length % s.c.M.w)]).length=some (ckQ s l L ps rs (pre ++ [(pre.length / s.c.M.w,pre.length % s.c.M.w)]).length)/\ckQ s l L ps rs (pre ++ [(pre.length / s.c.M.w,pre.length % s.c.M.w)]).length=q':=fun q' h=>by
    have h1:=zry hI h
    rw[hpl]
    have h2:ckQ s l L ps rs (pre.length+1)=q':=by unfold ckQ; rw[h1]; rfl
    exact⟨by rw[h1,h2],h2⟩
   have stop:cks s l L ps rs pre.length q=none->(8:Int)=if ckE s l L ps rs=true then 0 else 8:=fun h=>by rw[kF (by rw[ck_no hI hk h]; decide)]
   refine oN 13 ?_
   apply two_
   ·intro key
    apply bY <;> intro h1
    ·have h1:q.1<ps.length:=by have:=dT h1; omega
     refine⟨⟨rfl,by omega,by omega⟩,?_⟩
     repeat first | apply sT | apply sF
     refine kAt (pinS v ckSl ++ [(15,.d (I pre.length)),(16,.box 16 0),(17,.d (.bool (inB s ps q.1 pre.length)))]) (obCk s l L ps rs 0 q++ckP s pre.length) ?_ ?_
     refine⟨rfl,⟨obX rfl,obX rfl,obX rfl,obX rfl,obX rfl,obX rfl,obX rfl,obX rfl,trivial⟩,avQ rfl,avQ rfl,avQ rfl,avQ rfl,avQ rfl,avQ rfl,avQ rfl,avI rfl hnn,avQ rfl,avE rfl ?_,trivial⟩
     ·refine D.eqv_of_eq (jI D.bool ?_)
      unfold inB
      rw[jG h1,qJ]
      exact eqPW (ps.getD q.1 default) (plc s.c.M pre.length)
     exact key.out
    have h1:¬ q.1<ps.length:=by have:=dF h1; omega
    repeat first | apply sT | apply sF
    refine kAt (pinS v ckSl ++ [(15,.d (I pre.length)),(16,.box 16 0),(17,.d (.bool (inB s ps q.1 pre.length)))]) (obCk s l L ps rs 0 q++ckP s pre.length) ?_ ?_
    refine⟨rfl,⟨obX rfl,obX rfl,obX rfl,obX rfl,obX rfl,obX rfl,obX rfl,obX rfl,trivial⟩,avQ rfl,avQ rfl,avQ rfl,avQ rfl,avQ rfl,avQ rfl,avQ rfl,avI rfl hnn,avQ rfl,avE rfl ?_,trivial⟩
    ·refine D.eqv_of_eq (jI D.bool ?_)
     unfold inB
     rw[jH h1]; rfl
    exact key.out
   refine oN 14 ?_
   apply two_
   ·intro key
    apply bY <;> intro h1
    ·have h1:q.2<rs.length:=by have:=dT h1; omega
     refine⟨⟨rfl,by omega,by omega⟩,?_⟩
     repeat first | apply sT | apply sF
     refine kAt (pinS v ckSl ++ [(15,.d (I pre.length)),(16,.box 16 0),(17,.d (.bool (inB s ps q.1 pre.length))),(18,.d (.bool (outB s rs q.2 pre.length)))]) (obCk s l L ps rs 0 q++ckP s pre.length) ?_ ?_
     refine⟨rfl,⟨obX rfl,obX rfl,obX rfl,obX rfl,obX rfl,obX rfl,obX rfl,obX rfl,trivial⟩,avQ rfl,avQ rfl,avQ rfl,avQ rfl,avQ rfl,avQ rfl,avQ rfl,avR _ rfl,avQ rfl,avR _ rfl,avE rfl ?_,trivial⟩
     ·refine D.eqv_of_eq (jI D.bool ?_)
      unfold outB
      rw[jG h1,qJ]
      exact eqPW (rs.getD q.2 default).At (plc s.c.M pre.length)
     exact key.out
    have h1:¬ q.2<rs.length:=by have:=dF h1; omega
    repeat first | apply sT | apply sF
    refine kAt (pinS v ckSl ++ [(15,.d (I pre.length)),(16,.box 16 0),(17,.d (.bool (inB s ps q.1 pre.length))),(18,.d (.bool (outB s rs q.2 pre.length)))]) (obCk s l L ps rs 0 q++ckP s pre.length) ?_ ?_
    refine⟨rfl,⟨obX rfl,obX rfl,obX rfl,obX rfl,obX rfl,obX rfl,obX rfl,obX rfl,trivial⟩,avQ rfl,avQ rfl,avQ rfl,avQ rfl,avQ rfl,avQ rfl,avQ rfl,avR _ rfl,avQ rfl,avR _ rfl,avE rfl ?_,trivial⟩
    ·refine D.eqv_of_eq (jI D.bool ?_)
     unfold outB
     rw[jH h1]; rfl
    exact key.out
   have fail:cks s l L ps rs pre.length q=none->_:=fun h=>stop h
   apply bY <;> intro h1
   ·have h1:inB s ps q.1 pre.length=outB s rs q.2 pre.length:=by simpa using h1
    refine⟨obCk s l L ps rs 8 q,rfl,⟨rfl,⟨obX rfl,obX rfl,obX rfl,obX rfl,obX rfl,obX rfl,obX rfl,trivial⟩,wq rfl⟩,?_⟩
    exact r1CD rfl rfl rfl rfl rfl ⟨rfl,stop (zrx h1)⟩
   have h1:inB s ps q.1 pre.length≠outB s rs q.2 pre.length:=by simpa using h1
   apply bY <;> intro h2
   ·have h2:inB s ps q.1 pre.length=true:=h2
    have h3:outB s rs q.2 pre.length=false:=by
     cases ho:outB s rs q.2 pre.length with
     | false=>rfl
     | true=>rw[h2,ho] at h1; exact absurd rfl h1
    have hc:=zrw h2 h3 (l:=l) (L:=L)
    refine⟨i6,?_⟩
    refine cP (zk8 L pre.length pre.length rfl (by omega) (by omega)) rfl rfl ?_
    apply bY <;> intro h4
    ·have h4:0<=fstI L pre.length:=dT h4
     refine⟨obCk s l L ps rs 8 (q.1+1,q.2),rfl,⟨rfl,⟨obX rfl,obX rfl,obX rfl,obX rfl,obX rfl,obX rfl,obX rfl,trivial⟩,wq rfl⟩,?_⟩
     exact r1CD rfl rfl rfl rfl rfl ⟨rfl,stop (by rw[hc,kG h4])⟩
    have h4:¬ 0<=fstI L pre.length:=dF h4
    obtain⟨n1,n2⟩:=nx _ (by rw[hc,kF h4])
    exact⟨n1,rfl,⟨obX rfl,obX rfl,obX rfl,obX rfl,obX rfl,obX (by rw[n2]; rfl),obX (by rw[n2]; rfl),trivial⟩,wq rfl⟩
   have h2:inB s ps q.1 pre.length=false:=h2
   have h3:outB s rs q.2 pre.length=true:=by
    cases ho:outB s rs q.2 pre.length with
    | true=>rfl
    | false=>rw[h2,ho] at h1; exact absurd rfl h1
   have hc:=zpY h2 h3 (l:=l) (L:=L)
   have hw:=zpc h3
   refine CallSt.lend [9,14] rfl (zoQ l 90 (capB [lRs rs]) (capB [I (q.2:Int)]) (fun r=>r.ID==(rs.getD q.2 default).R) (by omega) (fun i hi=>zgx _ rs q.2 hw)) rfl ⟨dE _,⟨rfl,rfl,capB2 _ _ rfl rfl⟩,trivial⟩ rfl ?_
   apply bY <;> intro h4
   ·have h4:rptI l (rs.getD q.2 default).R<0:=dT h4
    repeat first | apply sT | apply sF
    refine⟨obCk s l L ps rs 8 q,rfl,⟨rfl,⟨obX rfl,obX rfl,obX rfl,obX rfl,obX rfl,obX rfl,obX rfl,trivial⟩,wq rfl⟩,?_⟩
    exact r1CD rfl rfl rfl rfl rfl ⟨rfl,stop (by rw[hc,kG (.inl h4)])⟩
   have h4:¬ rptI l (rs.getD q.2 default).R<0:=dF h4
   obtain⟨h5,h6⟩:=zoT h4
   have h7:(rptI l (rs.getD q.2 default).R).toNat<L.length:=by omega
   have hh:=znc (L.getD (rptI l (rs.getD q.2 default).R).toNat default) pre.length (by omega)
   refine⟨⟨rfl,h6,by show rptI l (rs.getD q.2 default).R<(L.length:Int); omega⟩,?_⟩
   refine cP hh rfl rfl ?_
   repeat first | apply sT | apply sF
   apply bY <;> intro h8
   ·have h8:L.getD (rptI l (rs.getD q.2 default).R).toNat default pre.length=true:=h8
    refine⟨obCk s l L ps rs 8 q,rfl,⟨rfl,⟨obX rfl,obX rfl,obX rfl,obX rfl,obX rfl,obX rfl,obX rfl,trivial⟩,wq rfl⟩,?_⟩
    exact r1CD rfl rfl rfl rfl rfl ⟨rfl,stop (by rw[hc,kG (.inr h8)])⟩
   have h8:L.getD (rptI l (rs.getD q.2 default).R).toNat default pre.length=false:=h8
   obtain⟨n1,n2⟩:=nx _ (by rw[hc,kF (fun h=>h.elim h4 (fun g=>by rw[h8] at g; cases g))])
   refine⟨i6,?_⟩
   exact⟨n1,rfl,⟨obX rfl,obX rfl,obX rfl,obX rfl,obX rfl,obX (by rw[n2]; rfl),obX (by rw[n2]; rfl),trivial⟩,wq rfl⟩
  rw[zcq] at hI ⊢
  obtain⟨q,hq⟩:∃ q,ckQ s l L ps rs (s.c.M.w * s.c.M.h)=q:=⟨_,rfl⟩
  rw[hq] at hI ⊢
  have hle:=zlI hI
  have ee:ckE s l L ps rs=(decide (ps.length<=q.1) && decide (rs.length<=q.2)):=by unfold ckE; rw[show ckR s l L ps rs s.n=some q from hI]
  apply bY <;> intro h1
  ·have h1:q.1<ps.length:=by have:=dT h1; omega
   repeat first | apply sT | apply sF
   exact r1CD rfl rfl rfl rfl rfl ⟨rfl,by rw[ee,jH (show ¬ ps.length<=q.1 by omega),jaA,kF (by decide)]⟩
  have h1:¬ q.1<ps.length:=by have:=dF h1; omega
  repeat first | apply sT | apply sF
  apply bY <;> intro h2
  ·have h2:q.2<rs.length:=by have:=dT h2; omega
   exact r1CD rfl rfl rfl rfl rfl ⟨rfl,by rw[ee,jH (show ¬ rs.length<=q.2 by omega),jaW,kF (by decide)]⟩
  have h2:¬ q.2<rs.length:=by have:=dF h2; omega
  exact r1CD rfl rfl rfl rfl rfl ⟨rfl,by rw[ee,jG (show ps.length<=q.1 by omega),jG (show rs.length<=q.2 by omega)]; rfl⟩
 have e:allR s b l=([],givE s b l):=by unfold allR; rw[kG h0]
 have e1:chkR s b l ps rs=givE s b l:=by unfold chkR; rw[kG h0]
 rw[e,e1]
 refine sYe (by simpa using h0) ?_
 exact r1CD rfl rfl rfl rfl rfl (dE _)
def honB (s:Svc) (b:Brn) (zs:List Zs) (p:Place) (r:Rpt):Bool:=(zatR zs r.C r.Tick).2 && tolB s b p (zatR zs r.C r.Tick).1 r
theorem zme (s:Svc) (b:Brn) (zs:List Zs) (p:Place) (r:Rpt) (hc:crpE s r=0) (hz:∀ z∈zs,0<=z.T/\z.T<=1048576) (hn:zs.length<=1000000):Spec PP 11 [s.v,b.v,.d (lZs zs),p.v,r.v] [B (honB s b zs p r)]:=by
 obtain⟨c1,c2,c3⟩:=zru hc
 have ok:=zc9 c1
 have okt:=ok.c.t
 obtain⟨f1,f2,f3,f4⟩:=zbQ c2
 have ff:=zns f1
 have fT:¬ towI s.c.T r.Tower<0:=fun h=>f2 (.inl (by unfold towG; rw[kG h]))
 have tl:=zfe fT
 have tu:=fun {i:Nat} (hi:i<s.c.T.length)=>zmp (s:=s) ok.c (id:=r.Tower) hi fT
 have tk:0<=r.Tick/\r.Tick<=1048576:=by
  unfold zerR at f4
  split at f4
  ·rename_i h; exact absurd f4 h
  rename_i h
  obtain⟨k1,k2,k3,-,-⟩:=zgy (zl7 (jL h))
  have:=((zbJ k1).cs _ (zbn k2).1).t
  have:=zaa.1 k3
  omega
 have cZ:=zmd zs r.C r.Tick hz tk hn
 obtain⟨Z,hZ⟩:∃ Z,Z=(zatR zs r.C r.Tick).1:=⟨_,rfl⟩
 obtain⟨k,hk⟩:∃ k,k=(zatR zs r.C r.Tick).2:=⟨_,rfl⟩
 rw[<- hZ,<- hk] at cZ
 have eH:honB s b zs p r=(k && tolB s b p Z r):=by unfold honB; rw[hZ,hk]
 rw[eH]
 have sb:=zqz (towG s.c.T r.Tower).1.At p Z r.Slack
 have cS:=zp6 (towG s.c.T r.Tower).1.At p Z r.Slack
 have eT:tolB s b p Z r=if r.Kind=1 then lookB s b r p && shwB (towG s.c.T r.Tower).1.At p Z r.Slack && decide ((r.From - (shwS (towG s.c.T r.Tower).1.At p Z r.Slack).Lo) % 3600<=(shwS (towG s.c.T r.Tower).1.At p Z r.Slack).Hi - (shwS (towG s.c.T r.Tower).1.At p Z r.Slack).Lo)
  else !lookB s b r p || !shwB (towG s.c.T r.Tower).1.At p Z r.Slack || decide ((r.To - r.From) % 3600<((shwS (towG s.c.T r.Tower).1.At p Z r.Slack).Lo - r.From) % 3600+(shwS (towG s.c.T r.Tower).1.At p Z r.Slack).Hi - (shwS (towG s.c.T r.Tower).1.At p Z r.Slack).Lo):=rfl
 generalize hA:(towG s.c.T r.Tower).1.At=A at *
 generalize tolB s b p Z r=tb at *
 generalize hH:shwB A p Z r.Slack=hs at *
 generalize shwS A p Z r.Slack=sp at *
 refine zcD [10] Tryz.func11 rfl (by kernel_rfl) rfl ?_
 refine lOf (σ:=Nat) (fun i=>([(2,.d (lZs zs)),(5,.box 5 0),(6,.box 6 0),(8,.box 8 0),(9,.box 9 0),(11,.box 11 0),(22,.d (lT s.c.T)),(23,.d (I s.c.T.length)),(24,.d (I i))],[(5,.box (s.ds.map AV.d)),(6,.box (b.ds.map AV.d)),(8,.box ([I p.X,I p.Y].map AV.d)),(9,.box (r.ds.map AV.d)),(11,.box ([I (atK s r i).X,I (atK s r i).Y].map AV.d))])) (fun i=>i<=s.c.T.length) (fun i=>s.c.T.length - i) 0
  ⟨rfl,⟨obD s.ds rfl,obD b.ds rfl,obD [I p.X,I p.Y] rfl,obD r.ds rfl,obX (by unfold atK; rw[kF (by omega)]; rfl),trivial⟩,wq rfl⟩ (jF _) fun i hi=>?_
 apply bY <;> intro g1
 ·have g1:i<s.c.T.length:=by have:=dT g1; omega
  refine⟨⟨rfl,by omega,by omega⟩,?_⟩
  apply bY <;> intro g2
  ·have g2:(s.c.T.getD i default).ID=r.Tower:=by simpa using g2
   have e:=(tu g1).1 g2
   have ea:atK s r (i+1)=(s.c.T.getD i default).At:=by unfold atK; rw[kG (by omega),zmq fT,<- e]
   refine⟨i6,?_⟩
   exact⟨i+1,⟨rfl,⟨obD s.ds rfl,obD b.ds rfl,obD [I p.X,I p.Y] rfl,obD r.ds rfl,obX (by rw[ea]; rfl),trivial⟩,wq rfl⟩,g1,msr g1⟩
  have g2:(s.c.T.getD i default).ID≠r.Tower:=by simpa using g2
  have e:i≠(towI s.c.T r.Tower).toNat:=fun h=>g2 ((tu g1).2 h)
  have ea:atK s r (i+1)=atK s r i:=by
   unfold atK
   by_cases h:(towI s.c.T r.Tower).toNat<i
   ·rw[kG h,kG (by omega)]
   rw[kF h,kF (by omega)]
  refine⟨i6,?_⟩
  exact⟨i+1,⟨rfl,⟨obD s.ds rfl,obD b.ds rfl,obD [I p.X,I p.Y] rfl,obD r.ds rfl,obX (by rw[ea]; rfl),trivial⟩,wq rfl⟩,g1,msr g1⟩
 have g1:i=s.c.T.length:=by have:=dF g1; omega
 subst g1
 have ea:atK s r s.c.T.length=A:=by unfold atK; rw[kG (by omega),hA]
 rw[ea]
 have eL:lookB s b r p=(decide ((seesE s.c r.Tower p b.Rise r.Tick).2=0) && (seesE s.c r.Tower p b.Rise r.Tick).1 && within r.Tick b.From b.To):=rfl
 refine cP (zol s.c r.Tower p b.Rise r.Tick) rfl rfl ?_
 apply two_
 ·intro key
  apply bY <;> intro l2
  ·have l2:(seesE s.c r.Tower p b.Rise r.Tick).1=true:=l2
   repeat first | apply sT | apply sF
   apply bY <;> intro l1
   ·have l1:(seesE s.c r.Tower p b.Rise r.Tick).2=0:=by simpa using l1
    repeat first | apply sT | apply sF
    apply bY <;> intro l3
    ·have l3:b.From<=r.Tick:=dT l3
     repeat first | apply sT | apply sF
     refine kAt [(2,.d (lZs zs)),(8,.box 8 0),(9,.box 9 0),(11,.box 11 0),(14,.d (.bool (lookB s b r p)))] [(8,.box ([I p.X,I p.Y].map AV.d)),(9,.box (r.ds.map AV.d)),(11,.box ([I A.X,I A.Y].map AV.d))] ⟨rfl,⟨obD [I p.X,I p.Y] rfl,obD r.ds rfl,obX rfl,trivial⟩,avQ rfl,avQ rfl,avQ rfl,avQ rfl,avBl rfl ?_,trivial⟩ key.out
     rw[eL,jG l1,l2]; unfold within; rw[jG l3]; rfl
    have l3:¬ b.From<=r.Tick:=dF l3
    repeat first | apply sT | apply sF
    refine kAt [(2,.d (lZs zs)),(8,.box 8 0),(9,.box 9 0),(11,.box 11 0),(14,.d (.bool (lookB s b r p)))] [(8,.box ([I p.X,I p.Y].map AV.d)),(9,.box (r.ds.map AV.d)),(11,.box ([I A.X,I A.Y].map AV.d))] ⟨rfl,⟨obD [I p.X,I p.Y] rfl,obD r.ds rfl,obX rfl,trivial⟩,avQ rfl,avQ rfl,avQ rfl,avQ rfl,avBl rfl ?_,trivial⟩ key.out
    rw[eL]; unfold within; rw[jH l3]; simp
   have l1:(seesE s.c r.Tower p b.Rise r.Tick).2≠0:=by simpa using l1
   repeat first | apply sT | apply sF
   refine kAt [(2,.d (lZs zs)),(8,.box 8 0),(9,.box 9 0),(11,.box 11 0),(14,.d (.bool (lookB s b r p)))] [(8,.box ([I p.X,I p.Y].map AV.d)),(9,.box (r.ds.map AV.d)),(11,.box ([I A.X,I A.Y].map AV.d))] ⟨rfl,⟨obD [I p.X,I p.Y] rfl,obD r.ds rfl,obX rfl,trivial⟩,avQ rfl,avQ rfl,avQ rfl,avQ rfl,avBl rfl ?_,trivial⟩ key.out
   rw[eL,jH l1]; rfl
  have l2:(seesE s.c r.Tower p b.Rise r.Tick).1=false:=l2
  repeat first | apply sT | apply sF
  refine kAt [(2,.d (lZs zs)),(8,.box 8 0),(9,.box 9 0),(11,.box 11 0),(14,.d (.bool (lookB s b r p)))] [(8,.box ([I p.X,I p.Y].map AV.d)),(9,.box (r.ds.map AV.d)),(11,.box ([I A.X,I A.Y].map AV.d))] ⟨rfl,⟨obD [I p.X,I p.Y] rfl,obD r.ds rfl,obX rfl,trivial⟩,avQ rfl,avQ rfl,avQ rfl,avQ rfl,avBl rfl ?_,trivial⟩ key.out
  rw[eL,l2]; simp
 generalize lookB s b r p=lk at *
 refine cP cZ rfl rfl ?_
 refine cP cS rfl rfl ?_
 apply bY <;> intro k1
 ·have k1:r.Kind=1:=by simpa using k1
  rw[kG k1] at eT
  rw[eT]
  refine oN 22 ?_
  cases k <;> cases lk <;> cases hs
  all_goals repeat first | apply sT | apply sF
  case true.true.true=>
   refine⟨i6,?_⟩
   refine oP (zfd (r.From - sp.Lo) (by omega)) rfl rfl ?_
   refine⟨i6,?_⟩
   repeat first | apply sT | apply sF
   exact r1B rfl rfl
  all_goals exact r1B rfl rfl
 have k1:r.Kind≠1:=by simpa using k1
 rw[kF k1] at eT
 rw[eT]
 obtain⟨fb1,fb2,fb3⟩:=zpF f1 k1
 refine oN 31 ?_
 cases k <;> cases lk <;> cases hs
 all_goals repeat first | apply sT | apply sF
 case true.true.true=>
  refine⟨i6,?_⟩
  refine oP (zfd (sp.Lo - r.From) (by omega)) rfl rfl ?_
  refine⟨i6,⟨i6,⟨i6,?_⟩⟩⟩
  refine oP (zfd (r.To - r.From) (by omega)) rfl rfl ?_
  repeat first | apply sT | apply sF
  exact r1B rfl rfl
 all_goals exact r1B rfl rfl
end Go.Pg
namespace Go.Pg
open Go.Proofs Go.Shelf Go.RowKit Go.Lib Go.Sort
variable {P:Program} {ρ:Ren}
theorem zje (w:World) (t e ty:TypeId) (z:Value) (ht:P.underlying t=some (.slice e)) (hv:∀ w,(zeroValue e).run P w = .ok z w) (b o n c:Nat) (zs:List Value) (hzs:(Builtin.zeroCells z.cells n).toList=zs) (ho:∀ v∈zs,v.oneCell'=true) (hn:0<n)
  (hc:∀ j,j<zs.length->(w.cell? ⟨b,o+j,none⟩).isSome=true) (hf:∀ j,j<zs.length->w.frozen? ⟨b,o+j,none⟩=false) :
  (Builtin.clear_ #[t] ty #[.slice (some ⟨b,o,none⟩) n c]).run P w = .ok (.tuple #[]) (w.setCells b o zs):=by
 have hst:=run_storeCells_cells (P:=P) b o zs 0 w (by simpa using hc) (by simpa using hf) ho
 simp only[Nat.add_zero] at hst
 obtain⟨m,rfl⟩:∃ m,n=m+1:=⟨n - 1,by omega⟩
 simp[Builtin.clear_,run_underlying ht,hv,hzs,hst]
theorem zm9 (d:Array Value) (i j:Nat) (t:List Value) (hij:i<=j) (hj:j<=d.size) (ht:t.length=j - i) :
  lay (lay d i (d.toList.drop j)) (i+(d.size - j)) t=(d.toList.take i++d.toList.drop j++t).toArray:=by
 apply Array.ext_getElem?
 intro u
 have l1:(d.toList.take i).length=i:=by simp; omega
 have l2:(d.toList.drop j).length=d.size - j:=by simp
 rw[lay_get? _ _ _ _ (by rw[lay_size]; omega),lay_get? _ _ _ _ (by rw[l2]; omega),show (d.toList.take i++d.toList.drop j++t).toArray[u]?=(d.toList.take i++d.toList.drop j++t)[u]? from by simp]
 simp only[l2,ht]
 by_cases c1:u<i
 ·rw[kF (by omega),kF (by omega),jJ (by simp; omega),jJ (by omega),jS,kG c1,wJ]
 by_cases c2:u<i+(d.size - j)
 ·rw[kF (by omega),kG (by omega),jJ (by simp; omega),jK (by omega),l1]
 rw[jK (by simp; omega)]
 simp only[jR,l1,l2]
 by_cases c3:u<d.size
 ·rw[kG (by omega)]
 rw[kF (by omega),kF (by omega),jac (by omega),qN (by omega)]
set_option maxRecDepth 1000000 in
theorem znA (L:SlLaysE0.n45 P ρ) {k:Nat} (hk:0<k) (a23:∀ w,(isAgg (ρ.t 23)).run P w = .ok true w) (z23:∀ w,(Go.sizeOf (ρ.t 23)).run P w = .ok k w) (i0:TypeInfo) (hi0:P.info? (ρ.t 23)=some i0) (hz1:i0.size=k)
  (z:Value) (v23:∀ w,(zeroValue (ρ.t 23)).run P w = .ok z w) (zs:List Value) (blk off cap i j n:Nat) (hzs:(Builtin.zeroCells z.cells (j - i)).toList=zs) (hzl:zs.length=(j - i) * k) (hzo:∀ v∈zs,v.oneCell'=true)
  (D:Array Value) (hD:D.size=n * k) (hDo:∀ v∈D.toList,v.oneCell'=true) (w:World) (hH:Go.Sort.Holds id w blk off D) (hcap:n<=cap) (hm:cap<=9223372036854775807) (hij:i<j) (hj:j<=n) :
  Calls P (ρ.f 45) #[.slice (some ⟨blk,off,none⟩) n cap,.int .i64 i,.int .i64 j] w fun e w'=>e = .returned (.slice (some ⟨blk,off,none⟩) (n - (j - i)) cap) /\ ∃ q,w'=putRow id (Sort.ahead w q) blk off (D.toList.take (i * k)++D.toList.drop (j * k)++zs).toArray:=by
 have mixed:=L.mixed; have t0:=L.t0; have a0:=L.a0; have z0:=L.z0; have v0:=L.v0; have t3:=L.t3; have a3:=L.a3; have z3:=L.z3; have v3:=L.v3; have t4:=L.t4; have a4:=L.a4; have z4:=L.z4; have v4:=L.v4; have t22:=L.t22; have a22:=L.a22; have z22:=L.z22; have v22:=L.v22
 have b1:i * k<=j * k:=jW k (by omega)
 have b2:j * k<=n * k:=jW k hj
 have b3:(n - j) * k=n * k - j * k:=Nat.sub_mul n j k
 have b4:(j - i) * k=j * k - i * k:=Nat.sub_mul j i k
 have b5':(i+(n - j)) * k=i * k+(n * k - j * k):=by rw[kP,b3]
 have b5:Hid ((i+(n - j)) * k=i * k+(n * k - j * k)):=b5'
 obtain⟨news,hnews⟩:∃ news,news=D.toList.drop (j * k):=⟨_,rfl⟩
 have hlen:news.length=(n - j) * k:=by rw[hnews,wE,kB,hD,b3]
 have hget:∀ t,t<(n - j) * k->news[t]?=some D[j * k+t]!:=by
  intro t ht
  rw[hnews,qW,wJ,jaX D (j * k+t) (by omega),qR (by omega)]
 obtain⟨A,hA,hsrc⟩:∃ A:Addr,(if cap=j then some (⟨blk,off,none⟩:Addr) else some ⟨blk,off+j * k,none⟩)=some A/\Hid (∀ t u,news[t]?=some u->w.drew.cell? (A.add t)=some u):=by
  by_cases h:cap=j
  ·refine⟨⟨blk,off,none⟩,by simp[h],fun t u hu=>?_⟩
   have h0:news.length=0:=by rw[hlen,show n - j=0 by omega,Nat.zero_mul]
   rw[jav.1 h0] at hu
   simp at hu
  refine⟨⟨blk,off+j * k,none⟩,by simp[h],fun t u hu=>?_⟩
  have ht:t<(n - j) * k:=by
   have:=(kC.1 hu).1
   rwa [hlen] at this
  rw[hget t ht] at hu
  rw[Addr.add_lit,show off+j * k+t=off+(j * k+t) by omega]
  exact (hH (j * k+t) (by omega)).1.trans hu
 have s1:Hid (news.length=(n - j) * k):=hlen
 have s2:Hid (∀ u∈news,u.oneCell'=true):=by
  intro u hu
  rw[hnews] at hu
  exact hDo u (List.mem_of_mem_drop hu)
 have s3:Hid (∀ t,t<news.length->(w.drew.cell? ⟨blk,off+i * k+t,none⟩).isSome=true/\w.drew.frozen? ⟨blk,off+i * k+t,none⟩=false):=by
  intro t ht
  rw[hlen,b3] at ht
  rw[jah]
  exact⟨by show (w.cell? _).isSome=true; rw[(hH (i * k+t) (by omega)).1]; rfl,(hH (i * k+t) (by omega)).2⟩
 obtain⟨W1,hW1⟩:∃ W1,W1=w.drew.setCells blk (off+i * k) news:=⟨_,rfl⟩
 have hW1':W1=putRow id (Sort.ahead w 1) blk off (lay D (i * k) (D.toList.drop (j * k))):=by
  have e:=putRow_setCells id (Sort.ahead w 1) blk off (D.toList.drop (j * k)) D (i * k) (by simp; omega)
  rw[List.map_id,putRow_self id (Sort.ahead w 1) blk off D (holds_ahead id w 1 blk off D hH)] at e
  rw[hW1,hnews,<- e]
  rfl
 have hH1:Go.Sort.Holds id W1 blk off (lay D (i * k) (D.toList.drop (j * k))):=by rw[hW1']; exact holds_putRow id _ blk off D _ (holds_ahead id w 1 blk off D hH) (lay_size _ _ _)
 have hcl:∀ ty,(Builtin.clear_ #[ρ.t 22] ty #[.slice (some ⟨blk,off+(i+(n - j)) * k,none⟩) (n - (i+(n - j))) (cap - (i+(n - j)))]).run P W1 = .ok (.tuple #[]) (W1.setCells blk (off+(i+(n - j)) * k) zs):=
  fun ty=>zje W1 _ _ ty z t22 v23 blk (off+(i+(n - j)) * k) _ _ zs (by rw[show n - (i+(n - j))=j - i by omega]; exact hzs) hzo (by omega)
   (fun t ht=>by have:=b5.out; rw[jah,(hH1 _ (by rw[lay_size]; omega)).1]; rfl) (fun t ht=>by have:=b5.out; rw[jah]; exact (hH1 _ (by rw[lay_size]; omega)).2)
 have X:Aside (W1=putRow id (Sort.ahead w 1) blk off (lay D (i * k) (D.toList.drop (j * k)))):=hW1'
 have hW:Hid (W1=w.drew.setCells blk (off+i * k) news):=hW1
 have hic:i<=cap:=by omega
 have hjc:j<=cap:=by omega
 clear hW1 hW1' hH1 hH hget hnews hlen b1 b2 b3 b4 b5' hzs hzo hDo hm
 obtain⟨_,_,FG⟩:=L.f45
 go_enter FG,SlBodyN.n45_ntmps ρ
 go_wp2_with fail
 go_region_law_o (refine step_append_room rfl (.tmp 22) (.tmp 25) (ρ.t 22) rfl (ρ.t 23) i0 k t22 hi0 hz1 blk off i cap (by simp[Act.eval,Act.put]) A (n - j) (cap - j) news (by simp[Act.eval,Act.put]) s1.out hsrc.out s2.out (by omega) s3.out ?_; rw[<- hW.out])
 go_wp2
 go_ret
 refine⟨by rw[show n - (j - i)=i+(n - j) by omega]; rfl,1,?_⟩
 have b1:i * k<=j * k:=jW k (by omega)
 have b2:j * k<=n * k:=jW k hj
 have b4:(j - i) * k=j * k - i * k:=Nat.sub_mul j i k
 have e:=putRow_setCells id (Sort.ahead w 1) blk off zs (lay D (i * k) (D.toList.drop (j * k))) ((i+(n - j)) * k) (by have:=b5.out; rw[lay_size]; omega)
 rw[List.map_id] at e
 rw[X.out,e,b5.out,<- hD,zm9 D (i * k) (j * k) zs b1 (by omega) (by omega)]
theorem zcC (L:SlLaysE0.n45 P ρ) (hent:Ent P (ρ.f 45)) {k:Nat} (hk:0<k) (a23:∀ w,(isAgg (ρ.t 23)).run P w = .ok true w) (z23:∀ w,(Go.sizeOf (ρ.t 23)).run P w = .ok k w) (i0:TypeInfo) (hi0:P.info? (ρ.t 23)=some i0) (hz1:i0.size=k)
  (z:Value) (v23:∀ w,(zeroValue (ρ.t 23)).run P w = .ok z w) (hzk:z.cells.size=k) (hzo:∀ v∈z.cells.toList,v.oneCell'=true) (e:TypeId) (n i:Nat) (f:Nat->Nat->D) (hf:∀ m j,m<n->j<k->(f m j).flat=true) (hi:i<n) :
  SpecT P (ρ.f 45) [] [.d (.int .i64 i),.d (.int .i64 ((i+1:Nat):Int))] e k n f (n - 1) (fun m=>if m<i then f m else f (m+1)):=by
 refine⟨hent,fun w ok vs us v xs hok h1 h2 hr=>?_⟩
 cases h1
 cases h2 with
 | cons h2 h3=>
 cases h3 with
 | cons h3 h4=>
 cases h4
 rename_i a b
 have ha:a = .int .i64 i:=h2
 have hb:b = .int .i64 ((i+1:Nat):Int):=h3
 subst ha; subst hb
 have hxl:=hr.own.1
 rcases hr.own.2 with⟨h4,h5⟩ | ⟨q,cap,cur,rfl,_,hh,hnc,hcap,hcs,htk⟩
 ·omega
 have b1:i * k<=(i+1) * k:=jW k (by omega)
 have b2:(i+1) * k<=n * k:=jW k hi
 have b3:(i+1) * k=i * k+k:=by rw[kP,Nat.one_mul]
 have b4:(n - 1) * k=n * k - k:=by rw[Nat.sub_mul,Nat.one_mul]
 have hck:n * k<=cap * k:=jW k hnc
 have hxc:∀ t,t<n * k->cur[t]?=xs[t]?:=fun t ht=>by
  rw[<- htk,jS,kG ht,wJ]
 have hH:Go.Sort.Holds id w q 0 xs.toArray:=fun t ht=>by
  have ht:t<n * k:=by simpa [hxl] using ht
  have hx:xs[t]?=some xs.toArray[t]!:=by
   rw[jaX xs.toArray t (by simpa [hxl] using ht),kH (by omega)]; rfl
  refine⟨?_,?_⟩
  ·simp only[World.cell?,hh,id_eq,k9]
   rw[hxc t ht,hx]; rfl
  simp[World.frozen?,hh]
 obtain⟨zs,hzs⟩:∃ zs,(Builtin.zeroCells z.cells (i+1 - i)).toList=zs:=⟨_,rfl⟩
 have hzl:zs.length=(i+1 - i) * k:=by rw[<- hzs,zcz,hzk]
 have hzo':∀ v∈zs,v.oneCell'=true:=fun v hv=>by
  obtain⟨t,ht⟩:=wK hv
  have htl:t<(i+1 - i) * k:=by have:=(kC.1 ht).1; omega
  rw[<- hzs,zcA _ _ _ (by rw[hzk]; exact htl)] at ht
  exact hzo v (kN ht)
 have hrun:=znA L hk a23 z23 i0 hi0 hz1 z v23 zs q 0 cap i (i+1) n hzs hzl hzo' xs.toArray (by simp[hxl]) (by simpa using hr.one) w hH hnc (by unfold maxLen at hcap; omega) (by omega) (by omega)
 refine hrun.mono ?_
 rintro en w' ⟨rfl,m,rfl⟩
 obtain⟨R,hR⟩:∃ R,R=xs.take (i * k)++xs.drop ((i+1) * k)++zs:=⟨_,rfl⟩
 have hzl':zs.length=k:=by rw[hzl,Nat.add_sub_cancel_left,Nat.one_mul]
 have hRl:R.length=n * k:=by rw[hR,jR,jR,jQ,wE,hzl',hxl]; omega
 have hRg:∀ t,t<(n - 1) * k->R[t]?=if t<i * k then xs[t]? else xs[t+k]?:=fun t ht=>by
  rw[hR,jJ (by rw[jR,jQ,wE,hxl]; omega)]
  split
  ·rename_i h1; rw[jJ (by rw[jQ,hxl]; omega),jS,kG h1]
  rename_i h1
  rw[jK (by rw[jQ,hxl]; omega),qW,jQ,hxl]
  congr 1; omega
 have eR:(xs.toArray.toList.take (i * k)++xs.toArray.toList.drop ((i+1) * k)++zs).toArray=R.toArray:=by rw[hR]
 rw[eR]
 have hg:q<w.heap.size:=(jB.1 hh).1
 have hheap:∀ i,i<w.heap.size->(putRow id (Sort.ahead w m) q 0 R.toArray).heap[i]?=if i=q then some (.cells (putCells id 0 R.toArray cur) e (0,0)) else w.heap[i]?:=fun i hi=>by
  simp only[putRow,mapBlock,Sort.ahead]
  rw[jaY]
  by_cases e':q=i
  ·subst e'; simp[hh,onCells]
  rw[kF e',kF (fun e''=>e' e''.symm)]
 have hsz:(putCells id 0 R.toArray cur).size=cap * k:=by simp[putCells,hcs]
 have hsz':(putCells id 0 R.toArray cur).toList.length=cap * k:=(kB).trans hsz
 have hget:∀ t,t<n * k->(putCells id 0 R.toArray cur).toList[t]?=R[t]?:=fun t ht=>by
  have hlt:t<cur.size:=by omega
  rw[wJ,putCells,Array.getElem?_mapIdx,qR hlt]
  simp only[kT,jF,true_and,k9,jaH,hRl,kG ht,Nat.sub_zero,id_eq]
  rw[jaX R.toArray t (by simpa [hRl] using ht),kH (by omega)]; rfl
 rw[show n - (i+1 - i)=n - 1 by omega]
 refine⟨_,rfl,⟨rfl,rfl,rfl,by simp[putRow,mapBlock,Sort.ahead],fun i hi hne=>?_⟩,fun b hb=>.inl hb,(putCells id 0 R.toArray cur).toList.take ((n - 1) * k),⟨by rw[jQ,hsz']; omega,.inr ⟨q,cap,_,rfl,jF _,by rw[hheap q hg,kG rfl],by omega,hcap,hsz,rfl⟩⟩,fun u hu=>?_,fun m' hm' j hj=>?_⟩
 ·rw[hheap i hi,kF fun e'=>hne (by rw[e']; rfl)]
 ·obtain⟨t,ht⟩:=wK hu
  rw[jS] at ht
  split at ht
  ·rename_i hlt
   rw[hget t (by omega),hRg t hlt] at ht
   split at ht
   ·exact hr.one u (kN ht)
   exact hr.one u (kN ht)
  cases ht
 have hlt:m' * k+j<(n - 1) * k:=by
  have:(m'+1) * k<=(n - 1) * k:=jW k hm'
  rw[kP] at this; omega
 rw[jS,kG hlt,hget _ (by omega),hRg _ hlt]
 by_cases hmi:m'<i
 ·have h6:(m'+1) * k<=i * k:=jW k hmi
  rw[kP] at h6
  rw[kG (by omega)]
  obtain⟨u,hu,hrep⟩:=hr.rep m' (by omega) j hj
  refine⟨u,hu,?_⟩
  show Rep _ _ ((if m'<i then f m' else f (m'+1)) j) u
  rw[kG hmi]
  exact Rep.flat (hf m' j (by omega) hj) hrep
 have h6:i * k<=m' * k:=jW k (by omega)
 rw[kF (by omega)]
 obtain⟨u,hu,hrep⟩:=hr.rep (m'+1) (by omega) j hj
 refine⟨u,?_,?_⟩
 ·rw[<- hu]; congr 1; rw[kP]; omega
 show Rep _ _ ((if m'<i then f m' else f (m'+1)) j) u
 rw[kF hmi]
 exact Rep.flat (hf (m'+1) j (by omega) hj) hrep
theorem zgV {e:Nat} {ei:TI} (h:TTab e=some ei) (ha:ei.agg=true):∃ i0 z,PP.info? e=some i0/\i0.size=ei.size/\(∀ w,(isAgg e).run PP w = .ok true w)/\(∀ w,(Go.sizeOf e).run PP w = .ok ei.size w)/\(∀ w,(zeroValue e).run PP w = .ok z w)/\z.cells.toList=ei.zero:=by
 obtain⟨info,d,z,h1,h2,h3,h4,h5,h6,h7,h8⟩:=zae (hT e ei h)
 refine⟨info,z,h1,h4,fun w=>?_,fun w=>?_,fun w=>?_,h7⟩
 ·rw[ha] at h6
  cases d <;> simp[TK.isAgg] at h6 <;> simp[isAgg,run_underlying h2]
 ·simp[Go.sizeOf,typeInfo,h1,h4]
 simp[zeroValue,typeInfo,h1,h3]
theorem SpecT.congr {P:Program} {f:FuncId} {pre post:List V1} {e k n n' n2:Nat} {g g' g2:Nat->Nat->D} (h:SpecT P f pre post e k n g n' g') (hn:n'=n2) (hg:∀ m,m<n2 -> ∀ j,j<k->g' m j=g2 m j):SpecT P f pre post e k n g n2 g2:=by
 subst hn
 refine⟨h.1,fun w ok vs us v xs h1 h2 h3 h4=>(h.2 w ok vs us v xs h1 h2 h3 h4).mono ?_⟩
 rintro en w' ⟨v',e1,e2,e3,xs',e4,e5,e6⟩
 exact⟨v',e1,e2,e3,xs',e4,e5,fun m hm j hj=>by rw[<- hg m hm j hj]; exact e6 m hm j hj⟩
theorem zpG (L:List (Nat->Bool)) (m j:Nat) (hj:j<38):(rowB L m j).flat=true:=by
 show (bAt (L.getD m default) j).flat=true
 rcases i38 hj with rfl | rfl | rfl | rfl | rfl | rfl | rfl | rfl | rfl | rfl | rfl | rfl | rfl | rfl | rfl | rfl | rfl | rfl | rfl | rfl | rfl | rfl | rfl | rfl | rfl | rfl | rfl | rfl | rfl | rfl | rfl | rfl | rfl | rfl | rfl | rfl | rfl | rfl <;> rfl
theorem zm0 (L:List (Nat->Bool)) (hn:L.length<=1000000):SpecO PP 88 [.d (lB L)] 95 38 L.length (rowB L):=by
 refine zba Tryz.func88 rfl (by kernel_rfl) rfl ?_
 refine fun b hb=>?_
 apply bY <;> intro h1
 ·have h0:=hb h1
  refine⟨rfl,rfl,h0.symm,fun i hi=>?_⟩
  omega
 refine⟨⟨.inr rfl,by unfold maxLen; omega,by show (0+L.length) * 304<=140737488355328; omega⟩,?_⟩
 refine⟨rfl,rfl,k9 _,fun i hi j hj=>?_⟩
 exact dE _
theorem zqu (L:List (Nat->Bool)) (i:Nat) (hi:i<L.length):SpecT PP 87 [] [.d (.int .i64 i),.d (.int .i64 ((i+1:Nat):Int))] 95 38 L.length (rowB L) (rmB L i).length (rowB (rmB L i)):=by
 obtain⟨i0,z,h1,h2,h3,h4,h5,h6⟩:=zgV (e:=95) (ei:=⟨38,true,304,List.replicate 38 (.int .u64 0),.array 38 93⟩) (by kernel_rfl) rfl
 have h:=zcC Tryz.delB ⟨_,Tryz.func87,by kernel_rfl,by kernel_rfl⟩ (k:=38) (by decide) h3 h4 i0 h1 h2 z h5 (by rw[<- kB,h6]; rfl) (by rw[h6]; intro v hv; rw[List.eq_of_mem_replicate hv]; rfl) 95 L.length i (rowB L) (fun m j _ hj=>zpG L m j hj) hi
 refine h.congr (zoX hi).symm fun m hm j hj=>?_
 have e:(rmB L i).getD m default=if m<i then L.getD m default else L.getD (m+1) default:=by
  rw[hU,zoY hi]
  split <;> rfl
 show (if m<i then rowB L m else rowB L (m+1)) j=bAt ((rmB L i).getD m default) j
 rw[e]
 split <;> rfl
abbrev rowRp (l:List Rpt):Nat->Nat->D:=fun i=>(l.getD i default).at
theorem pushR {vs:List Rpt} {p:Rpt} {g:Nat->Nat->D} (hg:∀ j,j<8->D.eqv (g 0 j) (p.at j)):D.eqv (.slc 8 (vs.length+1) (appRow vs.length (rowRp vs) g)) (.slc 8 (vs ++ [p]).length (rowRp (vs ++ [p]))):=by
 refine⟨by simp,.inr ⟨rfl,fun i hi j hj=>?_⟩⟩
 show D.eqv (appRow vs.length (rowRp vs) g i j) (((vs ++ [p]).getD i default).at j)
 unfold appRow
 by_cases h:i<vs.length
 ·rw[kG h,hU,jJ h,<- hU]
  exact dE _
 have e:i=vs.length:=by omega
 subst e
 rw[kF h,kE,hU,jK (jE _),kE]
 exact hg j hj
theorem zql (l:List Rpt) (g:FuncId) (c0:D) (p:Rpt->Bool) (hn:l.length<=1000000) (hp:∀ i,i<l.length->Spec PP g [(l.getD i default).v,.d c0] [B (p (l.getD i default))]):Spec PP 31 [.d (lR l),.d (cloB g [c0])] [B (l.any p)]:=by
 refine sA Tryz.func31 ?_
 refine cP (zki l g c0 p hn hp) rfl rfl ?_
 refine r1B rfl ?_
 rw[wD,kM]
 exact zfI p l default
theorem ziB (l:List Rpt) (hn:l.length<=1000000):SpecO PP 46 [.d (lR l)] 53 8 l.length (rowRp l):=by
 refine zba Tryz.func46 rfl (by kernel_rfl) rfl ?_
 refine fun b hb=>?_
 apply bY <;> intro h1
 ·have h0:=hb h1
  refine⟨rfl,rfl,h0.symm,fun i hi=>?_⟩
  omega
 refine⟨⟨.inr rfl,by unfold maxLen; omega,by show (0+l.length) * 64<=140737488355328; omega⟩,?_⟩
 refine⟨rfl,rfl,k9 _,fun i hi j hj=>?_⟩
 exact dE _
theorem zgG (l:List Rpt) (m j:Nat):(rowRp l m j).flat=true:=by
 show ((l.getD m default).at j).flat=true
 unfold Rpt.at
 split <;> rfl
theorem at8 {f:Nat->D} {r:Rpt} (h:∀ j,j<8->f j=getD' r.ds j):∀ j,j<8->D.eqv (f j) (r.at j):=fun j hj=>by
 rw[h j hj]
 match j,hj with
 | 0,_=>exact⟨rfl,rfl⟩
 | 1,_=>exact⟨rfl,rfl⟩
 | 2,_=>exact⟨rfl,rfl⟩
 | 3,_=>exact⟨rfl,rfl⟩
 | 4,_=>exact⟨rfl,rfl⟩
 | 5,_=>exact⟨rfl,rfl⟩
 | 6,_=>exact⟨rfl,rfl⟩
 | 7,_=>exact⟨rfl,rfl⟩
theorem rd8 (r:Rpt):∀ j,j<8->D.eqv (rowOf 8 r.ds 0 j) (r.at j):=fun j hj=>at8 (r:=r) (f:=fun j=>rowOf 8 r.ds 0 j) (fun j _=>by show getD' r.ds (0 * 8+j)=_; rw[Nat.zero_mul,k9]) j hj
theorem zp1 {s:Svc} {b:Brn} {S:List Rpt} {p:Place} (hon:onM s.c.M p=true) (h:∀ r∈S,allB s b r p=true):∃ n,n<s.n/\plc s.c.M n=p /\ ∀ r∈S,alwP s b r n=true:=by
 obtain⟨⟨x1,x2⟩,y1,y2⟩:=zaj.1 hon
 have ew:(s.c.M.w:Int)=s.c.M.W:=by show ((s.c.M.W.toNat:Nat):Int)=s.c.M.W; omega
 have eh:(s.c.M.h:Int)=s.c.M.H:=by show ((s.c.M.H.toNat:Nat):Int)=s.c.M.H; omega
 have hx:p.X.toNat<s.c.M.w:=by omega
 have hy:p.Y.toNat<s.c.M.h:=by omega
 have ep:plc s.c.M (p.Y.toNat * s.c.M.w+p.X.toNat)=p:=by
  rw[zqX hx]
  cases p with
  | mk X Y=>rw[Place.mk.injEq]; dsimp only at *; omega
 have hn:p.Y.toNat * s.c.M.w+p.X.toNat<s.n:=by
  have:=jW s.c.M.w (show p.Y.toNat+1<=s.c.M.h from hy)
  rw[Nat.succ_mul] at this
  show _<s.c.M.w * s.c.M.h
  rw[qS s.c.M.w]; omega
 refine⟨_,hn,ep,fun r hr=>?_⟩
 show (decide (_<s.n) && allB s b r (plc s.c.M _))=true
 rw[jG hn,ep,h r hr]; rfl
theorem znJ {s:Svc} {b:Brn} {S:List Rpt} {p:Place} (h0:givE s b S=0) (hon:onM s.c.M p=true) (h:∀ r∈S,allB s b r p=true):p∈(plcR s b S).1:=by
 obtain⟨n,h1,h2,h3⟩:=zp1 hon h
 unfold plcR
 rw[kF (fun hh=>hh h0)]
 unfold plsL plsK
 refine kI.2 ⟨n,qC.2 ⟨kK.2 h1,?_⟩,h2⟩
 unfold metP
 rw[jC]
 intro P hP
 obtain⟨r,hr,rfl⟩:=kI.1 hP
 exact h3 r hr
theorem zl1 {fx fy:Int}:∀ (l:List Place) (p:Place),valP fx fy p<=valP fx fy (bstP fx fy l p) /\ ∀ q∈l,valP fx fy q<=valP fx fy (bstP fx fy l p)
 | [],p=>⟨Int.le_refl _,fun q hq=>by cases hq⟩
 | x :: r,p=>by
  have e:bstP fx fy (x :: r) p=bstP fx fy r (if valP fx fy p<valP fx fy x then x else p):=rfl
  obtain⟨h1,h2⟩:=zl1 (fx:=fx) (fy:=fy) r (if valP fx fy p<valP fx fy x then x else p)
  rw[e]
  have h3:valP fx fy p<=valP fx fy (if valP fx fy p<valP fx fy x then x else p)/\valP fx fy x<=valP fx fy (if valP fx fy p<valP fx fy x then x else p):=by split <;> omega
  refine⟨by omega,fun q hq=>?_⟩
  rcases kL.1 hq with rfl | hq
  ·omega
  exact h2 q hq
theorem zpp {s:Svc} {b:Brn} {l:List Rpt} {fx fy:Int} {q:Place} (hq:q∈(plcR s b l).1) (h:(mstR s b l fx fy).2.2=0):valP fx fy q<=(mstR s b l fx fy).1:=by
 unfold mstR at h ⊢
 split at h
 ·rename_i g; exact absurd h g
 rename_i g1
 split at h
 ·cases h
 rename_i g2
 split at h
 ·cases h
 rename_i g3
 rw[kF g1,kF g2,kF g3]
 exact (zl1 _ _).2 q hq
theorem zqW {s:Svc} {b:Brn} {l:List Rpt} (h:givE s b l=0):plcR s b l=(plsL s.c.M (metP (l.map (alwP s b))),0):=by unfold plcR; rw[kF (fun hh=>hh h)]
theorem has1 {P:List Place} {i:Nat} {p:Place} (h:i<P.length) (g:(P.take i).contains p=false):(P.take (i+1)).contains p=decide (P.getD i default=p):=by
 rw[za6 h default,wD,kM,kD,qD,qV]
 have:p∉P.take i:=fun hm=>by rw[kD.2 hm] at g; cases g
 exact⟨fun h=>(h.resolve_left this).symm,fun h=>.inr h.symm⟩
theorem has2 {P:List Place} {i:Nat} {p:Place} (h:i<P.length) (g:(P.take i).contains p=true):(P.take (i+1)).contains p=true:=by
 rw[za6 h default,kD,qD]
 exact .inl (kD.1 g)
set_option maxRecDepth 1000000 in
theorem zqj (s:Svc) (b:Brn) (l:List Rpt) (p:Place) (f:Form) (h0:givE s b l=0) (hl:l.length<=10) (hon:onM s.c.M p=true) (ha:∀ r∈l,allB s b r p=true):Spec PP 14 [s.v,b.v,.d (lR l),.d (lP (plsL s.c.M (metP (l.map (alwP s b))))),p.v,f.v] [B true]:=by
 have ok:=(zc9 (zbE.1 h0).1)
 have hp:=ziz ok.c.m hon
 have hm0:=znJ h0 hon ha
 have hm:=hm0
 have hn:=zis s b l
 rw[zqW h0] at hm hn
 have cR1:=zla s b l
 rw[show rsnR s b l=(rsnK s l (l.map (alwP s b)) s.n,0) by unfold rsnR; rw[kF (fun hh=>hh h0)]] at cR1
 have cK:=zhu s b l (plsL s.c.M (metP (l.map (alwP s b)))) (rsnK s l (l.map (alwP s b)) s.n) (by have:(plsL s.c.M (metP (l.map (alwP s b)))).length<=2401:=hn; omega) (by
  have:=zid s l (l.map (alwP s b)) s.n
  have:=ok.c.m
  have h2:s.n<=2401:=zbB this
  omega)
 rw[show chkR s b l (plsL s.c.M (metP (l.map (alwP s b)))) (rsnK s l (l.map (alwP s b)) s.n)=0 by unfold chkR; rw[kF (fun hh=>hh h0),kG (zhN h0)]] at cK
 generalize rsnK s l (l.map (alwP s b)) s.n=R at *
 generalize plsL s.c.M (metP (l.map (alwP s b)))=P at *
 have hm:p∈P:=hm
 have hn:P.length<=2401:=hn
 refine zcD [1000000007] Tryz.func14 rfl (by kernel_rfl) rfl ?_
 refine lOf (σ:=Nat) (fun i=>([(2,.d (lR l)),(3,.d (lP P)),(6,.box 6 0),(7,.box 7 0),(10,.box 10 0),(11,.box 11 0),(13,.d (.bool ((P.take i).contains p))),(29,.d (lP P)),(30,.d (I P.length)),(31,.d (I i))],[(6,.box (s.ds.map AV.d)),(7,.box (b.ds.map AV.d)),(10,.box ([I p.X,I p.Y].map AV.d)),(11,.box ([I f.X,I f.Y].map AV.d))])) (fun i=>i<=P.length) (fun i=>P.length - i) 0
  ⟨rfl,⟨obD s.ds rfl,obD b.ds rfl,obD [I p.X,I p.Y] rfl,obD [I f.X,I f.Y] rfl,trivial⟩,wq rfl⟩ (jF _) fun i hi=>?_
 apply bY <;> intro g1
 ·have g1:i<P.length:=by have:=dT g1; omega
  refine⟨⟨rfl,by omega,by omega⟩,?_⟩
  apply bY <;> intro g2
  ·have g2:(P.take i).contains p=true:=g2
   repeat first | apply sT | apply sF
   exact⟨i+1,⟨rfl,⟨obD s.ds rfl,obD b.ds rfl,obD [I p.X,I p.Y] rfl,obD [I f.X,I f.Y] rfl,trivial⟩,avQ rfl,avQ rfl,avQ rfl,avQ rfl,avQ rfl,avQ rfl,avBl rfl (has2 g1 g2).symm,avQ rfl,avQ rfl,avI rfl (zaT i6),trivial⟩,g1,msr g1⟩
  have g2:(P.take i).contains p=false:=g2
  repeat first | apply sT | apply sF
  exact⟨i+1,⟨rfl,⟨obD s.ds rfl,obD b.ds rfl,obD [I p.X,I p.Y] rfl,obD [I f.X,I f.Y] rfl,trivial⟩,avQ rfl,avQ rfl,avQ rfl,avQ rfl,avQ rfl,avQ rfl,avBl rfl ((eqPW (P.getD i default) p).trans (has1 g1 g2).symm),avQ rfl,avQ rfl,avI rfl (zaT i6),trivial⟩,g1,msr g1⟩
 have g1:i=P.length:=by have:=dF g1; omega
 subst g1
 rw[jZ,kD.2 hm]
 refine cR cR1 rfl rfl ?_
 repeat first | apply sT | apply sF
 refine cP cK rfl rfl ?_
 repeat first | apply sT | apply sF
 have cH:=ziJ s b l
 rw[zoi h0 (show l.length<=20 by omega)] at cH
 refine cR cH rfl rfl ?_
 have ck:=zok hm0 (show l.length<=20 by omega)
 have cA:=zmI (hvL s l) (ofP p)
 rw[zlq ck hp (zlh hm0)] at cA
 refine cP (s_Of p) rfl rfl ?_
 refine cP cA rfl rfl ?_
 repeat first | apply sT | apply sF
 have key:=znP (fx:=f.X) (fy:=f.Y) hm0 (show l.length<=20 by omega)
 rw[show (⟨f.X,f.Y⟩:Form)=f from rfl] at key
 obtain⟨be,bo⟩:=key
 obtain⟨m1,m2⟩:=zoc (fx:=f.X) (fy:=f.Y) hm0
 refine cR (zpv s b l f) rfl rfl ?_
 refine cR (zrc s b l f.X f.Y) rfl rfl ?_
 refine sNo (by rw[be]; simp) ?_
 by_cases g:(bndR s b l f).2=0
 ·have gm:(mstR s b l f.X f.Y).2.2=0:=by rw[be,g]
  obtain⟨k1,k2,k3,k4,k5⟩:=bo g
  have hs:slope f.X f.Y=true:=by
   cases hh:slope f.X f.Y with
   | true=>rfl
   | false=>have:=m1 hh; omega
  have bx:=hs
  unfold slope at bx
  simp only[jP,zaa] at bx
  obtain⟨px,py⟩:=za9.1 hp
  have n1:=mulB (a:=f.X) (b:=p.X) (x:=1000) (y:=48) (by omega) (by omega)
  have n2:=mulB (a:=f.Y) (b:=p.Y) (x:=1000) (y:=48) (by omega) (by omega)
  have n3:=mulB (a:=(mstR s b l f.X f.Y).1) (b:=(bndR s b l f).1.V.Den) (x:=96000) (y:=2097152) (by omega) (by omega)
  have q1:=zpp hm0 gm
  unfold valP at q1
  have cB:=zhb (hvL s l) f (bndR s b l f).1
  have k5:cbE (hvL s l) f (bndR s b l f).1=0:=k5
  rw[k5] at cB
  refine sNo (by rw[g]; rfl) ?_
  repeat first | apply sT | apply sF
  refine cP cB rfl rfl ?_
  repeat first | apply sT | apply sF
  refine sYe (jG ?_) ?_
  ·show IntKind.wrap _ _<=_
   rw[zaT (show inR .i64 (f.X * p.X) from i6),zaT (show inR .i64 (f.Y * p.Y) from i6),zaT (show inR .i64 (f.X * p.X+f.Y * p.Y) from i6)]
   omega
  repeat first | apply sT | apply sF
  refine r1B rfl (jG ?_)
  rw[zaT (show inR .i64 ((mstR s b l f.X f.Y).1 * (bndR s b l f).1.V.Den) from i6)]
  exact k4
 refine sYe (by simpa using g) ?_
 repeat first | apply sT | apply sF
 exact r1B rfl rfl
def svc9:Svc:=⟨⟨⟨4,4,List.replicate 16 0⟩,[⟨1,⟨0,0⟩,9⟩],[]⟩,⟨[⟨2,⟨0,0⟩,0,9,0,0,0⟩],[]⟩⟩
def brn9:Brn:=⟨0,9,1⟩
def rp9:Rpt:=⟨1,1,1,2,3,450,0,1⟩
theorem zpK:plcR svc9 brn9 [rp9]=([⟨1,1⟩,⟨2,2⟩,⟨3,3⟩],0):=by decide +kernel
theorem zo9:Spec PP 23 [svc9.v,brn9.v,.d (lR [rp9])] [.d (lP [⟨1,1⟩,⟨2,2⟩,⟨3,3⟩]),.d (.int .i64 0)]:=by
 have h:=ziI svc9 brn9 [rp9]
 rw[zpK] at h; exact h
theorem zcp:Spec PP 8 [] [B true]:=by
 refine sA Tryz.func8 ?_
 refine⟨⟨by decide,rfl,by decide,by decide⟩,?_⟩
 refine fEq [17] zo9 rfl ⟨⟨⟨rfl,rfl⟩,⟨rfl,rfl⟩,⟨rfl,.inr ⟨rfl,fun i hi j hj=>?_⟩⟩,⟨rfl,.inr ⟨rfl,fun i hi j hj=>?_⟩⟩,rfl,⟨rfl,.inr ⟨rfl,fun i hi j hj=>?_⟩⟩,rfl,trivial⟩,⟨⟨rfl,rfl⟩,⟨rfl,rfl⟩,⟨rfl,rfl⟩,trivial⟩,⟨rfl,.inr ⟨rfl,fun i hi j hj=>?_⟩⟩,trivial⟩ rfl ?_
 ·have hj:j<1:=hj
  obtain rfl:j=0:=by omega
  refine⟨rfl,?_⟩
  show (0:Int)=(List.replicate 16 (0:Int)).getD i 0
  rw[hU,List.getElem?_replicate]
  split <;> rfl
 ·obtain rfl:i=0:=by omega
  have hj:j<4:=hj
  have h2:j=0 \/ j=1 \/ j=2 \/ j=3:=by omega
  rcases h2 with rfl | rfl | rfl | rfl <;> exact⟨rfl,rfl⟩
 ·obtain rfl:i=0:=by omega
  have hj:j<8:=hj
  have h2:j=0 \/ j=1 \/ j=2 \/ j=3 \/ j=4 \/ j=5 \/ j=6 \/ j=7:=by omega
  rcases h2 with rfl | rfl | rfl | rfl | rfl | rfl | rfl | rfl <;> exact⟨rfl,rfl⟩
 ·obtain rfl:i=0:=by omega
  have hj:j<8:=hj
  have h2:j=0 \/ j=1 \/ j=2 \/ j=3 \/ j=4 \/ j=5 \/ j=6 \/ j=7:=by omega
  rcases h2 with rfl | rfl | rfl | rfl | rfl | rfl | rfl | rfl <;> exact⟨rfl,rfl⟩
 repeat first | apply sT | apply sF | refine sYe rfl ?_
 refine⟨⟨rfl,by decide,by decide⟩,?_⟩
 repeat first | apply sT | apply sF | refine sYe rfl ?_
 exact r1B rfl rfl
theorem zmk (l:List Int) (hn:l.length<=1000000):Spec PP 63 [.d (lI l)] [.d (lI l)]:=by
 refine sA Tryz.func63 ?_
 refine fun b hb=>?_
 apply bY <;> intro h1
 ·have h0:=hb h1
  exact⟨⟨_,_,_,_,rfl,h0.symm,.inl rfl⟩,trivial⟩
 refine⟨⟨.inr rfl,by unfold maxLen; omega,by show (0+l.length) * 8<=140737488355328; omega⟩,?_⟩
 exact⟨⟨_,_,_,_,rfl,k9 _,.inr ⟨rfl,fun i hi j hj=>dE _⟩⟩,trivial⟩
theorem zmh (l:List Twr) (hn:l.length<=1000000):Spec PP 64 [.d (lT l)] [.d (lT l)]:=by
 refine sA Tryz.func64 ?_
 refine fun b hb=>?_
 apply bY <;> intro h1
 ·have h0:=hb h1
  exact⟨⟨_,_,_,_,rfl,h0.symm,.inl rfl⟩,trivial⟩
 refine⟨⟨.inr rfl,by unfold maxLen; omega,by show (0+l.length) * 32<=140737488355328; omega⟩,?_⟩
 exact⟨⟨_,_,_,_,rfl,k9 _,.inr ⟨rfl,fun i hi j hj=>dE _⟩⟩,trivial⟩
theorem zmg (l:List Hz) (hn:l.length<=1000000):Spec PP 65 [.d (lZ l)] [.d (lZ l)]:=by
 refine sA Tryz.func65 ?_
 refine fun b hb=>?_
 apply bY <;> intro h1
 ·have h0:=hb h1
  exact⟨⟨_,_,_,_,rfl,h0.symm,.inl rfl⟩,trivial⟩
 refine⟨⟨.inr rfl,by unfold maxLen; omega,by show (0+l.length) * 24<=140737488355328; omega⟩,?_⟩
 exact⟨⟨_,_,_,_,rfl,k9 _,.inr ⟨rfl,fun i hi j hj=>dE _⟩⟩,trivial⟩
theorem zmj (l:List Cir) (hn:l.length<=1000000):Spec PP 66 [.d (lC l)] [.d (lC l)]:=by
 refine sA Tryz.func66 ?_
 refine fun b hb=>?_
 apply bY <;> intro h1
 ·have h0:=hb h1
  exact⟨⟨_,_,_,_,rfl,h0.symm,.inl rfl⟩,trivial⟩
 refine⟨⟨.inr rfl,by unfold maxLen; omega,by show (0+l.length) * 64<=140737488355328; omega⟩,?_⟩
 exact⟨⟨_,_,_,_,rfl,k9 _,.inr ⟨rfl,fun i hi j hj=>dE _⟩⟩,trivial⟩
theorem zmi (l:List Chk) (hn:l.length<=1000000):Spec PP 67 [.d (lK l)] [.d (lK l)]:=by
 refine sA Tryz.func67 ?_
 refine fun b hb=>?_
 apply bY <;> intro h1
 ·have h0:=hb h1
  exact⟨⟨_,_,_,_,rfl,h0.symm,.inl rfl⟩,trivial⟩
 refine⟨⟨.inr rfl,by unfold maxLen; omega,by show (0+l.length) * 56<=140737488355328; omega⟩,?_⟩
 exact⟨⟨_,_,_,_,rfl,k9 _,.inr ⟨rfl,fun i hi j hj=>dE _⟩⟩,trivial⟩
structure CpOk (s:Svc):Prop where
  g:s.c.M.G.length<=1000000
  t:s.c.T.length<=1000000
  z:s.c.Z.length<=1000000
  c:s.k.C.length<=1000000
  k:s.k.K.length<=1000000
theorem zmf (s:Svc) (ok:CpOk s):Spec PP 25 [s.v] [s.v]:=by
 refine sA Tryz.func25 ?_
 refine cR (zmk s.c.M.G ok.g) rfl rfl ?_
 refine oN 21 ?_
 refine oRo (zmh s.c.T ok.t) rfl rfl ?_
 refine oRo (zmg s.c.Z ok.z) rfl rfl ?_
 refine oRo (zmj s.k.C ok.c) rfl rfl ?_
 refine oRo (zmi s.k.K ok.k) rfl rfl ?_
 exact⟨rtC (a:=2) rfl rfl rfl rfl rfl rfl (zab _),trivial⟩
def SpecN (P:Program) (f:FuncId) (args:List V1) (obs':List (Nat × Ob)) (i:Nat) (res:List V1):Prop:=
 Ent P f /\ ∀ (w:World) (ok:Nat->Prop) (vs:List Value),(∀ b,ok b->b<w.heap.size)->All2 (Rep1 w ok) args vs ->
  Calls P f vs.toArray w fun en w'=>∃ b γ' us,en = .returned (.tuple (.pointer (some ⟨b,0,none⟩) :: us).toArray)/\γ' i = .pointer (some ⟨b,0,none⟩)/\FrM w w' γ' []/\OwnS w' (okM w w' ok γ' γ' [] obs') γ' obs' /\
   (∀ i o b,look obs' i=some o->blk (γ' i)=some b->w.heap.size<=b)/\All2 (Rep1 w' (okM w w' ok γ' γ' [] obs')) res us
theorem SpecN.eqv {P:Program} {f:FuncId} {xs ys:List V1} {obs':List (Nat × Ob)} {i:Nat} {res:List V1} (h:SpecN P f ys obs' i res) (he:eqV1s xs ys):SpecN P f xs obs' i res:=
 ⟨h.1,fun w ok vs hok hv=>h.2 w ok vs hok (zbR he hv)⟩
def retN (t0 i:Nat) (ts:List Nat) (res:List V1) (obs':List (Nat × Ob)):KK:=fun e s=>match e with
 | .normal=>Weak s ((t0,.box i 0) :: retSl ts res) obs'
 | .ret=>Weak s ((t0,.box i 0) :: retSl ts res) obs'
 | _=>False
theorem zmA {P : Program} {T : TT} {E : Env} (hdr : E.dr = false) (hT : ∀ t i, T t = some i -> TI.of P t = some i) (hE : ∀ t, E.eq t = true -> EqFact P t) (hm : P.follows .mixedOrders = true)
  {f : FuncId} {fn : Func} {c : Code} (hf : P.funcs[f]? = some fn) (hb : fn.body = some c) (hn : (fn.name == "runtime.NumGoroutine") = false) (hN : codeN fn.ntmps c = true)
  {args : List V1} {obs' : List (Nat × Ob)} (t0 i t1 : Nat) (ts : List Nat) (hts : fn.results.toList = (t0 :: t1 :: ts).map ResultVar.tmp) {res : List V1} (hlr : (t1 :: ts).length = res.length) (hpn : (t0 :: t1 :: ts).Nodup) (hsz : args.length <= fn.ntmps) (hng : fn.ntmps <= G)
  (h : awp P T E c (St.of (argSlots 0 args) []) (retN t0 i (t1 :: ts) res obs')) : SpecN P f args obs' i res :=
 ⟨⟨fn, hf, hn, by rw [hb]; rfl⟩, fun w ok vs hok hm2 => zjt hT hE hm hf hb hN (cx := cx0 E.dr w ok fn.ntmps) id rfl rfl rfl (fun _ _ => id) (zhk hok hm2 hsz hng) h
  (fun x h1 h2 s h => by cases x <;> first | exact h1 rfl | exact h2 rfl | exact h) fun x s a w' hx hk hR _ => by
  have k2 : Weak s ((t0, .box i 0) :: retSl (t1 :: ts) res) obs' := by rcases hx with rfl | rfl <;> exact hk
  obtain ⟨γ', hg⟩ := hR.weak k2
  have hsl : ∀ t v, look ((t0, AV.box i 0) :: retSl (t1 :: ts) res) t = some v -> (St.of ((t0, .box i 0) :: retSl (t1 :: ts) res) obs').sl t = v := fun t v e => by
   show (look ((t0, AV.box i 0) :: retSl (t1 :: ts) res) t).getD .any = _
   rw [e]; rfl
  have hs0 := hg.slots t0
  rw [hsl t0 (.box i 0) (by simp only [look, zas]; rfl)] at hs0
  obtain ⟨b, e1, e2⟩ := hs0
  have hnd : (([(t0, AV.box i 0)] ++ retSl (t1 :: ts) res).map Prod.fst).Nodup := by rw [jT, zbY hlr]; exact hpn
  have hres := zdJ hg hlr fun t x hx => hsl t _ (zbw (l := [(t0, AV.box i 0)]) hx hnd)
  have hl0 : ∀ b, ¬ LentB γ' [] b := fun b ⟨j, o, h1, _⟩ => by cases h1
  have hok2 : ∀ b, okOf (cx0 E.dr w ok fn.ntmps) (St.of ((t0, .box i 0) :: retSl (t1 :: ts) res) obs') γ' w' b -> okM w w' ok γ' γ' [] obs' b := fun b hb => by
   rcases hb with hb | ⟨h1, h2, h3⟩
   ·exact .inl hb
   exact .inr ⟨.inl (h1.elim id False.elim), h2, fun ⟨j, p, g1, g2⟩ => h3 j p g1 g2⟩
  have hrun := za1 (P := P) (fn := fn) (a := a) (w := w') (vs := (t0 :: t1 :: ts).map fun t => a.tmps.getD t undef) (by rw [hts]; exact zdo _)
  refine ⟨_, hrun, b, γ', (t1 :: ts).map (fun t => a.tmps.getD t undef), ?_, e1, ⟨hg.below.os, hg.below.tape, hg.below.output, hg.below.size, fun k hk _ => hg.below.block k hk id⟩, ⟨fun i o hi => ?_, hg.refs, hg.sep, fun i o b hi hb hok' => ?_⟩, fun i o b hi hb => (zaz hg hi hb).1.elim id False.elim, ?_⟩
  ·rw [<- e2]; rfl
  ·exact (hg.objs i o hi).reO rfl (fun _ _ _ _ _ _ => rfl) (fun _ _ => trivial) hok2
  ·rcases hok' with h1 | ⟨_, _, h3⟩
   ·exact zes hg (zaz hg hi hb).1 h1
   exact h3 ⟨i, o, hi, hb⟩
  exact hres.imp fun x u _ hr => by
   cases x with
   | d x => exact Rep.keep (fun b hb => ⟨hok2 b hb, rfl⟩) hr
   | agg xs => obtain ⟨us, e, h⟩ := hr; exact ⟨us, e, h.imp fun _ _ _ => Rep.keep fun b hb => ⟨hok2 b hb, rfl⟩⟩⟩
section
variable {s:St} {o:Oper} {fo:Operand} {f:FuncId} {K:St->Prop} {E:Env}
theorem CallSt.obN (sl:List (Nat × AV)) (rest:List (Nat × Ob)) {obs':List (Nat × Ob)} {i:Nat} (hdr:E.dr=false) {args:Array Operand} {at':Array TypeId} (hop:o.op = .call { callee:=.value fo,args,argTypes:=at' }) {xs ys res:List V1} (h:SpecN PP f ys obs' i res)
  (hw:Weak s sl rest) (hx:toV1c (St.of sl rest) fo args.toList=some (f,xs)) (he:eqV1s xs ys) (hno:noOwn (St.of sl rest) args.toList=true) (hi:(look obs' i).isSome=true) (hc:goodM sl [] obs' rest []=true)
  (hk:K ((St.of sl (obs'++rest)).putO o.dst (.tupo i res))):CallSt E PP s o fo args.toList K:=by
 obtain⟨ex,h1,h2⟩:=zaE hx
 rw[zaf]
 refine .inr (.inr (.inl ⟨_,⟨fun cx a w hD hd hR=>?_⟩,hk⟩))
 obtain⟨γ,hg⟩:=hR.weak hw
 obtain⟨caps,hf,hcm⟩:=zaP h1 (ev_m hg fo).1
 have hm:=(zbq hg h2 ((zbG hg args.toList).append hcm)).2 (zcH hno (zbp h1))
 refine .enter (zaD hop hf h.1) ?_
 refine ((h.eqv he).2 w _ _ (fun b hb=>zak hg hb) hm).mono fun en w' ⟨b,γ2,us,e0,e1,hfr,ho,hn,hres⟩=>?_
 have hl0:∀ (γ:Nat->Value) b,¬ LentB γ [] b:=fun γ b ⟨j,o,h1,_⟩=>by cases h1
 have hM0:∀ b,okM w w' (okOf cx (St.of sl ([]++rest)) γ w) γ2 γ2 [] obs' b ↔ okM w w' (okOf cx (St.of sl ([]++rest)) γ w) γ γ2 [] obs' b:=fun b=>
  ⟨fun hb=>hb.imp id fun hb=>⟨hb.1.imp id fun h=>absurd h (hl0 _ _),hb.2⟩,fun hb=>hb.imp id fun hb=>⟨hb.1.imp id fun h=>absurd h (hl0 _ _),hb.2⟩⟩
 obtain⟨γ',hg',hγ,hM⟩:=RG.lendM (obs:=[]) (pins:=[]) (γ2:=γ2) hg (fun e=>by have:=hD e; rw[hdr] at this; cases this) ⟨hfr.os,hfr.tape,hfr.output,hfr.size,fun k hk _=>hfr.block k hk (hl0 _ _)⟩ (fun i hi=>by cases hi)
  ⟨fun i o hi=>(ho.objs i o hi).reO rfl (fun _ _ _ _ _ _=>rfl) (fun _ _=>trivial) fun b hb=>(hM0 b).1 hb,ho.refs,ho.sep,fun i o b hi hb hk=>ho.out i o b hi hb ((hM0 b).2 hk)⟩ (fun i o b hi hb=>.inl (hn i o b hi hb)) hc
 have hs2:((St.of sl (obs'++rest)).ob i).isSome=true:=by
  show (look (obs'++rest) i).isSome=true
  rw[zao]
  cases e:look obs' i with
  | some x=>rfl
  | none=>rw[e] at hi; cases hi
 refine⟨_,e0,γ',hg'.putO hd ⟨b,us,(hγ i hi).trans e1,rfl,hres.imp fun x u _ hr=>?_⟩ (fun j hj=>?_)⟩
 ·cases x with
  | d x=>exact Rep.keep (fun b hb=>⟨hM b ((hM0 b).1 hb),rfl⟩) hr
  | agg xs=>obtain⟨us,e,h⟩:=hr; exact⟨us,e,h.imp fun _ _ _=>Rep.keep fun b hb=>⟨hM b ((hM0 b).1 hb),rfl⟩⟩
 obtain rfl:j=i:=by simpa [AV.refs] using hj
 exact hs2
end
end Go.Pg
