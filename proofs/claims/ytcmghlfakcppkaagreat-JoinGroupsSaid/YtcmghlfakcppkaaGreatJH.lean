/- Lemmas, joined by program. -/
import Derived.Test.YtcmghlfakcppkaaGreatJG
set_option maxHeartbeats 4000000
set_option linter.all false
set_option maxRecDepth 100000
namespace Go.Pg
open Go.Proofs Go.RowKit
theorem p4:(1073741824:Nat)^4=1329227995784915872903807060280344576:=by decide
theorem zg6{n m:Int}(h:n≠0):flip (-n) (-m)=flip n m:=by unfold flip;split<;>split<;>omega
def Cn(f:Form)(g h:Half):Prop:=0<=flip (det g h) (fx f h)/\0<=flip (det g h) (-fx f g)
theorem Cn.symm{f:Form}{g h:Half}(hd:det g h≠0)(c:Cn f g h):Cn f h g:=by
 unfold Cn at*
 have e:det h g= -det g h:=by rw[zpb]
 have e1:=zg6 (n:=det g h) (m:=-fx f g) hd
 have e2:=zg6 (n:=det g h) (m:=fx f h) hd
 rw[Int.neg_neg]at e1
 rw[e,e1,e2]
 exact⟨c.2,c.1⟩
def hO:Half:=⟨64,1,0⟩
def sepStep(l m:List Half)(p:Half×Half)(u:Use):Half×Half:=
 if(l.length:Int)<=u.H then(p.1,plusH p.2 u.T (m.getD (u.H-l.length).toNat default))
 else if 0<=u.H then(plusH p.1 u.T (l.getD u.H.toNat default),p.2)else p
structure SmallH(i:Nat)(h:Half):Prop where
  a:-(2000000000*i:Int)<=h.A/\h.A<=2000000000*i
  b:-(2000000000*i:Int)<=h.B/\h.B<=2000000000*i
  c:-(524288000000*i:Int)<=h.C/\h.C<=524288000000*i
theorem SmallH.up{i:Nat}{h:Half}(s:SmallH i h):SmallH (i+1) h:=⟨by have:=s.a;omega,by have:=s.b;omega,by have:=s.c;omega⟩
theorem zrv{t:Int}{h:Half}(ht:0<t/\t<=2000000)(hh:okH h):(-2000000000<=t*h.A/\t*h.A<=2000000000)/\(-2000000000<=t*h.B/\t*h.B<=2000000000)/\(-524288000000<=t*h.C/\t*h.C<=524288000000):=by
 have q:-2000000<=t/\t<=2000000:=by omega
 exact⟨mulB q hh.a,mulB q hh.b,mulB q hh.c⟩
theorem SmallH.plus{i:Nat}{a h:Half}{t:Int}(s:SmallH i a)(ht:0<t/\t<=2000000)(hh:okH h):SmallH (i+1) (plusH a t h):=by
 obtain⟨b1,b2,b3⟩:=zrv ht hh
 have:=s.a;have:=s.b;have:=s.c
 exact⟨(by show _<=a.A+t*h.A/\a.A+t*h.A<=_;omega),(by show _<=a.B+t*h.B/\a.B+t*h.B<=_;omega),(by show _<=a.C+t*h.C/\a.C+t*h.C<=_;omega)⟩
structure SepInv(l m:List Half)(i:Nat)(p:Half×Half)(s:Half):Prop where
  one:SmallH i p.1
  two:SmallH i p.2
  h1:∀q,0<q.Den->Fe (hsL l) q->ef p.1 q<=0
  h2:∀q,0<q.Den->Fe (hsL m) q->ef p.2 q<=0
  rest:max 0 (s.A-p.1.A-p.2.A)*48+max 0 (s.B-p.1.B-p.2.B)*48<=s.C-p.1.C-p.2.C
theorem sides_get{n:Int}(h1:-4<=n)(h2:n<0):(n= -1/\sidesL.getD (-1-n).toNat default=⟨-1,0,0⟩)\/(n= -2/\sidesL.getD (-1-n).toNat default=⟨1,0,48⟩)\/(n= -3/\sidesL.getD (-1-n).toNat default=⟨0,-1,0⟩)\/(n= -4/\sidesL.getD (-1-n).toNat default=⟨0,1,48⟩):=by
 obtain rfl|rfl|rfl|rfl:n= -1\/n= -2\/n= -3\/n= -4:=by omega
 ·exact .inl ⟨rfl,rfl⟩
 ·exact .inr (.inl ⟨rfl,rfl⟩)
 ·exact .inr (.inr (.inl ⟨rfl,rfl⟩))
 exact .inr (.inr (.inr ⟨rfl,rfl⟩))
theorem znt(l m:List Half){n:Int}(h1:0<=n)(h2:n<l.length):useH (l++m) n=l.getD n.toNat default:=by
 unfold useH
 rw[kG (by omega),hZ,jJ (by omega),<- hZ]
theorem zkL(l m:List Half){n:Int}(h1:l.length<=n):useH (l++m) n=m.getD (n-l.length).toNat default:=by
 unfold useH
 rw[kG (by omega),hZ,jK (by omega),<- hZ]
 congr 1;omega
theorem SepInv.step{l m:List Half}(hl:∀x∈l,okH x)(hm:∀x∈m,okH x){i:Nat}{p:Half×Half}{s:Half}(I:SepInv l m i p s){u:Use}(hu:(-4<=u.H/\u.H<(l++m).length)/\0<u.T/\u.T<=2000000):
  SepInv l m (i+1) (sepStep l m p u) (plusH s u.T (useH (l++m) u.H)):=by
 obtain⟨⟨u1,u2⟩,u3⟩:=hu
 rw[jR]at u2
 have r:=I.rest
 unfold sepStep
 by_cases c1:(l.length:Int)<=u.H
 ·rw[kH c1,zkL l m c1]
  have hmem:=gd1 (show(u.H-l.length).toNat<m.length by omega) (default:Half)
  generalize m.getD (u.H-l.length).toNat default=h at*
  refine⟨I.one.up,I.two.plus u3 (hm h hmem),I.h1,fun q hD hq=>?_,?_⟩
  ·have a1:=I.h2 q hD hq
   have a2:=Int.mul_nonpos_of_nonneg_of_nonpos (jaF u3.1) (hq h (qV _ hmem))
   rw[zmP];omega
  show max 0 (s.A+u.T*h.A-p.1.A-(p.2.A+u.T*h.A))*48+max 0 (s.B+u.T*h.B-p.1.B-(p.2.B+u.T*h.B))*48<=s.C+u.T*h.C-p.1.C-(p.2.C+u.T*h.C)
  omega
 rw[kG c1]
 by_cases c2:0<=u.H
 ·rw[kH c2,znt l m c2 (by omega)]
  have hmem:=gd1 (show u.H.toNat<l.length by omega) (default:Half)
  generalize l.getD u.H.toNat default=h at*
  refine⟨I.one.plus u3 (hl h hmem),I.two.up,fun q hD hq=>?_,I.h2,?_⟩
  ·have a1:=I.h1 q hD hq
   have a2:=Int.mul_nonpos_of_nonneg_of_nonpos (jaF u3.1) (hq h (qV _ hmem))
   rw[zmP];omega
  show max 0 (s.A+u.T*h.A-(p.1.A+u.T*h.A)-p.2.A)*48+max 0 (s.B+u.T*h.B-(p.1.B+u.T*h.B)-p.2.B)*48<=s.C+u.T*h.C-(p.1.C+u.T*h.C)-p.2.C
  omega
 rw[kG c2]
 have e:useH (l++m) u.H=sidesL.getD (-1-u.H).toNat default:=by unfold useH;rw[kH (by omega)]
 rw[e]
 refine⟨I.one.up,I.two.up,I.h1,I.h2,?_⟩
 rcases sides_get u1 (by omega)with⟨_,h⟩|⟨_,h⟩|⟨_,h⟩|⟨_,h⟩<;>rw[h]<;>simp only[plusH]<;>omega
structure Sn where
  w:Wdg
  a:Place
  deriving DecidableEq,Inhabited
def Sn.at(x:Sn):Nat->D
 |0=>I x.w.F
 |1=>I x.w.T
 |2=>I x.a.X
 | _=>I x.a.Y
end Go.Pg
