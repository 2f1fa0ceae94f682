/- Lemmas, joined by program. -/
import Derived.Test.YtcmghlfakcppkaaGreatJF
set_option maxHeartbeats 4000000
set_option linter.all false
set_option maxRecDepth 100000
namespace Go.Pg
open Go.Proofs Go.RowKit
def most(h:Half):Int:=max (max (max h.A (-h.A)) h.B) (-h.B)
@[irreducible] def opp(g h:Half):Bool:=det g h==0&&decide (g.A*h.A+g.B*h.B<0)
@[irreducible] def scS(g h:Half):Int:=if opp g h=true then most h else 0
@[irreducible] def scT(g h:Half):Int:=if opp g h=true then most g else 0
@[irreducible] def two(g h:Num):Option (List Use):=if opp g.h h.h=true/\scS g.h h.h*g.h.C+scT g.h h.h*h.h.C<0 then some [⟨g.n,scS g.h h.h⟩,⟨h.n,scT g.h h.h⟩]else none
@[irreducible] def flip(n m:Int):Int:=if n<0 then -m else m
abbrev cut(L:List Num)(i:Nat):D:=.slc 4 i fun i=>(L.getD i default).at
abbrev rowU(l:List Use):Nat->Nat->D:=fun i=>(l.getD i default).at
structure Bound where
  V:Frac
  At:Corner
  Scale:Int
  Uses:List Use
  deriving DecidableEq,Inhabited
abbrev Bound.v(b:Bound):V1:=.agg [I b.V.Num,I b.V.Den,I b.At.X,I b.At.Y,I b.At.Den,I b.Scale,.slc 2 b.Uses.length (rowU b.Uses)]
@[irreducible] def upTo(n:Nat):List Int:=(List.range n).map fun i:Nat=>(i:Int)
theorem znw(n:Nat):(upTo n).length=n:=by unfold upTo;simp
theorem znv{n:Nat}{x:Int}(h:x∈upTo n):0<=x/\x<n:=by
 unfold upTo at h
 obtain⟨i,hi,rfl⟩:=kJ.1 h
 have:=kK.1 hi
 omega
@[irreducible] def rmLh(l:List Int)(i:Nat):List Int:=l.take i++l.drop (i+1)
@[irreducible] def pickL(l:List Half)(js:List Int):List Half:=js.map fun j=>l.getD j.toNat default
theorem zlC(l:List Half)(js:List Int):(pickL l js).length=js.length:=by unfold pickL;simp
theorem zlB{l:List Half}{js:List Int}(hj:∀j∈js,0<=j/\j<l.length):∀x∈pickL l js,x∈l:=fun x hx=>by
 unfold pickL at hx
 obtain⟨j,hjm,rfl⟩:=kJ.1 hx
 have:=hj j hjm
 exact gd1 (by omega) default
end Go.Pg
namespace Go.Pg
open Go.Proofs Go.RowKit Go.Sort
end Go.Pg
namespace Go.Pg
def ef(h:Half)(p:Corner):Int:=h.A*p.X+h.B*p.Y-h.C*p.Den
def d3(a b c:Corner):Int:=a.X*(b.Y*c.Den-b.Den*c.Y)-a.Y*(b.X*c.Den-b.Den*c.X)+a.Den*(b.X*c.Y-b.Y*c.X)
def Bef(th:Corner->Half)(p q:Corner):Prop:=ef (th q) p<0/\0<ef (th p) q
structure Conv(th:Corner->Half)(S:List Corner):Prop where
  out:∀q∈S,∃φ:Half,ef φ q=0/\∀p∈S,p≠q->ef φ p<0
  th0:∀q∈S,ef (th q) q=0
  ord:S.Pairwise (Bef th)
  non:∀p∈S,∀q∈S,∀r∈S,p≠q->p≠r->q≠r->d3 p q r≠0
  den:∀q∈S,0<q.Den
end Go.Pg
namespace Go.Pg
end Go.Pg
namespace Go.Pg
open Go.Proofs Go.RowKit Go.Sort
theorem zgx{g h:Half}{p q:Corner}(hp:valid p=true)(hq:valid q=true)(hd:det g h≠0)(p1:ef g p=0)(p2:ef h p=0)(q1:ef g q=0)(q2:ef h q=0):p=q:=by
 have hdet:det g h=g.A*h.B-h.A*g.B:=by unfold det;rfl
 rw[hdet]at hd
 unfold ef at p1 p2 q1 q2
 have kx:(p.X*q.Den-q.X*p.Den)*(g.A*h.B-h.A*g.B)=0:=by grind
 have ky:(p.Y*q.Den-q.Y*p.Den)*(g.A*h.B-h.A*g.B)=0:=by grind
 have ex:p.X*q.Den=q.X*p.Den:=by
  rcases Int.mul_eq_zero.1 kx with h|h
  ·omega
  exact absurd h hd
 have ey:p.Y*q.Den=q.Y*p.Den:=by
  rcases Int.mul_eq_zero.1 ky with h|h
  ·omega
  exact absurd h hd
 exact zgS hp hq (by unfold leC;omega) (by unfold leC;omega)
theorem zpb(g h:Half):det h g= -det g h:=by unfold det;grind
def hsL(l:List Half):List Half:=l++sidesL
def Fe(hs:List Half)(q:Corner):Prop:=∀h∈hs,ef h q<=0
structure Vt(hs:List Half)(q:Corner):Prop where
  fe:Fe hs q
  va:valid q=true
  ti:∃g∈hs,∃h∈hs,det g h≠0/\ef g q=0/\ef h q=0
def addH(g h:Half):Half:=⟨g.A+h.A,g.B+h.B,g.C+h.C⟩
theorem zql(g h:Half)(p:Corner):ef (addH g h) p=ef g p+ef h p:=by unfold ef addH;grind
theorem Vt.out{hs:List Half}{q:Corner}(hq:Vt hs q):∃φ:Half,ef φ q=0/\∀p,Fe hs p->valid p=true->ef φ p<=0/\(p≠q->ef φ p<0):=by
 obtain⟨g,hg,h,hh,hd,t1,t2⟩:=hq.ti
 refine⟨addH g h,by rw[zql,t1,t2];rfl,fun p hp hv=>?_⟩
 rw[zql]
 have a1:=hp g hg
 have a2:=hp h hh
 refine⟨by omega,fun hne=>?_⟩
 have:¬(ef g p=0/\ef h p=0):=fun⟨e1,e2⟩=>hne (zgx hv hq.va hd e1 e2 t1 t2)
 omega
def fx(F:Form)(h:Half):Int:=F.X*h.B-F.Y*h.A
theorem zmU{l m:List Half}(h:checkL l=0)(hm:∀x∈m,x∈l)(hn:m.length<=40):checkL m=0:=by
 obtain⟨n1,n2,n3⟩:=zhh h
 unfold checkL
 rw[kG (by omega),kH (jC.2 fun x hx=>n2 x (hm x hx))]
theorem zhE(l:List Int)(i j:Nat):(rmLh l i)[j]?=if j<i then l[j]? else l[j+1]?:=by
 have e:rmLh l i=l.eraseIdx i:=by unfold rmLh;rw[List.eraseIdx_eq_take_drop_succ]
 rw[e,List.getElem?_eraseIdx]
theorem ztl{l:List Int}{i:Nat}{x:Int}:x∈rmLh l i↔∃j,j≠i/\l[j]?=some x:=by
 rw[List.mem_iff_getElem?]
 constructor
 ·rintro⟨j,hj⟩
  rw[zhE]at hj
  split at hj
  ·exact⟨j,by omega,hj⟩
  exact⟨j+1,by omega,hj⟩
 rintro⟨j,hne,hj⟩
 rcases Nat.lt_or_gt_of_ne hne with h|h
 ·exact⟨j,by rw[zhE,kH h,hj]⟩
 exact⟨j-1,by rw[zhE,kG (by omega),show j-1+1=j by omega,hj]⟩
structure Js(l:List Half)(js:List Int):Prop where
  len:js.length<=40
  mem:∀j∈js,0<=j/\j<l.length
theorem Js.ck{l:List Half}{js:List Int}(h:Js l js)(h1:checkL l=0):checkL (pickL l js)=0:=zmU h1 (zlB h.mem) (by rw[zlC];exact h.len)
theorem Js.all{l:List Half}(h1:checkL l=0):Js l (upTo l.length):=⟨by rw[znw];exact(zhh h1).1,fun j hj=>znv hj⟩
theorem still(l:List Half)(js:List Int){g:Half}(hg:g∈hsL (pickL l js)):∃a,∀m,m≠a->g∈hsL (pickL l (rmLh js m)):=by
 rcases kL.1 hg with h|h
 ·unfold pickL at h
  obtain⟨j,hj,rfl⟩:=kJ.1 h
  obtain⟨a,ha⟩:=List.mem_iff_getElem?.1 hj
  refine⟨a,fun m hm=>qV _ ?_⟩
  unfold pickL
  exact kJ.2 ⟨j,ztl.2 ⟨a,fun e=>hm e.symm,ha⟩,rfl⟩
 exact⟨0,fun m _=>List.mem_append_right _ h⟩
def plusH(a:Half)(t:Int)(h:Half):Half:=⟨a.A+t*h.A,a.B+t*h.B,a.C+t*h.C⟩
theorem zmP(a:Half)(t:Int)(h:Half)(q:Corner):ef (plusH a t h) q=ef a q+t*ef h q:=by unfold plusH ef;grind
def useH(l:List Half)(n:Int):Half:=if n<0 then sidesL.getD (-1-n).toNat default else l.getD n.toNat default
structure SmallU(i:Nat)(h:Half):Prop where
  a:-(2097152000*i:Int)<=h.A/\h.A<=2097152000*i
  b:-(2097152000*i:Int)<=h.B/\h.B<=2097152000*i
  c:-(549755813888*i:Int)<=h.C/\h.C<=549755813888*i
theorem zoh{t:Int}{h:Half}(ht:1<=t/\t<=2097152)(hh:okH h):(-2097152000<=t*h.A/\t*h.A<=2097152000)/\(-2097152000<=t*h.B/\t*h.B<=2097152000)/\(-549755813888<=t*h.C/\t*h.C<=549755813888):=by
 have q:-2097152<=t/\t<=2097152:=by omega
 exact⟨mulB q hh.a,mulB q hh.b,mulB q hh.c⟩
theorem SmallU.plus{i:Nat}{a h:Half}{t:Int}(s:SmallU i a)(ht:1<=t/\t<=2097152)(hh:okH h):SmallU (i+1) (plusH a t h):=by
 obtain⟨b1,b2,b3⟩:=zoh ht hh
 have:=s.a;have:=s.b;have:=s.c
 exact⟨(by show _<=a.A+t*h.A/\a.A+t*h.A<=_;omega),(by show _<=a.B+t*h.B/\a.B+t*h.B<=_;omega),(by show _<=a.C+t*h.C/\a.C+t*h.C<=_;omega)⟩
end Go.Pg
