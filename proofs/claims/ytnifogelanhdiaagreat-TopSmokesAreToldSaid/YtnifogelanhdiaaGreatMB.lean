/- Lemmas, joined by program. -/
import Derived.Test.YtnifogelanhdiaaGreatMA
set_option maxHeartbeats 4000000
set_option linter.all false
set_option maxRecDepth 100000
namespace Go.Pg
open Go.Proofs Go.RowKit
@[irreducible] def det (g h:Half):Int:=g.A * h.B - h.A * g.B
abbrev Form:=Place
@[irreducible] def value (f:Form) (p:Corner):Frac:=let n:=f.X * p.X+f.Y * p.Y; let g:Int:=gcdL [n,p.Den]; ⟨n.tdiv g,p.Den.tdiv g⟩
def sidesL:List Half:=[⟨-1,0,0⟩,⟨1,0,48⟩,⟨0,-1,0⟩,⟨0,1,48⟩]
end Go.Pg
namespace Go.Pg
open Go.Proofs Go.RowKit Go.Sort Go.Shelf
def leC (p q:Corner):Prop:=p.X * q.Den<q.X * p.Den \/ (p.X * q.Den=q.X * p.Den/\p.Y * q.Den<=q.Y * p.Den)
theorem zf3 {p:Corner} (h:valid p=true):Nat.gcd (Nat.gcd p.X.natAbs p.Y.natAbs) p.Den.natAbs=1:=by
 unfold valid at h
 simp only[jP,jaf] at h
 have:=h.2
 simp only[gcdL,jaS,List.foldl_nil,Nat.gcd_zero_left] at this
 exact_mod_cast this
theorem zgm {p q:Corner} (hp:valid p=true) (hq:valid q=true) (h1:leC p q) (h2:leC q p):p=q:=by
 have dp:=(zkK hp).d
 have dq:=(zkK hq).d
 have ex:p.X * q.Den=q.X * p.Den:=by unfold leC at *; omega
 have ey:p.Y * q.Den=q.Y * p.Den:=by unfold leC at *; omega
 have nx:p.X.natAbs * q.Den.natAbs=q.X.natAbs * p.Den.natAbs:=by rw[<- Int.natAbs_mul,<- Int.natAbs_mul,ex]
 have ny:p.Y.natAbs * q.Den.natAbs=q.Y.natAbs * p.Den.natAbs:=by rw[<- Int.natAbs_mul,<- Int.natAbs_mul,ey]
 have g1:Nat.gcd (Nat.gcd (p.X.natAbs * q.Den.natAbs) (p.Y.natAbs * q.Den.natAbs)) (p.Den.natAbs * q.Den.natAbs)=q.Den.natAbs:=by
  rw[Nat.gcd_mul_right,Nat.gcd_mul_right,zf3 hp,Nat.one_mul]
 have g2:Nat.gcd (Nat.gcd (q.X.natAbs * p.Den.natAbs) (q.Y.natAbs * p.Den.natAbs)) (q.Den.natAbs * p.Den.natAbs)=p.Den.natAbs:=by
  rw[Nat.gcd_mul_right,Nat.gcd_mul_right,zf3 hq,Nat.one_mul]
 rw[nx,ny,qI p.Den.natAbs,g2] at g1
 have ed:p.Den=q.Den:=by omega
 have hx:p.X=q.X:=by
  rw[ed] at ex
  exact Int.eq_of_mul_eq_mul_right (by omega) ex
 have hy:p.Y=q.Y:=by
  rw[ed] at ey
  exact Int.eq_of_mul_eq_mul_right (by omega) ey
 cases p; cases q; simp_all
abbrev VC:={ p:Corner // valid p=true }
theorem VC.den (p:VC):0<p.1.Den:=by have:=(zkK p.2).d; omega
abbrev Num.v (x:Num):V1:=.agg [I x.n,I x.h.A,I x.h.B,I x.h.C]
def Num.val (x:Num):Value:=.agg #[.int .i64 x.n,.int .i64 x.h.A,.int .i64 x.h.B,.int .i64 x.h.C]
def Num.sl (l:List Num):D:=.slc 4 l.length fun i=>(l.getD i default).at
@[irreducible] def keepC (l:List Corner) (i:Nat):Bool:=i==0 || !(l.getD i default==l.getD (i - 1) default)
theorem keep0 (l:List Corner) {i:Nat} (h:i<1):keepC l i=true:=by
 obtain rfl:i=0:=by omega
 unfold keepC; rfl
theorem zgL {l:List Half} (h:checkL l=0):l.length<=40/\(∀ x∈l,fit x=true) /\ ∀ x∈l,okH x:=by
 unfold checkL at h
 split at h
 ·cases h
 split at h
 ·rename_i h1 h2
  have h3:∀ x∈l,fit x=true:=jC.1 h2
  exact⟨by omega,h3,fun x hx=>zrs (h3 x hx)⟩
 cases h
def most (h:Half):Int:=max (max (max h.A (-h.A)) h.B) (-h.B)
@[irreducible] def opp (g h:Half):Bool:=det g h==0 && decide (g.A * h.A+g.B * h.B<0)
@[irreducible] def scS (g h:Half):Int:=if opp g h=true then most h else 0
@[irreducible] def scT (g h:Half):Int:=if opp g h=true then most g else 0
@[irreducible] def two (g h:Num):Option (List Use):=if opp g.h h.h=true/\scS g.h h.h * g.h.C+scT g.h h.h * h.h.C<0 then some [⟨g.n,scS g.h h.h⟩,⟨h.n,scT g.h h.h⟩] else none
@[irreducible] def flip (n m:Int):Int:=if n<0 then -m else m
abbrev cut (L:List Num) (i:Nat):D:=.slc 4 i fun i=>(L.getD i default).at
abbrev rowU (l:List Use):Nat->Nat->D:=fun i=>(l.getD i default).at
structure Bound where
  V:Frac
  At:Corner
  Scale:Int
  Uses:List Use
  deriving DecidableEq,Inhabited
abbrev Bound.v (b:Bound):V1:=.agg [I b.V.Num,I b.V.Den,I b.At.X,I b.At.Y,I b.At.Den,I b.Scale,.slc 2 b.Uses.length (rowU b.Uses)]
@[irreducible] def upTo (n:Nat):List Int:=(List.range n).map fun i:Nat=>(i:Int)
theorem zmq (n:Nat):(upTo n).length=n:=by unfold upTo; simp
theorem zmp {n:Nat} {x:Int} (h:x∈upTo n):0<=x/\x<n:=by
 unfold upTo at h
 obtain⟨i,hi,rfl⟩:=kK.1 h
 have:=kI.1 hi
 omega
@[irreducible] def rmLh (l:List Int) (i:Nat):List Int:=l.take i++l.drop (i+1)
@[irreducible] def pickL (l:List Half) (js:List Int):List Half:=js.map fun j=>l.getD j.toNat default
theorem zkx (l:List Half) (js:List Int):(pickL l js).length=js.length:=by unfold pickL; simp
theorem zkw {l:List Half} {js:List Int} (hj:∀ j∈js,0<=j/\j<l.length):∀ x∈pickL l js,x∈l:=fun x hx=>by
 unfold pickL at hx
 obtain⟨j,hjm,rfl⟩:=kK.1 hx
 have:=hj j hjm
 exact gd1 (by omega) default
end Go.Pg
namespace Go.Pg
def ef (h:Half) (p:Corner):Int:=h.A * p.X+h.B * p.Y - h.C * p.Den
def d3 (a b c:Corner):Int:=a.X * (b.Y * c.Den - b.Den * c.Y) - a.Y * (b.X * c.Den - b.Den * c.X)+a.Den * (b.X * c.Y - b.Y * c.X)
def Bef (th:Corner->Half) (p q:Corner):Prop:=ef (th q) p<0/\0<ef (th p) q
structure Conv (th:Corner->Half) (S:List Corner):Prop where
  out:∀ q∈S,∃ φ:Half,ef φ q=0 /\ ∀ p∈S,p≠q->ef φ p<0
  th0:∀ q∈S,ef (th q) q=0
  ord:S.Pairwise (Bef th)
  non:∀ p∈S,∀ q∈S,∀ r∈S,p≠q->p≠r->q≠r->d3 p q r≠0
  den:∀ q∈S,0<q.Den
end Go.Pg
namespace Go.Pg
end Go.Pg
namespace Go.Pg
open Go.Proofs Go.RowKit Go.Sort
theorem zf6 {g h:Half} {p q:Corner} (hp:valid p=true) (hq:valid q=true) (hd:det g h≠0) (p1:ef g p=0) (p2:ef h p=0) (q1:ef g q=0) (q2:ef h q=0):p=q:=by
 have hdet:det g h=g.A * h.B - h.A * g.B:=by unfold det; rfl
 rw[hdet] at hd
 unfold ef at p1 p2 q1 q2
 have kx:(p.X * q.Den - q.X * p.Den) * (g.A * h.B - h.A * g.B)=0:=by grind
 have ky:(p.Y * q.Den - q.Y * p.Den) * (g.A * h.B - h.A * g.B)=0:=by grind
 have ex:p.X * q.Den=q.X * p.Den:=by
  rcases Int.mul_eq_zero.1 kx with h | h
  ·omega
  exact absurd h hd
 have ey:p.Y * q.Den=q.Y * p.Den:=by
  rcases Int.mul_eq_zero.1 ky with h | h
  ·omega
  exact absurd h hd
 exact zgm hp hq (by unfold leC; omega) (by unfold leC; omega)
theorem znL (g h:Half):det h g = -det g h:=by unfold det; grind
def hsL (l:List Half):List Half:=l++sidesL
def Fe (hs:List Half) (q:Corner):Prop:=∀ h∈hs,ef h q<=0
structure Vt (hs:List Half) (q:Corner):Prop where
  fe:Fe hs q
  va:valid q=true
  ti:∃ g∈hs,∃ h∈hs,det g h≠0/\ef g q=0/\ef h q=0
def addH (g h:Half):Half:=⟨g.A+h.A,g.B+h.B,g.C+h.C⟩
theorem zoN (g h:Half) (p:Corner):ef (addH g h) p=ef g p+ef h p:=by unfold ef addH; grind
theorem Vt.out {hs:List Half} {q:Corner} (hq:Vt hs q):∃ φ:Half,ef φ q=0 /\ ∀ p,Fe hs p->valid p=true->ef φ p<=0/\(p≠q->ef φ p<0):=by
 obtain⟨g,hg,h,hh,hd,t1,t2⟩:=hq.ti
 refine⟨addH g h,by rw[zoN,t1,t2]; rfl,fun p hp hv=>?_⟩
 rw[zoN]
 have a1:=hp g hg
 have a2:=hp h hh
 refine⟨by omega,fun hne=>?_⟩
 have:¬ (ef g p=0/\ef h p=0):=fun⟨e1,e2⟩=>hne (zf6 hv hq.va hd e1 e2 t1 t2)
 omega
def fx (F:Form) (h:Half):Int:=F.X * h.B - F.Y * h.A
end Go.Pg
