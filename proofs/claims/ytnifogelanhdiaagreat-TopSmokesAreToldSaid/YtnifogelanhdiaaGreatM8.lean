/- Lemmas, joined by program. -/
import Derived.Test.YtnifogelanhdiaaGreatM7
import Derived.Shelf.SlSortCmp.NoneTotal
import Derived.KernelRfl
import Derived.Test.YtnifogelanhdiaaGreatChecked
set_option maxHeartbeats 4000000
set_option linter.all false
set_option maxRecDepth 100000
namespace Go.Pg
open Go.Proofs Go.RowKit
theorem sA {f : FuncId} {fn : Func} {c : Code} (hf : PP.funcs[f]? = some fn) {args res : List V1} (h : awp PP TTab EN c (St.of (argSlots 0 args) []) (retK TTab fn.results.toList res))
  (hb : fn.body = some c := by rfl) (hq : ((fn.name == "runtime.NumGoroutine") || !(codeN fn.ntmps c && Nat.ble fn.ntmps 4294967296)) = false := by kernel_rfl) (hs : Nat.ble args.length fn.ntmps = true := by rfl) : Spec PP f args res := zpe hf hb hq hs h
theorem oL {p q:List Nat->Prop} (l:List Nat) (hq:q l) (hp:p l:=by kernel_rfl):∃ l,p l/\q l:=⟨l,hp,hq⟩
theorem oN {ops:Array Oper} {s:St} {K:List Nat->St->Prop} (n:Nat) (h:K (List.range n) s) (hp:drawB ops (List.range n)=true:=by kernel_rfl):∃ ord,drawB ops ord=true/\FzOb s (K ord):=⟨_,hp,fNo h⟩
theorem msr {n i:Nat} (h:i<n):n - (i+1)<n - i:=by omega
theorem z0L {n:Nat} {p:Nat->Prop}:0<=n /\ ∀ j,j<0->p j:=⟨jF _,fun j hj=>absurd hj (qQ _)⟩
def slv (s:St):List (Nat × AV)->List AV
 | []=>[]
 | (t,_) :: r=>s.sl t :: slv s r
def vls:List (Nat × AV)->List AV
 | []=>[]
 | (_,v) :: r=>v :: vls r
theorem wq {s:St} {ob:Nat->Option Ob}:∀ {l:List (Nat × AV)},slv s l=vls l->wkS s ob l
 | [],_=>trivial
 | (t,v) :: r,h=>by
  simp only[slv,vls,jan] at h
  refine⟨?_,wq h.2⟩
  show AVle s ob (s.sl t) v
  rw[h.1]; exact zaW s ob v
theorem Split.yes {b:Bool} {K:Bool->Prop} (hb:b=true) (h:K true):Split b K:=by subst hb; exact .of h
theorem Split.no {b:Bool} {K:Bool->Prop} (hb:b=false) (h:K false):Split b K:=by subst hb; exact .of h
theorem LoopOb.of {body:St->KK->Prop} {s:St} {K:KK} {σ:Type} (S:σ->List (Nat × AV) × List (Nat × Ob)) (Inv:σ->Prop) (μ:σ->Nat) (x0:σ) (hw:Weak s (S x0).1 (S x0).2) (hi:Inv x0)
  (hr:∀ x,Inv x->body (St.of (S x).1 (S x).2) fun e s'=>match e with
   | .normal=>∃ x',Weak s' (S x').1 (S x').2/\Inv x'/\μ x'<μ x
   | e=>K e s'):LoopOb body s K:=by rw[ze7]; exact⟨σ,S,Inv,μ,x0,hw,hi,hr⟩
section
variable {s:St} {ob:Nat->Option Ob} {v:AV}
theorem avI {k:IntKind} {a b:Int} (h:v = .d (.int k a)) (e:a=b):AVle s ob v (.d (.int k b)):=by subst h; exact⟨rfl,e⟩
theorem avE {x y:D} (h:v = .d x) (e:D.eqv x y):AVle s ob v (.d y):=by subst h; exact e
theorem avR (x:D) (h:v = .d x):AVle s ob v (.d x):=by subst h; exact dE x
theorem zjD (xs:List D):avles s ob (xs.map AV.d) (xs.map AV.d):=by
 induction xs with
 | nil=>trivial
 | cons x r ih=>exact⟨dE x,ih⟩
theorem obD (xs:List D) {o:Option Ob} (h:o=some (.box (xs.map AV.d))):Oble s ob o (.box (xs.map AV.d)):=by subst h; exact zjD xs
theorem obR {e k n n':Nat} {f f':Nat->Nat->D} {o:Option Ob} (h:o=some (.row e k n f)) (hq:D.eqv (.slc k n f) (.slc k n' f')):Oble s ob o (.row e k n' f'):=by subst h; exact⟨rfl,hq,rfl⟩
theorem rtI {k:IntKind} {a b:Int} (h:v = .d (.int k a)) (e:a=b):RetAV s v (.d (.int k b)):=by subst h; exact⟨rfl,e⟩
theorem rtB {a b:Bool} (h:v = .d (.bool a)) (e:a=b):RetAV s v (.d (.bool b)):=by subst h; exact e
end
section
variable {T:TT} {s:St} {t:Nat}
theorem r1B {a b:Bool} (h:s.sl t = .d (.bool a)) (e:a=b):RetAll T s [.tmp t] [.d (.bool b)]:=⟨rtB h e,trivial⟩
theorem r1I {k:IntKind} {a b:Int} (h:s.sl t = .d (.int k a)) (e:a=b):RetAll T s [.tmp t] [.d (.int k b)]:=⟨rtI h e,trivial⟩
end
theorem rtC {T:TT} {s:St} {a t i:Nat} {ti:TI} {cs:List AV} {xs ys:List D} {v:AV} (h1:v = .box i 0) (h2:T t=some ti) (h3:s.ob i=some (.box cs)) (h4:Nat.beq cs.length ti.size=true) (h5:ti.agg=true) (h6:allD cs=some xs) (he:eqvs xs ys) :
  RetCell T s t v (.agg ys):=by
 subst h1
 unfold RetCell
 simp only[h2,h3,h4,h5,true_and]
 have:RetBox cs (.agg ys) ↔ (match allD cs with | some xs=>eqvs xs ys | none=>False):=by
  rcases cs with _ | ⟨c,_ | ⟨c',r⟩⟩ <;> first | exact jbq | (cases c <;> exact jbq)
 rw[this,h6]
 exact he
section
variable {T:TT} {s:St} {a t i u:Nat} {ti:TI} {cs:List AV} {xs ys:List D}
theorem r1C (h1:s.sl a = .box i 0) (h2:T t=some ti) (h3:s.ob i=some (.box cs)) (h4:Nat.beq cs.length ti.size=true) (h5:ti.agg=true) (h6:allD cs=some xs) (he:eqvs xs ys) :
  RetAll T s [.cell a t] [.agg ys]:=⟨rtC (a:=a) h1 h2 h3 h4 h5 h6 he,trivial⟩
theorem r2CI (h1:s.sl a = .box i 0) (h2:T t=some ti) (h3:s.ob i=some (.box cs)) (h4:Nat.beq cs.length ti.size=true) (h5:ti.agg=true) (h6:allD cs=some xs) {k:IntKind} {m n:Int} (h7:s.sl u = .d (.int k m)) (he:eqvs xs ys) (e:m=n) :
  RetAll T s [.cell a t,.tmp u] [.agg ys,.d (.int k n)]:=⟨rtC (a:=a) h1 h2 h3 h4 h5 h6 he,rtI h7 e,trivial⟩
theorem r2II {t u:Nat} {k k':IntKind} {m n m' n':Int} (h:s.sl t = .d (.int k m)) (h':s.sl u = .d (.int k' m')) (e:m=n) (e':m'=n') :
  RetAll T s [.tmp t,.tmp u] [.d (.int k n),.d (.int k' n')]:=⟨rtI h e,rtI h' e',trivial⟩
end
theorem dT {p:Prop} [Decidable p] (h:decide p=true):p:=kQ h
theorem dF {p:Prop} [Decidable p] (h:decide p=false):¬ p:=jaX h
theorem zlv {k k':IntKind} {a b a' b':Int} (h1:a=a') (h2:b=b'):eqvs [.int k a,.int k' b] [.int k a',.int k' b']:=⟨⟨rfl,h1⟩,⟨rfl,h2⟩,trivial⟩
theorem i6 {n:Int} (h:-9223372036854775808<=n/\n<=9223372036854775807:=by omega):inR .i64 n:=h
theorem zaZ {n:Int} (h1:-9223372036854775808<=n) (h2:n<=9223372036854775807):inR .i64 n:=⟨h1,h2⟩
theorem gd1 {α:Type} {l:List α} {i:Nat} (h:i<l.length) (d:α):l.getD i d∈l:=by
 rw[hU,kF h]; exact kT h
theorem zay {α:Type} {l:List α} {i:Nat} (h:i<l.length) (d:α):l.take (i+1)=l.take i ++ [l.getD i d]:=by
 rw[List.take_succ_eq_append_getElem h,hU,kF h]; rfl
@[irreducible] def within (n lo hi:Int):Bool:=decide (lo<=n) && decide (n<=hi)
@[irreducible] def slope (a b:Int):Bool:=within a (-1000) 1000 && within b (-1000) 1000
def gcdL (l:List Int):Nat:=l.foldl (fun g n=>Nat.gcd g n.natAbs) 0
@[irreducible] def fit (h:Half):Bool:=slope h.A h.B && (h.A != 0 || h.B != 0) && within h.C (-262144) 262144
def checkL (l:List Half):Int:=if 40<l.length then 2 else if l.all fit then 0 else 1
theorem zaa {n lo hi:Int}:within n lo hi=true ↔ lo<=n/\n<=hi:=by unfold within; simp
@[irreducible] def valid (p:Corner):Bool:=within p.Den 1 2097152 && within p.X (-1073741824) 1073741824 && within p.Y (-1073741824) 1073741824 && ((gcdL [p.X,p.Y,p.Den]:Int)==1)
@[irreducible] def on (p:Place):Bool:=within p.X 0 48 && within p.Y 0 48
theorem mulB {a b x y:Int} (ha:-x<=a/\a<=x) (hb:-y<=b/\b<=y):-(x * y)<=a * b/\a * b<=x * y:=by
 have h:(a * b).natAbs<=x.natAbs * y.natAbs:=by rw[Int.natAbs_mul]; exact Nat.mul_le_mul (by omega) (by omega)
 have e:((x.natAbs * y.natAbs:Nat):Int)=x * y:=by rw[Int.natCast_mul,Int.natAbs_of_nonneg (by omega),Int.natAbs_of_nonneg (by omega)]
 omega
structure okH (h:Half):Prop where
  a:-1000<=h.A/\h.A<=1000
  b:-1000<=h.B/\h.B<=1000
  c:-262144<=h.C/\h.C<=262144
structure okC (p:Corner):Prop where
  x:-1073741824<=p.X/\p.X<=1073741824
  y:-1073741824<=p.Y/\p.Y<=1073741824
  d:1<=p.Den/\p.Den<=2097152
theorem zrs {h:Half} (hf:fit h=true):okH h:=by
 unfold fit slope at hf
 simp only[jP,zaa] at hf
 exact⟨hf.1.1.1,hf.1.1.2,hf.2⟩
theorem zkK {p:Corner} (hf:valid p=true):okC p:=by
 unfold valid at hf
 simp only[jP,zaa] at hf
 exact⟨hf.1.1.2,hf.1.2,hf.1.1.1⟩
@[irreducible] def ord (a b:Int):Int:=if a<b then -1 else if b<a then 1 else 0
theorem zqe (a:Int):SpecD PP 212 [N a] [B false]:=by
 refine zbw Tryz.func212 rfl (by kernel_rfl) rfl ?_
 refine r1B rfl ?_
 simp
theorem zrZ (a b:Int):SpecD PP 167 [N a,N b] [N (ord a b)]:=by
 refine zbw Tryz.func167 rfl (by kernel_rfl) rfl ?_
 repeat' first
  | refine sT ?_
  | refine sF ?_
  | refine bY (fun _=>?_) (fun _=>?_)
  | refine cP (zqe _) rfl rfl ?_
  | refine r1I rfl ?_
 all_goals (unfold ord; simp_all)
 all_goals omega
def vecP (d:Int):Place:=
 if 3150<=d then ⟨450,d - 3600⟩ else if 2250<=d then ⟨d - 2700,-450⟩ else if 1350<=d then ⟨-450,1800 - d⟩ else if 450<=d then ⟨900 - d,450⟩ else ⟨450,d⟩
def Sg (c m d:Int):Prop:=(0<=m/\m<3600 * d)/\(0<c ↔ 0<m/\m<1800 * d)/\(c<0 ↔ 1800 * d<m)
theorem zph {s x y:Int} (hs:0<=s/\s<3600) (hx:0<x) (hy:-x<=y/\y<=x):∃ j:Int,Sg ((vecP s).X * y - (vecP s).Y * x) (450 * y - s * x+3600 * x * j) x:=by
 unfold Sg vecP
 by_cases h4:3150<=s
 ·rw[kH h4]
  have a:=jad (show 0<=s - 3150 by omega) (wE hx)
  have b:=jbm (show 0<3600 - s by omega) hx
  rw[ja0] at a b
  have e:(450:Int) * y - (s - 3600) * x=450 * y - s * x+3600 * x:=by rw[ja0]; omega
  by_cases z:0<=450 * y - s * x+3600 * x
  ·exact⟨1,(show (0<=450 * y - s * x+3600 * x * 1/\_)/\(0<450 * y - (s - 3600) * x ↔ _)/\(450 * y - (s - 3600) * x<0 ↔ _) by rw[e]; omega)⟩
  exact⟨2,(show (0<=450 * y - s * x+3600 * x * 2/\_)/\(0<450 * y - (s - 3600) * x ↔ _)/\(450 * y - (s - 3600) * x<0 ↔ _) by rw[e]; omega)⟩
 rw[kG h4]
 by_cases h3:2250<=s
 ·rw[kH h3]
  have a:=jad (show 0<=s - 2250 by omega) (wE hx)
  have b:=jbm (show 0<3150 - s by omega) hx
  rw[ja0] at a b
  refine⟨1,(show (0<=450 * y - s * x+3600 * x * 1/\450 * y - s * x+3600 * x * 1<3600 * x)/\(0<(s - 2700) * y - -450 * x ↔ 0<450 * y - s * x+3600 * x * 1/\450 * y - s * x+3600 * x * 1<1800 * x)/\((s - 2700) * y - -450 * x<0 ↔ 1800 * x<450 * y - s * x+3600 * x * 1) from ?_)⟩
  have e1:(s - 2700) * y - -450 * x=450 * (x+y)+(3150 - s) * (-y):=by grind
  have e2:(s - 2700) * y - -450 * x=450 * (x - y)+(s - 2250) * y:=by grind
  have k3:450 * y - s * x+3600 * x * 1=1800 * x->(s - 2700) * y - -450 * x=0:=fun h=>by
   have yx:y=x:=by omega
   subst yx
   rw[ja0]; omega
  have k:0<=(s - 2700) * y - -450 * x/\((s - 2700) * y - -450 * x=0->450 * y - s * x+3600 * x * 1=0 \/ 450 * y - s * x+3600 * x * 1=1800 * x):=by
   rcases Int.lt_or_le y 0 with g | g
   ·have:=jbm (show 0<3150 - s by omega) (show 0 < -y by omega)
    exact⟨by omega,fun h=>by omega⟩
   have:=jad (show 0<=s - 2250 by omega) g
   refine⟨by omega,fun h=>?_⟩
   have z:(s - 2250) * y=0:=by omega
   have yx:y=x:=by omega
   rcases Int.mul_eq_zero.1 z with q | q
   ·have:s=2250:=by omega
    subst this; right; omega
   omega
  obtain⟨k1,k2⟩:=k
  generalize (s - 2700) * y - -450 * x=c at *
  omega
 rw[kG h3]
 by_cases h2:1350<=s
 ·rw[kH h2]
  have a:=jad (show 0<=s - 1350 by omega) (wE hx)
  have b:=jbm (show 0<2250 - s by omega) hx
  rw[ja0] at a b
  have e:-450 * y - (1800 - s) * x = -(450 * y - s * x+1800 * x):=by rw[ja0]; omega
  exact⟨1,(show (0<=450 * y - s * x+3600 * x * 1/\_)/\(0 < -450 * y - (1800 - s) * x ↔ _)/\(-450 * y - (1800 - s) * x<0 ↔ _) by rw[e]; omega)⟩
 rw[kG h2]
 by_cases h1:450<=s
 ·rw[kH h1]
  have a:=jad (show 0<=s - 450 by omega) (wE hx)
  have b:=jbm (show 0<1350 - s by omega) hx
  rw[ja0] at a b
  have e1:(900 - s) * y - 450 * x = -(450 * (x+y)+(1350 - s) * (-y)):=by grind
  have e2:(900 - s) * y - 450 * x = -(450 * (x - y)+(s - 450) * y):=by grind
  have k:(900 - s) * y - 450 * x<=0/\((900 - s) * y - 450 * x=0->450 * y - s * x=0)/\(450 * y - s * x=0->(900 - s) * y - 450 * x=0):=by
   rcases Int.lt_or_le y 0 with g | g
   ·have:=jbm (show 0<1350 - s by omega) (show 0 < -y by omega)
    exact⟨by omega,fun h=>by omega,fun h=>by omega⟩
   have:=jad (show 0<=s - 450 by omega) g
   refine⟨by omega,fun h=>?_,fun h=>?_⟩
   ·have z:(s - 450) * y=0:=by omega
    have yx:y=x:=by omega
    rcases Int.mul_eq_zero.1 z with q | q
    ·have:s=450:=by omega
     subst this; omega
    omega
   have yx:y=x:=by omega
   subst yx
   have:(s - 450) * y=0:=by rw[ja0]; omega
   omega
  obtain⟨k1,k2,k3⟩:=k
  by_cases z:450 * y - s * x=0
  ·exact⟨0,(show (0<=450 * y - s * x+3600 * x * 0/\_)/\(0<(900 - s) * y - 450 * x ↔ _)/\((900 - s) * y - 450 * x<0 ↔ _) by have:=k3 z; omega)⟩
  refine⟨1,(show (0<=450 * y - s * x+3600 * x * 1/\_)/\(0<(900 - s) * y - 450 * x ↔ _)/\((900 - s) * y - 450 * x<0 ↔ _) from ?_)⟩
  have:(900 - s) * y - 450 * x≠0:=fun h=>z (k2 h)
  generalize (900 - s) * y - 450 * x=c at *
  omega
 rw[kG h1]
 have a:=jad hs.1 (wE hx)
 have b:=jbm (show 0<450 - s by omega) hx
 rw[ja0] at b
 by_cases z:0<=450 * y - s * x
 ·exact⟨0,(show (0<=450 * y - s * x+3600 * x * 0/\_)/\(0<450 * y - s * x ↔ _)/\(450 * y - s * x<0 ↔ _) by omega)⟩
 exact⟨1,(show (0<=450 * y - s * x+3600 * x * 1/\_)/\(0<450 * y - s * x ↔ _)/\(450 * y - s * x<0 ↔ _) by omega)⟩
theorem zoZ {s:Int} (hs:0<=s/\s<3600):∃ t:Int,(0<=t/\t<3600)/\(s=t+900 \/ s=t - 2700)/\(vecP s).X = -(vecP t).Y/\(vecP s).Y=(vecP t).X:=by
 by_cases h:900<=s
 ·refine⟨s - 900,by omega,.inl (by omega),?_⟩
  unfold vecP
  repeat' split
  all_goals first | (exfalso; omega) | (constructor <;> first | rfl | (dsimp only; omega))
 refine⟨s+2700,by omega,.inr (by omega),?_⟩
 unfold vecP
 repeat' split
 all_goals first | (exfalso; omega) | (constructor <;> first | rfl | (dsimp only; omega))
def Side (x y n d:Int):Prop:=∀ s:Int,0<=s->s<3600 -> ∃ j:Int,Sg ((vecP s).X * y - (vecP s).Y * x) (n - s * d+3600 * d * j) d
theorem zfl {x y n d:Int} (h:Side x y n d):Side (-y) x (n+900 * d) d:=fun s h1 h2=>by
 obtain⟨t,ht,hst,eX,eY⟩:=zoZ ⟨h1,h2⟩
 obtain⟨j,hj⟩:=h t ht.1 ht.2
 have ec:(vecP s).X * x - (vecP s).Y * -y=(vecP t).X * y - (vecP t).Y * x:=by rw[eX,eY]; grind
 rw[ec]
 rcases hst with e | e
 ·refine⟨j,?_⟩
  have:n+900 * d - s * d+3600 * d * j=n - t * d+3600 * d * j:=by rw[e]; grind
  rw[this]; exact hj
 refine⟨j - 1,?_⟩
 have:n+900 * d - s * d+3600 * d * (j - 1)=n - t * d+3600 * d * j:=by rw[e]; grind
 rw[this]; exact hj
theorem zf9 {x y:Int} (hx:0<x) (hy:-x<=y/\y<=x):Side x y (450 * y) x:=fun s h1 h2=>zph ⟨h1,h2⟩ hx hy
theorem zeJ {x y:Int} (hy:0<y) (hx:-y<=x/\x<=y):Side x y (900 * y - 450 * x) y:=by
 have:=zfl (zf9 (x:=y) (y:=-x) hy (by omega))
 rw[Int.neg_neg] at this
 rwa [show 450 * -x+900 * y=900 * y - 450 * x by omega] at this
theorem zf8 {x y:Int} (hx:x<0) (hy:x<=y/\y <= -x):Side x y (1800 * -x - 450 * y) (-x):=by
 have:=zfl (zeJ (x:=y) (y:=-x) (by omega) (by omega))
 rw[Int.neg_neg] at this
 rwa [show 900 * -x - 450 * y+900 * -x=1800 * -x - 450 * y by omega] at this
theorem zjh {x y:Int} (hy:y<0) (hx:y<=x/\x <= -y):Side x y (2700 * -y+450 * x) (-y):=by
 have:=zfl (zf8 (x:=y) (y:=-x) hy (by omega))
 rw[Int.neg_neg] at this
 rwa [show 1800 * -y - 450 * -x+900 * -y=2700 * -y+450 * x by omega] at this
theorem zaB (n lo hi:Int):Spec PP 79 [N n,N lo,N hi] [B (within n lo hi)]:=by
 refine sA Tryz.func79 ?_
 repeat' first
  | refine sT ?_
  | refine sF ?_
  | refine bY (fun _=>?_) (fun _=>?_)
  | refine r1B rfl ?_
 all_goals (unfold within; simp_all <;> omega)
theorem zb9 (d:Int):Spec PP 128 [N d] [B (within d 0 3599)]:=by
 refine sA Tryz.func128 ?_
 refine cP (zaB d 0 3599) rfl rfl ?_
 exact r1B rfl rfl
theorem zcI (n p:Int) (hp:0<p/\p<=1000000) (hn:-1000000000000<=n/\n<=1000000000000):Spec PP 196 [N n,N p] [N (n % (3600 * p))]:=by
 have h1:=jaB n (show 0<3600 * p by omega)
 have h2:=jaB (-n) (show 0<3600 * p by omega)
 rw[Int.neg_tmod] at h2
 refine sA Tryz.func196 ?_
 refine⟨i6,?_⟩
 refine⟨by omega,⟨i6,⟨by omega,?_⟩⟩⟩
 refine r1I rfl ?_
 rw[jal (by omega),jbp]
 rw[Int.tmod_def,ja3]
structure Wdg where
  F:Int
  T:Int
  deriving DecidableEq,Inhabited
abbrev Wdg.v (w:Wdg):V1:=.agg [I w.F,I w.T]
@[irreducible] def openW (w:Wdg):Int:=if within w.F 0 3599=true/\within w.T 0 3599=true then (w.T - w.F) % 3600 else -1
theorem zgN (w:Wdg):Spec PP 227 [w.v] [N (openW w)]:=by
 refine sA Tryz.func227 ?_
 refine cP (zb9 w.F) rfl rfl ?_
 apply bY <;> intro h1
 ·have h1:within w.F 0 3599=false:=by simpa using h1
  repeat first | apply sT | apply sF
  refine r1I rfl ?_
  unfold openW; rw[kG fun h=>by rw[h.1] at h1; cases h1]
 have h1:within w.F 0 3599=true:=by simpa using h1
 repeat first | apply sT | apply sF
 refine cP (zb9 w.T) rfl rfl ?_
 repeat first | apply sT | apply sF
 apply bY <;> intro h2
 ·have h2:within w.T 0 3599=false:=by simpa using h2
  repeat first | apply sT | apply sF
  refine r1I rfl ?_
  unfold openW; rw[kG fun h=>by rw[h.2] at h2; cases h2]
 have h2:within w.T 0 3599=true:=by simpa using h2
 have b1:=zaa.1 h1
 have b2:=zaa.1 h2
 repeat first | apply sT | apply sF
 refine⟨i6,?_⟩
 refine cP (zcI (w.T - w.F) 1 (by omega) (by omega)) rfl rfl ?_
 refine r1I rfl ?_
 unfold openW; rw[kH ⟨h1,h2⟩]; rfl
@[irreducible] def validW (w:Wdg):Bool:=within (openW w) 0 900
theorem zqs (w:Wdg):Spec PP 226 [w.v] [B (validW w)]:=by
 refine sA Tryz.func226 ?_
 refine cP (zgN w) rfl rfl ?_
 refine cP (zaB (openW w) 0 900) rfl rfl ?_
 refine r1B rfl ?_
 unfold validW; rfl
theorem c_on (l:List Place) (hn:l.length<=1000000):Spec PP 125 [slP l] [B (l.all on)]:=by
 refine sA Tryz.func125 ?_
 refine LoopOb.of (σ:=Nat) (fun i=>([(5,avOf (slP l)),(6,.d (I l.length)),(7,.d (I i))],[])) (fun i=>i<=l.length/\(l.take i).all on=true) (fun i=>l.length - i) 0 ⟨rfl,trivial,wq rfl⟩ ⟨jF _,rfl⟩ fun i hi=>?_
 obtain⟨hi,ha⟩:=hi
 apply bY <;> intro h1
 ·have h1:i<l.length:=by have:=dT h1; omega
  have hx:(l.getD i default)∈l:=gd1 h1 default
  refine⟨⟨rfl,by omega,by omega⟩,?_⟩
  refine cP (zaB (l.getD i default).X 0 48) rfl rfl ?_
  apply bY <;> intro h2
  ·have h2:within (l.getD i default).X 0 48=false:=by simpa using h2
   refine sT ?_
   refine sT ?_
   refine r1B rfl ?_
   have h3:on (l.getD i default)=false:=by unfold on; rw[h2]; rfl
   exact (List.all_eq_false.2 ⟨_,hx,by rw[h3]; decide⟩).symm
  have h2:within (l.getD i default).X 0 48=true:=by simpa using h2
  refine cP (zaB (l.getD i default).Y 0 48) rfl rfl ?_
  refine sF ?_
  apply bY <;> intro h3
  ·have h3:within (l.getD i default).Y 0 48=false:=by simpa using h3
   refine r1B rfl ?_
   have h3:on (l.getD i default)=false:=by unfold on; rw[h2,h3]; rfl
   exact (List.all_eq_false.2 ⟨_,hx,by rw[h3]; decide⟩).symm
  have h3:within (l.getD i default).Y 0 48=true:=by simpa using h3
  have h4:on (l.getD i default)=true:=by unfold on; rw[h2,h3]; rfl
  refine⟨i6,?_⟩
  refine⟨i+1,⟨rfl,trivial,wq rfl⟩,⟨h1,?_⟩,(msr (by omega))⟩
  rw[zay h1 default,List.all_append,ha]; simp only[ja8,h4]; rfl
 have h1:i=l.length:=by have:=dF h1; omega
 refine r1B rfl ?_
 rw[h1,jZ] at ha
 exact ha.symm
def bearP (x y:Int):Int × Int:=
 if 0<x/\max y (-y)<=x then (450 * y,x) else if 0<y/\max x (-x)<=y then (900 * y - 450 * x,y) else if x<0/\max y (-y) <= -x then (1800 * -x - 450 * y,-x) else (2700 * -y+450 * x,-y)
theorem zgT {x y:Int} (h:x≠0 \/ y≠0):Side x y (bearP x y).1 (bearP x y).2/\0<(bearP x y).2:=by
 unfold bearP
 by_cases h1:0<x/\max y (-y)<=x
 ·rw[kH h1]; exact⟨zf9 h1.1 (by omega),h1.1⟩
 rw[kG h1]
 by_cases h2:0<y/\max x (-x)<=y
 ·rw[kH h2]; exact⟨zeJ h2.1 (by omega),h2.1⟩
 rw[kG h2]
 by_cases h3:x<0/\max y (-y) <= -x
 ·rw[kH h3]; exact⟨zf8 h3.1 (by omega),(show 0 < -x by omega)⟩
 rw[kG h3]
 have hy:y<0:=by omega
 exact⟨zjh hy (by omega),(show 0 < -y by omega)⟩
theorem zma {x y:Int} (hx:-48<=x/\x<=48) (hy:-48<=y/\y<=48):(-1000000<=(bearP x y).1/\(bearP x y).1<=1000000)/\(bearP x y).2<=48:=by
 unfold bearP
 repeat' split
 all_goals (dsimp only; omega)
def bear (a b:Place):Int × Int:=((bearP (b.X - a.X) (b.Y - a.Y)).1 % (3600 * (bearP (b.X - a.X) (b.Y - a.Y)).2),(bearP (b.X - a.X) (b.Y - a.Y)).2)
theorem zch {p:Place}:on p=true ↔ (0<=p.X/\p.X<=48)/\(0<=p.Y/\p.Y<=48):=by
 unfold on; rw[jP,zaa,zaa]
theorem ziq {a b:Place} (h:a≠b):b.X - a.X≠0 \/ b.Y - a.Y≠0:=by
 rcases a with⟨ax,ay⟩; rcases b with⟨bx,by'⟩
 by_cases h1:bx - ax=0
 ·refine .inr fun h2=>h ?_
  dsimp only at h1 h2
  rw[Place.mk.injEq]; omega
 exact .inl h1
theorem zel (a b:Place) (ha:on a=true) (hb:on b=true) (hne:a≠b):Spec PP 144 [a.v,b.v] [N (bear a b).1,N (bear a b).2]:=by
 obtain⟨a1,a2⟩:=zch.1 ha
 obtain⟨b1,b2⟩:=zch.1 hb
 have hs:=zgT (ziq hne)
 have hbd:=zma (x:=b.X - a.X) (y:=b.Y - a.Y) (by omega) (by omega)
 refine sA Tryz.func144 ?_
 refine oN 12 ?_
 refine⟨i6,⟨i6,?_⟩⟩
 unfold bear
 have hx:-48<=b.X - a.X/\b.X - a.X<=48:=by omega
 have hy:-48<=b.Y - a.Y/\b.Y - a.Y<=48:=by omega
 generalize b.X - a.X=x at *
 generalize b.Y - a.Y=y at *
 have fin:∀ {n d:Int},bearP x y=(n,d)->Spec PP 196 [N n,N d] [N ((bearP x y).1 % (3600 * (bearP x y).2))]:=fun e=>by
  rw[e] at hs hbd ⊢
  exact zcI _ _ (by have:=hs.2; have:=hbd.2; dsimp only at *; omega) (by have:=hbd.1; dsimp only at *; omega)
 apply bY <;> intro h1
 ·have h1:0<x:=dT h1
  refine⟨i6,?_⟩
  refine sT ?_
  apply bY <;> intro h2
  ·have h2:max y (-y)<=x:=dT h2
   have e:bearP x y=(450 * y,x):=by unfold bearP; rw[kH ⟨h1,h2⟩]
   refine⟨i6,?_⟩
   refine cP (fin e) rfl rfl ?_
   exact r2II rfl rfl rfl (by rw[e])
  have h2:¬ max y (-y)<=x:=dF h2
  apply bY <;> intro h3
  ·have h3:0<y:=dT h3
   refine⟨i6,?_⟩
   refine sT ?_
   apply bY <;> intro h4
   ·have h4:max x (-x)<=y:=dT h4
    have e:bearP x y=(900 * y - 450 * x,y):=by unfold bearP; rw[kG (fun h=>h2 h.2),kH ⟨h3,h4⟩]
    refine⟨zaZ (by decide) (by decide),⟨i6,⟨i6,⟨i6,?_⟩⟩⟩⟩
    refine cP (fin e) rfl rfl ?_
    exact r2II rfl rfl rfl (by rw[e])
   have h4:¬ max x (-x)<=y:=dF h4
   omega
  have h3:¬ 0<y:=dF h3
  refine sF ?_
  refine sF ?_
  refine Split.no (jH (by omega)) ?_
  refine sF ?_
  refine sF ?_
  have e:bearP x y=(2700 * -y+450 * x,-y):=by unfold bearP; rw[kG (fun h=>h2 h.2),kG (fun h=>h3 h.1),kG (by omega)]
  refine⟨zaZ (by decide) (by decide),⟨i6,⟨i6,⟨i6,⟨i6,⟨i6,?_⟩⟩⟩⟩⟩⟩
  refine cP (fin e) rfl rfl ?_
  exact r2II rfl rfl rfl (by rw[e])
 have h1:¬ 0<x:=dF h1
 refine sF ?_
 refine sF ?_
 apply bY <;> intro h3
 ·have h3:0<y:=dT h3
  refine⟨i6,?_⟩
  refine sT ?_
  apply bY <;> intro h4
  ·have h4:max x (-x)<=y:=dT h4
   have e:bearP x y=(900 * y - 450 * x,y):=by unfold bearP; rw[kG (fun h=>h1 h.1),kH ⟨h3,h4⟩]
   refine⟨zaZ (by decide) (by decide),⟨i6,⟨i6,⟨i6,?_⟩⟩⟩⟩
   refine cP (fin e) rfl rfl ?_
   exact r2II rfl rfl rfl (by rw[e])
  have h4:¬ max x (-x)<=y:=dF h4
  apply bY <;> intro h5
  ·have h5:x<0:=dT h5
   refine⟨i6,⟨i6,?_⟩⟩
   refine sT ?_
   apply bY <;> intro h6
   ·have h6:max y (-y) <= -x:=dT h6
    have e:bearP x y=(1800 * -x - 450 * y,-x):=by unfold bearP; rw[kG (fun h=>h1 h.1),kG (fun h=>h4 h.2),kH ⟨h5,h6⟩]
    refine⟨zaZ (by decide) (by decide),⟨i6,⟨i6,⟨i6,⟨i6,⟨i6,?_⟩⟩⟩⟩⟩⟩
    refine cP (fin e) rfl rfl ?_
    exact r2II rfl rfl rfl (by rw[e])
   have h6:¬ max y (-y) <= -x:=dF h6
   omega
  have h5:¬ x<0:=dF h5
  omega
 have h3:¬ 0<y:=dF h3
 refine sF ?_
 refine sF ?_
 apply bY <;> intro h5
 ·have h5:x<0:=dT h5
  refine⟨i6,⟨i6,?_⟩⟩
  refine sT ?_
  apply bY <;> intro h6
  ·have h6:max y (-y) <= -x:=dT h6
   have e:bearP x y=(1800 * -x - 450 * y,-x):=by unfold bearP; rw[kG (fun h=>h1 h.1),kG (fun h=>h3 h.1),kH ⟨h5,h6⟩]
   refine⟨zaZ (by decide) (by decide),⟨i6,⟨i6,⟨i6,⟨i6,⟨i6,?_⟩⟩⟩⟩⟩⟩
   refine cP (fin e) rfl rfl ?_
   exact r2II rfl rfl rfl (by rw[e])
  have h6:¬ max y (-y) <= -x:=dF h6
  have e:bearP x y=(2700 * -y+450 * x,-y):=by unfold bearP; rw[kG (fun h=>h1 h.1),kG (fun h=>h3 h.1),kG (fun h=>h6 h.2)]
  refine⟨zaZ (by decide) (by decide),⟨i6,⟨i6,⟨i6,⟨i6,⟨i6,?_⟩⟩⟩⟩⟩⟩
  refine cP (fin e) rfl rfl ?_
  exact r2II rfl rfl rfl (by rw[e])
 have h5:¬ x<0:=dF h5
 refine sF ?_
 refine sF ?_
 have e:bearP x y=(2700 * -y+450 * x,-y):=by unfold bearP; rw[kG (fun h=>h1 h.1),kG (fun h=>h3 h.1),kG (fun h=>h5 h.1)]
 refine⟨zaZ (by decide) (by decide),⟨i6,⟨i6,⟨i6,⟨i6,⟨i6,?_⟩⟩⟩⟩⟩⟩
 refine cP (fin e) rfl rfl ?_
 exact r2II rfl rfl rfl (by rw[e])
@[irreducible] def liesW (w:Wdg) (a p:Place):Bool:=validW w && (on a && on p) && !decide (a=p) && decide (((bear a p).1 - w.F * (bear a p).2) % (3600 * (bear a p).2)<=openW w * (bear a p).2)
theorem ziP {f:Nat->Nat->D} {a b:Place} (h0:∀ j,j<2->D.eqv (f 0 j) (a.at j)) (h1:∀ j,j<2->D.eqv (f 1 j) (b.at j)):eqV1s [.d (.slc 2 2 f)] [slP [a,b]]:=by
 refine⟨⟨rfl,.inr ⟨rfl,fun i hi j hj=>?_⟩⟩,trivial⟩
 match i,hi with
 | 0,_=>exact h0 j hj
 | 1,_=>exact h1 j hj
theorem ziQ {f:Nat->Nat->D} {a:Place} (h0:∀ j,j<2->D.eqv (f 0 j) (a.at j)):eqV1s [.d (.slc 2 1 f)] [slP [a]]:=by
 refine⟨⟨rfl,.inr ⟨rfl,fun i hi j hj=>?_⟩⟩,trivial⟩
 match i,hi with
 | 0,_=>exact h0 j hj
theorem at2 {f:Nat->D} {p:Place} (h0:f 0=I p.X) (h1:f 1=I p.Y):∀ j,j<2->D.eqv (f j) (p.at j)
 | 0,_=>by rw[h0]; exact⟨rfl,rfl⟩
 | 1,_=>by rw[h1]; exact⟨rfl,rfl⟩
theorem eqPW (p q:Place):(p.X==q.X && (p.Y==q.Y && true))=decide (p=q):=by
 rw[kO]
 simp only[jP,jaf,and_true,kJ]
 cases p; cases q; simp
theorem zi9 {w:Wdg} (h:validW w=true):(0<=w.F/\w.F<3600)/\(0<=w.T/\w.T<3600)/\openW w=(w.T - w.F) % 3600/\openW w<=900:=by
 unfold validW at h
 have h1:=zaa.1 h
 unfold openW at h1 ⊢
 split at h1
 ·rename_i h2
  have h3:=zaa.1 h2.1
  have h4:=zaa.1 h2.2
  rw[kH h2]; omega
 omega
theorem zbX {a p:Place} (ha:on a=true) (hp:on p=true) (hne:a≠p):(0<(bear a p).2/\(bear a p).2<=48)/\0<=(bear a p).1/\(bear a p).1<3600 * (bear a p).2:=by
 obtain⟨a1,a2⟩:=zch.1 ha
 obtain⟨b1,b2⟩:=zch.1 hp
 have hs:=zgT (ziq hne)
 have hbd:=zma (x:=p.X - a.X) (y:=p.Y - a.Y) (by omega) (by omega)
 unfold bear
 have:=Int.emod_nonneg (bearP (p.X - a.X) (p.Y - a.Y)).1 (show 3600 * (bearP (p.X - a.X) (p.Y - a.Y)).2≠0 by omega)
 have:=ja9 (bearP (p.X - a.X) (p.Y - a.Y)).1 (show 0<3600 * (bearP (p.X - a.X) (p.Y - a.Y)).2 by omega)
 dsimp only
 omega
theorem zoU (w:Wdg) (a p:Place):Spec PP 217 [w.v,a.v,p.v] [B (liesW w a p)]:=by
 refine sA Tryz.func217 ?_
 have e:liesW w a p=(validW w && (on a && on p) && !decide (a=p) && decide (((bear a p).1 - w.F * (bear a p).2) % (3600 * (bear a p).2)<=openW w * (bear a p).2)):=by unfold liesW; rfl
 refine cP (zqs w) rfl rfl ?_
 apply bY <;> intro h1
 ·have h1:validW w=false:=by simpa using h1
  refine sT ?_
  refine sT ?_
  refine sT ?_
  refine sT ?_
  refine r1B rfl ?_
  rw[e,h1]; rfl
 have h1:validW w=true:=by simpa using h1
 refine pEq (c_on [a,p] (jD rfl)) rfl (ziP (at2 rfl rfl) (at2 rfl rfl)) rfl ?_
 refine sF ?_
 apply bY <;> intro h2
 ·have h2:(on a && on p)=false:=by simp only[ja8,List.all_nil,jak,jY] at h2; exact h2
  refine sT ?_
  refine sT ?_
  refine r1B rfl ?_
  rw[e,h2,h1]; rfl
 have h2:on a=true/\on p=true:=by simpa using h2
 refine sF ?_
 apply bY <;> intro h3
 ·have h3:a=p:=kQ ((eqPW a p).symm.trans h3)
  refine r1B rfl ?_
  rw[e,jG h3]; simp
 have h3:a≠p:=jaX ((eqPW a p).symm.trans h3)
 have hb:=zbX h2.1 h2.2 h3
 obtain⟨v1,v2,v3,v4⟩:=zi9 h1
 have g1:=mulB (a:=w.F) (b:=(bear a p).2) (x:=3600) (y:=48) (by omega) (by omega)
 have g2:=mulB (a:=openW w) (b:=(bear a p).2) (x:=3600) (y:=48) (by omega) (by omega)
 refine cP (zel a p h2.1 h2.2 h3) rfl rfl ?_
 refine oN 14 ?_
 refine⟨i6,⟨i6,?_⟩⟩
 refine oP (zcI ((bear a p).1 - w.F * (bear a p).2) (bear a p).2 (by omega) (by omega)) rfl rfl ?_
 refine oP (zgN w) rfl rfl ?_
 refine⟨i6,?_⟩
 refine r1B rfl ?_
 rw[e,h1,h2.1,h2.2,jH h3]; rfl
def err1 (f:Nat->Int):Nat->Int
 | 0=>0
 | n+1=>if err1 f n≠0 then err1 f n else f n
theorem za7 {f:Nat->Int}:∀ {n:Nat},(∀ j,j<n->f j=0)->err1 f n=0
 | 0,_=>rfl
 | n+1,h=>by
  have h1:=za7 (f:=f) (n:=n) fun j hj=>h j (by omega)
  simp only[err1,h1]
  simpa using h n (by omega)
theorem zaN {f:Nat->Int} {i:Nat} (h:∀ j,j<i->f j=0) (h1:f i≠0):∀ {n:Nat},i<n->err1 f n=f i
 | 0,hi=>absurd hi (qQ _)
 | n+1,hi=>by
  by_cases e:i=n
  ·subst e
   simp only[err1,za7 h]; simp
  have h2:=zaN h h1 (n:=n) (by omega)
  simp only[err1,h2]; rw[kH h1]
theorem zbh {f:Nat->Int}:∀ {n:Nat},err1 f n=0 -> ∀ j,j<n->f j=0
 | 0,_,j,hj=>absurd hj (qQ _)
 | n+1,h,j,hj=>by
  simp only[err1] at h
  by_cases e:err1 f n=0
  ·rw[kG (by simpa using e)] at h
   by_cases ej:j=n
   ·subst ej; exact h
   exact zbh e j (by omega)
  rw[kH e] at h; exact absurd h e
def idxA {α:Type} (p:α->Bool):List α->Nat->Int
 | [],_=>-1
 | x :: r,k=>if p x=true then k else idxA p r (k+1)
def idxL {α:Type} (p:α->Bool) (l:List α):Int:=idxA p l 0
theorem zgt {α:Type} (p:α->Bool):∀ (l:List α) (k i:Nat) (x:α),l[i]?=some x->p x=true->(∀ j y,j<i->l[j]?=some y->p y=false)->idxA p l k=((k+i:Nat):Int)
 | [],k,i,x,h,_,_=>by simp at h
 | y :: r,k,0,x,h,hp,_=>by
  simp only[List.getElem?_cons_zero,jO] at h; subst h
  simp[idxA,hp]
 | y :: r,k,i+1,x,h,hp,hn=>by
  have h0:=hn 0 y (by omega) rfl
  simp only[idxA,h0]
  rw[kG (by decide),zgt p r (k+1) i x (by simpa using h) hp fun j z hj hz=>hn (j+1) z (by omega) (by simpa using hz)]
  congr 1; omega
theorem zgu {α:Type} (p:α->Bool):∀ (l:List α) (k:Nat),(∀ x∈l,p x=false)->idxA p l k = -1
 | [],_,_=>rfl
 | y :: r,k,h=>by
  simp only[idxA,h y (by simp)]
  rw[kG (by decide)]
  exact zgu p r (k+1) fun x hx=>h x (by simp[hx])
theorem gdS {α:Type} {l:List α} {i:Nat} (h:i<l.length) (d:α):l[i]?=some (l.getD i d):=by
 rw[hU,kF h]; rfl
theorem zaj {α:Type} {p:α->Bool} {l:List α} {i:Nat} (d:α) (hi:i<l.length) (hp:p (l.getD i d)=true) (hn:∀ j,j<i->p (l.getD j d)=false):idxL p l=(i:Int):=by
 have:=zgt p l 0 i _ (gdS hi d) hp fun j y hj hy=>by
  have hj':j<l.length:=by omega
  rw[gdS hj' d] at hy; cases hy
  exact hn j hj
 simpa [idxL] using this
theorem zbL {α:Type} {l:List α} {x:α} (d:α) (h:x∈l):∃ j,j<l.length/\x=l.getD j d:=by
 obtain⟨j,hj,rfl⟩:=kP h
 exact⟨j,hj,by rw[hU,kF hj]; rfl⟩
theorem zam {α:Type} {p:α->Bool} {l:List α} (d:α) (hn:∀ j,j<l.length->p (l.getD j d)=false):idxL p l = -1:=
 zgu p l 0 fun x hx=>by obtain⟨j,hj,rfl⟩:=zbL d hx; exact hn j hj
theorem idxL_cases {α:Type} (p:α->Bool) (l:List α) (d:α):(idxL p l = -1 /\ ∀ j,j<l.length->p (l.getD j d)=false) \/ ∃ i,i<l.length/\idxL p l=(i:Int)/\p (l.getD i d)=true /\ ∀ j,j<i->p (l.getD j d)=false:=by
 by_cases h:∃ j,j<l.length/\p (l.getD j d)=true
 ·have:∃ i,i<l.length/\p (l.getD i d)=true /\ ∀ j,j<i->p (l.getD j d)=false:=by
   obtain⟨j,hj⟩:=h
   induction j using Nat.strongRecOn with
   | ind j ih=>
   by_cases e:∃ k,k<j/\p (l.getD k d)=true
   ·obtain⟨k,hk,hp⟩:=e
    exact ih k hk ⟨by omega,hp⟩
   exact⟨j,hj.1,hj.2,fun k hk=>by
    cases hp:p (l.getD k d) with
    | false=>rfl
    | true=>exact absurd ⟨k,hk,hp⟩ e⟩
  obtain⟨i,hi,hp,hn⟩:=this
  exact .inr ⟨i,hi,zaj d hi hp hn,hp,hn⟩
 have hn:∀ j,j<l.length->p (l.getD j d)=false:=fun j hj=>by
  cases hp:p (l.getD j d) with
  | false=>rfl
  | true=>exact absurd ⟨j,hj,hp⟩ h
 exact .inl ⟨zam d hn,hn⟩
theorem zsd {α:Type} {p:α->Bool} {l:List α} {i:Nat} (d:α) (hi:i<l.length) (hp:p (l.getD i d)=true):l.any p=true:=kL.2 ⟨_,gd1 hi d,hp⟩
theorem zsc {α:Type} {p:α->Bool} {l:List α} (d:α) (hn:∀ j,j<l.length->p (l.getD j d)=false):l.any p=false:=by
 rw[wI]
 intro x hx
 obtain⟨j,hj,rfl⟩:=zbL d hx
 rw[hn j hj]; decide
theorem za0 {α:Type} (p:α->Bool) (l:List α) (d:α):(0<=idxL p l) ↔ l.any p=true:=by
 rcases idxL_cases p l d with⟨h1,h2⟩ | ⟨i,h1,h2,h3,h4⟩
 ·rw[h1,zsc d h2]; simp
 rw[h2,zsd d h1 h3]; simp
structure Twr where
  ID:Int
  At:Place
  H:Int
  deriving DecidableEq,Inhabited
structure Hz where
  From:Int
  To:Int
  Far:Int
  deriving DecidableEq,Inhabited
structure Mp where
  W:Int
  H:Int
  G:List Int
  deriving Inhabited
structure Ctry where
  M:Mp
  T:List Twr
  Z:List Hz
  deriving Inhabited
def Twr.at (x:Twr):Nat->D
 | 0=>I x.ID
 | 1=>I x.At.X
 | 2=>I x.At.Y
 | _=>I x.H
def Hz.at (x:Hz):Nat->D
 | 0=>I x.From
 | 1=>I x.To
 | _=>I x.Far
abbrev Twr.v (x:Twr):V1:=.agg [I x.ID,I x.At.X,I x.At.Y,I x.H]
abbrev Hz.v (x:Hz):V1:=.agg [I x.From,I x.To,I x.Far]
abbrev lI (l:List Int):D:=.slc 1 l.length fun i _=>I (l.getD i 0)
abbrev lT (l:List Twr):D:=.slc 4 l.length fun i=>(l.getD i default).at
abbrev lZ (l:List Hz):D:=.slc 3 l.length fun i=>(l.getD i default).at
abbrev Mp.ds (m:Mp):List D:=[I m.W,I m.H,lI m.G]
abbrev Mp.v (m:Mp):V1:=.agg [I m.W,I m.H,lI m.G]
abbrev Ctry.v (c:Ctry):V1:=.agg [I c.M.W,I c.M.H,lI c.M.G,lT c.T,lZ c.Z]
structure Cir where
  ID:Int
  At:Place
  From:Int
  To:Int
  Lo:Int
  Hi:Int
  Drift:Int
  deriving DecidableEq,Inhabited
structure Chk where
  ID:Int
  C:Int
  Tick:Int
  Mark:Place
  Shown:Int
  Slack:Int
  deriving DecidableEq,Inhabited
structure Cirs where
  C:List Cir
  K:List Chk
  deriving Inhabited
structure Spn where
  Lo:Int
  Hi:Int
  deriving DecidableEq,Inhabited
structure Rdg where
  C:Int
  Tick:Int
  Shown:Int
  Slack:Int
  deriving DecidableEq,Inhabited
structure Thg where
  k:Chk
  s:Spn
  deriving DecidableEq,Inhabited
def Cir.at (x:Cir):Nat->D
 | 0=>I x.ID
 | 1=>I x.At.X
 | 2=>I x.At.Y
 | 3=>I x.From
 | 4=>I x.To
 | 5=>I x.Lo
 | 6=>I x.Hi
 | _=>I x.Drift
def Chk.at (x:Chk):Nat->D
 | 0=>I x.ID
 | 1=>I x.C
 | 2=>I x.Tick
 | 3=>I x.Mark.X
 | 4=>I x.Mark.Y
 | 5=>I x.Shown
 | _=>I x.Slack
def Thg.at (x:Thg):Nat->D
 | 0=>I x.k.ID
 | 1=>I x.k.C
 | 2=>I x.k.Tick
 | 3=>I x.k.Mark.X
 | 4=>I x.k.Mark.Y
 | 5=>I x.k.Shown
 | 6=>I x.k.Slack
 | 7=>I x.s.Lo
 | _=>I x.s.Hi
abbrev Cir.v (x:Cir):V1:=.agg [I x.ID,I x.At.X,I x.At.Y,I x.From,I x.To,I x.Lo,I x.Hi,I x.Drift]
abbrev Chk.v (x:Chk):V1:=.agg [I x.ID,I x.C,I x.Tick,I x.Mark.X,I x.Mark.Y,I x.Shown,I x.Slack]
abbrev Thg.v (x:Thg):V1:=.agg [I x.k.ID,I x.k.C,I x.k.Tick,I x.k.Mark.X,I x.k.Mark.Y,I x.k.Shown,I x.k.Slack,I x.s.Lo,I x.s.Hi]
abbrev Spn.v (x:Spn):V1:=.agg [I x.Lo,I x.Hi]
abbrev Rdg.v (x:Rdg):V1:=.agg [I x.C,I x.Tick,I x.Shown,I x.Slack]
abbrev lC (l:List Cir):D:=.slc 8 l.length fun i=>(l.getD i default).at
abbrev lK (l:List Chk):D:=.slc 7 l.length fun i=>(l.getD i default).at
abbrev lTh (l:List Thg):D:=.slc 9 l.length fun i=>(l.getD i default).at
abbrev Cirs.v (c:Cirs):V1:=.agg [lC c.C,lK c.K]
structure Svc where
  c:Ctry
  k:Cirs
  deriving Inhabited
structure Rpt where
  ID:Int
  Kind:Int
  Tower:Int
  C:Int
  Tick:Int
  From:Int
  To:Int
  Slack:Int
  deriving DecidableEq,Inhabited
structure Brn where
  From:Int
  To:Int
  Rise:Int
  deriving DecidableEq,Inhabited
structure Rsn where
  At:Place
  R:Int
  deriving DecidableEq,Inhabited
structure Lk where
  Tower:Int
  C:Int
  Tick:Int
  From:Int
  To:Int
  Slack:Int
  deriving DecidableEq,Inhabited
def Rpt.at (x:Rpt):Nat->D
 | 0=>I x.ID
 | 1=>I x.Kind
 | 2=>I x.Tower
 | 3=>I x.C
 | 4=>I x.Tick
 | 5=>I x.From
 | 6=>I x.To
 | _=>I x.Slack
def Rsn.at (x:Rsn):Nat->D
 | 0=>I x.At.X
 | 1=>I x.At.Y
 | _=>I x.R
def Lk.at (x:Lk):Nat->D
 | 0=>I x.Tower
 | 1=>I x.C
 | 2=>I x.Tick
 | 3=>I x.From
 | 4=>I x.To
 | _=>I x.Slack
abbrev Svc.v (s:Svc):V1:=.agg [I s.c.M.W,I s.c.M.H,lI s.c.M.G,lT s.c.T,lZ s.c.Z,lC s.k.C,lK s.k.K]
abbrev Rpt.v (x:Rpt):V1:=.agg [I x.ID,I x.Kind,I x.Tower,I x.C,I x.Tick,I x.From,I x.To,I x.Slack]
abbrev Brn.v (x:Brn):V1:=.agg [I x.From,I x.To,I x.Rise]
abbrev Rsn.v (x:Rsn):V1:=.agg [I x.At.X,I x.At.Y,I x.R]
abbrev Lk.v (x:Lk):V1:=.agg [I x.Tower,I x.C,I x.Tick,I x.From,I x.To,I x.Slack]
abbrev lR (l:List Rpt):D:=.slc 8 l.length fun i=>(l.getD i default).at
abbrev lRs (l:List Rsn):D:=.slc 3 l.length fun i=>(l.getD i default).at
theorem hEN:∀ t,EN.eq t=true->EqFact PP t:=hE
theorem zmC {f : FuncId} {fn : Func} {c : Code} (hf : PP.funcs[f]? = some fn) (hb : fn.body = some c) (hq : ((fn.name == "runtime.NumGoroutine") || !(codeN fn.ntmps c && Nat.ble fn.ntmps 4294967296)) = false)
  {pre post : List V1} {e k n n' : Nat} {g g' : Nat -> Nat -> D} (hfl : ∀ i, i < n' -> ∀ j, j < k -> (g' i j).flat = true) (hsz : Nat.ble (pre.length + 1 + post.length) fn.ntmps = true)
  (h : ∀ v, awp PP TTab EN c (St.of (rowSlots pre post v) [(pre.length, .row e k n g)]) (retKO fn.results.toList e k n' g')) : SpecT PP f pre post e k n g n' g' := by
 simp only [qT, qV, jP] at hq
 exact zmB hT hEN hM hf hb hq.1 hq.2.1 hfl (jD hsz) (jD hq.2.2) h
def EY {τ:Type} (xs:List τ) (enc:τ->List V1) (l:Nat):Env:=⟨ET,false,l,fun n vs=>∃ x,xs[n]?=some x/\vs=enc x,true,fun _=>false⟩
theorem zfo {f : FuncId} {fn : Func} {c : Code} (hf : PP.funcs[f]? = some fn) (hb : fn.body = some c) (hq : ((fn.name == "runtime.NumGoroutine") || !(codeN fn.ntmps c && Nat.ble fn.ntmps 4294967296)) = false) (hres : fn.results.toList = [])
  {m : Nat} {cap : Nat -> D} (hsz : Nat.ble (m + 1) fn.ntmps = true) {τ : Type} (enc : τ -> List V1) (xs : List τ)
  (h : ∀ l, awp PP TTab (EY xs enc l) c (St.of ((G, .gho (some 0)) :: (0, .yl l) :: argSlots 1 ((List.range m).map fun j => .d (cap j))) []) (retY xs.length)) : SeqC PP f m cap enc xs := by
 simp only [qT, qV, jP] at hq
 exact zpk hT (eq := ET) hE hM hf hb hq.1 hq.2.1 hres (jD hq.2.2) (jD hsz) enc xs _ h
theorem CodeOb.rangeAt {K:KK} {s:St} {fo:Operand} {ps:Array Tmp} {asg body:Code} {g m:Nat} {cap:Nat->D} {τ:Type} {enc:τ->List V1} {xs:List τ} (hseq:SeqC PP g m cap enc xs) (hc:callee (ev s fo)=some (g,(List.range m).map fun j=>AV.d (cap j)))
  (hps:∀ x,(enc x).length=ps.size) (hnd:ps.toList.Nodup)
  (sl:List (Nat × AV)) (rc:List (Nat × Nat)) (ob:List τ->List (Nat × Ob)) (hsl:okSl sl=true) (hob:∀ pre,okOb sl rc (ob pre)=true) (hw:Weak s sl (ob []))
  {Iv:List τ->Prop} (hI0:Iv [])
  (hbody:∀ (v:Nat->Value) pre x,pre ++ [x] <+: xs->Iv pre->awp PP TTab EN asg (St.of (psl ps.toList (enc x)++pinS v sl) (ob pre)) (Ka PP TTab EN K sl rc v ob Iv body pre x))
  (hend:Iv xs->K .normal (St.of sl (ob xs))):CodeOb EN.dr EN.it PP (.rangeFunc fo ps asg body) s K:=
 CodeOb.range hT hEN hM hseq hc hps hnd sl rc ob hsl hob hw hI0 hbody hend
section
variable {s:St} {o:Oper} {fo:Operand} {f:FuncId} {K:St->Prop} {args:List Operand}
theorem CallSt.ydM {τ:Type} {xs:List τ} {enc:τ->List V1} {l:Nat} {d n:Nat} {x:τ} (sl:List (Nat × AV)) (ob:List (Nat × Ob)) (hd:o.dst=some d) (hf:ev s fo = .yl l) (hg:s.sl G = .gho (some n)) (hG:look sl G=none) (hw:Weak s sl ob) (hx:xs[n]?=some x) (hv:toV1s s (args.map (ev s))=some (enc x))
  (hno:(args.map (ev s)).all (fun v=>!v.isOwn)=true) (k1:K ((St.of ((G,.gho (some (n+1))) :: sl) ob).put d (.d (.bool true)))) (k2:K ((St.of ((G,.gho none) :: stillS sl) []).put d (.d (.bool false)))):CallSt (EY xs enc l) PP s o fo args K:=by
 rw[zaf]
 exact .inr (.inr (.inr (.inl ⟨⟨n,d,sl,ob,_,hd,hf,hg,hG,hw,hv,hno,⟨x,hx,rfl⟩,k1,k2⟩⟩)))
theorem CallSt.yd {τ:Type} {xs:List τ} {enc:τ->List V1} {l:Nat} {d n:Nat} {x:τ} (sl:List (Nat × AV)) (hd:o.dst=some d) (hf:ev s fo = .yl l) (hg:s.sl G = .gho (some n)) (hG:look sl G=none) (hw:Weak s sl []) (hx:xs[n]?=some x) (hv:toV1s s (args.map (ev s))=some (enc x))
  (hno:(args.map (ev s)).all (fun v=>!v.isOwn)=true) (k1:K ((St.of ((G,.gho (some (n+1))) :: sl) []).put d (.d (.bool true)))) (k2:K ((St.of ((G,.gho none) :: stillS sl) []).put d (.d (.bool false)))):CallSt (EY xs enc l) PP s o fo args K:=CallSt.ydM sl [] hd hf hg hG hw hx hv hno k1 k2
theorem CallSt.rw' {args:Array Operand} {at':Array TypeId} (hop:o.op = .call { callee:=.value fo,args,argTypes:=at' }) {pre post res:List V1} {i e k n:Nat} {g g':Nat->Nat->D} (h:SpecR PP f pre post e k n g g' res)
  (ha:RowArgs s fo args.toList f pre i post) (hi:s.ob i=some (.row e k n g)) (hk:K ((s.setOb i (some (.row e k n g'))).putO o.dst (resAV res))):CallSt EN PP s o fo args.toList K:=CallSt.row rfl hop h ha hi hk
end
section
variable {s:St} {ob:Nat->Option Ob} {v:AV}
theorem avQ {x:AV} (h:v=x):AVle s ob v x:=by subst h; exact zaW s ob v
theorem avG {m m':Nat} (h:v = .gho (some m)) (e:m=m'):AVle s ob v (.gho (some m')):=by subst h; subst e; exact zaW s ob _
theorem avBx {i m:Nat} {h:Nat->D} {cs:List AV} {xs:List D} (e:v = .box i 0) (h1:s.ob i=some (.box cs)) (h2:allD cs=some xs) (h3:ob i=none) (q:D.eqv (.ptr (xs.length - 0) fun j=>getD' xs (0+j)) (.ptr m h)):AVle s ob v (.roe m h):=by
 subst e; exact⟨h3,cs,xs,h1,h2,q⟩
theorem avOw {i e k n:Nat} {f:Nat->Nat->D} {y:D} (h0:v = .own i) (h1:s.ob i=some (.row e k n f)) (h2:ob i=none) (q:D.eqv (.slc k n f) y):AVle s ob v (.d y):=by subst h0; cases y <;> first | exact⟨h2,e,k,n,f,h1,q⟩ | cases q
end
abbrev capB (xs:List D):D:=.ptr xs.length (getD' xs)
abbrev cloB (g:FuncId) (cs:List D):D:=.clo g cs.length (getD' cs)
theorem zj7 (l:List Twr) (g:FuncId) (c0:D) (p:Twr->Bool) (hn:l.length<=1000000) (hp:∀ i,i<l.length->Spec PP g [(l.getD i default).v,.d c0] [B (p (l.getD i default))]):Spec PP 77 [.d (lT l),.d (cloB g [c0])] [N (idxL p l)]:=by
 refine sA Tryz.func77 ?_
 refine LoopOb.of (σ:=Nat) (fun i=>([(0,.d (lT l)),(1,.d (cloB g [c0])),(6,.d (lT l)),(7,.d (I l.length)),(8,.d (I i))],[])) (fun i=>i<=l.length /\ ∀ j,j<i->p (l.getD j default)=false) (fun i=>l.length - i) 0
  ⟨rfl,trivial,wq rfl⟩ z0L fun i hi=>?_
 obtain⟨hi,ha⟩:=hi
 apply bY <;> intro h1
 ·have h1:i<l.length:=by have:=dT h1; omega
  refine⟨⟨rfl,by omega,by omega⟩,?_⟩
  refine cP (hp i h1) rfl rfl ?_
  apply bY <;> intro h2
  ·refine r1I rfl ?_
   exact (zaj default h1 h2 ha).symm
  refine⟨i6,?_⟩
  refine⟨i+1,⟨rfl,trivial,wq rfl⟩,⟨h1,fun j hj=>?_⟩,(msr (by omega))⟩
  by_cases e:j=i
  ·subst e; exact h2
  exact ha j (by omega)
 have h1:i=l.length:=by have:=dF h1; omega
 subst h1
 refine r1I rfl ?_
 exact (zam default ha).symm
theorem zom (l:List Twr) (g:FuncId) (c0:D) (p:Twr->Bool) (hn:l.length<=1000000) (hp:∀ i,i<l.length->Spec PP g [(l.getD i default).v,.d c0] [B (p (l.getD i default))]):Spec PP 23 [.d (lT l),.d (cloB g [c0])] [B (l.any p)]:=by
 refine sA Tryz.func23 ?_
 refine cP (zj7 l g c0 p hn hp) rfl rfl ?_
 refine r1B rfl ?_
 rw[kO,kJ]
 exact za0 p l default
theorem zol (l:List Cir) (g:FuncId) (c0:D) (p:Cir->Bool) (hn:l.length<=1000000) (hp:∀ i,i<l.length->Spec PP g [(l.getD i default).v,.d c0] [B (p (l.getD i default))]):Spec PP 126 [.d (lC l),.d (cloB g [c0])] [N (idxL p l)]:=by
 refine sA Tryz.func126 ?_
 refine LoopOb.of (σ:=Nat) (fun i=>([(0,.d (lC l)),(1,.d (cloB g [c0])),(6,.d (lC l)),(7,.d (I l.length)),(8,.d (I i))],[])) (fun i=>i<=l.length /\ ∀ j,j<i->p (l.getD j default)=false) (fun i=>l.length - i) 0
  ⟨rfl,trivial,wq rfl⟩ z0L fun i hi=>?_
 obtain⟨hi,ha⟩:=hi
 apply bY <;> intro h1
 ·have h1:i<l.length:=by have:=dT h1; omega
  refine⟨⟨rfl,by omega,by omega⟩,?_⟩
  refine cP (hp i h1) rfl rfl ?_
  apply bY <;> intro h2
  ·refine r1I rfl ?_
   exact (zaj default h1 h2 ha).symm
  refine⟨i6,?_⟩
  refine⟨i+1,⟨rfl,trivial,wq rfl⟩,⟨h1,fun j hj=>?_⟩,(msr (by omega))⟩
  by_cases e:j=i
  ·subst e; exact h2
  exact ha j (by omega)
 have h1:i=l.length:=by have:=dF h1; omega
 subst h1
 refine r1I rfl ?_
 exact (zam default ha).symm
theorem zqZ (l:List Chk) (g:FuncId) (c0:D) (p:Chk->Bool) (hn:l.length<=1000000) (hp:∀ i,i<l.length->Spec PP g [(l.getD i default).v,.d c0] [B (p (l.getD i default))]):Spec PP 129 [.d (lK l),.d (cloB g [c0])] [N (idxL p l)]:=by
 refine sA Tryz.func129 ?_
 refine LoopOb.of (σ:=Nat) (fun i=>([(0,.d (lK l)),(1,.d (cloB g [c0])),(6,.d (lK l)),(7,.d (I l.length)),(8,.d (I i))],[])) (fun i=>i<=l.length /\ ∀ j,j<i->p (l.getD j default)=false) (fun i=>l.length - i) 0
  ⟨rfl,trivial,wq rfl⟩ z0L fun i hi=>?_
 obtain⟨hi,ha⟩:=hi
 apply bY <;> intro h1
 ·have h1:i<l.length:=by have:=dT h1; omega
  refine⟨⟨rfl,by omega,by omega⟩,?_⟩
  refine cP (hp i h1) rfl rfl ?_
  apply bY <;> intro h2
  ·refine r1I rfl ?_
   exact (zaj default h1 h2 ha).symm
  refine⟨i6,?_⟩
  refine⟨i+1,⟨rfl,trivial,wq rfl⟩,⟨h1,fun j hj=>?_⟩,(msr (by omega))⟩
  by_cases e:j=i
  ·subst e; exact h2
  exact ha j (by omega)
 have h1:i=l.length:=by have:=dF h1; omega
 subst h1
 refine r1I rfl ?_
 exact (zam default ha).symm
theorem zq0 (l:List Int) (g:FuncId) (p:Int->Bool) (hn:l.length<=1000000) (hp:∀ i,i<l.length->Spec PP g [N (l.getD i default)] [B (p (l.getD i default))]):Spec PP 180 [.d (lI l),.d (.fn g)] [N (idxL p l)]:=by
 refine sA Tryz.func180 ?_
 refine LoopOb.of (σ:=Nat) (fun i=>([(0,.d (lI l)),(1,.d (.fn g)),(6,.d (lI l)),(7,.d (I l.length)),(8,.d (I i))],[])) (fun i=>i<=l.length /\ ∀ j,j<i->p (l.getD j default)=false) (fun i=>l.length - i) 0
  ⟨rfl,trivial,wq rfl⟩ z0L fun i hi=>?_
 obtain⟨hi,ha⟩:=hi
 apply bY <;> intro h1
 ·have h1:i<l.length:=by have:=dT h1; omega
  refine⟨⟨rfl,by omega,by omega⟩,?_⟩
  refine cP (hp i h1) rfl rfl ?_
  apply bY <;> intro h2
  ·refine r1I rfl ?_
   exact (zaj default h1 h2 ha).symm
  refine⟨i6,?_⟩
  refine⟨i+1,⟨rfl,trivial,wq rfl⟩,⟨h1,fun j hj=>?_⟩,(msr (by omega))⟩
  by_cases e:j=i
  ·subst e; exact h2
  exact ha j (by omega)
 have h1:i=l.length:=by have:=dF h1; omega
 subst h1
 refine r1I rfl ?_
 exact (zam default ha).symm
theorem zq2 (l:List Int) (g:FuncId) (p:Int->Bool) (hn:l.length<=1000000) (hp:∀ i,i<l.length->Spec PP g [N (l.getD i default)] [B (p (l.getD i default))]):Spec PP 118 [.d (lI l),.d (.fn g)] [B (l.any p)]:=by
 refine sA Tryz.func118 ?_
 refine cP (zq0 l g p hn hp) rfl rfl ?_
 refine r1B rfl ?_
 rw[kO,kJ]
 exact za0 p l default
theorem zaV (n lo hi:Int):Spec PP 71 [N n,N lo,N hi] [B (within n lo hi)]:=by
 refine sA Tryz.func71 ?_
 unfold within
 apply bY <;> intro h1
 ·refine sT ?_
  exact r1B rfl (by rw[h1,kN])
 refine sF ?_
 exact r1B rfl (by rw[h1,kZ])
@[irreducible] def validM (m:Mp):Bool:=within m.W 1 49 && within m.H 1 49 && ((m.G.length:Int)==m.W * m.H) && !(m.G.any fun h=>!within h 0 4000)
@[irreducible] def onM (m:Mp) (p:Place):Bool:=within p.X 0 (m.W - 1) && within p.Y 0 (m.H - 1)
def grd (m:Mp) (p:Place):Int:=m.G.getD (p.Y * m.W+p.X).toNat 0
theorem zag {m:Mp} (h:validM m=true):(1<=m.W/\m.W<=49)/\(1<=m.H/\m.H<=49)/\(m.G.length:Int)=m.W * m.H /\ ∀ x∈m.G,0<=x/\x<=4000:=by
 unfold validM at h
 simp only[jP,zaa,jaf,jY,wI,Bool.not_eq_true,qV] at h
 exact⟨h.1.1.1,h.1.1.2,h.1.2,fun x hx=>zaa.1 (by simpa using h.2 x hx)⟩
theorem zah {m:Mp} {p:Place}:onM m p=true ↔ (0<=p.X/\p.X<m.W)/\(0<=p.Y/\p.Y<m.H):=by
 unfold onM; rw[jP,zaa,zaa]; omega
theorem zbN {m:Mp} {p:Place} (hv:validM m=true) (hp:onM m p=true):(0<=p.Y * m.W+p.X/\p.Y * m.W+p.X<m.G.length)/\(0<=grd m p/\grd m p<=4000):=by
 obtain⟨w,h,e,g⟩:=zag hv
 obtain⟨p1,p2⟩:=zah.1 hp
 have h1:p.Y * m.W+p.X<m.G.length:=by
  rw[e]
  have h2:=jV (show p.Y<=m.H - 1 by omega) (show 0<=m.W by omega)
  have h3:(m.H - 1) * m.W=m.W * m.H - m.W:=by grind
  omega
 have h0:0<=p.Y * m.W:=jad p2.1 (by omega)
 have h2:0<=p.Y * m.W+p.X:=by omega
 refine⟨⟨h2,h1⟩,?_⟩
 unfold grd
 exact g _ (gd1 (by omega) 0)
theorem znz (h:Int):Spec PP 124 [N h] [B (!within h 0 4000)]:=by
 refine sA Tryz.func124 ?_
 refine cP (zaV h 0 4000) rfl rfl ?_
 exact r1B rfl rfl
theorem zp5 (m:Mp):Spec PP 70 [m.v] [B (validM m)]:=by
 have e:validM m=(within m.W 1 49 && within m.H 1 49 && ((m.G.length:Int)==m.W * m.H) && !(m.G.any fun h=>!within h 0 4000)):=by unfold validM; rfl
 refine sA Tryz.func70 ?_
 refine cP (zaV m.W 1 49) rfl rfl ?_
 apply bY <;> intro h1
 ·refine cP (zaV m.H 1 49) rfl rfl ?_
  refine sT ?_
  apply bY <;> intro h2
  ·have b1:=zaa.1 h1
   have b2:=zaa.1 h2
   have b3:=mulB (a:=m.W) (b:=m.H) (x:=49) (y:=49) (by omega) (by omega)
   refine⟨i6,?_⟩
   refine sT ?_
   apply bY <;> intro h3
   ·have h4:(m.G.length:Int)=m.W * m.H:=by simpa using h3
    refine cP (zq2 m.G 124 (fun h=>!within h 0 4000) (by omega) (fun i hi=>znz _)) rfl rfl ?_
    refine sT ?_
    refine r1B rfl ?_
    rw[e,h1,h2,h3]; rfl
   refine sF ?_
   refine r1B rfl ?_
   rw[e,h1,h2,h3]; rfl
  refine sF ?_
  refine sF ?_
  refine sF ?_
  refine r1B rfl ?_
  rw[e,h1,h2]; rfl
 refine sF ?_
 refine sF ?_
 refine sF ?_
 refine sF ?_
 refine sF ?_
 refine r1B rfl ?_
 rw[e,h1]; rfl
theorem g_On (m:Mp) (p:Place) (hv:validM m=true):Spec PP 26 [m.v,p.v] [B (onM m p)]:=by
 obtain⟨w,h,-,-⟩:=zag hv
 have e:onM m p=(within p.X 0 (m.W - 1) && within p.Y 0 (m.H - 1)):=by unfold onM; rfl
 refine sA Tryz.func26 ?_
 refine⟨i6,?_⟩
 refine cP (zaV p.X 0 (m.W - 1)) rfl rfl ?_
 apply bY <;> intro h1
 ·refine⟨i6,?_⟩
  refine cP (zaV p.Y 0 (m.H - 1)) rfl rfl ?_
  refine sT ?_
  refine r1B rfl ?_
  rw[e,h1]; rfl
 refine sF ?_
 refine r1B rfl ?_
 rw[e,h1]; rfl
theorem zb5 (m:Mp) (p:Place) (hv:validM m=true) (hp:onM m p=true):Spec PP 239 [m.v,p.v] [N (grd m p)]:=by
 obtain⟨⟨g1,g2⟩,-⟩:=zbN hv hp
 obtain⟨w,h,e,-⟩:=zag hv
 obtain⟨p1,p2⟩:=zah.1 hp
 have b3:=mulB (a:=p.Y) (b:=m.W) (x:=49) (y:=49) (by omega) (by omega)
 refine sA Tryz.func239 ?_
 refine⟨i6,⟨i6,?_⟩⟩
 refine⟨⟨rfl,by omega,by omega⟩,?_⟩
 exact r1I rfl rfl
theorem ziI (n:Int) (h:-9223372036854775807<=n/\n<=9223372036854775807):Spec PP 237 [N n] [N (n.natAbs:Int)]:=by
 refine sA Tryz.func237 ?_
 refine⟨i6,?_⟩
 refine r1I rfl ?_
 show max n (-n)=_
 omega
def nearB (a b:Place) (d:Int):Bool:=decide ((a.X - b.X) * (a.X - b.X)+(a.Y - b.Y) * (a.Y - b.Y)<=d * d)
theorem zrQ (a b:Place) (d:Int) (ha:on a=true) (hb:on b=true) (hd:0<=d/\d<=100):Spec PP 194 [a.v,b.v,N d] [B (nearB a b d)]:=by
 obtain⟨a1,a2⟩:=zch.1 ha
 obtain⟨b1,b2⟩:=zch.1 hb
 have m1:=mulB (a:=a.X - b.X) (b:=a.X - b.X) (x:=48) (y:=48) (by omega) (by omega)
 have m2:=mulB (a:=a.Y - b.Y) (b:=a.Y - b.Y) (x:=48) (y:=48) (by omega) (by omega)
 have m3:=mulB (a:=d) (b:=d) (x:=100) (y:=100) (by omega) (by omega)
 refine sA Tryz.func194 ?_
 refine⟨i6,⟨i6,⟨i6,⟨i6,⟨i6,⟨i6,⟨i6,⟨i6,?_⟩⟩⟩⟩⟩⟩⟩⟩
 exact r1B rfl rfl
def farZ (t:Int):List Hz->Int
 | []=>100
 | h :: r=>if h.From<=t/\t<=h.To then h.Far else farZ t r
theorem zlu {t:Int} {l:List Hz} {i:Nat} (hi:i<l.length):farZ t (l.drop i)=if (l.getD i default).From<=t/\t<=(l.getD i default).To then (l.getD i default).Far else farZ t (l.drop (i+1)):=by
 rw[qB hi,hU,kF hi]; rfl
abbrev bxCt (c:Ctry):Ob:=.box [.d (I c.M.W),.d (I c.M.H),.d (lI c.M.G),.d (lT c.T),.d (lZ c.Z)]
theorem obCt {s:St} {ob:Nat->Option Ob} {c:Ctry} {o:Option Ob} (g:o=some (bxCt c)):Oble s ob o (bxCt c):=obD [I c.M.W,I c.M.H,lI c.M.G,lT c.T,lZ c.Z] g
theorem g_far (c:Ctry) (t:Int) (hn:c.Z.length<=1000000):Spec PP 143 [c.v,N t] [N (farZ t c.Z)]:=by
 refine sA Tryz.func143 ?_
 refine LoopOb.of (σ:=Nat) (fun i=>([(1,.d (I t)),(8,.d (lZ c.Z)),(9,.d (I c.Z.length)),(10,.d (I i))],[])) (fun i=>i<=c.Z.length/\farZ t (c.Z.drop i)=farZ t c.Z) (fun i=>c.Z.length - i) 0
  ⟨rfl,trivial,wq rfl⟩ ⟨jF _,rfl⟩ fun i hi=>?_
 obtain⟨hi,ha⟩:=hi
 apply bY <;> intro h1
 ·have h1:i<c.Z.length:=by have:=dT h1; omega
  have hd:=zlu (t:=t) h1
  rw[ha] at hd
  refine⟨⟨rfl,by omega,by omega⟩,?_⟩
  apply bY <;> intro h2
  ·have h2:(c.Z.getD i default).From<=t:=dT h2
   refine sT ?_
   apply bY <;> intro h3
   ·have h3:t<=(c.Z.getD i default).To:=dT h3
    refine r1I rfl ?_
    rw[hd,kH ⟨h2,h3⟩]; rfl
   have h3:¬ t<=(c.Z.getD i default).To:=dF h3
   rw[kG fun h=>h3 h.2] at hd
   refine⟨i6,?_⟩
   exact⟨i+1,⟨rfl,trivial,wq rfl⟩,⟨h1,hd.symm⟩,(msr (by omega))⟩
  have h2:¬ (c.Z.getD i default).From<=t:=dF h2
  rw[kG fun h=>h2 h.1] at hd
  refine sF ?_
  refine sF ?_
  refine⟨i6,?_⟩
  exact⟨i+1,⟨rfl,trivial,wq rfl⟩,⟨h1,hd.symm⟩,(msr (by omega))⟩
 have h1:i=c.Z.length:=by have:=dF h1; omega
 subst h1
 refine r1I rfl ?_
 rw[<- ha,jbh]; rfl
def towI (T:List Twr) (id:Int):Int:=idxL (fun t=>t.ID==id) T
def towG (T:List Twr) (id:Int):Twr × Bool:=if towI T id<0 then (default,false) else (T.getD (towI T id).toNat default,true)
theorem zfe {T:List Twr} {id:Int} (h:¬ towI T id<0):(towI T id).toNat<T.length/\towI T id=((towI T id).toNat:Int):=by
 rcases idxL_cases (fun t:Twr=>t.ID==id) T default with⟨h1,_⟩ | ⟨i,h1,h2,_⟩
 ·exact absurd (show towI T id<0 by unfold towI; rw[h1]; decide) h
 unfold towI; rw[h2]; simp; exact h1
theorem znA (t:Twr) (id:Int):Spec PP 193 [t.v,.d (capB [I id])] [B (t.ID==id)]:=by
 refine sA Tryz.func193 ?_
 exact r1B rfl rfl
theorem zp6 (c:Ctry) (id:Int) (hn:c.T.length<=1000000):Spec PP 141 [c.v,N id] [(towG c.T id).1.v,B (towG c.T id).2]:=by
 refine sA Tryz.func141 ?_
 refine CallSt.fz [3] (zj7 c.T 193 (capB [I id]) (fun t=>t.ID==id) hn (fun i hi=>znA _ id)) rfl rfl ?_
 apply bY <;> intro h1
 ·have h1:towI c.T id<0:=dT h1
  have e:towG c.T id=(default,false):=by unfold towG; rw[kH h1]
  rw[e]
  exact⟨rtC (a:=4) rfl rfl rfl rfl rfl rfl (zab _),rtB rfl rfl,trivial⟩
 have h1:¬ towI c.T id<0:=dF h1
 obtain⟨h2,h3⟩:=zfe h1
 have e:towG c.T id=(c.T.getD (towI c.T id).toNat default,true):=by unfold towG; rw[kG h1]
 rw[e]
 refine⟨⟨rfl,by show 0<=towI c.T id; omega,by show towI c.T id<c.T.length; omega⟩,?_⟩
 exact⟨rtC (a:=4) rfl rfl rfl rfl rfl rfl (zab _),rtB rfl rfl,trivial⟩
def crsX (f0 t0 k:Int):Int:=f0+(k * (t0 - f0)).tdiv ((t0 - f0).natAbs:Int)
def crsY (f0 f1 t0 t1 k:Int):Int:=f1 * ((t0 - f0).natAbs:Int)+k * (t1 - f1)
def crsH (g:Int->Int->Int) (f0 f1 t0 t1 k:Int):Int:=
 if 0<(crsY f0 f1 t0 t1 k).tmod ((t0 - f0).natAbs:Int) then
  (((t0 - f0).natAbs:Int) - (crsY f0 f1 t0 t1 k).tmod ((t0 - f0).natAbs:Int)) * g (crsX f0 t0 k) ((crsY f0 f1 t0 t1 k).tdiv ((t0 - f0).natAbs:Int))+(crsY f0 f1 t0 t1 k).tmod ((t0 - f0).natAbs:Int) * g (crsX f0 t0 k) ((crsY f0 f1 t0 t1 k).tdiv ((t0 - f0).natAbs:Int)+1)
 else (((t0 - f0).natAbs:Int) - (crsY f0 f1 t0 t1 k).tmod ((t0 - f0).natAbs:Int)) * g (crsX f0 t0 k) ((crsY f0 f1 t0 t1 k).tdiv ((t0 - f0).natAbs:Int))
structure Pnt where
  ax:Int
  k:Int
  n:Int
  hi:Int
  deriving DecidableEq,Inhabited
abbrev Pnt.v (p:Pnt):V1:=.agg [I p.ax,I p.k,I p.k,I p.n,I p.hi]
def crs0 (m:Mp) (a b:Place) (k:Int):Pnt:=⟨0,k,((b.X - a.X).natAbs:Int),crsH (fun x y=>grd m ⟨x,y⟩) a.X a.Y b.X b.Y k⟩
def crs1 (m:Mp) (a b:Place) (k:Int):Pnt:=⟨1,k,((b.Y - a.Y).natAbs:Int),crsH (fun y x=>grd m ⟨x,y⟩) a.Y a.X b.Y b.X k⟩
theorem zqg {f0 t0 k:Int} (h:t0≠f0):crsX f0 t0 k=if f0<t0 then f0+k else f0 - k:=by
 unfold crsX
 by_cases e:f0<t0
 ·rw[kH e,show ((t0 - f0).natAbs:Int)=t0 - f0 by omega,Int.mul_tdiv_cancel _ (by omega)]
 rw[kG e,show ((t0 - f0).natAbs:Int) = -(t0 - f0) by omega,Int.tdiv_neg,Int.mul_tdiv_cancel _ (by omega)]; omega
structure CrsIn (f0 f1 t0 t1 k:Int) (lo hi:Int):Prop where
  x:crsX f0 t0 k≠f0/\((f0<=crsX f0 t0 k/\crsX f0 t0 k<=t0) \/ (t0<=crsX f0 t0 k/\crsX f0 t0 k<=f0))
  w:lo<=(crsY f0 f1 t0 t1 k).tdiv ((t0 - f0).natAbs:Int)/\(crsY f0 f1 t0 t1 k).tdiv ((t0 - f0).natAbs:Int)<=hi
  r:0<=(crsY f0 f1 t0 t1 k).tmod ((t0 - f0).natAbs:Int)/\(crsY f0 f1 t0 t1 k).tmod ((t0 - f0).natAbs:Int)<((t0 - f0).natAbs:Int)
  u:0<(crsY f0 f1 t0 t1 k).tmod ((t0 - f0).natAbs:Int)->(crsY f0 f1 t0 t1 k).tdiv ((t0 - f0).natAbs:Int)+1<=hi
theorem ziS {f0 f1 t0 t1 k lo hi:Int} (h0:0<=lo) (h1:lo<=f1/\f1<=hi) (h2:lo<=t1/\t1<=hi) (hk:1<=k/\k<((t0 - f0).natAbs:Int)):CrsIn f0 f1 t0 t1 k lo hi:=by
 have hx:=zqg (f0:=f0) (t0:=t0) (k:=k) (by omega)
 generalize hn:((t0 - f0).natAbs:Int)=n at *
 have ey:crsY f0 f1 t0 t1 k=f1 * (n - k)+t1 * k:=by unfold crsY; rw[hn]; grind
 have l1:=jV h1.1 (show 0<=n - k by omega)
 have l2:=jV h2.1 (show 0<=k by omega)
 have u1:=jV h1.2 (show 0<=n - k by omega)
 have u2:=jV h2.2 (show 0<=k by omega)
 have e1:lo * (n - k)+lo * k=lo * n:=by grind
 have e2:hi * (n - k)+hi * k=hi * n:=by grind
 have yl:lo * n<=crsY f0 f1 t0 t1 k:=by omega
 have yh:crsY f0 f1 t0 t1 k<=hi * n:=by omega
 have y0:0<=crsY f0 f1 t0 t1 k:=by have:=jad h0 (show 0<=n by omega); omega
 have hnp:0<n:=by omega
 have td:(crsY f0 f1 t0 t1 k).tdiv n=crsY f0 f1 t0 t1 k / n:=Int.tdiv_eq_ediv_of_nonneg y0
 have tm:(crsY f0 f1 t0 t1 k).tmod n=crsY f0 f1 t0 t1 k % n:=jal y0
 have q1:lo<=crsY f0 f1 t0 t1 k / n:=(jaF hnp).2 yl
 have q2:crsY f0 f1 t0 t1 k / n<=hi:=jaJ hnp (by rw[jbo] at yh; rw[jbo]; exact yh)
 have hm:=Int.emod_nonneg (crsY f0 f1 t0 t1 k) (show n≠0 by omega)
 have hml:=ja9 (crsY f0 f1 t0 t1 k) hnp
 have hd:=Int.emod_add_mul_ediv (crsY f0 f1 t0 t1 k) n
 refine⟨?_,?_,?_,?_⟩
 ·rw[hx]; split <;> omega
 ·rw[hn,td]; exact⟨q1,q2⟩
 ·rw[hn,tm]; exact⟨hm,hml⟩
 rw[hn,tm,td]
 intro hr
 rcases Int.lt_or_le (crsY f0 f1 t0 t1 k / n) hi with h | h
 ·omega
 have e:crsY f0 f1 t0 t1 k / n=hi:=by omega
 rw[e,jbo] at hd
 omega
theorem ziJ (p:Place):Spec PP 244 [p.v] [.agg [I p.X,I p.Y]]:=by
 refine sA Tryz.func244 ?_
 exact r1C rfl rfl rfl rfl rfl rfl (zlv rfl rfl)
theorem zfL (x y:Int):Spec PP 245 [.agg [I x,I y]] [(Place.mk x y).v]:=by
 refine sA Tryz.func245 ?_
 refine⟨by decide,⟨by decide,?_⟩⟩
 exact r1C rfl rfl rfl rfl rfl rfl (zlv rfl rfl)
theorem znI {a b c d e a' b' c' d' e':Int} (h1:a=a') (h2:b=b') (h3:c=c') (h4:d=d') (h5:e=e'):eqvs [I a,I b,I c,I d,I e] [I a',I b',I c',I d',I e']:=⟨⟨rfl,h1⟩,⟨rfl,h2⟩,⟨rfl,h3⟩,⟨rfl,h4⟩,⟨rfl,h5⟩,trivial⟩
theorem zec (m:Mp) (a b:Place) (k:Int) (hv:validM m=true) (ha:onM m a=true) (hb:onM m b=true) (hk:1<=k/\k<((b.X - a.X).natAbs:Int)):Spec PP 238 [m.v,a.v,b.v,N 0,N k] [(crs0 m a b k).v]:=by
 obtain⟨w,h,-,-⟩:=zag hv
 obtain⟨a1,a2⟩:=zah.1 ha
 obtain⟨b1,b2⟩:=zah.1 hb
 have C:=ziS (f0:=a.X) (f1:=a.Y) (t0:=b.X) (t1:=b.Y) (k:=k) (lo:=0) (hi:=m.H - 1) (by omega) (by omega) (by omega) hk
 have m1:=mulB (a:=k) (b:=b.X - a.X) (x:=48) (y:=48) (by omega) (by omega)
 have m2:=mulB (a:=k) (b:=b.Y - a.Y) (x:=48) (y:=48) (by omega) (by omega)
 have m3:=mulB (a:=a.Y) (b:=((b.X - a.X).natAbs:Int)) (x:=48) (y:=48) (by omega) (by omega)
 have hx:=C.x
 have hw:=C.w
 have hr:=C.r
 have hu:=C.u
 have eX:(k * (b.X - a.X)).tdiv ((b.X - a.X).natAbs:Int)=crsX a.X b.X k - a.X:=by unfold crsX; omega
 have eY:a.Y * ((b.X - a.X).natAbs:Int)+k * (b.Y - a.Y)=crsY a.X a.Y b.X b.Y k:=rfl
 have o1:onM m ⟨(crsX a.X b.X k),((crsY a.X a.Y b.X b.Y k).tdiv ((b.X - a.X).natAbs:Int))⟩=true:=zah.2 (by dsimp only; omega)
 have d1:=(zbN hv o1).2
 have m4:=mulB (a:=((b.X - a.X).natAbs:Int) - (crsY a.X a.Y b.X b.Y k).tmod ((b.X - a.X).natAbs:Int)) (x:=48) (y:=4000) (by omega) (b:=grd m ⟨(crsX a.X b.X k),((crsY a.X a.Y b.X b.Y k).tdiv ((b.X - a.X).natAbs:Int))⟩) (by omega)
 refine sA Tryz.func238 ?_
 refine Exists.intro [0,1,2,3,2004,2005,6,7] (And.intro (by kernel_rfl) (fNo ?_))
 refine oP (ziJ a) rfl rfl ?_
 refine oP (ziJ b) rfl rfl ?_
 refine⟨rfl,⟨rfl,?_⟩⟩
 refine oN 9 ?_
 refine⟨by decide,⟨by decide,⟨i6,?_⟩⟩⟩
 refine oP (ziI (b.X - a.X) (by omega)) rfl rfl ?_
 refine⟨zaZ (by decide) (by decide),?_⟩
 refine oN 17 ?_
 refine⟨by decide,⟨by decide,⟨by decide,⟨i6,⟨i6,⟨⟨by omega,i6⟩,⟨i6,⟨by decide,?_⟩⟩⟩⟩⟩⟩⟩⟩
 refine oN 16 ?_
 refine⟨by decide,⟨i6,⟨by decide,⟨by decide,⟨i6,⟨i6,⟨i6,?_⟩⟩⟩⟩⟩⟩⟩
 refine⟨⟨by omega,zaZ (by rw[eY]; omega) (by rw[eY]; omega)⟩,⟨by decide,?_⟩⟩
 refine⟨by omega,?_⟩
 refine oN 9 ?_
 refine⟨zaZ (by rw[eY]; omega) (by rw[eY]; omega),?_⟩
 refine oP (zfL (crsX a.X b.X k) ((crsY a.X a.Y b.X b.Y k).tdiv ((b.X - a.X).natAbs:Int))) rfl rfl ?_
 refine oP (zb5 m ⟨(crsX a.X b.X k),((crsY a.X a.Y b.X b.Y k).tdiv ((b.X - a.X).natAbs:Int))⟩ hv o1) rfl rfl ?_
 refine⟨zaZ (by rw[eY]; omega) (by rw[eY]; omega),?_⟩
 apply bY <;> intro h1
 ·have h1:0<(crsY a.X a.Y b.X b.Y k).tmod ((b.X - a.X).natAbs:Int):=dT h1
  have hu1:=hu h1
  have o2:onM m ⟨(crsX a.X b.X k),(((crsY a.X a.Y b.X b.Y k).tdiv ((b.X - a.X).natAbs:Int))+1)⟩=true:=zah.2 (by dsimp only; omega)
  have d2:=(zbN hv o2).2
  have m5:=mulB (a:=(crsY a.X a.Y b.X b.Y k).tmod ((b.X - a.X).natAbs:Int)) (x:=48) (y:=4000) (by omega) (b:=grd m ⟨(crsX a.X b.X k),(((crsY a.X a.Y b.X b.Y k).tdiv ((b.X - a.X).natAbs:Int))+1)⟩) (by omega)
  refine⟨by decide,⟨zaZ (by rw[eY]; omega) (by rw[eY]; omega),⟨by decide,?_⟩⟩⟩
  refine oN 9 ?_
  refine oP (zfL (crsX a.X b.X k) (((crsY a.X a.Y b.X b.Y k).tdiv ((b.X - a.X).natAbs:Int))+1)) rfl rfl ?_
  refine oP (zb5 m ⟨(crsX a.X b.X k),(((crsY a.X a.Y b.X b.Y k).tdiv ((b.X - a.X).natAbs:Int))+1)⟩ hv o2) rfl rfl ?_
  refine⟨zaZ (by rw[eY]; omega) (by rw[eY]; omega),⟨zaZ (by rw[eY]; omega) (by rw[eY]; omega),?_⟩⟩
  refine r1C rfl rfl rfl rfl rfl rfl (znI rfl rfl rfl rfl ?_)
  unfold crs0 crsH
  rw[kH h1]; rfl
 have h1:¬ 0<(crsY a.X a.Y b.X b.Y k).tmod ((b.X - a.X).natAbs:Int):=dF h1
 refine r1C rfl rfl rfl rfl rfl rfl (znI rfl rfl rfl rfl ?_)
 unfold crs0 crsH
 rw[kG h1]; rfl
theorem zeb (m:Mp) (a b:Place) (k:Int) (hv:validM m=true) (ha:onM m a=true) (hb:onM m b=true) (hk:1<=k/\k<((b.Y - a.Y).natAbs:Int)):Spec PP 238 [m.v,a.v,b.v,N 1,N k] [(crs1 m a b k).v]:=by
 obtain⟨w,h,-,-⟩:=zag hv
 obtain⟨a1,a2⟩:=zah.1 ha
 obtain⟨b1,b2⟩:=zah.1 hb
 have C:=ziS (f0:=a.Y) (f1:=a.X) (t0:=b.Y) (t1:=b.X) (k:=k) (lo:=0) (hi:=m.W - 1) (by omega) (by omega) (by omega) hk
 have m1:=mulB (a:=k) (b:=b.Y - a.Y) (x:=48) (y:=48) (by omega) (by omega)
 have m2:=mulB (a:=k) (b:=b.X - a.X) (x:=48) (y:=48) (by omega) (by omega)
 have m3:=mulB (a:=a.X) (b:=((b.Y - a.Y).natAbs:Int)) (x:=48) (y:=48) (by omega) (by omega)
 have hx:=C.x
 have hw:=C.w
 have hr:=C.r
 have hu:=C.u
 have eX:(k * (b.Y - a.Y)).tdiv ((b.Y - a.Y).natAbs:Int)=crsX a.Y b.Y k - a.Y:=by unfold crsX; omega
 have eY:a.X * ((b.Y - a.Y).natAbs:Int)+k * (b.X - a.X)=crsY a.Y a.X b.Y b.X k:=rfl
 have o1:onM m ⟨((crsY a.Y a.X b.Y b.X k).tdiv ((b.Y - a.Y).natAbs:Int)),(crsX a.Y b.Y k)⟩=true:=zah.2 (by dsimp only; omega)
 have d1:=(zbN hv o1).2
 have m4:=mulB (a:=((b.Y - a.Y).natAbs:Int) - (crsY a.Y a.X b.Y b.X k).tmod ((b.Y - a.Y).natAbs:Int)) (x:=48) (y:=4000) (by omega) (b:=grd m ⟨((crsY a.Y a.X b.Y b.X k).tdiv ((b.Y - a.Y).natAbs:Int)),(crsX a.Y b.Y k)⟩) (by omega)
 refine sA Tryz.func238 ?_
 refine Exists.intro [0,1,2,3,2004,2005,6,7] (And.intro (by kernel_rfl) (fNo ?_))
 refine oP (ziJ a) rfl rfl ?_
 refine oP (ziJ b) rfl rfl ?_
 refine⟨rfl,⟨rfl,?_⟩⟩
 refine oN 9 ?_
 refine⟨by decide,⟨by decide,⟨i6,?_⟩⟩⟩
 refine oP (ziI (b.Y - a.Y) (by omega)) rfl rfl ?_
 refine⟨zaZ (by decide) (by decide),?_⟩
 refine oN 17 ?_
 refine⟨by decide,⟨by decide,⟨by decide,⟨i6,⟨i6,⟨⟨by omega,i6⟩,⟨i6,⟨by decide,?_⟩⟩⟩⟩⟩⟩⟩⟩
 refine oN 16 ?_
 refine⟨by decide,⟨i6,⟨by decide,⟨by decide,⟨i6,⟨i6,⟨i6,?_⟩⟩⟩⟩⟩⟩⟩
 refine⟨⟨by omega,zaZ (by rw[eY]; omega) (by rw[eY]; omega)⟩,⟨by decide,?_⟩⟩
 refine⟨by omega,?_⟩
 refine oN 9 ?_
 refine⟨zaZ (by rw[eY]; omega) (by rw[eY]; omega),?_⟩
 refine oP (zfL ((crsY a.Y a.X b.Y b.X k).tdiv ((b.Y - a.Y).natAbs:Int)) (crsX a.Y b.Y k)) rfl rfl ?_
 refine oP (zb5 m ⟨((crsY a.Y a.X b.Y b.X k).tdiv ((b.Y - a.Y).natAbs:Int)),(crsX a.Y b.Y k)⟩ hv o1) rfl rfl ?_
 refine⟨zaZ (by rw[eY]; omega) (by rw[eY]; omega),?_⟩
 apply bY <;> intro h1
 ·have h1:0<(crsY a.Y a.X b.Y b.X k).tmod ((b.Y - a.Y).natAbs:Int):=dT h1
  have hu1:=hu h1
  have o2:onM m ⟨(((crsY a.Y a.X b.Y b.X k).tdiv ((b.Y - a.Y).natAbs:Int))+1),(crsX a.Y b.Y k)⟩=true:=zah.2 (by dsimp only; omega)
  have d2:=(zbN hv o2).2
  have m5:=mulB (a:=(crsY a.Y a.X b.Y b.X k).tmod ((b.Y - a.Y).natAbs:Int)) (x:=48) (y:=4000) (by omega) (b:=grd m ⟨(((crsY a.Y a.X b.Y b.X k).tdiv ((b.Y - a.Y).natAbs:Int))+1),(crsX a.Y b.Y k)⟩) (by omega)
  refine⟨by decide,⟨zaZ (by rw[eY]; omega) (by rw[eY]; omega),⟨by decide,?_⟩⟩⟩
  refine oN 9 ?_
  refine oP (zfL (((crsY a.Y a.X b.Y b.X k).tdiv ((b.Y - a.Y).natAbs:Int))+1) (crsX a.Y b.Y k)) rfl rfl ?_
  refine oP (zb5 m ⟨(((crsY a.Y a.X b.Y b.X k).tdiv ((b.Y - a.Y).natAbs:Int))+1),(crsX a.Y b.Y k)⟩ hv o2) rfl rfl ?_
  refine⟨zaZ (by rw[eY]; omega) (by rw[eY]; omega),⟨zaZ (by rw[eY]; omega) (by rw[eY]; omega),?_⟩⟩
  refine r1C rfl rfl rfl rfl rfl rfl (znI rfl rfl rfl rfl ?_)
  unfold crs1 crsH
  rw[kH h1]; rfl
 have h1:¬ 0<(crsY a.Y a.X b.Y b.X k).tmod ((b.Y - a.Y).natAbs:Int):=dF h1
 refine r1C rfl rfl rfl rfl rfl rfl (znI rfl rfl rfl rfl ?_)
 unfold crs1 crsH
 rw[kG h1]; rfl
def dX (a b:Place):Int:=((b.X - a.X).natAbs:Int)
def dY (a b:Place):Int:=((b.Y - a.Y).natAbs:Int)
def ptsF (m:Mp) (a b:Place):Nat->Int->Int->List Pnt
 | 0,_,_=>[]
 | f+1,k0,k1=>
  if k0<dX a b \/ k1<dY a b then
   if dX a b<=k0 \/ (k1<dY a b/\k1 * dX a b<k0 * dY a b) then crs1 m a b k1 :: ptsF m a b f k0 (k1+1)
   else crs0 m a b k0 :: ptsF m a b f (k0+1) k1
  else []
def ptsN (a b:Place) (k0 k1:Int):Nat:=(dX a b - k0).toNat+(dY a b - k1).toNat
def ptsL (m:Mp) (a b:Place):List Pnt:=ptsF m a b (ptsN a b 1 1) 1 1
theorem zko {a b:Place} {k0 k1:Int} (h:k0<dX a b):ptsN a b k0 k1=ptsN a b (k0+1) k1+1:=by unfold ptsN; omega
theorem zkn {a b:Place} {k0 k1:Int} (h:k1<dY a b):ptsN a b k0 k1=ptsN a b k0 (k1+1)+1:=by unfold ptsN; omega
theorem zpz {m:Mp} {a b:Place} {k0 k1:Int} (h0:dX a b<=k0) (h1:dY a b<=k1):ptsF m a b (ptsN a b k0 k1) k0 k1=[]:=by
 have:ptsN a b k0 k1=0:=by unfold ptsN; omega
 rw[this]; rfl
theorem zrb {m:Mp} {a b:Place} {k0 k1:Int} (h:k1<dY a b) (hc:dX a b<=k0 \/ (k1<dY a b/\k1 * dX a b<k0 * dY a b)):ptsF m a b (ptsN a b k0 k1) k0 k1=crs1 m a b k1 :: ptsF m a b (ptsN a b k0 (k1+1)) k0 (k1+1):=by
 rw[zkn h]
 show (if _ then _ else _)=_
 rw[kH (.inr h),kH hc]
theorem zrc {m:Mp} {a b:Place} {k0 k1:Int} (h:k0<dX a b) (hc:¬ (dX a b<=k0 \/ (k1<dY a b/\k1 * dX a b<k0 * dY a b))):ptsF m a b (ptsN a b k0 k1) k0 k1=crs0 m a b k0 :: ptsF m a b (ptsN a b (k0+1) k1) (k0+1) k1:=by
 rw[zko h]
 show (if _ then _ else _)=_
 rw[kH (.inl h),kG hc]
def pntEnc (p:Pnt):List V1:=[p.v]
theorem eqv2 {m:Nat} {x0 x1:D} {h:Nat->D} (hm:m=2) (h0:D.eqv x0 (h 0)) (h1:D.eqv x1 (h 1)):D.eqv (.ptr ([x0,x1].length - 0) fun j=>getD' [x0,x1] (0+j)) (.ptr m h):=by
 subst hm
 refine⟨rfl,fun j hj=>?_⟩
 match j,hj with
 | 0,_=>exact h0
 | 1,_=>exact h1
abbrev capP (p:Place):D:=capB [I p.X,I p.Y]
def ptsCap (m:Mp) (a b:Place) (j:Nat):D:=getD' [capP a,capP b,capB m.ds] j
theorem zpM {m:Mp} {a b:Place} (hv:validM m=true) (ha:onM m a=true) (hb:onM m b=true):(-48<=b.X - a.X/\b.X - a.X<=48)/\(-48<=b.Y - a.Y/\b.Y - a.Y<=48)/\(0<=dX a b/\dX a b<=48)/\(0<=dY a b/\dY a b<=48):=by
 obtain⟨w,h,-,-⟩:=zag hv
 obtain⟨a1,a2⟩:=zah.1 ha
 obtain⟨b1,b2⟩:=zah.1 hb
 unfold dX dY
 omega
theorem zll (m:Mp) (a b:Place) (hv:validM m=true) (ha:onM m a=true) (hb:onM m b=true):SeqC PP 236 3 (ptsCap m a b) pntEnc (ptsL m a b):=by
 obtain⟨e1,e2,e3,e4⟩:=zpM hv ha hb
 refine zfo Tryz.func236 rfl (by kernel_rfl) rfl rfl pntEnc _ fun y=>?_
 refine oN 15 ?_
 refine⟨i6,?_⟩
 refine oP (ziI (a.X - b.X) (by omega)) rfl rfl ?_
 refine⟨i6,?_⟩
 refine oP (ziI (a.Y - b.Y) (by omega)) rfl rfl ?_
 refine LoopOb.of (σ:=Int × Int × Nat) (fun x=>([(G,.gho (some x.2.2)),(0,.yl y),(1,avOf (.d (capP a))),(2,avOf (.d (capP b))),(3,avOf (.d (capB m.ds))),(5,.roe 2 (getD' [I (dX a b),I (dY a b)])),(6,.box 6 0)],[(6,.box [.d (I x.1),.d (I x.2.1)])]))
  (fun x=>(1<=x.1/\x.1<=49/\1<=x.2.1/\x.2.1<=49)/\x.2.2<=(ptsL m a b).length/\(ptsL m a b).drop x.2.2=ptsF m a b (ptsN a b x.1 x.2.1) x.1 x.2.1) (fun x=>ptsN a b x.1 x.2.1) (1,1,0)
  ⟨rfl,⟨obD [I 1,I 1] rfl,trivial⟩,avQ rfl,avQ rfl,avQ rfl,avQ rfl,avQ rfl,avBx rfl rfl rfl rfl (eqv2 rfl ⟨rfl,by unfold dX; omega⟩ ⟨rfl,by unfold dY; omega⟩),avQ rfl,trivial⟩ ⟨by decide,jF _,rfl⟩ fun⟨k0,k1,i⟩ ⟨hk,hi,hd⟩=>?_
 dsimp only at hk hi hd ⊢
 refine⟨by decide,⟨by decide,?_⟩⟩
 apply bY <;> intro c0
 ·have c0:k0<dX a b:=dT c0
  have q0:¬ dX a b<=k0:=by omega
  refine sT ?_
  refine⟨by decide,⟨by decide,?_⟩⟩
  refine Split.no (jH (by omega)) ?_
  refine⟨by decide,⟨by decide,?_⟩⟩
  apply bY <;> intro c1
  ·have c1:k1<dY a b:=dT c1
   have m1:=mulB (a:=k1) (b:=dX a b) (x:=48) (y:=48) (by omega) (by omega)
   have m2:=mulB (a:=k0) (b:=dY a b) (x:=48) (y:=48) (by omega) (by omega)
   refine⟨by decide,⟨by decide,⟨i6,⟨by decide,⟨by decide,⟨i6,?_⟩⟩⟩⟩⟩⟩
   refine sT (sF ?_)
   apply bY <;> intro c2
   ·have c2:k1 * dX a b<k0 * dY a b:=dT c2
    have hp:=zrb (m:=m) c1 (.inr ⟨c1,c2⟩)
    have hx:(ptsL m a b)[i]?=some (crs1 m a b k1):=by
     have:=jI List.head? hd
     rwa [hp,List.head?_drop] at this
    have hd':(ptsL m a b).drop (i+1)=ptsF m a b (ptsN a b (k0) (k1+1)) (k0) (k1+1):=by
     rw[<- List.tail_drop,hd,hp]; rfl
    have hi':i<(ptsL m a b).length:=(kC.1 hx).1
    have hm:=zkn (k0:=k0) c1
    refine Exists.intro [0,1,2,3,4,5,6,7,8,3009,10] (And.intro (by kernel_rfl) (fNo ?_))
    refine⟨by decide,?_⟩
    refine oP (zeb m a b k1 hv ha hb ⟨hk.2.2.1,c1⟩) rfl rfl ?_
    refine CallSt.ydM (d:=68) [(0,.yl y),(1,avOf (.d (capP a))),(2,avOf (.d (capP b))),(3,avOf (.d (capB m.ds))),(5,.roe 2 (getD' [I (dX a b),I (dY a b)])),(6,.box 6 0),(7,.d (I 1))] [(6,.box [.d (I k0),.d (I k1)])] rfl rfl rfl rfl ⟨rfl,⟨obD [I k0,I k1] rfl,trivial⟩,wq rfl⟩ hx rfl rfl ?_ ?_
    ·refine sF ?_
     refine⟨by decide,⟨i6,⟨by decide,?_⟩⟩⟩
     refine⟨(k0,k1+1,i+1),⟨rfl,⟨obD [I (k0),I (k1+1)] rfl,trivial⟩,avG rfl rfl,wq rfl⟩,⟨by dsimp only; omega,hi',hd'⟩,by dsimp only; omega⟩
    refine sT ?_
    exact .inr rfl
   have c2:¬ k1 * dX a b<k0 * dY a b:=dF c2
   have hp:=zrc (m:=m) c0 (fun h=>h.elim q0 fun h=>c2 h.2)
   have hx:(ptsL m a b)[i]?=some (crs0 m a b k0):=by
    have:=jI List.head? hd
    rwa [hp,List.head?_drop] at this
   have hd':(ptsL m a b).drop (i+1)=ptsF m a b (ptsN a b (k0+1) (k1)) (k0+1) (k1):=by
    rw[<- List.tail_drop,hd,hp]; rfl
   have hi':i<(ptsL m a b).length:=(kC.1 hx).1
   have hm:=zko (k1:=k1) c0
   refine Exists.intro [0,1,2,3,4,5,6,7,8,3009,10] (And.intro (by kernel_rfl) (fNo ?_))
   refine⟨by decide,?_⟩
   refine oP (zec m a b k0 hv ha hb ⟨hk.1,c0⟩) rfl rfl ?_
   refine CallSt.ydM (d:=68) [(0,.yl y),(1,avOf (.d (capP a))),(2,avOf (.d (capP b))),(3,avOf (.d (capB m.ds))),(5,.roe 2 (getD' [I (dX a b),I (dY a b)])),(6,.box 6 0),(7,.d (I 0))] [(6,.box [.d (I k0),.d (I k1)])] rfl rfl rfl rfl ⟨rfl,⟨obD [I k0,I k1] rfl,trivial⟩,wq rfl⟩ hx rfl rfl ?_ ?_
   ·refine sF ?_
    refine⟨by decide,⟨i6,⟨by decide,?_⟩⟩⟩
    refine⟨(k0+1,k1,i+1),⟨rfl,⟨obD [I (k0+1),I (k1)] rfl,trivial⟩,avG rfl rfl,wq rfl⟩,⟨by dsimp only; omega,hi',hd'⟩,by dsimp only; omega⟩
   refine sT ?_
   exact .inr rfl
  have c1:¬ k1<dY a b:=dF c1
  refine sF (sF (sF ?_))
  have hp:=zrc (m:=m) c0 (fun h=>h.elim q0 fun h=>c1 h.1)
  have hx:(ptsL m a b)[i]?=some (crs0 m a b k0):=by
   have:=jI List.head? hd
   rwa [hp,List.head?_drop] at this
  have hd':(ptsL m a b).drop (i+1)=ptsF m a b (ptsN a b (k0+1) (k1)) (k0+1) (k1):=by
   rw[<- List.tail_drop,hd,hp]; rfl
  have hi':i<(ptsL m a b).length:=(kC.1 hx).1
  have hm:=zko (k1:=k1) c0
  refine Exists.intro [0,1,2,3,4,5,6,7,8,3009,10] (And.intro (by kernel_rfl) (fNo ?_))
  refine⟨by decide,?_⟩
  refine oP (zec m a b k0 hv ha hb ⟨hk.1,c0⟩) rfl rfl ?_
  refine CallSt.ydM (d:=68) [(0,.yl y),(1,avOf (.d (capP a))),(2,avOf (.d (capP b))),(3,avOf (.d (capB m.ds))),(5,.roe 2 (getD' [I (dX a b),I (dY a b)])),(6,.box 6 0),(7,.d (I 0))] [(6,.box [.d (I k0),.d (I k1)])] rfl rfl rfl rfl ⟨rfl,⟨obD [I k0,I k1] rfl,trivial⟩,wq rfl⟩ hx rfl rfl ?_ ?_
  ·refine sF ?_
   refine⟨by decide,⟨i6,⟨by decide,?_⟩⟩⟩
   refine⟨(k0+1,k1,i+1),⟨rfl,⟨obD [I (k0+1),I (k1)] rfl,trivial⟩,avG rfl rfl,wq rfl⟩,⟨by dsimp only; omega,hi',hd'⟩,by dsimp only; omega⟩
  refine sT ?_
  exact .inr rfl
 have c0:¬ k0<dX a b:=dF c0
 refine⟨by decide,⟨by decide,?_⟩⟩
 refine sF ?_
 apply bY <;> intro c1
 ·have c1:k1<dY a b:=dT c1
  have q0:dX a b<=k0:=by omega
  refine⟨by decide,⟨by decide,?_⟩⟩
  refine Split.yes (jG (by omega)) ?_
  refine sT (sT ?_)
  have hp:=zrb (m:=m) c1 (.inl q0)
  have hx:(ptsL m a b)[i]?=some (crs1 m a b k1):=by
   have:=jI List.head? hd
   rwa [hp,List.head?_drop] at this
  have hd':(ptsL m a b).drop (i+1)=ptsF m a b (ptsN a b (k0) (k1+1)) (k0) (k1+1):=by
   rw[<- List.tail_drop,hd,hp]; rfl
  have hi':i<(ptsL m a b).length:=(kC.1 hx).1
  have hm:=zkn (k0:=k0) c1
  refine Exists.intro [0,1,2,3,4,5,6,7,8,3009,10] (And.intro (by kernel_rfl) (fNo ?_))
  refine⟨by decide,?_⟩
  refine oP (zeb m a b k1 hv ha hb ⟨hk.2.2.1,c1⟩) rfl rfl ?_
  refine CallSt.ydM (d:=68) [(0,.yl y),(1,avOf (.d (capP a))),(2,avOf (.d (capP b))),(3,avOf (.d (capB m.ds))),(5,.roe 2 (getD' [I (dX a b),I (dY a b)])),(6,.box 6 0),(7,.d (I 1))] [(6,.box [.d (I k0),.d (I k1)])] rfl rfl rfl rfl ⟨rfl,⟨obD [I k0,I k1] rfl,trivial⟩,wq rfl⟩ hx rfl rfl ?_ ?_
  ·refine sF ?_
   refine⟨by decide,⟨i6,⟨by decide,?_⟩⟩⟩
   refine⟨(k0,k1+1,i+1),⟨rfl,⟨obD [I (k0),I (k1+1)] rfl,trivial⟩,avG rfl rfl,wq rfl⟩,⟨by dsimp only; omega,hi',hd'⟩,by dsimp only; omega⟩
  refine sT ?_
  exact .inr rfl
 have c1:¬ k1<dY a b:=dF c1
 have he:i=(ptsL m a b).length:=by
  rw[zpz (by omega) (by omega)] at hd
  have:=List.drop_eq_nil_iff.1 hd
  omega
 subst he
 exact .inl rfl
structure PntOk (p:Pnt):Prop where
  k:0<=p.k/\p.k<=p.n
  n:p.n<=48
  hi:0<=p.hi/\p.hi<=192000
theorem ziv {n r g1 g2:Int} (hn:0<=n/\n<=48) (hr:0<=r/\r<=n) (h1:0<=g1/\g1<=4000) (h2:0<=g2/\g2<=4000):0<=(n - r) * g1+r * g2/\(n - r) * g1+r * g2<=192000:=by
 have a1:=jad (show 0<=n - r by omega) h1.1
 have a2:=jad hr.1 h2.1
 have b1:=jbi h1.2 (show 0<=n - r by omega)
 have b2:=jbi h2.2 hr.1
 omega
theorem zqi {m:Mp} {a b:Place} {k:Int} (hv:validM m=true) (ha:onM m a=true) (hb:onM m b=true) (hk:1<=k/\k<dX a b):PntOk (crs0 m a b k):=by
 obtain⟨w,h,-,-⟩:=zag hv
 obtain⟨a1,a2⟩:=zah.1 ha
 obtain⟨b1,b2⟩:=zah.1 hb
 have hd:=(zpM hv ha hb).2.2.1
 have C:=ziS (f0:=a.X) (f1:=a.Y) (t0:=b.X) (t1:=b.Y) (k:=k) (lo:=0) (hi:=m.H - 1) (by omega) (by omega) (by omega) hk
 have hx:=C.x
 have hw:=C.w
 have hr:=C.r
 have hu:=C.u
 have d1:=(zbN hv (p:=⟨(crsX a.X b.X k),((crsY a.X a.Y b.X b.Y k).tdiv ((b.X - a.X).natAbs:Int))⟩) (zah.2 (by dsimp only; omega))).2
 refine⟨by unfold crs0; dsimp only; unfold dX at hk; omega,by unfold crs0; dsimp only; unfold dX at hd; omega,?_⟩
 unfold crs0 crsH
 dsimp only
 unfold dX at hd
 split
 ·rename_i h1
  have hu1:=hu h1
  have d2:=(zbN hv (p:=⟨(crsX a.X b.X k),(((crsY a.X a.Y b.X b.Y k).tdiv ((b.X - a.X).natAbs:Int))+1)⟩) (zah.2 (by dsimp only; omega))).2
  exact ziv hd (by omega) d1 d2
 have:=ziv hd (r:=(crsY a.X a.Y b.X b.Y k).tmod ((b.X - a.X).natAbs:Int)) (by omega) d1 (g2:=0) (by omega)
 simpa using this
theorem zqh {m:Mp} {a b:Place} {k:Int} (hv:validM m=true) (ha:onM m a=true) (hb:onM m b=true) (hk:1<=k/\k<dY a b):PntOk (crs1 m a b k):=by
 obtain⟨w,h,-,-⟩:=zag hv
 obtain⟨a1,a2⟩:=zah.1 ha
 obtain⟨b1,b2⟩:=zah.1 hb
 have hd:=(zpM hv ha hb).2.2.2
 have C:=ziS (f0:=a.Y) (f1:=a.X) (t0:=b.Y) (t1:=b.X) (k:=k) (lo:=0) (hi:=m.W - 1) (by omega) (by omega) (by omega) hk
 have hx:=C.x
 have hw:=C.w
 have hr:=C.r
 have hu:=C.u
 have d1:=(zbN hv (p:=⟨((crsY a.Y a.X b.Y b.X k).tdiv ((b.Y - a.Y).natAbs:Int)),(crsX a.Y b.Y k)⟩) (zah.2 (by dsimp only; omega))).2
 refine⟨by unfold crs1; dsimp only; unfold dY at hk; omega,by unfold crs1; dsimp only; unfold dY at hd; omega,?_⟩
 unfold crs1 crsH
 dsimp only
 unfold dY at hd
 split
 ·rename_i h1
  have hu1:=hu h1
  have d2:=(zbN hv (p:=⟨(((crsY a.Y a.X b.Y b.X k).tdiv ((b.Y - a.Y).natAbs:Int))+1),(crsX a.Y b.Y k)⟩) (zah.2 (by dsimp only; omega))).2
  exact ziv hd (by omega) d1 d2
 have:=ziv hd (r:=(crsY a.Y a.X b.Y b.X k).tmod ((b.Y - a.Y).natAbs:Int)) (by omega) d1 (g2:=0) (by omega)
 simpa using this
theorem zhh {m:Mp} {a b:Place} (hv:validM m=true) (ha:onM m a=true) (hb:onM m b=true):∀ (f:Nat) (k0 k1:Int),1<=k0->1<=k1 -> ∀ p∈ptsF m a b f k0 k1,PntOk p
 | 0,_,_,_,_,p,hp=>by cases hp
 | f+1,k0,k1,h0,h1,p,hp=>by
  unfold ptsF at hp
  split at hp
  ·rename_i c0
   split at hp
   ·rename_i c1
    rcases k9.1 hp with rfl | hp
    ·exact zqh hv ha hb ⟨h1,by omega⟩
    exact zhh hv ha hb f k0 (k1+1) h0 (by omega) p hp
   rename_i c1
   rcases k9.1 hp with rfl | hp
   ·exact zqi hv ha hb ⟨h0,by omega⟩
   exact zhh hv ha hb f (k0+1) k1 (by omega) h1 p hp
  cases hp
theorem zor {m:Mp} {a b:Place} (hv:validM m=true) (ha:onM m a=true) (hb:onM m b=true):∀ p∈ptsL m a b,PntOk p:=zhh hv ha hb _ 1 1 (by omega) (by omega)
theorem r1CD {T:TT} {s:St} {a t i:Nat} {ti:TI} {x y:D} (h1:s.sl a = .box i 0) (h2:T t=some ti) (h3:s.ob i=some (.box [.d x])) (h4:Nat.beq 1 ti.size=true) (h5:ti.agg=false) (he:D.eqv x y):RetAll T s [.cell a t] [.d y]:=by
 refine⟨?_,trivial⟩
 rw[h1]
 unfold RetCell
 simp only[h2,h3,h5,and_true,true_and]
 exact⟨h4,he⟩
abbrev ptsClo (m:Mp) (a b:Place):D:=.clo 236 3 (ptsCap m a b)
theorem znB (m:Mp) (a b:Place):Spec PP 219 [m.v,a.v,b.v] [.d (ptsClo m a b)]:=by
 refine sA Tryz.func219 ?_
 refine⟨⟨rfl,rfl,fun j hj=>?_⟩,trivial⟩
 match j,hj with
 | 0,_=>exact⟨_,rfl,rfl,_,_,rfl,rfl,rfl,fun j hj=>dE _⟩
 | 1,_=>exact⟨_,rfl,rfl,_,_,rfl,rfl,rfl,fun j hj=>dE _⟩
 | 2,_=>exact⟨_,rfl,rfl,_,_,rfl,rfl,rfl,fun j hj=>dE _⟩
def abvI (m:Mp) (a:Place) (ta:Int) (b:Place) (tb:Int) (p:Pnt):Int:=p.hi - (p.n - p.k) * (grd m a+ta) - p.k * (grd m b+tb)
theorem zp7 (m:Mp) (a b:Place) (ta tb:Int) (p:Pnt) (hv:validM m=true) (ha:onM m a=true) (hb:onM m b=true) (hta:0<=ta/\ta<=1073741824) (htb:0<=tb/\tb<=1073741824) (hp:PntOk p):Spec PP 220 [m.v,a.v,N ta,b.v,N tb,p.v] [N (abvI m a ta b tb p)]:=by
 obtain⟨p1,p2,p3⟩:=hp
 have ga:=(zbN hv ha).2
 have gb:=(zbN hv hb).2
 have m1:=mulB (a:=p.n - p.k) (b:=grd m a+ta) (x:=48) (y:=1073745824) (by omega) (by omega)
 have m2:=mulB (a:=p.k) (b:=grd m b+tb) (x:=48) (y:=1073745824) (by omega) (by omega)
 refine sA Tryz.func220 ?_
 refine oN 24 ?_
 refine⟨i6,?_⟩
 refine oP (zb5 m a hv ha) rfl rfl ?_
 refine⟨i6,⟨i6,⟨i6,?_⟩⟩⟩
 refine oP (zb5 m b hv hb) rfl rfl ?_
 refine⟨i6,⟨i6,⟨i6,?_⟩⟩⟩
 exact r1I rfl rfl
def ovrB (m:Mp) (a:Place) (ta:Int) (b:Place) (tb:Int) (p:Pnt):Bool:=decide (0<abvI m a ta b tb p)
def freeB (m:Mp) (a:Place) (ta:Int) (b:Place) (tb:Int):Bool:=!((ptsL m a b).any (ovrB m a ta b tb))
theorem zrR (m:Mp) (a b:Place) (ta tb:Int) (hv:validM m=true) (ha:onM m a=true) (hb:onM m b=true) (hta:0<=ta/\ta<=1073741824) (htb:0<=tb/\tb<=1073741824):Spec PP 195 [m.v,a.v,N ta,b.v,N tb] [B (freeB m a ta b tb)]:=by
 refine sA Tryz.func195 ?_
 refine cR (znB m a b) rfl rfl ?_
 refine CodeOb.rangeAt (zll m a b hv ha hb) rfl (fun _=>rfl) (by decide) [(5,.box 5 0),(6,.box 6 0),(7,.box 7 0),(8,.box 8 0),(9,.box 9 0),(10,.box 10 0)] []
  (fun _=>[(5,.box (m.ds.map AV.d)),(6,.box [.d (I a.X),.d (I a.Y)]),(7,.box [.d (I ta)]),(8,.box [.d (I b.X),.d (I b.Y)]),(9,.box [.d (I tb)]),(10,.box [.d (.bool false)])]) rfl (fun _=>rfl) ?_
  (Iv:=fun pre=>pre.any (ovrB m a ta b tb)=false) rfl (fun v pre x hx hI=>?_) (fun hI=>?_)
 ·exact⟨rfl,⟨obD m.ds rfl,obD [I a.X,I a.Y] rfl,obD [I ta] rfl,obD [I b.X,I b.Y] rfl,obD [I tb] rfl,obD [.bool false] rfl,trivial⟩,wq rfl⟩
 ·have hxm:x∈ptsL m a b:=hx.subset (by simp)
  refine cP (zp7 m a b ta tb x hv ha hb hta htb (zor hv ha hb x hxm)) rfl rfl ?_
  apply bY <;> intro h1
  ·refine⟨[(5,.box (m.ds.map AV.d)),(6,.box [.d (I a.X),.d (I a.Y)]),(7,.box [.d (I ta)]),(8,.box [.d (I b.X),.d (I b.Y)]),(9,.box [.d (I tb)]),(10,.box [.d (.bool false)])],rfl,⟨rfl,⟨obD m.ds rfl,obD [I a.X,I a.Y] rfl,obD [I ta] rfl,obD [I b.X,I b.Y] rfl,obD [I tb] rfl,obD [.bool false] rfl,trivial⟩,wq rfl⟩,?_⟩
   refine r1CD rfl rfl rfl rfl rfl ?_
   show false=freeB m a ta b tb
   unfold freeB
   rw[kL.2 ⟨x,hxm,h1⟩]; rfl
  refine⟨?_,rfl,⟨obD m.ds rfl,obD [I a.X,I a.Y] rfl,obD [I ta] rfl,obD [I b.X,I b.Y] rfl,obD [I tb] rfl,obD [.bool false] rfl,trivial⟩,wq rfl⟩
  show (pre ++ [x]).any (ovrB m a ta b tb)=false
  rw[List.any_append,hI]
  show (ovrB m a ta b tb x || false)=false
  rw[jaj]; exact jH (dF h1)
 refine r1CD rfl rfl rfl rfl rfl ?_
 show true=freeB m a ta b tb
 unfold freeB
 rw[hI]; rfl
def seesB (c:Ctry) (w:Twr) (p:Place) (h far:Int):Bool:=nearB w.At p far && freeB c.M w.At w.H p h
structure TwrOk (c:Ctry) (w:Twr):Prop where
  id:1<=w.ID/\w.ID<=1099511627776
  on:onM c.M w.At=true
  h:0<=w.H/\w.H<=200
theorem zow {m:Mp} {p:Place} (hv:validM m=true) (h:onM m p=true):on p=true:=by
 obtain⟨w,h',-,-⟩:=zag hv
 have:=zah.1 h
 exact zch.2 (by omega)
theorem zrP (c:Ctry) (w:Twr) (p:Place) (h far:Int) (hv:validM c.M=true) (hw:TwrOk c w) (hp:onM c.M p=true) (hh:0<=h/\h<=200) (hf:0<=far/\far<=100):Spec PP 142 [c.v,w.v,p.v,N h,N far] [B (seesB c w p h far)]:=by
 have o1:=zow hv hw.on
 have o2:=zow hv hp
 have hwh:=hw.h
 refine sA Tryz.func142 ?_
 refine cP (zrQ w.At p far o1 o2 hf) rfl rfl ?_
 apply bY <;> intro h1
 ·refine cP (zrR c.M w.At p w.H h hv hw.on hp (by omega) (by omega)) rfl rfl ?_
  refine sT ?_
  refine r1B rfl ?_
  unfold seesB; rw[h1]; rfl
 refine sF ?_
 refine r1B rfl ?_
 unfold seesB; rw[h1]; rfl
theorem znC (a b:Twr):Spec PP 72 [a.v,.d (capB [I b.ID,I b.At.X,I b.At.Y,I b.H])] [B (a.ID==b.ID)]:=by
 refine sA Tryz.func72 ?_
 refine r1B rfl ?_
 rfl
def towE (c:Ctry) (i:Nat):Int:=
 if !within (c.T.getD i default).ID 1 1099511627776 || !onM c.M (c.T.getD i default).At || !within (c.T.getD i default).H 0 200 then 1
 else if (c.T.take i).any fun x=>x.ID==(c.T.getD i default).ID then 6 else 0
def lastZ (Z:List Hz):Nat->Int
 | 0=>-1
 | j+1=>(Z.getD j default).To
def hzE (Z:List Hz) (j:Nat):Int:=
 if !within (Z.getD j default).From 0 (Z.getD j default).To || decide (1048576<(Z.getD j default).To) || decide ((Z.getD j default).From<=lastZ Z j) || !within (Z.getD j default).Far 0 100 then 1 else 0
def ctryE (c:Ctry):Int:=
 if validM c.M=false then 1 else if 12<c.T.length \/ 60<c.Z.length then 2
 else if err1 (towE c) c.T.length≠0 then err1 (towE c) c.T.length else err1 (hzE c.Z) c.Z.length
theorem zpT (l:List Twr) {i:Nat} (h:i<=l.length):D.eqv (.slc 4 i fun k=>(l.getD k default).at) (lT (l.take i)):=
 ⟨by simp; omega,.inr ⟨rfl,fun k hk j hj=>by
  show D.eqv ((l.getD k default).at j) (((l.take i).getD k default).at j)
  have e:(l.take i).getD k default=l.getD k default:=by
   rw[hU,hU,jS,kH hk]
  rw[e]; exact dE _⟩⟩
theorem zlm (c:Ctry):Spec PP 21 [c.v] [.d (.int .i64 (ctryE c))]:=by
 refine sA Tryz.func21 ?_
 refine cP (zp5 c.M) rfl rfl ?_
 apply bY <;> intro h0
 ·refine r1I rfl ?_
  unfold ctryE; rw[kH (by simpa using h0)]
 have h0:validM c.M=true:=by simpa using h0
 apply bY <;> intro h1
 ·have h1:12<c.T.length:=by have:=dT h1; omega
  refine sT ?_
  refine sT ?_
  refine r1I rfl ?_
  unfold ctryE; rw[kG (by simp[h0]),kH (.inl h1)]
 have h1:¬ 12<c.T.length:=by have:=dF h1; omega
 refine sF ?_
 apply bY <;> intro h2
 ·have h2:60<c.Z.length:=by have:=dT h2; omega
  refine r1I rfl ?_
  unfold ctryE; rw[kG (by simp[h0]),kH (.inr h2)]
 have h2:¬ 60<c.Z.length:=by have:=dF h2; omega
 have e0:ctryE c=if err1 (towE c) c.T.length≠0 then err1 (towE c) c.T.length else err1 (hzE c.Z) c.Z.length:=by
  unfold ctryE; rw[kG (by simp[h0]),kG (by omega)]
 refine LoopOb.of (σ:=Nat) (fun i=>([(1,.box 1 0),(25,.d (lT c.T)),(26,.d (I c.T.length)),(27,.d (I i))],[(1,bxCt c)])) (fun i=>i<=c.T.length /\ ∀ j,j<i->towE c j=0) (fun i=>c.T.length - i) 0
  ⟨rfl,⟨obCt rfl,trivial⟩,wq rfl⟩ z0L fun i hi=>?_
 obtain⟨hi,ha⟩:=hi
 apply bY <;> intro h3
 ·have h3:i<c.T.length:=by have:=dT h3; omega
  refine⟨⟨rfl,by omega,by omega⟩,?_⟩
  refine cP (zaV (c.T.getD i default).ID 1 1099511627776) rfl rfl ?_
  have bad:towE c i≠0->ctryE c=towE c i:=fun h=>by
   have:=zaN ha h h3
   rw[e0,kH (by rw[this]; exact h),this]
  have one:(!within (c.T.getD i default).ID 1 1099511627776 || !onM c.M (c.T.getD i default).At || !within (c.T.getD i default).H 0 200)=true->towE c i=1:=fun h=>by unfold towE; rw[kH h]
  apply bY <;> intro h4
  ·refine sT (sT (sT (sT ?_)))
   refine r1I rfl ?_
   have e:=one (by rw[h4]; rfl)
   rw[bad (by rw[e]; decide),e]
  refine cP (g_On c.M (c.T.getD i default).At h0) rfl rfl ?_
  refine sF ?_
  apply bY <;> intro h5
  ·refine sT (sT ?_)
   refine r1I rfl ?_
   have e:=one (by rw[h4,h5]; rfl)
   rw[bad (by rw[e]; decide),e]
  refine cP (zaV (c.T.getD i default).H 0 200) rfl rfl ?_
  refine sF ?_
  apply bY <;> intro h6
  ·refine r1I rfl ?_
   have e:=one (by rw[h4,h5,h6]; rfl)
   rw[bad (by rw[e]; decide),e]
  have two:towE c i=if ((c.T.take i).any fun x=>x.ID==(c.T.getD i default).ID) then 6 else 0:=by unfold towE; rw[kG (by rw[h4,h5,h6]; decide)]
  refine⟨⟨.inr rfl,by omega,by omega⟩,?_⟩
  refine CallSt.fzP [4] (zom (c.T.take i) 72 (capB [I (c.T.getD i default).ID,I (c.T.getD i default).At.X,I (c.T.getD i default).At.Y,I (c.T.getD i default).H]) (fun x=>x.ID==(c.T.getD i default).ID) (by simp; omega) (fun k hk=>znC _ _)) rfl ⟨zpT c.T (by omega),⟨rfl,rfl,fun j hj=>?_⟩,trivial⟩ rfl ?_
  ·obtain rfl:j=0:=by
    have:j<1:=hj
    omega
   exact dE _
  apply bY <;> intro h7
  ·refine r1I rfl ?_
   rw[h7,kH rfl] at two
   rw[bad (by rw[two]; decide),two]
  rw[h7] at two
  refine⟨i6,?_⟩
  refine⟨i+1,⟨rfl,⟨obCt rfl,trivial⟩,wq rfl⟩,⟨h3,fun j hj=>?_⟩,(msr (by omega))⟩
  by_cases e:j=i
  ·subst e; rw[two]; rfl
  exact ha j (by omega)
 have h3:i=c.T.length:=by have:=dF h3; omega
 subst h3
 have e1:ctryE c=err1 (hzE c.Z) c.Z.length:=by rw[e0,za7 ha]; rfl
 refine LoopOb.of (σ:=Nat) (fun i=>([(5,.d (I (lastZ c.Z i))),(60,.d (lZ c.Z)),(61,.d (I c.Z.length)),(62,.d (I i))],[])) (fun i=>i<=c.Z.length /\ ∀ j,j<i->hzE c.Z j=0) (fun i=>c.Z.length - i) 0
  ⟨rfl,trivial,wq rfl⟩ z0L fun i hi=>?_
 obtain⟨hi,ha⟩:=hi
 apply bY <;> intro h3
 ·have h3:i<c.Z.length:=by have:=dT h3; omega
  refine⟨⟨rfl,by omega,by omega⟩,?_⟩
  refine cP (zaV (c.Z.getD i default).From 0 (c.Z.getD i default).To) rfl rfl ?_
  have bad:hzE c.Z i≠0->ctryE c=hzE c.Z i:=fun h=>by rw[e1,zaN ha h h3]
  have one:(!within (c.Z.getD i default).From 0 (c.Z.getD i default).To || decide (1048576<(c.Z.getD i default).To) || decide ((c.Z.getD i default).From<=lastZ c.Z i) || !within (c.Z.getD i default).Far 0 100)=true->hzE c.Z i=1:=fun h=>by unfold hzE; rw[kH h]
  apply bY <;> intro h4
  ·refine sT (sT (sT (sT (sT (sT ?_)))))
   refine r1I rfl ?_
   have e:=one (by rw[h4]; rfl)
   rw[bad (by rw[e]; decide),e]
  refine sF ?_
  apply bY <;> intro h5
  ·have h5:decide (1048576<(c.Z.getD i default).To)=true:=h5
   refine sT (sT (sT (sT ?_)))
   refine r1I rfl ?_
   have e:=one (by rw[h4,h5]; rfl)
   rw[bad (by rw[e]; decide),e]
  have h5:decide (1048576<(c.Z.getD i default).To)=false:=h5
  refine sF ?_
  apply bY <;> intro h6
  ·have h6:decide ((c.Z.getD i default).From<=lastZ c.Z i)=true:=h6
   refine sT (sT ?_)
   refine r1I rfl ?_
   have e:=one (by rw[h4,h5,h6]; rfl)
   rw[bad (by rw[e]; decide),e]
  have h6:decide ((c.Z.getD i default).From<=lastZ c.Z i)=false:=h6
  refine cP (zaV (c.Z.getD i default).Far 0 100) rfl rfl ?_
  refine sF ?_
  apply bY <;> intro h7
  ·refine r1I rfl ?_
   have e:=one (by rw[h4,h5,h6,h7]; rfl)
   rw[bad (by rw[e]; decide),e]
  have zero:hzE c.Z i=0:=by unfold hzE; rw[kG (by rw[h4,h5,h6,h7]; decide)]
  refine⟨i6,?_⟩
  refine⟨i+1,⟨rfl,trivial,wq rfl⟩,⟨h3,fun j hj=>?_⟩,(msr (by omega))⟩
  by_cases e:j=i
  ·subst e; exact zero
  exact ha j (by omega)
 have h3:i=c.Z.length:=by have:=dF h3; omega
 subst h3
 refine r1I rfl ?_
 rw[e1,za7 ha]
structure CtryOk (c:Ctry):Prop where
  m:validM c.M=true
  t:c.T.length<=12
  z:c.Z.length<=60
  w:∀ i,i<c.T.length->TwrOk c (c.T.getD i default)
  d:∀ i,i<c.T.length->((c.T.take i).any fun x=>x.ID==(c.T.getD i default).ID)=false
  f:∀ x∈c.Z,0<=x.Far/\x.Far<=100
  h:∀ j,j<c.Z.length->hzE c.Z j=0
theorem zhC {c:Ctry} (h:ctryE c=0):CtryOk c:=by
 unfold ctryE at h
 cases hv:validM c.M with
 | false=>rw[kH hv] at h; cases h
 | true=>
 rw[kG (by rw[hv]; decide)] at h
 split at h
 ·cases h
 rename_i h1
 split at h
 ·rename_i h2; exact absurd h h2
 rename_i h2
 have hT:err1 (towE c) c.T.length=0:=jL h2
 have a:=zbh hT
 have b:=zbh h
 refine⟨hv,by omega,by omega,fun i hi=>?_,fun i hi=>?_,fun x hx=>?_,b⟩
 ·have:=a i hi
  unfold towE at this
  split at this
  ·cases this
  rename_i h3
  simp only[jX,jY,not_or,wA] at h3
  exact⟨zaa.1 h3.1.1,h3.1.2,zaa.1 h3.2⟩
 ·have:=a i hi
  unfold towE at this
  split at this
  ·cases this
  split at this
  ·cases this
  rename_i h4; simpa using h4
 obtain⟨j,hj,rfl⟩:=zbL default hx
 have:=b j hj
 unfold hzE at this
 split at this
 ·cases this
 rename_i h3
 simp only[jX,jY,not_or,wA] at h3
 exact zaa.1 h3.2
theorem zlt {t:Int}:∀ {l:List Hz},(∀ x∈l,0<=x.Far/\x.Far<=100)->0<=farZ t l/\farZ t l<=100
 | [],_=>⟨(by decide:(0:Int)<=100),(by decide:(100:Int)<=100)⟩
 | x :: r,h=>by
  unfold farZ
  split
  ·exact h x (by simp)
  exact zlt fun y hy=>h y (by simp[hy])
def seesE (c:Ctry) (id:Int) (p:Place) (h t:Int):Bool × Int:=
 if ctryE c≠0 then (false,ctryE c) else if (towG c.T id).2=false then (false,5)
 else if (!onM c.M p || !within h 0 200 || !within t 0 1048576)=true then (false,1) else (seesB c (towG c.T id).1 p h (farZ t c.Z),0)
theorem r2BI {T:TT} {s:St} {t u:Nat} {k:IntKind} {m n:Int} {b c:Bool} (h:s.sl t = .d (.bool b)) (h':s.sl u = .d (.int k m)) (e:b=c) (e':m=n):RetAll T s [.tmp t,.tmp u] [.d (.bool c),.d (.int k n)]:=⟨rtB h e,rtI h' e',trivial⟩
theorem zo6 {c:Ctry} (h:CtryOk c) {id:Int} (ht:(towG c.T id).2=true):TwrOk c (towG c.T id).1:=by
 unfold towG at ht ⊢
 split at ht
 ·cases ht
 rename_i h1
 rw[kG h1]
 exact h.w _ (zfe h1).1
theorem zoL (c:Ctry) (id:Int) (p:Place) (h t:Int):Spec PP 90 [c.v,N id,p.v,N h,N t] [B (seesE c id p h t).1,.d (.int .i64 (seesE c id p h t).2)]:=by
 refine sA Tryz.func90 ?_
 refine cP (zlm c) rfl rfl ?_
 apply bY <;> intro h0
 ·have h0:ctryE c≠0:=by simpa using h0
  have e:seesE c id p h t=(false,ctryE c):=by unfold seesE; rw[kH h0]
  rw[e]
  exact r2BI rfl rfl rfl rfl
 have h0:ctryE c=0:=by simpa using h0
 have ok:=zhC h0
 refine cP (zp6 c id (by have:=ok.t; omega)) rfl rfl ?_
 apply bY <;> intro h1
 ·have h1:(towG c.T id).2=false:=by simpa using h1
  have e:seesE c id p h t=(false,5):=by unfold seesE; rw[kG (fun hh=>hh h0),kH h1]
  rw[e]
  exact r2BI rfl rfl rfl rfl
 have h1:(towG c.T id).2=true:=by simpa using h1
 have e1:seesE c id p h t=if (!onM c.M p || !within h 0 200 || !within t 0 1048576)=true then (false,1) else (seesB c (towG c.T id).1 p h (farZ t c.Z),0):=by
  unfold seesE; rw[kG (fun hh=>hh h0),kG (by rw[h1]; decide)]
 refine cP (g_On c.M p ok.m) rfl rfl ?_
 apply bY <;> intro h2
 ·refine sT (sT (sT (sT ?_)))
  rw[e1,kH (by rw[h2]; rfl)]
  exact r2BI rfl rfl rfl rfl
 refine cP (zaV h 0 200) rfl rfl ?_
 refine sF ?_
 apply bY <;> intro h3
 ·refine sT (sT ?_)
  rw[e1,kH (by rw[h2,h3]; rfl)]
  exact r2BI rfl rfl rfl rfl
 refine cP (zaV t 0 1048576) rfl rfl ?_
 refine sF ?_
 apply bY <;> intro h4
 ·rw[e1,kH (by rw[h2,h3,h4]; rfl)]
  exact r2BI rfl rfl rfl rfl
 have hon:onM c.M p=true:=by simpa using h2
 have hh:within h 0 200=true:=by simpa using h3
 refine oN 10 ?_
 refine oP (g_far c t (by have:=ok.z; omega)) rfl rfl ?_
 refine oP (zrP c (towG c.T id).1 p h (farZ t c.Z) ok.m (zo6 ok h1) hon (zaa.1 hh) (zlt ok.f)) rfl rfl ?_
 rw[e1,kG (by rw[h2,h3,h4]; decide)]
 exact r2BI rfl rfl rfl rfl
theorem zhG (n p:Int) (hp:0<p/\p<=1000000) (hn:-1000000000000<=n/\n<=1000000000000):Spec PP 145 [N n,N p] [N (n / p)]:=by
 have h1:=jaB n hp.1
 have h2:=jaB (-n) hp.1
 rw[Int.neg_tmod] at h2
 have e:(n.tmod p+p).tmod p=n % p:=by
  rw[jal (by omega),jbp]
  rw[Int.tmod_def,ja3]
 have hm:=Int.emod_nonneg n (show p≠0 by omega)
 have hl:=ja9 n hp.1
 have hd:=Int.emod_add_mul_ediv n p
 have eq:(n - (n.tmod p+p).tmod p).tdiv p=n / p:=by
  rw[e,show n - n % p=n / p * p by rw[jbo]; omega]
  exact Int.mul_tdiv_cancel _ (by omega)
 have g1:-1000000000000<=n / p:=(jaF hp.1).2 (by omega)
 have g2:n / p<=1000000000000:=jaJ hp.1 (by omega)
 refine sA Tryz.func145 ?_
 refine⟨by omega,⟨i6,⟨by omega,⟨zaZ (by rw[e]; omega) (by rw[e]; omega),⟨⟨by omega,zaZ (by rw[eq]; omega) (by rw[eq]; omega)⟩,?_⟩⟩⟩⟩⟩
 exact r1I rfl eq
theorem zlT (n p:Int) (hp:0<p/\p<=1000000) (hn:-1000000000000<=n/\n<=1000000000000):Spec PP 133 [N n,N p] [N (-(-n / p))]:=by
 have g1:-1000000000000 <= -n / p:=(jaF hp.1).2 (by omega)
 have g2:-n / p<=1000000000000:=jaJ hp.1 (by omega)
 refine sA Tryz.func133 ?_
 refine⟨i6,?_⟩
 refine cP (zhG (-n) p hp (by omega)) rfl rfl ?_
 refine⟨i6,?_⟩
 exact r1I rfl rfl
theorem zc0 (n:Int) (l:List Int) (hn:l.length<=1000000):Spec PP 186 [N n,.d (lI l)] [N (l.foldl max n)]:=by
 refine sA Tryz.func186 ?_
 refine LoopOb.of (σ:=Nat) (fun i=>([(0,.d (I ((l.take i).foldl max n))),(7,.d (lI l)),(8,.d (I l.length)),(9,.d (I i))],[])) (fun i=>i<=l.length) (fun i=>l.length - i) 0
  ⟨rfl,trivial,wq rfl⟩ (jF _) fun i hi=>?_
 apply bY <;> intro h1
 ·have h1:i<l.length:=by have:=dT h1; omega
  refine⟨⟨rfl,by omega,by omega⟩,?_⟩
  refine⟨i6,?_⟩
  refine⟨i+1,⟨rfl,trivial,avI rfl ?_,wq rfl⟩,h1,(msr (by omega))⟩
  rw[zay h1 0,jai]; rfl
 have h1:i=l.length:=by have:=dF h1; omega
 subst h1
 refine r1I rfl ?_
 rw[jZ]
theorem zek {f:Nat->Nat->D} {a:Int} (h:f 0 0=I a):D.eqv (.slc 1 1 f) (lI [a]):=
 ⟨rfl,.inr ⟨rfl,fun i hi j hj=>by
  obtain rfl:i=0:=by omega
  obtain rfl:j=0:=by omega
  rw[h]; exact⟨rfl,rfl⟩⟩⟩
def drf (x:Cir) (a b:Int):Int:=-(-(x.Drift * max (a - b) (b - a)) / 60)
theorem zhH (x:Cir) (a b:Int) (hx:0<=x.Drift/\x.Drift<=60) (ha:0<=a/\a<=1048576) (hb:0<=b/\b<=1048576):Spec PP 82 [x.v,N a,N b] [N (drf x a b)]:=by
 have m1:=mulB (a:=x.Drift) (b:=max (a - b) (b - a)) (x:=60) (y:=1048576) (by omega) (by omega)
 refine sA Tryz.func82 ?_
 have mI:inR .i64 (x.Drift * max (a - b) (b - a)):=i6
 refine⟨i6,⟨i6,⟨mI,?_⟩⟩⟩
 refine cP (zlT (x.Drift * max (a - b) (b - a)) 60 (by decide) (by omega)) rfl rfl ?_
 exact r1I rfl rfl
def cirE (x:Cir):Int:=if ((!within x.ID 1 1099511627776) || (![x.At].all on) || decide (x.From<0) || decide (x.To<x.From) || decide (1048576<x.To) || decide (x.Lo < -300) || decide (x.Hi<x.Lo) || decide (300<x.Hi) || (!within x.Drift 0 60))=true then 1 else 0
theorem zlQ (x:Cir):Spec PP 73 [x.v] [.d (.int .i64 (cirE x))]:=by
 refine sA Tryz.func73 ?_
 refine cP (zaB x.ID 1 1099511627776) rfl rfl ?_
 apply bY <;> intro k0
 ·have k0:(!within x.ID 1 1099511627776)=true:=k0
  refine sT (sT (sT (sT (sT (sT (sT (sT (sT (sT (sT (sT (sT (sT (sT (sT ?_)))))))))))))))
  refine r1I rfl ?_
  unfold cirE; rw[kH (by simp only[k0,qJ,qY])]
 have k0:(!within x.ID 1 1099511627776)=false:=k0
 refine pEq (c_on [x.At] (jD rfl)) rfl (ziQ (at2 rfl rfl)) rfl ?_
 refine sF ?_
 apply bY <;> intro k1
 ·have k1:(![x.At].all on)=true:=k1
  refine sT (sT (sT (sT (sT (sT (sT (sT (sT (sT (sT (sT (sT (sT ?_)))))))))))))
  refine r1I rfl ?_
  unfold cirE; rw[kH (by simp only[k0,k1,qJ,qY])]
 have k1:(![x.At].all on)=false:=k1
 refine sF ?_
 apply bY <;> intro k2
 ·have k2:decide (x.From<0)=true:=k2
  refine sT (sT (sT (sT (sT (sT (sT (sT (sT (sT (sT (sT ?_)))))))))))
  refine r1I rfl ?_
  unfold cirE; rw[kH (by simp only[k0,k1,k2,qJ,qY])]
 have k2:decide (x.From<0)=false:=k2
 refine sF ?_
 apply bY <;> intro k3
 ·have k3:decide (x.To<x.From)=true:=k3
  refine sT (sT (sT (sT (sT (sT (sT (sT (sT (sT ?_)))))))))
  refine r1I rfl ?_
  unfold cirE; rw[kH (by simp only[k0,k1,k2,k3,qJ,qY])]
 have k3:decide (x.To<x.From)=false:=k3
 refine sF ?_
 apply bY <;> intro k4
 ·have k4:decide (1048576<x.To)=true:=k4
  refine sT (sT (sT (sT (sT (sT (sT (sT ?_)))))))
  refine r1I rfl ?_
  unfold cirE; rw[kH (by simp only[k0,k1,k2,k3,k4,qJ,qY])]
 have k4:decide (1048576<x.To)=false:=k4
 refine sF ?_
 apply bY <;> intro k5
 ·have k5:decide (x.Lo < -300)=true:=k5
  refine sT (sT (sT (sT (sT (sT ?_)))))
  refine r1I rfl ?_
  unfold cirE; rw[kH (by simp only[k0,k1,k2,k3,k4,k5,qJ,qY])]
 have k5:decide (x.Lo < -300)=false:=k5
 refine sF ?_
 apply bY <;> intro k6
 ·have k6:decide (x.Hi<x.Lo)=true:=k6
  refine sT (sT (sT (sT ?_)))
  refine r1I rfl ?_
  unfold cirE; rw[kH (by simp only[k0,k1,k2,k3,k4,k5,k6,qJ,qY])]
 have k6:decide (x.Hi<x.Lo)=false:=k6
 refine sF ?_
 apply bY <;> intro k7
 ·have k7:decide (300<x.Hi)=true:=k7
  refine sT (sT ?_)
  refine r1I rfl ?_
  unfold cirE; rw[kH (by simp only[k0,k1,k2,k3,k4,k5,k6,k7,qJ,qY])]
 have k7:decide (300<x.Hi)=false:=k7
 refine cP (zaB x.Drift 0 60) rfl rfl ?_
 refine sF ?_
 apply bY <;> intro k8
 ·have k8:(!within x.Drift 0 60)=true:=k8
  refine r1I rfl ?_
  unfold cirE; rw[kH (by simp only[k0,k1,k2,k3,k4,k5,k6,k7,k8,qJ,qY])]
 have k8:(!within x.Drift 0 60)=false:=k8
 refine r1I rfl ?_
 unfold cirE; rw[kG (by rw[k0,k1,k2,k3,k4,k5,k6,k7,k8]; decide)]
theorem zhI (x:Cir) (id:Int):Spec PP 127 [x.v,.d (capB [I id])] [B (x.ID==id)]:=by
 refine sA Tryz.func127 ?_
 exact r1B rfl rfl
theorem zjy (x:Chk) (id:Int):Spec PP 130 [x.v,.d (capB [I id])] [B (x.ID==id)]:=by
 refine sA Tryz.func130 ?_
 exact r1B rfl rfl
def cirI (c:Cirs) (id:Int):Int:=idxL (fun x:Cir=>x.ID==id) c.C
def chkI (c:Cirs) (id:Int):Int:=idxL (fun x:Chk=>x.ID==id) c.K
theorem zc1 (c:Cirs) (id:Int) (hn:c.C.length<=1000000):Spec PP 74 [c.v,N id] [N (cirI c id)]:=by
 refine sA Tryz.func74 ?_
 refine CallSt.fz [3] (zol c.C 127 (capB [I id]) (fun t=>t.ID==id) hn (fun i hi=>zhI _ id)) rfl rfl ?_
 exact r1I rfl rfl
theorem zlS (c:Cirs) (id:Int) (hn:c.K.length<=1000000):Spec PP 76 [c.v,N id] [N (chkI c id)]:=by
 refine sA Tryz.func76 ?_
 refine CallSt.fz [3] (zqZ c.K 130 (capB [I id]) (fun t=>t.ID==id) hn (fun i hi=>zjy _ id)) rfl rfl ?_
 exact r1I rfl rfl
def chkB (k:Chk):Bool:=(!within k.ID 1 1099511627776) || (![k.Mark].all on) || (!within k.Shown 0 3599) || (!within k.Slack 1 100)
def chkO (c:Cirs) (k:Chk):Cir:=c.C.getD (cirI c k.C).toNat default
def chkE (c:Cirs) (k:Chk):Int:=
 if chkB k=true then 1 else if cirI c k.C<0 then 5
 else if (decide (k.Mark=(chkO c k).At) || !within k.Tick (chkO c k).From (chkO c k).To)=true then 1 else 0
theorem zbk {c:Cirs} {id:Int} (h:¬ cirI c id<0):(cirI c id).toNat<c.C.length/\cirI c id=((cirI c id).toNat:Int):=by
 rcases idxL_cases (fun t:Cir=>t.ID==id) c.C default with⟨h1,_⟩ | ⟨i,h1,h2,_⟩
 ·exact absurd (show cirI c id<0 by unfold cirI; rw[h1]; decide) h
 unfold cirI; rw[h2]; simp; exact h1
theorem zlR (c:Cirs) (k:Chk) (hn:c.C.length<=1000000):Spec PP 75 [c.v,k.v] [.d (.int .i64 (chkE c k))]:=by
 refine sA Tryz.func75 ?_
 refine cP (zaB k.ID 1 1099511627776) rfl rfl ?_
 apply bY <;> intro k0
 ·have k0:(!within k.ID 1 1099511627776)=true:=k0
  refine sT (sT (sT (sT (sT (sT ?_)))))
  refine r1I rfl ?_
  unfold chkE chkB; rw[kH (by simp only[k0,qJ,qY])]
 have k0:(!within k.ID 1 1099511627776)=false:=k0
 refine pEq (c_on [k.Mark] (jD rfl)) rfl (ziQ (at2 rfl rfl)) rfl ?_
 refine sF ?_
 apply bY <;> intro k1
 ·have k1:(![k.Mark].all on)=true:=k1
  refine sT (sT (sT (sT ?_)))
  refine r1I rfl ?_
  unfold chkE chkB; rw[kH (by simp only[k0,k1,qJ,qY])]
 have k1:(![k.Mark].all on)=false:=k1
 refine cP (zb9 k.Shown) rfl rfl ?_
 refine sF ?_
 apply bY <;> intro k2
 ·have k2:(!within k.Shown 0 3599)=true:=k2
  refine sT (sT ?_)
  refine r1I rfl ?_
  unfold chkE chkB; rw[kH (by simp only[k0,k1,k2,qJ,qY])]
 have k2:(!within k.Shown 0 3599)=false:=k2
 refine cP (zaB k.Slack 1 100) rfl rfl ?_
 refine sF ?_
 apply bY <;> intro k3
 ·have k3:(!within k.Slack 1 100)=true:=k3
  refine r1I rfl ?_
  unfold chkE chkB; rw[kH (by simp only[k0,k1,k2,k3,qJ,qY])]
 have k3:(!within k.Slack 1 100)=false:=k3
 have e0:chkB k=false:=by unfold chkB; rw[k0,k1,k2,k3]; rfl
 refine cP (zc1 c k.C hn) rfl rfl ?_
 apply bY <;> intro h1
 ·refine r1I rfl ?_
  unfold chkE; rw[kG (by rw[e0]; decide),kH (dT h1)]
 have h1:¬ cirI c k.C<0:=dF h1
 obtain⟨h2,h3⟩:=zbk h1
 refine⟨⟨rfl,by omega,by omega⟩,?_⟩
 apply bY <;> intro h4
 ·have h4:k.Mark=(chkO c k).At:=kQ ((eqPW _ _).symm.trans h4)
  refine sT (sT ?_)
  refine r1I rfl ?_
  unfold chkE; rw[kG (by rw[e0]; decide),kG h1,kH (by rw[jG h4]; rfl)]
 have h4:k.Mark≠(chkO c k).At:=jaX ((eqPW _ _).symm.trans h4)
 refine cP (zaB k.Tick (chkO c k).From (chkO c k).To) rfl rfl ?_
 refine sF ?_
 apply bY <;> intro h5
 ·refine r1I rfl ?_
  unfold chkE; rw[kG (by rw[e0]; decide),kG h1,kH (by rw[h5,qJ])]
 refine r1I rfl ?_
 unfold chkE; rw[kG (by rw[e0]; decide),kG h1,kG (by rw[h5,jH h4]; decide)]
def cir1E (c:Cirs) (i:Nat):Int:=if cirE (c.C.getD i default)≠0 then cirE (c.C.getD i default) else if cirI c (c.C.getD i default).ID<i then 6 else 0
def chk1E (c:Cirs) (i:Nat):Int:=if chkE c (c.K.getD i default)≠0 then chkE c (c.K.getD i default) else if chkI c (c.K.getD i default).ID<i then 6 else 0
def cirsE (c:Cirs):Int:=if 12<c.C.length \/ 60<c.K.length then 2
 else if err1 (cir1E c) c.C.length≠0 then err1 (cir1E c) c.C.length else err1 (chk1E c) c.K.length
abbrev bxCs (c:Cirs):Ob:=.box [.d (lC c.C),.d (lK c.K)]
theorem obCs {s:St} {ob:Nat->Option Ob} {c:Cirs} {o:Option Ob} (g:o=some (bxCs c)):Oble s ob o (bxCs c):=obD [lC c.C,lK c.K] g
theorem zhJ (c:Cirs):Spec PP 22 [c.v] [.d (.int .i64 (cirsE c))]:=by
 refine sA Tryz.func22 ?_
 apply bY <;> intro h1
 ·have h1:12<c.C.length:=by have:=dT h1; omega
  refine sT (sT ?_)
  refine r1I rfl ?_
  unfold cirsE; rw[kH (.inl h1)]
 have h1:¬ 12<c.C.length:=by have:=dF h1; omega
 refine sF ?_
 apply bY <;> intro h2
 ·have h2:60<c.K.length:=by have:=dT h2; omega
  refine r1I rfl ?_
  unfold cirsE; rw[kH (.inr h2)]
 have h2:¬ 60<c.K.length:=by have:=dF h2; omega
 have e0:cirsE c=if err1 (cir1E c) c.C.length≠0 then err1 (cir1E c) c.C.length else err1 (chk1E c) c.K.length:=by unfold cirsE; rw[kG (by omega)]
 refine LoopOb.of (σ:=Nat) (fun i=>([(1,.box 1 0),(20,.d (lC c.C)),(21,.d (I c.C.length)),(22,.d (I i))],[(1,bxCs c)])) (fun i=>i<=c.C.length /\ ∀ j,j<i->cir1E c j=0) (fun i=>c.C.length - i) 0
  ⟨rfl,⟨obCs rfl,trivial⟩,wq rfl⟩ z0L fun i hi=>?_
 obtain⟨hi,ha⟩:=hi
 apply bY <;> intro h3
 ·have h3:i<c.C.length:=by have:=dT h3; omega
  have bad:cir1E c i≠0->cirsE c=cir1E c i:=fun h=>by
   have:=zaN ha h h3
   rw[e0,kH (by rw[this]; exact h),this]
  refine⟨⟨rfl,by omega,by omega⟩,?_⟩
  refine cP (zlQ (c.C.getD i default)) rfl rfl ?_
  apply bY <;> intro h4
  ·have h4:cirE (c.C.getD i default)≠0:=by simpa using h4
   refine r1I rfl ?_
   have e:cir1E c i=cirE (c.C.getD i default):=by unfold cir1E; rw[kH h4]
   rw[bad (by rw[e]; exact h4),e]
  have h4:cirE (c.C.getD i default)=0:=by simpa using h4
  refine cP (zc1 c (c.C.getD i default).ID (by omega)) rfl rfl ?_
  apply bY <;> intro h5
  ·have h5:cirI c (c.C.getD i default).ID<i:=dT h5
   refine r1I rfl ?_
   have e:cir1E c i=6:=by unfold cir1E; rw[kG (fun hh=>hh h4),kH h5]
   rw[bad (by rw[e]; decide),e]
  have h5:¬ cirI c (c.C.getD i default).ID<i:=dF h5
  have e:cir1E c i=0:=by unfold cir1E; rw[kG (fun hh=>hh h4),kG h5]
  refine⟨i6,?_⟩
  refine⟨i+1,⟨rfl,⟨obCs rfl,trivial⟩,wq rfl⟩,⟨h3,fun j hj=>?_⟩,(msr (by omega))⟩
  by_cases q:j=i
  ·subst q; exact e
  exact ha j (by omega)
 have h3:i=c.C.length:=by have:=dF h3; omega
 subst h3
 have e1:cirsE c=err1 (chk1E c) c.K.length:=by rw[e0,za7 ha]; rfl
 clear ha
 refine LoopOb.of (σ:=Nat) (fun i=>([(1,.box 1 0),(40,.d (lK c.K)),(41,.d (I c.K.length)),(42,.d (I i))],[(1,bxCs c)])) (fun i=>i<=c.K.length /\ ∀ j,j<i->chk1E c j=0) (fun i=>c.K.length - i) 0
  ⟨rfl,⟨obCs rfl,trivial⟩,wq rfl⟩ z0L fun i hi=>?_
 obtain⟨hi,ha⟩:=hi
 apply bY <;> intro h3
 ·have h3:i<c.K.length:=by have:=dT h3; omega
  have bad:chk1E c i≠0->cirsE c=chk1E c i:=fun h=>by rw[e1,zaN ha h h3]
  refine⟨⟨rfl,by omega,by omega⟩,?_⟩
  refine cP (zlR c (c.K.getD i default) (by omega)) rfl rfl ?_
  apply bY <;> intro h4
  ·have h4:chkE c (c.K.getD i default)≠0:=by simpa using h4
   refine r1I rfl ?_
   have e:chk1E c i=chkE c (c.K.getD i default):=by unfold chk1E; rw[kH h4]
   rw[bad (by rw[e]; exact h4),e]
  have h4:chkE c (c.K.getD i default)=0:=by simpa using h4
  refine cP (zlS c (c.K.getD i default).ID (by omega)) rfl rfl ?_
  apply bY <;> intro h5
  ·have h5:chkI c (c.K.getD i default).ID<i:=dT h5
   refine r1I rfl ?_
   have e:chk1E c i=6:=by unfold chk1E; rw[kG (fun hh=>hh h4),kH h5]
   rw[bad (by rw[e]; decide),e]
  have h5:¬ chkI c (c.K.getD i default).ID<i:=dF h5
  have e:chk1E c i=0:=by unfold chk1E; rw[kG (fun hh=>hh h4),kG h5]
  refine⟨i6,?_⟩
  refine⟨i+1,⟨rfl,⟨obCs rfl,trivial⟩,wq rfl⟩,⟨h3,fun j hj=>?_⟩,(msr (by omega))⟩
  by_cases q:j=i
  ·subst q; exact e
  exact ha j (by omega)
 have h3:i=c.K.length:=by have:=dF h3; omega
 subst h3
 refine r1I rfl ?_
 rw[e1,za7 ha]
structure CirOk (x:Cir):Prop where
  id:1<=x.ID/\x.ID<=1099511627776
  on:on x.At=true
  t:0<=x.From/\x.From<=x.To/\x.To<=1048576
  z:-300<=x.Lo/\x.Lo<=x.Hi/\x.Hi<=300
  d:0<=x.Drift/\x.Drift<=60
structure ChkOk (c:Cirs) (k:Chk):Prop where
  id:1<=k.ID/\k.ID<=1099511627776
  on:on k.Mark=true
  s:0<=k.Shown/\k.Shown<=3599
  l:1<=k.Slack/\k.Slack<=100
  cc:0<=cirI c k.C
  ne:k.Mark≠(chkO c k).At
  t:(chkO c k).From<=k.Tick/\k.Tick<=(chkO c k).To
structure CirsOk (c:Cirs):Prop where
  n:c.C.length<=12
  m:c.K.length<=60
  cs:∀ i,i<c.C.length->CirOk (c.C.getD i default)
  ci:∀ i,i<c.C.length->(i:Int)<=cirI c (c.C.getD i default).ID
  ks:∀ i,i<c.K.length->ChkOk c (c.K.getD i default)
  ki:∀ i,i<c.K.length->(i:Int)<=chkI c (c.K.getD i default).ID
theorem zr5 {x:Cir} (h:cirE x=0):CirOk x:=by
 unfold cirE at h
 split at h
 ·cases h
 rename_i h1
 simp only[jX,jY,not_or,wA,kA,ja8,List.all_nil,jak] at h1
 obtain⟨⟨⟨⟨⟨⟨⟨⟨a,b⟩,c⟩,d⟩,e⟩,f⟩,g⟩,i⟩,j⟩:=h1
 exact⟨zaa.1 a,b,by omega,by omega,zaa.1 j⟩
theorem zr6 {c:Cirs} {k:Chk} (h:chkE c k=0):ChkOk c k:=by
 unfold chkE at h
 split at h
 ·cases h
 rename_i h1
 split at h
 ·cases h
 rename_i h2
 split at h
 ·cases h
 rename_i h3
 unfold chkB at h1
 simp only[jX,jY,not_or,wA,kA,ja8,List.all_nil,jak] at h1 h3
 obtain⟨⟨⟨a,b⟩,c⟩,d⟩:=h1
 exact⟨zaa.1 a,b,zaa.1 c,zaa.1 d,by omega,h3.1,zaa.1 h3.2⟩
theorem zbS {c:Cirs} (h:cirsE c=0):CirsOk c:=by
 unfold cirsE at h
 split at h
 ·cases h
 rename_i h1
 split at h
 ·rename_i h2; exact absurd h h2
 rename_i h2
 have hT:err1 (cir1E c) c.C.length=0:=jL h2
 have a:=zbh hT
 have b:=zbh h
 have A:∀ i,i<c.C.length->cirE (c.C.getD i default)=0/\(i:Int)<=cirI c (c.C.getD i default).ID:=fun i hi=>by
  have:=a i hi
  unfold cir1E at this
  split at this
  ·rename_i h4; exact absurd this h4
  rename_i h4
  split at this
  ·cases this
  exact⟨jL h4,by omega⟩
 have B:∀ i,i<c.K.length->chkE c (c.K.getD i default)=0/\(i:Int)<=chkI c (c.K.getD i default).ID:=fun i hi=>by
  have:=b i hi
  unfold chk1E at this
  split at this
  ·rename_i h4; exact absurd this h4
  rename_i h4
  split at this
  ·cases this
  exact⟨jL h4,by omega⟩
 exact⟨by omega,by omega,fun i hi=>zr5 (A i hi).1,fun i hi=>(A i hi).2,fun i hi=>zr6 (B i hi).1,fun i hi=>(B i hi).2⟩
abbrev Chk.ds (x:Chk):List D:=[I x.ID,I x.C,I x.Tick,I x.Mark.X,I x.Mark.Y,I x.Shown,I x.Slack]
abbrev Cir.ds (x:Cir):List D:=[I x.ID,I x.At.X,I x.At.Y,I x.From,I x.To,I x.Lo,I x.Hi,I x.Drift]
def aloT (b:Int × Int) (s l:Int):Spn:=⟨max (-300) (-(-((s - l) * b.2 - b.1) / b.2)),-(max (-300) (-(((s+l) * b.2 - b.1) / b.2)))⟩
def aloR (f:Nat->Spn):Nat->Nat->Spn
 | _,0=>⟨1,0⟩
 | i,n+1=>if (f i).Lo<=(f i).Hi then f i else aloR f (i+1) n
def aloF (x:Cir) (k:Chk) (i:Nat):Spn:=aloT (bear x.At k.Mark) (k.Shown+((i:Int) - 1) * 3600) k.Slack
def alo (x:Cir) (k:Chk):Spn:=aloR (aloF x k) 0 3
theorem zlA {n p b:Int} (hp:0<p) (hb:0<=b) (h:-b<=n/\n<=b):-b<=n / p/\n / p<=b:=by
 have h1:b * 1<=b * p:=jbi (by omega) hb
 have h2:-b * p = -(b * p):=Int.neg_mul b p
 exact⟨(jaF hp).2 (by omega),jaJ hp (by omega)⟩
theorem zqt (x:Cir) (k:Chk) (ha:on x.At=true) (hm:on k.Mark=true) (hne:x.At≠k.Mark) (hs:0<=k.Shown/\k.Shown<=3599) (hl:1<=k.Slack/\k.Slack<=100):Spec PP 181 [x.v,k.v] [(alo x k).v]:=by
 have hb:=zbX ha hm hne
 refine sA Tryz.func181 ?_
 refine cP (zel x.At k.Mark ha hm hne) rfl rfl ?_
 refine LoopOb.of (σ:=Nat) (fun i=>([(3,.box 3 0),(4,.box 4 0),(5,.d (I (bear x.At k.Mark).1)),(6,.d (I (bear x.At k.Mark).2)),(7,.d (I ((i:Int) - 1)))],[(3,.box (k.ds.map AV.d)),(4,.box [.d (I 0),.d (I 0)])])) (fun i=>i<=3/\aloR (aloF x k) i (3 - i)=alo x k) (fun i=>3 - i) 0
  ⟨rfl,⟨obD k.ds rfl,obD [I 0,I 0] rfl,trivial⟩,wq rfl⟩ ⟨jF _,rfl⟩ fun i hi=>?_
 obtain⟨hi,ha⟩:=hi
 apply bY <;> intro h1
 ·have h1:(i:Int) - 1<=1:=dT h1
  refine⟨i6,⟨i6,?_⟩⟩
  obtain⟨S,hS⟩:∃ S,S=k.Shown+((i:Int) - 1) * 3600:=⟨_,rfl⟩
  have sb:-3600<=S/\S<=7199:=by omega
  have m1:=mulB (a:=S - k.Slack) (b:=(bear x.At k.Mark).2) (x:=10000) (y:=48) (by omega) (by omega)
  have m2:=mulB (a:=S+k.Slack) (b:=(bear x.At k.Mark).2) (x:=10000) (y:=48) (by omega) (by omega)
  have q1:=zlA (n:=-((S - k.Slack) * (bear x.At k.Mark).2 - (bear x.At k.Mark).1)) (b:=1000000) hb.1.1 (by omega) (by omega)
  have q2:=zlA (n:=(S+k.Slack) * (bear x.At k.Mark).2 - (bear x.At k.Mark).1) (b:=1000000) hb.1.1 (by omega) (by omega)
  have hf:aloF x k i=aloT (bear x.At k.Mark) S k.Slack:=by rw[hS]; rfl
  rw[<- hS]
  refine oN 29 ?_
  refine⟨i6,⟨i6,⟨i6,?_⟩⟩⟩
  refine oP (zlT ((S - k.Slack) * (bear x.At k.Mark).2 - (bear x.At k.Mark).1) (bear x.At k.Mark).2 (by omega) (by omega)) rfl rfl ?_
  refine CallOb.pureE (zc0 (-300) [_] (jD rfl)) rfl ⟨⟨rfl,rfl⟩,zek rfl,trivial⟩ rfl ?_
  refine⟨i6,⟨i6,⟨i6,?_⟩⟩⟩
  refine oP (zhG ((S+k.Slack) * (bear x.At k.Mark).2 - (bear x.At k.Mark).1) (bear x.At k.Mark).2 (by omega) (by omega)) rfl rfl ?_
  refine⟨i6,?_⟩
  refine CallOb.pureE (zc0 (-300) [_] (jD rfl)) rfl ⟨⟨rfl,rfl⟩,zek rfl,trivial⟩ rfl ?_
  have g1:(aloT (bear x.At k.Mark) S k.Slack).Lo=max (-300) (-(-((S - k.Slack) * (bear x.At k.Mark).2 - (bear x.At k.Mark).1) / (bear x.At k.Mark).2)):=rfl
  have g2:(aloT (bear x.At k.Mark) S k.Slack).Hi = -(max (-300) (-(((S+k.Slack) * (bear x.At k.Mark).2 - (bear x.At k.Mark).1) / (bear x.At k.Mark).2))):=rfl
  have mI:inR .i64 (aloT (bear x.At k.Mark) S k.Slack).Hi:=zaZ (by rw[g2]; omega) (by rw[g2]; omega)
  refine⟨mI,?_⟩
  apply bY <;> intro h2
  ·have h2:(aloT (bear x.At k.Mark) S k.Slack).Lo<=(aloT (bear x.At k.Mark) S k.Slack).Hi:=dT h2
   have e:alo x k=aloT (bear x.At k.Mark) S k.Slack:=by
    rw[<- ha,show 3 - i=(3 - (i+1))+1 by omega,<- hf]
    unfold aloR
    rw[kH (by rw[hf]; exact h2)]
   rw[e]
   exact r1C rfl rfl rfl rfl rfl rfl (zlv rfl rfl)
  have h2:¬ (aloT (bear x.At k.Mark) S k.Slack).Lo<=(aloT (bear x.At k.Mark) S k.Slack).Hi:=dF h2
  have e:alo x k=aloR (aloF x k) (i+1) (3 - (i+1)):=by
   rw[<- ha,show 3 - i=(3 - (i+1))+1 by omega]
   conv=>lhs; unfold aloR
   rw[kG (by rw[hf]; exact h2)]
  refine⟨i6,?_⟩
  refine⟨i+1,⟨rfl,⟨obD k.ds rfl,obD [I 0,I 0] rfl,trivial⟩,avQ rfl,avQ rfl,avR _ rfl,avR _ rfl,avI rfl (by omega),trivial⟩,⟨by omega,e.symm⟩,(msr (by omega))⟩
 have h1:i=3:=by have:¬ (i:Int) - 1<=1:=dF h1; omega
 subst h1
 have e:alo x k=⟨1,0⟩:=ha.symm
 rw[e]
 exact r1C rfl rfl rfl rfl rfl rfl (zlv rfl rfl)
end Go.Pg
namespace Go.Pg
open Go.RowKit Go.Proofs Go.Shelf Go.Sort Go.Lib
theorem zcB {w w':World} (h:Below w.heap.size w w') (hd:w.drawn<=w'.drawn):∃ q os,w'=grow (w.drewN q) os:=by
 refine⟨w'.drawn - w.drawn,w'.heap.extract w.heap.size w'.heap.size,?_⟩
 have hh:w.heap++w'.heap.extract w.heap.size w'.heap.size=w'.heap:=by
  apply Array.ext_getElem?
  intro k
  by_cases hk:k<w.heap.size
  ·rw[jaG hk,h.block k hk]
  rw[Array.getElem?_append_right (by omega),Array.getElem?_extract]
  have hs:=h.size
  by_cases hk2:k<w'.heap.size
  ·rw[kH (by omega)]; congr 1; omega
  rw[kG (by omega),jam (by omega)]
 obtain⟨heap,tape,drawn,os,output⟩:=w
 obtain⟨heap',tape',drawn',os',output'⟩:=w'
 have h1:=h.os
 have h2:=h.tape
 have h3:=h.output
 simp only at h1 h2 h3 hh hd
 subst h1 h2 h3
 simp only[grow,World.drewN,hh]
 congr 1
 omega
structure Ints (α:Type) (k:Nat) where
  lst:α->List Int
  len:∀ x,(lst x).length=k
  at_:α->Nat->D
  hat:∀ x j,j<k->at_ x j = .int .i64 ((lst x).getD j 0)
section
variable {α:Type} [Inhabited α] {k:Nat} (A:Ints α k)
def Ints.enc (x:α):List Value:=(A.lst x).map (Value.int .i64)
theorem Ints.enc_len (x:α):(A.enc x).length=k:=by simp[Ints.enc,A.len]
theorem Ints.enc_one (x:α):∀ v∈A.enc x,v.oneCell'=true:=fun v hv=>by
 obtain⟨n,_,rfl⟩:=kK.1 hv; rfl
theorem Ints.enc_get (x:α) {j:Nat} (hj:j<k):(A.enc x)[j]?=some (.int .i64 ((A.lst x).getD j 0)):=by
 have:j<(A.lst x).length:=by rw[A.len]; exact hj
 simp[Ints.enc,jU,kF this,hU]
theorem Ints.rep (x:α) {j:Nat} (hj:j<k) {w:World} {ok:Nat->Prop} {v:Value}:Rep w ok (A.at_ x j) v ↔ v = .int .i64 ((A.lst x).getD j 0):=by
 rw[A.hat x j hj]; exact jbq
theorem Ints.flat_get (d:Array α) {t:Nat} (h:t<d.size * k):(flatK A.enc k d)[t]! = .int .i64 ((A.lst d[t / k]!).getD (t % k) 0):=by
 have hk:0<k:=by
  rcases jat k with h0 | h0
  ·subst h0; simp at h
  exact h0
 rw[get_flatK _ _ _ _ h]
 have:=A.enc_get d[t / k]! (jay t hk)
 rw[List.getElem!_eq_getElem?_getD,this]; rfl
theorem Ints.flat_size (d:Array α):(flatK A.enc k d).size=d.size * k:=by simp[flatK]
def Ints.row (l:List α):Nat->Nat->D:=fun i=>A.at_ (l.getD i default)
theorem zbu (l:List α) {i:Nat} (h:i<l.length):l.toArray[i]! = l.getD i default:=by
 simp[hU,h]
theorem Ints.holds {w:World} {ok:Nat->Prop} {e g cap:Nat} {cur:Array Value} {l:List α} {xs:List Value} (hh:w.heap[g]?=some (.cells cur e (0,0))) (ht:cur.toList.take (l.length * k)=xs)
  (hr:∀ m,m<l.length -> ∀ j,j<k -> ∃ u,xs[m * k+j]?=some u/\Rep w ok (A.row l m j) u):HoldsK A.enc k w g 0 l.toArray:=by
 intro t ht'
 rw[A.flat_size] at ht'
 simp only[jaP] at ht'
 have hk:0<k:=by
  rcases jat k with h0 | h0
  ·subst h0; simp at ht'
  exact h0
 have hm:t / k<l.length:=jaN (by rwa [qI] at ht')
 obtain⟨u,hu,hrep⟩:=hr (t / k) hm (t % k) (jay t hk)
 rw[show A.row l (t / k) (t % k)=A.at_ (l.getD (t / k) default) (t % k) from rfl,A.rep _ (jay t hk)] at hrep
 have e1:t / k * k+t % k=t:=by rw[qI]; exact jaY t k
 rw[e1,<- ht,jS,kH ht'] at hu
 rw[A.flat_get _ (by simpa using ht'),zbu l hm,qH]
 refine⟨?_,?_⟩
 ·simp only[World.cell?,hh,id_eq]
  have:cur[t]?=some u:=by simpa using hu
  simp[this,hrep]
 simp[World.frozen?,hh]
theorem Ints.put {w:World} {e g cap:Nat} {cur:Array Value} (m:Nat) (l:List α) (os:Array Obj) (hh:w.heap[g]?=some (.cells cur e (0,0))) (hlc:l.length<=cap) (hcap:cap<=maxLen) (hcs:cur.size=cap * k) :
  w.grownBy (sortWorldK A.enc k w g 0 m l.toArray os) (some g) /\ ∃ xs',(sortWorldK A.enc k w g 0 m l.toArray os).ownsRow 0 e k (.slice (some ⟨g,0,none⟩) l.length cap) l.length xs'/\(∀ u∈xs',u.oneCell'=true) /\
   ∀ m',m'<l.length -> ∀ j,j<k -> ∃ u,xs'[m' * k+j]?=some u/\Rep (sortWorldK A.enc k w g 0 m l.toArray os) (fun _=>False) (A.row l m' j) u:=by
 have hg:g<w.heap.size:=(jB.1 hh).1
 have hheap:∀ i,i<w.heap.size->(sortWorldK A.enc k w g 0 m l.toArray os).heap[i]?=if i=g then some (.cells (putCells id 0 (flatK A.enc k l.toArray) cur) e (0,0)) else w.heap[i]?:=fun i hi=>by
  simp only[sortWorldK,grow,putRowK,putRow,mapBlock,ahead]
  rw[jaG (by simpa using hi),jbc]
  by_cases e':g=i
  ·subst e'; simp[hh,onCells]
  rw[kG e',kG (fun e''=>e' e''.symm)]; rfl
 refine⟨⟨rfl,rfl,rfl,by simp[sortWorldK,grow,putRowK,putRow,mapBlock,ahead],fun i hi hne=>?_⟩,?_⟩
 ·rw[hheap i hi,kG fun e'=>hne (by rw[e'])]
 have hF:=A.flat_size l.toArray
 simp only[jaP] at hF
 have hle:l.length * k<=cap * k:=jW k hlc
 have hget:∀ t,t<l.length * k->(putCells id 0 (flatK A.enc k l.toArray) cur).toList[t]?=some (.int .i64 ((A.lst (l.getD (t / k) default)).getD (t % k) 0)):=fun t ht=>by
  have hk:0<k:=by
   rcases jat k with h0 | h0
   ·subst h0; simp at ht
   exact h0
  have hm:t / k<l.length:=jaN (by rwa [qI] at ht)
  have hlt:t<cur.size:=by omega
  rw[ja1,putCells,Array.getElem?_mapIdx,qX hlt]
  simp only[qG,jF,true_and,qH,hF,kH ht,Nat.sub_zero,id_eq]
  rw[A.flat_get _ (by simpa using ht),zbu l hm]
 have hsz:(putCells id 0 (flatK A.enc k l.toArray) cur).size=cap * k:=by simp[putCells,hcs]
 have hsz':(putCells id 0 (flatK A.enc k l.toArray) cur).toList.length=cap * k:=(kB).trans hsz
 refine⟨(putCells id 0 (flatK A.enc k l.toArray) cur).toList.take (l.length * k),⟨by rw[jQ,hsz']; exact Nat.min_eq_left hle,.inr ⟨g,cap,_,rfl,jF _,by rw[hheap g hg,kH rfl],hlc,hcap,hsz,rfl⟩⟩,fun u hu=>?_,fun m' hm' j hj=>?_⟩
 ·obtain⟨t,ht⟩:=jaD hu
  rw[jS] at ht
  split at ht
  ·rename_i hlt; rw[hget t hlt] at ht; cases ht; rfl
  cases ht
 have hlt:m' * k+j<l.length * k:=by
  have:(m'+1) * k<=l.length * k:=jW k hm'
  rw[qC] at this; omega
 refine⟨_,by rw[jS,kH hlt]; exact hget _ hlt,?_⟩
 have e1:(m' * k+j) / k=m':=by rw[qI,Nat.mul_add_div (by omega),jbf hj]; simp
 have e2:(m' * k+j) % k=j:=by rw[qI,ja7,jaC hj]
 rw[e1,e2]
 exact (A.rep (l.getD m' default) hj).2 rfl
theorem zje {P:Program} {ρ:Ren} (L:SlLaysF0.n6 P ρ) (hent:Ent P (ρ.f 6)) (aE:∀ w,(isAgg (ρ.t 24)).run P w = .ok true w) (zE:∀ w,(Go.sizeOf (ρ.t 24)).run P w = .ok k w)
  (cf:α->α->Int) (hO:SWO (ltOf cf)) (hT:∀ x y,(ltOf cf) x y=false->(ltOf cf) y x=false->x=y) (g:FuncId)
  (hc:∀ x y,SpecD P g [.agg ((A.lst x).map (D.int .i64)),.agg ((A.lst y).map (D.int .i64))] [.d (.int .i64 (cf x y))]) (e:TypeId) (l:List α) (hn:l.length<=1000000) :
  SpecR P (ρ.f 6) [] [.d (.fn g)] e k l.length (A.row l) (A.row (l.mergeSort fun x y=>!(ltOf cf) y x)) []:=by
 refine⟨hent,fun w ok vs us v xs hok h1 h2 hr=>?_⟩
 cases h1
 cases h2 with
 | cons h2 h3=>
 cases h3
 rename_i fv
 have hfv:fv = .func (.func g) #[] #[]:=h2
 subst hfv
 have hret:ResRep w (fun _=>False) [] (.tuple #[]):=⟨[],rfl,.nil⟩
 have hlen:(l.mergeSort fun x y=>!(ltOf cf) y x).length=l.length:=kY l
 by_cases h0:l=[]
 ·subst h0
  obtain⟨p,cap,rfl⟩:∃ p cap,v = .slice p 0 cap:=by
   rcases hr.own.2 with⟨h3,_⟩ | ⟨q,cap,cur,h3,_⟩
   ·exact⟨_,_,h3⟩
   exact⟨_,_,h3⟩
  refine (AnyF.slices_SortFunc_none L p cap _ w).mono ?_
  rintro en w' ⟨rfl,rfl⟩
  exact⟨_,rfl,⟨rfl,rfl,rfl,jE _,fun _ _ _=>rfl⟩,⟨[],rfl,.nil⟩,xs,hr.own,hr.one,fun m hm=>absurd hm (qQ _)⟩
 rcases hr.own.2 with⟨_,h4⟩ | ⟨q,cap,cur,rfl,_,hh,hnc,hcap,hcs,htk⟩
 ·exact absurd (jag.1 h4) h0
 have hH:=A.holds (cap:=cap) hh htk hr.rep
 have hq:q<w.heap.size:=(jB.1 hh).1
 obtain⟨fn,hf,hnm,hbd⟩:=(hc default default).1
 have hent':∀ args w,(callFunc g args).run P w = .ok (.enter g args) w:=fun args w=>zaz (hc default default).1 args w
 have hcmp:CmpLays P g #[] A.enc k cf q 0 l.toArray.size w:=fun m os dk _ x y=>by
  refine ((hc x y).2 _ (fun _=>False) [.agg (A.enc x).toArray,.agg (A.enc y).toArray] (fun b hb=>hb.elim) ?_).mono ?_
  ·have one:∀ z:α,Rep1 (sortWorldK A.enc k w q 0 m dk os) (fun _=>False) (.agg ((A.lst z).map (D.int .i64))) (.agg (A.enc z).toArray):=fun z=>by
    refine⟨A.enc z,rfl,All2.of_get (by simp[Ints.enc]) fun j a b ha hb=>?_⟩
    rw[jU] at ha
    unfold Ints.enc at hb
    rw[jU] at hb
    cases hz:(A.lst z)[j]? with
    | none=>rw[hz] at ha; cases ha
    | some n=>rw[hz] at ha hb; cases ha; cases hb; exact rfl
   exact .cons (one x) (.cons (one y) .nil)
  rintro en w' ⟨v,rfl,⟨hb,hd⟩,hres⟩
  have hv:v = .int .i64 (cf x y):=hres
  exact⟨by rw[hv],zcB hb (hd rfl)⟩
 have hrun:=AnyQ.slices_SortFunc_total L k aE zE A.enc A.enc_len A.enc_one cf hO g #[] q 0 cap l.toArray w hent' hcmp hH hq (by simp; omega) hT
 simp only[jaP] at hrun
 refine hrun.mono ?_
 rintro en w' ⟨rfl,m,os,rfl⟩
 obtain⟨p1,xs',p2,p3,p4⟩:=A.put m (l.mergeSort fun x y=>!(ltOf cf) y x) os hh (by rw[hlen]; exact hnc) hcap hcs
 rw[hlen] at p2 p4
 exact⟨_,rfl,p1,⟨[],rfl,.nil⟩,xs',p2,p3,p4⟩
end
end Go.Pg
namespace Go.Proofs
open Go.Shelf Go.RowKit Go.Lib Go.Sort
def Tryz.sortT_ren:Go.Shelf.Ren:=⟨fun | 6=>182 | 15=>109 | 14=>218 | 28=>165 | 29=>166 | 20=>228 | 21=>229 | 22=>230 | 23=>231 | 24=>232 | 25=>233 | 26=>234 | 27=>235 | 46=>241 | 47=>208 | 48=>209 | 49=>242 | 50=>243 | 57=>246 | n=>n,fun | 22=>165 | 24=>218 | 25=>272 | 3=>3 | 39=>200 | 0=>0 | 53=>257 | 55=>240 | 4=>4 | 46=>251 | 45=>250 | 50=>93 | 5=>5 | 9=>9 | 66=>288 | 70=>292 | 76=>315 | 77=>235 | n=>n,fun | n=>n⟩
theorem Tryz.sortT:Go.Proofs.SlLaysF0.n6 Tryz.prog Tryz.sortT_ren:={
  mixed:=by kernel_rfl,
  f6:=⟨Tryz.f182.name,by decide,Tryz.func182.trans (jI some (by kernel_rfl))⟩,
  f14:=⟨Tryz.f218.name,by decide,Tryz.func218.trans (jI some (by kernel_rfl))⟩,
  f15:=Tryz.func109.trans (jI some (by kernel_rfl)),
  f20:=⟨Tryz.f228.name,by decide,Tryz.func228.trans (jI some (by kernel_rfl))⟩,
  f21:=⟨Tryz.f229.name,by decide,Tryz.func229.trans (jI some (by kernel_rfl))⟩,
  f22:=⟨Tryz.f230.name,by decide,Tryz.func230.trans (jI some (by kernel_rfl))⟩,
  f23:=⟨Tryz.f231.name,by decide,Tryz.func231.trans (jI some (by kernel_rfl))⟩,
  f24:=⟨Tryz.f232.name,by decide,Tryz.func232.trans (jI some (by kernel_rfl))⟩,
  f25:=⟨Tryz.f233.name,by decide,Tryz.func233.trans (jI some (by kernel_rfl))⟩,
  f26:=⟨Tryz.f234.name,by decide,Tryz.func234.trans (jI some (by kernel_rfl))⟩,
  f27:=⟨Tryz.f235.name,by decide,Tryz.func235.trans (jI some (by kernel_rfl))⟩,
  f28:=Tryz.func165.trans (jI some (by kernel_rfl)),
  f29:=Tryz.func166.trans (jI some (by kernel_rfl)),
  f46:=⟨Tryz.f241.name,by decide,Tryz.func241.trans (jI some (by kernel_rfl))⟩,
  f47:=Tryz.func208.trans (jI some (by kernel_rfl)),
  f48:=Tryz.func209.trans (jI some (by kernel_rfl)),
  f49:=⟨Tryz.f242.name,by decide,Tryz.func242.trans (jI some (by kernel_rfl))⟩,
  f50:=⟨Tryz.f243.name,by decide,Tryz.func243.trans (jI some (by kernel_rfl))⟩,
  f57:=⟨Tryz.f246.name,by decide,Tryz.func246.trans (jI some (by kernel_rfl))⟩,
  t0:=Tryz.underlying0,
  a0:=Tryz.isAgg0,
  z0:=Tryz.sizeOf0,
  v0:=Tryz.zeroValue0,
  t3:=Tryz.underlying3,
  a3:=Tryz.isAgg3,
  z3:=Tryz.sizeOf3,
  v3:=Tryz.zeroValue3,
  t4:=Tryz.underlying4,
  a4:=Tryz.isAgg4,
  z4:=Tryz.sizeOf4,
  v4:=Tryz.zeroValue4,
  t5:=Tryz.underlying5,
  a5:=Tryz.isAgg5,
  z5:=Tryz.sizeOf5,
  v5:=Tryz.zeroValue5,
  t9:=Tryz.underlying9,
  a9:=Tryz.isAgg9,
  z9:=Tryz.sizeOf9,
  v9:=Tryz.zeroValue9,
  t22:=Tryz.underlying165,
  a22:=Tryz.isAgg165,
  z22:=Tryz.sizeOf165,
  v22:=Tryz.zeroValue165,
  t25:=Tryz.underlying272,
  a25:=Tryz.isAgg272,
  z25:=Tryz.sizeOf272,
  v25:=Tryz.zeroValue272,
  t39:=Tryz.underlying200,
  a39:=Tryz.isAgg200,
  z39:=Tryz.sizeOf200,
  v39:=Tryz.zeroValue200,
  t45:=Tryz.underlying250,
  a45:=Tryz.isAgg250,
  z45:=Tryz.sizeOf250,
  v45:=Tryz.zeroValue250,
  t46:=Tryz.underlying251,
  a46:=Tryz.isAgg251,
  z46:=Tryz.sizeOf251,
  v46:=Tryz.zeroValue251,
  t50:=Tryz.underlying93,
  a50:=Tryz.isAgg93,
  z50:=Tryz.sizeOf93,
  v50:=Tryz.zeroValue93,
  t53:=Tryz.underlying257,
  a53:=Tryz.isAgg257,
  z53:=Tryz.sizeOf257,
  v53:=Tryz.zeroValue257,
  t55:=Tryz.underlying240,
  a55:=Tryz.isAgg240,
  z55:=Tryz.sizeOf240,
  v55:=Tryz.zeroValue240,
  t66:=Tryz.underlying288,
  a66:=Tryz.isAgg288,
  z66:=Tryz.sizeOf288,
  v66:=Tryz.zeroValue288,
  t70:=Tryz.underlying292,
  a70:=Tryz.isAgg292,
  z70:=Tryz.sizeOf292,
  v70:=Tryz.zeroValue292,
  t76:=Tryz.underlying315,
  a76:=Tryz.isAgg315,
  z76:=Tryz.sizeOf315,
  v76:=Tryz.zeroValue315,
  t77:=Tryz.underlying235,
  a77:=Tryz.isAgg235,
  z77:=Tryz.sizeOf235,
  v77:=Tryz.zeroValue235 }
end Go.Proofs
namespace Go.Pg
def lOf:=@LoopOb.of
def sYe:=@Split.yes
def sNo:=@Split.no
end Go.Pg
