/- Lemmas, joined by program. -/
import Derived.Test.YtcmghlfakcppkaaGreatJA
set_option maxHeartbeats 4000000
set_option linter.all false
set_option maxRecDepth 100000
namespace Go.Pg
open Go.Proofs Go.RowKit
theorem zaG(n lo hi:Int):Spec PP 241 [N n,N lo,N hi] [B (within n lo hi)]:=by
 refine sA Tryz.func241 ?_
 apply bY<;>intro h1
 ·have h1:decide (lo<=n)=true:=h1
  refine sT ?_
  refine r1B rfl ?_
  unfold within;rw[h1];rfl
 have h1:decide (lo<=n)=false:=h1
 refine sF ?_
 refine r1B rfl ?_
 unfold within;rw[h1];rfl
theorem zhM(n:Int)(hn:-1000000000000<=n/\n<=1000000000000):Spec PP 201 [N n] [N (n%3600)]:=by
 have h1:=wD n (show(0:Int)<3600 by decide)
 have h2:=wD (-n) (show(0:Int)<3600 by decide)
 rw[jbx]at h2
 have e:=Int.tmod_eq_emod (a:=n) (b:=3600)
 refine sA Tryz.func201 ?_
 refine⟨by decide,?_⟩
 apply bY<;>intro h3
 ·have h3:n.tmod 3600<0:=dT h3
  refine⟨i6,?_⟩
  refine r1I rfl ?_
  show n.tmod 3600+3600=n%3600
  rw[Int.tmod_eq_emod]at h3⊢
  split at h3
  ·omega
  rename_i h4
  rw[kG h4]
  show n%3600-3600+3600=n%3600
  omega
 have h3:¬n.tmod 3600<0:=dF h3
 refine r1I rfl ?_
 show n.tmod 3600=n%3600
 rw[Int.tmod_eq_emod]at h3⊢
 split at h3
 ·rename_i h4
  rw[kH h4];omega
 rename_i h4
 have:=jbz n (show(0:Int)<3600 by decide)
 exact absurd h3 (by show ¬¬(n%3600-3600<0);omega)
theorem zob(p:Place):Spec PP 242 [p.v] [B (on p)]:=by
 refine sA Tryz.func242 ?_
 refine cP (zaG p.X 0 48) rfl rfl ?_
 refine cP (zaG p.Y 0 48) rfl rfl ?_
 apply bY<;>intro h1
 ·have h1:within p.X 0 48=true:=h1
  refine sT ?_
  refine r1B rfl ?_
  unfold on;rw[h1];rfl
 have h1:within p.X 0 48=false:=h1
 refine sF ?_
 refine r1B rfl ?_
 unfold on;rw[h1];rfl
theorem zcy{n d:Int}(hd:0<d)(h1:-(3600*d)<=n)(h2:n<0):n+3600*d=n%(3600*d):=by
 rw[<- jbA,Int.emod_eq_of_lt (by omega) (by omega)]
theorem zcx{n d:Int}(h1:0<=n)(h2:n<3600*d):n=n%(3600*d):=(Int.emod_eq_of_lt h1 h2).symm
theorem znj{x y:Int}(h:x≠0\/y≠0):-(3600*(bearP x y).2)<=(bearP x y).1/\(bearP x y).1<3600*(bearP x y).2:=by
 unfold bearP
 repeat' split
 all_goals (dsimp only;omega)
theorem zlq(x y:Int)(h:x≠0\/y≠0)(hx:-48<=x/\x<=48)(hy:-48<=y/\y<=48):Spec PP 250 [N x,N y] [.agg [I ((bearP x y).1%(3600*(bearP x y).2)),I (bearP x y).2]]:=by
 have hr:=znj h
 have hp:=(zew h).2
 refine sA Tryz.func250 ?_
 refine⟨i6,⟨i6,?_⟩⟩
 apply bY<;>intro h1
 ·have h1:max y (-y)<=x:=dT h1
  have e:bearP x y=(450*y,x):=by unfold bearP;rw[kH (by omega)]
  rw[e]at hr hp⊢
  dsimp only at hr hp⊢
  refine⟨i6,?_⟩
  apply bY<;>intro h2
  ·have h2:450*y<0:=dT h2
   refine⟨i6,⟨i6,?_⟩⟩
   exact r1C rfl rfl rfl rfl rfl rfl (zbR (zcy hp hr.1 h2) rfl)
  have h2:¬450*y<0:=dF h2
  exact r1C rfl rfl rfl rfl rfl rfl (zbR (zcx (by omega) hr.2) rfl)
 have h1:¬max y (-y)<=x:=dF h1
 apply bY<;>intro h2
 ·have h2:max x (-x)<=y:=dT h2
  have e:bearP x y=(900*y-450*x,y):=by unfold bearP;rw[kG (by omega),kH (by omega)]
  rw[e]at hr hp⊢
  dsimp only at hr hp⊢
  refine⟨i6,⟨i6,⟨i6,?_⟩⟩⟩
  apply bY<;>intro h3
  ·have h3:900*y-450*x<0:=dT h3
   refine⟨i6,⟨i6,?_⟩⟩
   exact r1C rfl rfl rfl rfl rfl rfl (zbR (zcy hp hr.1 h3) rfl)
  have h3:¬900*y-450*x<0:=dF h3
  exact r1C rfl rfl rfl rfl rfl rfl (zbR (zcx (by omega) hr.2) rfl)
 have h2:¬max x (-x)<=y:=dF h2
 refine⟨i6,?_⟩
 apply bY<;>intro h3
 ·have h3:max y (-y)<= -x:=dT h3
  have ex:max x (-x)= -x:=by omega
  have e:bearP x y=(1800*max x (-x)-450*y,max x (-x)):=by unfold bearP;rw[kG (by omega),kG (by omega),kH (by omega),ex]
  rw[e]at hr hp⊢
  dsimp only at hr hp⊢
  refine⟨i6,⟨i6,⟨i6,?_⟩⟩⟩
  apply bY<;>intro h4
  ·have h4:1800*max x (-x)-450*y<0:=dT h4
   refine⟨i6,⟨i6,?_⟩⟩
   exact r1C rfl rfl rfl rfl rfl rfl (zbR (zcy hp hr.1 h4) rfl)
  have h4:¬1800*max x (-x)-450*y<0:=dF h4
  exact r1C rfl rfl rfl rfl rfl rfl (zbR (zcx (by omega) hr.2) rfl)
 have h3:¬max y (-y)<= -x:=dF h3
 have ey:max y (-y)= -y:=by omega
 have e:bearP x y=(2700*max y (-y)+450*x,max y (-y)):=by unfold bearP;rw[kG (by omega),kG (by omega),kG (by omega),ey]
 rw[e]at hr hp⊢
 dsimp only at hr hp⊢
 refine⟨i6,⟨i6,⟨i6,?_⟩⟩⟩
 apply bY<;>intro h4
 ·have h4:2700*max y (-y)+450*x<0:=dT h4
  refine⟨i6,⟨i6,?_⟩⟩
  exact r1C rfl rfl rfl rfl rfl rfl (zbR (zcy hp hr.1 h4) rfl)
 have h4:¬2700*max y (-y)+450*x<0:=dF h4
 exact r1C rfl rfl rfl rfl rfl rfl (zbR (zcx (by omega) hr.2) rfl)
def brgR(a b:Place):(Int×Int)×Bool:=if(on a&&on b&& !(a==b))=true then(bear a b,true)else((0,0),false)
theorem zik{a b:Place}(h:(on a&&on b&& !(a==b))=false):brgR a b=((0,0),false):=by unfold brgR;rw[kG (by rw[h];decide)]
theorem zgi{a b:Place}(h1:on a=true)(h2:on b=true)(h3:a≠b):brgR a b=(bear a b,true):=by
 unfold brgR;rw[kH (by rw[h1,h2,jax.2 h3];rfl)]
theorem ze1(a b:Place):Spec PP 203 [a.v,b.v] [.agg [I (brgR a b).1.1,I (brgR a b).1.2],B (brgR a b).2]:=by
 refine sA Tryz.func203 ?_
 refine cP (zob a) rfl rfl ?_
 refine cP (zob b) rfl rfl ?_
 apply bY<;>intro h1
 ·have h1:on a=false:=by
   have:(!on a)=true:=h1
   simpa using this
  refine sT (sT ?_)
  rw[zik (by rw[h1];rfl)]
  exact⟨rtC (a:=4) rfl rfl rfl rfl rfl rfl (zaa _),rtB rfl rfl,trivial⟩
 have h1:on a=true:=by
  have:(!on a)=false:=h1
  simpa using this
 refine sF ?_
 apply bY<;>intro h2
 ·have h2:on b=false:=by
   have:(!on b)=true:=h2
   simpa using this
  refine sT ?_
  rw[zik (by rw[h2,kW];rfl)]
  exact⟨rtC (a:=4) rfl rfl rfl rfl rfl rfl (zaa _),rtB rfl rfl,trivial⟩
 have h2:on b=true:=by
  have:(!on b)=false:=h2
  simpa using this
 refine sF ?_
 apply bY<;>intro h3
 ·have h3:(a==b)=true:=by simpa using(eqPW a b).symm.trans h3
  rw[zik (by rw[h3,jaB,kW])]
  exact⟨rtC (a:=4) rfl rfl rfl rfl rfl rfl (zaa _),rtB rfl rfl,trivial⟩
 have h3:a≠b:=by
  simpa using(eqPW a b).symm.trans h3
 obtain⟨a1,a2⟩:=zbk.1 h1
 obtain⟨b1,b2⟩:=zbk.1 h2
 refine⟨i6,⟨i6,?_⟩⟩
 refine cP (zlq (b.X-a.X) (b.Y-a.Y) (zfK h3) (by omega) (by omega)) rfl rfl ?_
 rw[zgi h1 h2 h3]
 exact⟨rtC (a:=4) rfl rfl rfl rfl rfl rfl (zaa _),rtB rfl rfl,trivial⟩
theorem zc3(w:Wdg):Spec PP 249 [w.v] [N (openW w)]:=by
 refine sA Tryz.func249 ?_
 refine cP (zaG w.F 0 3599) rfl rfl ?_
 refine cP (zaG w.T 0 3599) rfl rfl ?_
 have no:¬(within w.F 0 3599=true/\within w.T 0 3599=true)->openW w= -1:=fun h=>by unfold openW;rw[kG h]
 apply bY<;>intro h1
 ·have h1:within w.F 0 3599=false:=by
   have:(!within w.F 0 3599)=true:=h1
   simpa using this
  refine sT ?_
  repeat first|apply sT|apply sF
  refine r1I rfl ?_
  rw[no fun h=>by rw[h.1]at h1;cases h1]
 have h1:within w.F 0 3599=true:=by
  have:(!within w.F 0 3599)=false:=h1
  simpa using this
 refine sF ?_
 apply bY<;>intro h2
 ·have h2:within w.T 0 3599=false:=by
   have:(!within w.T 0 3599)=true:=h2
   simpa using this
  refine r1I rfl ?_
  rw[no fun h=>by rw[h.2]at h2;cases h2]
 have h2:within w.T 0 3599=true:=by
  have:(!within w.T 0 3599)=false:=h2
  simpa using this
 have b1:=zab.1 h1
 have b2:=zab.1 h2
 refine⟨i6,?_⟩
 refine cP (zhM (w.T-w.F) (by omega)) rfl rfl ?_
 refine r1I rfl ?_
 unfold openW;rw[kH ⟨h1,h2⟩]
theorem zoa(w:Wdg):Spec PP 202 [w.v] [B (validW w)]:=by
 refine sA Tryz.func202 ?_
 refine cP (zc3 w) rfl rfl ?_
 refine cP (zaG (openW w) 0 900) rfl rfl ?_
 refine r1B rfl ?_
 unfold validW;rfl
theorem zkF{w:Wdg}(h:validW w=true):(0<=w.F/\w.F<=3599)/\0<=openW w/\openW w<=900:=by
 unfold validW at h
 have h1:=zab.1 h
 refine⟨?_,h1⟩
 unfold openW at h1
 split at h1
 ·rename_i h2;exact zab.1 h2.1
 omega
theorem ztr(w:Wdg)(b:Int×Int)(hw:validW w=true)(hb:(0<b.2/\b.2<=48)/\0<=b.1/\b.1<3600*b.2):Spec PP 204 [w.v,.agg [I b.1,I b.2]] [B (decide ((b.1-w.F*b.2)%(3600*b.2)<=openW w*b.2))]:=by
 obtain⟨w1,w2⟩:=zkF hw
 have m1:=mulB (a:=w.F) (b:=b.2) (x:=3599) (y:=48) (by omega) (by omega)
 have m2:=mulB (a:=openW w) (b:=b.2) (x:=900) (y:=48) (by omega) (by omega)
 have n1:0<=w.F*b.2:=wK w1.1 (by omega)
 have n2:w.F*b.2<=3599*b.2:=jV w1.2 (by omega)
 refine sA Tryz.func204 ?_
 refine⟨i6,⟨i6,?_⟩⟩
 apply bY<;>intro h1
 ·have h1:b.1-w.F*b.2<0:=dT h1
  refine⟨i6,⟨i6,?_⟩⟩
  refine oN 8 ?_
  refine oP (zc3 w) rfl rfl ?_
  refine⟨i6,?_⟩
  refine r1B rfl ?_
  rw[zcy hb.1.1 (by omega) h1]
 have h1:¬b.1-w.F*b.2<0:=dF h1
 refine oN 8 ?_
 refine oP (zc3 w) rfl rfl ?_
 refine⟨i6,?_⟩
 refine r1B rfl ?_
 rw[<- zcx (n:=b.1-w.F*b.2) (by omega) (by omega)]
theorem zrf(w:Wdg)(a p:Place):Spec PP 126 [w.v,a.v,p.v] [B (liesW w a p)]:=by
 have el:liesW w a p=(validW w&&(on a&&on p)&& !decide (a=p)&&decide (((bear a p).1-w.F*(bear a p).2)%(3600*(bear a p).2)<=openW w*(bear a p).2)):=by unfold liesW;rfl
 refine sA Tryz.func126 ?_
 refine cP (zoa w) rfl rfl ?_
 refine cP (ze1 a p) rfl rfl ?_
 apply bY<;>intro h1
 ·have h1:validW w=true:=h1
  refine sT ?_
  apply bY<;>intro h2
  ·have h2:(brgR a p).2=true:=h2
   have h3:(on a&&on p&& !(a==p))=true:=by
    unfold brgR at h2
    split at h2
    ·assumption
    cases h2
   simp only[jP,jY,jax]at h3
   obtain⟨⟨h4,h5⟩,h6⟩:=h3
   rw[zgi h4 h5 h6]
   refine cP (ztr w (bear a p) h1 (zgl h4 h5 h6)) rfl rfl ?_
   refine sT ?_
   refine r1B rfl ?_
   rw[el,h1,h4,h5,jH h6];rfl
  have h2:(brgR a p).2=false:=h2
  have h3:(on a&&on p&& !(a==p))=false:=by
   unfold brgR at h2
   split at h2
   ·cases h2
   rename_i h;simpa using h
  refine sF ?_
  refine r1B rfl ?_
  rw[el,h1]
  have:(a==p)=decide (a=p):=by rw[kQ];simp
  rw[this]at h3
  rw[qE,h3];rfl
 have h1:validW w=false:=h1
 refine sF (sF ?_)
 repeat first|apply sT|apply sF
 refine r1B rfl ?_
 rw[el,h1];rfl
def fndC(c:Cirs)(id:Int):Cir×Bool:=if cirI c id<0 then(default,false)else(c.C.getD (cirI c id).toNat default,true)
theorem zhJ(c:Cirs)(id:Int)(hn:c.C.length<=1000000):Spec PP 244 [c.v,N id] [(fndC c id).1.v,B (fndC c id).2]:=by
 refine sA Tryz.func244 ?_
 refine lOf (σ:=Nat) (fun i=>([(1,.d (I id)),(2,.box 2 0),(4,.box 4 0),(6,.d (I i))],[(2,.box ([lC c.C,lK c.K].map AV.d)),(4,.box ([I 0,I 0,I 0,I 0,I 0,I 0,I 0,I 0].map AV.d))])) (fun i=>i<=c.C.length/\∀j,j<i->((c.C.getD j default).ID==id)=false) (fun i=>c.C.length-i) 0
  ⟨rfl,⟨obD [lC c.C,lK c.K] rfl,obD [I 0,I 0,I 0,I 0,I 0,I 0,I 0,I 0] rfl,trivial⟩,wq rfl⟩ z0L fun i hi=>?_
 obtain⟨hi,ha⟩:=hi
 apply bY<;>intro h1
 ·have h1:i<c.C.length:=by have:=dT h1;omega
  refine⟨⟨rfl,by omega,by omega⟩,?_⟩
  apply bY<;>intro h2
  ·have e:cirI c id=(i:Int):=zaj (p:=fun t:Cir=>t.ID==id) default h1 h2 ha
   have e2:fndC c id=(c.C.getD i default,true):=by unfold fndC;rw[e,kG (by omega)];rfl
   rw[e2]
   refine⟨⟨rfl,by omega,by omega⟩,?_⟩
   exact⟨rtC (a:=4) rfl rfl rfl rfl rfl rfl (zaa _),rtB rfl rfl,trivial⟩
  refine⟨i6,?_⟩
  refine⟨i+1,⟨rfl,⟨obD [lC c.C,lK c.K] rfl,obD [I 0,I 0,I 0,I 0,I 0,I 0,I 0,I 0] rfl,trivial⟩,wq rfl⟩,⟨h1,fun j hj=>?_⟩,(msr (by omega))⟩
  by_cases e:j=i
  ·subst e;exact h2
  exact ha j (by omega)
 have h1:i=c.C.length:=by have:=dF h1;omega
 subst h1
 have e:cirI c id= -1:=zam (p:=fun t:Cir=>t.ID==id) default ha
 have e2:fndC c id=(default,false):=by unfold fndC;rw[e];rfl
 rw[e2]
 exact⟨rtC (a:=4) rfl rfl rfl rfl rfl rfl (zaa _),rtB rfl rfl,trivial⟩
def spnB(s:Spn)(lo hi:Int):Bool:=decide (lo<=s.Lo)&&decide (s.Lo<=s.Hi)&&decide (s.Hi<=hi)
theorem zlo(s:Spn)(lo hi:Int):Spec PP 243 [s.v,N lo,N hi] [B (spnB s lo hi)]:=by
 refine sA Tryz.func243 ?_
 apply bY<;>intro h1
 ·have h1:decide (lo<=s.Lo)=true:=h1
  refine sT ?_
  apply bY<;>intro h2
  ·have h2:decide (s.Lo<=s.Hi)=true:=h2
   refine sT ?_
   refine r1B rfl ?_
   unfold spnB;rw[h1,h2];rfl
  have h2:decide (s.Lo<=s.Hi)=false:=h2
  refine sF ?_
  refine r1B rfl ?_
  unfold spnB;rw[h1,h2];rfl
 have h1:decide (lo<=s.Lo)=false:=h1
 refine sF (sF ?_)
 repeat first|apply sT|apply sF
 refine r1B rfl ?_
 unfold spnB;rw[h1];rfl
theorem zd5{b:Bool}(h:(!b)=true):b=false:=by simpa using h
theorem zd6{b:Bool}(h:(!b)=false):b=true:=by simpa using h
theorem zuI(x:Cir)(h1:within x.ID 1 1099511627776=true)(h2:on x.At=true)(h3:spnB ⟨x.From,x.To⟩ 0 1048576=true)(h4:spnB ⟨x.Lo,x.Hi⟩ (-300) 300=true)(h5:within x.Drift 0 60=true):cirE x=0:=by
 unfold spnB at h3 h4
 simp only[jP,kA]at h3 h4
 unfold cirE
 rw[kG]
 simp only[h1,h2,h5,jaA,jbk,jac,jX,kA,jaB,qZ,jaC,qT]
 omega
theorem zhg(x:Cir)(h:¬(within x.ID 1 1099511627776=true/\on x.At=true/\spnB ⟨x.From,x.To⟩ 0 1048576=true/\spnB ⟨x.Lo,x.Hi⟩ (-300) 300=true/\within x.Drift 0 60=true)):cirE x=1:=by
 unfold cirE
 refine kH (jL fun h0=>h ?_)
 simp only[jX,jY,not_or,jao,kA,jaA,jbk,jac]at h0
 obtain⟨⟨⟨⟨⟨⟨⟨⟨a,b⟩,c⟩,d⟩,e⟩,f⟩,g⟩,i⟩,j⟩:=h0
 unfold spnB
 simp only[jP,kA]
 exact⟨a,b,by omega,by omega,j⟩
theorem zj6(x:Cir):Spec PP 193 [x.v] [.d (.int .i64 (cirE x))]:=by
 refine sA Tryz.func193 ?_
 refine cP (zaG x.ID 1 1099511627776) rfl rfl ?_
 refine cP (zob x.At) rfl rfl ?_
 refine cP (zlo ⟨x.From,x.To⟩ 0 1048576) rfl rfl ?_
 refine cP (zlo ⟨x.Lo,x.Hi⟩ (-300) 300) rfl rfl ?_
 refine cP (zaG x.Drift 0 60) rfl rfl ?_
 apply bY<;>intro h1
 ·have h1:=zd5 h1
  repeat first|apply sT|apply sF
  refine r1I rfl ?_
  rw[zhg x fun h=>by rw[h.1]at h1;cases h1]
 have h1:=zd6 h1
 repeat first|apply sT|apply sF
 apply bY<;>intro h2
 ·have h2:=zd5 h2
  repeat first|apply sT|apply sF
  refine r1I rfl ?_
  rw[zhg x fun h=>by rw[h.2.1]at h2;cases h2]
 have h2:=zd6 h2
 repeat first|apply sT|apply sF
 apply bY<;>intro h3
 ·have h3:=zd5 h3
  repeat first|apply sT|apply sF
  refine r1I rfl ?_
  rw[zhg x fun h=>by rw[h.2.2.1]at h3;cases h3]
 have h3:=zd6 h3
 repeat first|apply sT|apply sF
 apply bY<;>intro h4
 ·have h4:=zd5 h4
  repeat first|apply sT|apply sF
  refine r1I rfl ?_
  rw[zhg x fun h=>by rw[h.2.2.2.1]at h4;cases h4]
 have h4:=zd6 h4
 repeat first|apply sT|apply sF
 apply bY<;>intro h5
 ·have h5:=zd5 h5
  refine r1I rfl ?_
  rw[zhg x fun h=>by rw[h.2.2.2.2]at h5;cases h5]
 have h5:=zd6 h5
 refine r1I rfl ?_
 rw[zuI x h1 h2 h3 h4 h5]
theorem zj7(c:Cirs)(k:Chk)(hn:c.C.length<=1000000):Spec PP 194 [c.v,k.v] [.d (.int .i64 (chkE c k))]:=by
 have bad:¬(within k.ID 1 1099511627776=true/\on k.Mark=true/\within k.Shown 0 3599=true/\within k.Slack 1 100=true)->chkE c k=1:=fun h=>by
  unfold chkE
  rw[kH]
  refine jL fun h0=>h ?_
  unfold chkB at h0
  simp only[jX,jY,not_or,jao,jaA,jbk,jac]at h0
  exact⟨h0.1.1.1,h0.1.1.2,h0.1.2,h0.2⟩
 refine sA Tryz.func194 ?_
 refine cP (zaG k.ID 1 1099511627776) rfl rfl ?_
 refine cP (zob k.Mark) rfl rfl ?_
 refine cP (zaG k.Shown 0 3599) rfl rfl ?_
 refine cP (zaG k.Slack 1 100) rfl rfl ?_
 apply bY<;>intro h1
 ·have h1:=zd5 h1
  repeat first|apply sT|apply sF
  refine r1I rfl ?_
  rw[bad fun h=>by rw[h.1]at h1;cases h1]
 have h1:=zd6 h1
 repeat first|apply sT|apply sF
 apply bY<;>intro h2
 ·have h2:=zd5 h2
  repeat first|apply sT|apply sF
  refine r1I rfl ?_
  rw[bad fun h=>by rw[h.2.1]at h2;cases h2]
 have h2:=zd6 h2
 repeat first|apply sT|apply sF
 apply bY<;>intro h3
 ·have h3:=zd5 h3
  repeat first|apply sT|apply sF
  refine r1I rfl ?_
  rw[bad fun h=>by rw[h.2.2.1]at h3;cases h3]
 have h3:=zd6 h3
 repeat first|apply sT|apply sF
 apply bY<;>intro h4
 ·have h4:=zd5 h4
  refine r1I rfl ?_
  rw[bad fun h=>by rw[h.2.2.2]at h4;cases h4]
 have h4:=zd6 h4
 have e0:chkE c k=if cirI c k.C<0 then 5 else if(decide (k.Mark=(chkO c k).At)|| !within k.Tick (chkO c k).From (chkO c k).To)=true then 1 else 0:=by
  unfold chkE
  rw[kG]
  unfold chkB
  simp only[h1,h2,h3,h4,jaA,jbk,jac,jaB,qZ]
  decide
 refine cP (zhJ c k.C hn) rfl rfl ?_
 by_cases h5:cirI c k.C<0
 ·have e1:fndC c k.C=(default,false):=by unfold fndC;rw[kH h5]
  rw[e1]
  refine sT ?_
  refine r1I rfl ?_
  rw[e0,kH h5]
 have e1:fndC c k.C=(chkO c k,true):=by unfold fndC chkO;rw[kG h5]
 rw[e1,e0,kG h5]
 generalize chkO c k=x
 refine sF ?_
 apply bY<;>intro h6
 ·have h6:decide (k.Mark=x.At)=true:=(eqPW k.Mark x.At).symm.trans h6
  repeat first|apply sT|apply sF
  refine r1I rfl ?_
  rw[kH (by rw[h6];rfl)]
 have h6:decide (k.Mark=x.At)=false:=(eqPW k.Mark x.At).symm.trans h6
 repeat first|apply sT|apply sF
 apply bY<;>intro h7
 ·have h7:k.Tick<x.From:=dT h7
  repeat first|apply sT|apply sF
  refine r1I rfl ?_
  rw[kH]
  rw[h6,jaC,jY]
  unfold within
  rw[jH (show ¬x.From<=k.Tick by omega)];rfl
 have h7:¬k.Tick<x.From:=dF h7
 repeat first|apply sT|apply sF
 apply bY<;>intro h8
 ·have h8:x.To<k.Tick:=dT h8
  refine r1I rfl ?_
  rw[kH]
  rw[h6,jaC,jY]
  unfold within
  rw[jH (show ¬k.Tick<=x.To by omega),kW]
 have h8:¬x.To<k.Tick:=dF h8
 refine r1I rfl ?_
 rw[kG]
 rw[h6,jaC,zab.2 (show x.From<=k.Tick/\k.Tick<=x.To by omega)]
 decide
theorem zmw{α:Type}{p:α->Bool}{l:List α}{i:Nat}(d:α)(hi:i<l.length)(hp:p (l.getD i d)=true):idxL p l<=i:=by
 rcases idxL_cases p l d with⟨_,h2⟩|⟨j,h1,h2,_,h4⟩
 ·rw[h2 i hi]at hp;cases hp
 rw[h2]
 rcases jaD i j with h5|h5
 ·rw[h4 i h5]at hp;cases hp
 omega
theorem zfF(c:Cirs):Spec PP 119 [c.v] [.d (.int .i64 (cirsE c))]:=by
 refine sA Tryz.func119 ?_
 apply bY<;>intro h1
 ·have h1:12<c.C.length:=by have:=dT h1;omega
  repeat first|apply sT|apply sF
  refine r1I rfl ?_
  unfold cirsE;rw[kH (.inl h1)]
 have h1:¬12<c.C.length:=by have:=dF h1;omega
 repeat first|apply sT|apply sF
 apply bY<;>intro h2
 ·have h2:60<c.K.length:=by have:=dT h2;omega
  refine r1I rfl ?_
  unfold cirsE;rw[kH (.inr h2)]
 have h2:¬60<c.K.length:=by have:=dF h2;omega
 have e0:cirsE c=if err1 (cir1E c) c.C.length≠0 then err1 (cir1E c) c.C.length else err1 (chk1E c) c.K.length:=by unfold cirsE;rw[kG (by omega)]
 refine lOf (σ:=Nat) (fun i=>([(1,.box 1 0),(3,.d (I i))],[(1,bxCs c)])) (fun i=>i<=c.C.length/\∀j,j<i->cir1E c j=0) (fun i=>c.C.length-i) 0
  ⟨rfl,⟨obCs rfl,trivial⟩,wq rfl⟩ z0L fun i hi=>?_
 obtain⟨hi,ha⟩:=hi
 apply bY<;>intro h3
 ·have h3:i<c.C.length:=by have:=dT h3;omega
  have bad:cir1E c i≠0->cirsE c=cir1E c i:=fun h=>by
   have:=zan ha h h3
   rw[e0,kH (by rw[this];exact h),this]
  refine⟨⟨rfl,by omega,by omega⟩,?_⟩
  refine cP (zj6 (c.C.getD i default)) rfl rfl ?_
  apply bY<;>intro h4
  ·have h4:cirE (c.C.getD i default)≠0:=by simpa using h4
   refine r1I rfl ?_
   have e:cir1E c i=cirE (c.C.getD i default):=by unfold cir1E;rw[kH h4]
   rw[bad (by rw[e];exact h4),e]
  have h4:cirE (c.C.getD i default)=0:=by simpa using h4
  refine lOf (σ:=Nat) (fun k=>([(1,.box 1 0),(3,.d (I i)),(5,.d (I k))],[(1,bxCs c)])) (fun k=>k<=i/\∀j,j<k->((c.C.getD j default).ID==(c.C.getD i default).ID)=false) (fun k=>i-k) 0
   ⟨rfl,⟨obCs rfl,trivial⟩,wq rfl⟩ z0L fun k hk=>?_
  obtain⟨hk,hb⟩:=hk
  apply bY<;>intro h5
  ·have h5:k<i:=by have:=dT h5;omega
   refine oN 13 ?_
   refine⟨⟨rfl,by omega,by omega⟩,⟨⟨rfl,by omega,by omega⟩,?_⟩⟩
   apply bY<;>intro h6
   ·have h6:((c.C.getD k default).ID==(c.C.getD i default).ID)=true:=h6
    have hle:=zmw (p:=fun t:Cir=>t.ID==(c.C.getD i default).ID) default (show k<c.C.length by omega) h6
    have h7:cirI c (c.C.getD i default).ID<i:=by unfold cirI;omega
    refine r1I rfl ?_
    have e:cir1E c i=6:=by unfold cir1E;rw[kG (fun hh=>hh h4),kH h7]
    rw[bad (by rw[e];decide),e]
   refine⟨i6,?_⟩
   refine⟨k+1,⟨rfl,⟨obCs rfl,trivial⟩,wq rfl⟩,⟨h5,fun j hj=>?_⟩,(msr (by omega))⟩
   by_cases q:j=k
   ·subst q;exact h6
   exact hb j (by omega)
  have h5:k=i:=by have:=dF h5;omega
  subst h5
  have h7:¬cirI c (c.C.getD k default).ID<k:=by
   have:cirI c (c.C.getD k default).ID=(k:Int):=zaj (p:=fun t:Cir=>t.ID==(c.C.getD k default).ID) default h3 (jaH _) hb
   omega
  have e:cir1E c k=0:=by unfold cir1E;rw[kG (fun hh=>hh h4),kG h7]
  refine⟨i6,?_⟩
  refine⟨k+1,⟨rfl,⟨obCs rfl,trivial⟩,wq rfl⟩,⟨h3,fun j hj=>?_⟩,(msr (by omega))⟩
  by_cases q:j=k
  ·subst q;exact e
  exact ha j (by omega)
 have h3:i=c.C.length:=by have:=dF h3;omega
 subst h3
 have e1:cirsE c=err1 (chk1E c) c.K.length:=by rw[e0,zaJ ha];rfl
 clear ha
 refine lOf (σ:=Nat) (fun i=>([(1,.box 1 0),(6,.d (I i))],[(1,bxCs c)])) (fun i=>i<=c.K.length/\∀j,j<i->chk1E c j=0) (fun i=>c.K.length-i) 0
  ⟨rfl,⟨obCs rfl,trivial⟩,wq rfl⟩ z0L fun i hi=>?_
 obtain⟨hi,ha⟩:=hi
 apply bY<;>intro h3
 ·have h3:i<c.K.length:=by have:=dT h3;omega
  have bad:chk1E c i≠0->cirsE c=chk1E c i:=fun h=>by rw[e1,zan ha h h3]
  refine oN 8 ?_
  refine⟨⟨rfl,by omega,by omega⟩,?_⟩
  refine oP (zj7 c (c.K.getD i default) (by omega)) rfl rfl ?_
  apply bY<;>intro h4
  ·have h4:chkE c (c.K.getD i default)≠0:=by simpa using h4
   refine r1I rfl ?_
   have e:chk1E c i=chkE c (c.K.getD i default):=by unfold chk1E;rw[kH h4]
   rw[bad (by rw[e];exact h4),e]
  have h4:chkE c (c.K.getD i default)=0:=by simpa using h4
  refine lOf (σ:=Nat) (fun k=>([(1,.box 1 0),(6,.d (I i)),(8,.d (I k))],[(1,bxCs c)])) (fun k=>k<=i/\∀j,j<k->((c.K.getD j default).ID==(c.K.getD i default).ID)=false) (fun k=>i-k) 0
   ⟨rfl,⟨obCs rfl,trivial⟩,wq rfl⟩ z0L fun k hk=>?_
  obtain⟨hk,hb⟩:=hk
  apply bY<;>intro h5
  ·have h5:k<i:=by have:=dT h5;omega
   refine oN 13 ?_
   refine⟨⟨rfl,by omega,by omega⟩,⟨⟨rfl,by omega,by omega⟩,?_⟩⟩
   apply bY<;>intro h6
   ·have h6:((c.K.getD k default).ID==(c.K.getD i default).ID)=true:=h6
    have hle:=zmw (p:=fun t:Chk=>t.ID==(c.K.getD i default).ID) default (show k<c.K.length by omega) h6
    have h7:chkI c (c.K.getD i default).ID<i:=by unfold chkI;omega
    refine r1I rfl ?_
    have e:chk1E c i=6:=by unfold chk1E;rw[kG (fun hh=>hh h4),kH h7]
    rw[bad (by rw[e];decide),e]
   refine⟨i6,?_⟩
   refine⟨k+1,⟨rfl,⟨obCs rfl,trivial⟩,wq rfl⟩,⟨h5,fun j hj=>?_⟩,(msr (by omega))⟩
   by_cases q:j=k
   ·subst q;exact h6
   exact hb j (by omega)
  have h5:k=i:=by have:=dF h5;omega
  subst h5
  have h7:¬chkI c (c.K.getD k default).ID<k:=by
   have:chkI c (c.K.getD k default).ID=(k:Int):=zaj (p:=fun t:Chk=>t.ID==(c.K.getD k default).ID) default h3 (jaH _) hb
   omega
  have e:chk1E c k=0:=by unfold chk1E;rw[kG (fun hh=>hh h4),kG h7]
  refine⟨i6,?_⟩
  refine⟨k+1,⟨rfl,⟨obCs rfl,trivial⟩,wq rfl⟩,⟨h3,fun j hj=>?_⟩,(msr (by omega))⟩
  by_cases q:j=k
  ·subst q;exact e
  exact ha j (by omega)
 have h3:i=c.K.length:=by have:=dF h3;omega
 subst h3
 refine r1I rfl ?_
 rw[e1,zaJ ha]
def canK(b:Int×Int)(s l z k:Int):Bool:=decide (-l*b.2<=b.1+(z-s+3600*k)*b.2)&&decide (b.1+(z-s+3600*k)*b.2<=l*b.2)
def canB(b:Int×Int)(s l z:Int):Bool:=(List.range 5).any fun i=>canK b s l z ((i:Int)-2)
theorem zts(b:Int×Int)(s l z:Int)(hb:(0<b.2/\b.2<=48)/\0<=b.1/\b.1<3600*b.2)(hs:0<=s/\s<=3599)(hl:1<=l/\l<=100)(hz:-300<=z/\z<=300):Spec PP 264 [N s,N l,.agg [I b.1,I b.2],N z] [B (canB b s l z)]:=by
 refine sA Tryz.func264 ?_
 refine lOf (σ:=Nat) (fun i=>([(0,.d (I s)),(1,.d (I l)),(3,.d (I z)),(6,.box 6 0),(9,.d (I ((i:Int)-2)))],[(6,.box ([I b.1,I b.2].map AV.d))])) (fun i=>i<=5/\∀j:Nat,j<i->canK b s l z ((j:Int)-2)=false) (fun i=>5-i) 0
  ⟨rfl,⟨obD [I b.1,I b.2] rfl,trivial⟩,wq rfl⟩ z0L fun i hi=>?_
 obtain⟨hi,ha⟩:=hi
 apply bY<;>intro h1
 ·have h1:(i:Int)-2<=2:=dT h1
  have m1:=mulB (a:=z-s+3600*((i:Int)-2)) (b:=b.2) (x:=20000) (y:=48) (by omega) (by omega)
  have m2:=mulB (a:=l) (b:=b.2) (x:=100) (y:=48) (by omega) (by omega)
  have m3:-l*b.2= -(l*b.2):=jbG l b.2
  have ok:canK b s l z ((i:Int)-2)=true->canB b s l z=true:=fun h=>kM.2 ⟨i,kK.2 (by omega),h⟩
  have next:canK b s l z ((i:Int)-2)=false->∀j:Nat,j<i+1->canK b s l z ((j:Int)-2)=false:=fun h j hj=>by
   by_cases q:j=i
   ·subst q;exact h
   exact ha j (by omega)
  refine⟨i6,⟨i6,⟨i6,⟨i6,⟨i6,?_⟩⟩⟩⟩⟩
  refine⟨i6,⟨i6,?_⟩⟩
  apply bY<;>intro h2
  ·have h2:decide (-l*b.2<=b.1+(z-s+3600*((i:Int)-2))*b.2)=true:=h2
   refine⟨i6,?_⟩
   refine sT ?_
   apply bY<;>intro h3
   ·have h3:decide (b.1+(z-s+3600*((i:Int)-2))*b.2<=l*b.2)=true:=h3
    refine r1B rfl ?_
    rw[ok (by unfold canK;rw[h2,h3];rfl)]
   have h3:decide (b.1+(z-s+3600*((i:Int)-2))*b.2<=l*b.2)=false:=h3
   refine⟨i6,?_⟩
   exact⟨i+1,⟨rfl,⟨obD [I b.1,I b.2] rfl,trivial⟩,avR _ rfl,avR _ rfl,avR _ rfl,avQ rfl,avI rfl (by omega),trivial⟩,⟨by omega,next (by unfold canK;rw[h3,kW])⟩,(msr (by omega))⟩
  have h2:decide (-l*b.2<=b.1+(z-s+3600*((i:Int)-2))*b.2)=false:=h2
  repeat first|apply sT|apply sF
  refine⟨i6,?_⟩
  exact⟨i+1,⟨rfl,⟨obD [I b.1,I b.2] rfl,trivial⟩,avR _ rfl,avR _ rfl,avR _ rfl,avQ rfl,avI rfl (by omega),trivial⟩,⟨by omega,next (by unfold canK;rw[h2];rfl)⟩,(msr (by omega))⟩
 have h1:i=5:=by have:¬(i:Int)-2<=2:=dF h1;omega
 subst h1
 refine r1B rfl ?_
 symm
 unfold canB
 rw[jay]
 intro j hj
 rw[ha j (kK.1 hj)];decide
section
variable {b:Int×Int}{s l:Int}(hb:(0<b.2/\b.2<=48)/\0<=b.1/\b.1<3600*b.2)(hs:0<=s/\s<=3599)(hl:1<=l/\l<=100)
include hb
theorem zph{z k:Int}(hz:-300<=z/\z<=300):canK b s l z k=true↔(aloT b (s-3600*k) l).Lo<=z/\z<=(aloT b (s-3600*k) l).Hi:=by
 have hd:=hb.1.1
 have e:(z-s+3600*k)*b.2=z*b.2-(s-3600*k)*b.2:=by rw[<- jaQ];congr 1;omega
 have e1:(s-3600*k-l)*b.2=(s-3600*k)*b.2-l*b.2:=jaQ ..
 have e2:(s-3600*k+l)*b.2=(s-3600*k)*b.2+l*b.2:=Int.add_mul ..
 have e3:-l*b.2= -(l*b.2):=jbG l b.2
 have f1:-z<= -((s-3600*k-l)*b.2-b.1)/b.2↔ -z*b.2<= -((s-3600*k-l)*b.2-b.1):=jaM hd
 have f2:z<=((s-3600*k+l)*b.2-b.1)/b.2↔z*b.2<=(s-3600*k+l)*b.2-b.1:=jaM hd
 have e4:-z*b.2= -(z*b.2):=jbG z b.2
 unfold canK aloT
 simp only[jP,kA]
 rw[e,e3]
 rw[e1,e4]at f1
 rw[e2]at f2
 rw[e1,e2]
 generalize z*b.2=Z at*
 generalize (s-3600*k)*b.2=S at*
 generalize l*b.2=L at*
 generalize hq1:-(S-L-b.1)/b.2=Q1 at*
 generalize hq2:(S+L-b.1)/b.2=Q2 at*
 omega
include hs hl
theorem zjK{z k:Int}(hz:-300<=z/\z<=300)(hk:k<= -2\/2<=k):canK b s l z k=false:=by
 have hd:=hb.1.1
 refine qW.2 fun h=>?_
 unfold canK at h
 simp only[jP,kA]at h
 have e3:-l*b.2= -(l*b.2):=jbG l b.2
 have m:=jV hl.2 (show 0<=b.2 by omega)
 rcases hk with hk|hk
 ·have m1:(z-s+3600*k)*b.2<= -6900*b.2:=jV (by omega) (by omega)
  omega
 have m1:3301*b.2<=(z-s+3600*k)*b.2:=jV (by omega) (by omega)
 omega
theorem zpg{z z' k k':Int}(hz:-300<=z/\z<=300)(hz':-300<=z'/\z'<=300)(h:canK b s l z k=true)(h':canK b s l z' k'=true):k=k':=by
 have hd:=hb.1.1
 unfold canK at h h'
 simp only[jP,kA]at h h'
 have e3:-l*b.2= -(l*b.2):=jbG l b.2
 have m:=jV hl.2 (show 0<=b.2 by omega)
 have e:(z-s+3600*k)*b.2-(z'-s+3600*k')*b.2=(z-z'+3600*(k-k'))*b.2:=by rw[<- jaQ];congr 1;omega
 rcases Int.lt_trichotomy k k' with h1|h1|h1
 ·have m1:(z-z'+3600*(k-k'))*b.2<= -3000*b.2:=jV (by omega) (by omega)
  omega
 ·exact h1
 have m1:3000*b.2<=(z-z'+3600*(k-k'))*b.2:=jV (by omega) (by omega)
 omega
theorem zpi{z:Int}(hz:-300<=z/\z<=300):canB b s l z=true↔∃i:Nat,i<3/\canK b s l z (1-i)=true:=by
 unfold canB
 rw[kM]
 constructor
 ·rintro⟨j,hj,h⟩
  have hj:=kK.1 hj
  by_cases h4:j=4
  ·rw[zjK hb hs hl hz (by omega)]at h;cases h
  by_cases h0:j=0
  ·rw[zjK hb hs hl hz (by omega)]at h;cases h
  refine⟨3-j,by omega,?_⟩
  rw[show(1:Int)-((3-j:Nat):Int)=(j:Int)-2 by omega];exact h
 rintro⟨i,hi,h⟩
 refine⟨3-i,kK.2 (by omega),?_⟩
 rw[show((3-i:Nat):Int)-2=1-(i:Int)by omega];exact h
end
theorem znm(b:Int×Int)(S l:Int):-300<=(aloT b S l).Lo/\(aloT b S l).Hi<=300:=by unfold aloT;dsimp only;omega
theorem aloR3(f:Nat->Spn):(∃i,i<3/\(f i).Lo<=(f i).Hi/\aloR f 0 3=f i)\/((∀i,i<3->¬(f i).Lo<=(f i).Hi)/\aloR f 0 3=⟨1,0⟩):=by
 unfold aloR
 split
 ·rename_i h;exact .inl ⟨0,by omega,h,rfl⟩
 rename_i h0
 unfold aloR
 split
 ·rename_i h;exact .inl ⟨1,by omega,h,rfl⟩
 rename_i h1
 unfold aloR
 split
 ·rename_i h;exact .inl ⟨2,by omega,h,rfl⟩
 rename_i h2
 refine .inr ⟨fun i hi=>?_,rfl⟩
 match i,hi with
 |0,_=>exact h0
 |1,_=>exact h1
 |2,_=>exact h2
theorem zst{x:Cir}{k:Chk}(hb:(0<(bear x.At k.Mark).2/\(bear x.At k.Mark).2<=48)/\0<=(bear x.At k.Mark).1/\(bear x.At k.Mark).1<3600*(bear x.At k.Mark).2)(hs:0<=k.Shown/\k.Shown<=3599)(hl:1<=k.Slack/\k.Slack<=100){z:Int}(hz:-300<=z/\z<=300):
  canB (bear x.At k.Mark) k.Shown k.Slack z=true↔(alo x k).Lo<=z/\z<=(alo x k).Hi:=by
 have hf:∀i:Nat,aloF x k i=aloT (bear x.At k.Mark) (k.Shown-3600*(1-(i:Int))) k.Slack:=fun i=>by
  unfold aloF;congr 1;omega
 have key:∀i:Nat,∀z:Int,-300<=z/\z<=300->(canK (bear x.At k.Mark) k.Shown k.Slack z (1-i)=true↔(aloF x k i).Lo<=z/\z<=(aloF x k i).Hi):=fun i z hz=>by
  rw[hf i];exact zph hb hz
 have rng:∀i:Nat,-300<=(aloF x k i).Lo/\(aloF x k i).Hi<=300:=fun i=>by unfold aloF;exact znm _ _ _
 rw[zpi hb hs hl hz]
 rcases aloR3 (aloF x k)with⟨i,hi,hn,e⟩|⟨hn,e⟩
 ·have e':alo x k=aloF x k i:=e
  rw[e']
  constructor
  ·rintro⟨j,hj,h⟩
   have hlo:=(key i (aloF x k i).Lo (by have:=rng i;omega)).2 ⟨jaY _,hn⟩
   have:=zpg hb hs hl hz (by have:=rng i;omega) h hlo
   obtain rfl:i=j:=by omega
   exact(key i z hz).1 h
  intro h
  exact⟨i,hi,(key i z hz).2 h⟩
 have e':alo x k=⟨1,0⟩:=e
 rw[e']
 constructor
 ·rintro⟨j,hj,h⟩
  have:=(key j z hz).1 h
  exact absurd (show(aloF x k j).Lo<=(aloF x k j).Hi by omega) (hn j hj)
 intro h
 have h1:(1:Int)<=z:=h.1
 have h2:z<=(0:Int):=h.2
 omega
theorem zpy(x:Cir)(k:Chk)(h:(alo x k).Lo<=(alo x k).Hi):-300<=(alo x k).Lo/\(alo x k).Hi<=300:=by
 rcases aloR3 (aloF x k)with⟨i,hi,hn,e⟩|⟨hn,e⟩
 ·have e':alo x k=aloF x k i:=e
  rw[e'];unfold aloF;exact znm _ _ _
 have e':alo x k=⟨1,0⟩:=e
 rw[e']at h;exact absurd h (by decide)
structure Lim where
  lo:Int
  hi:Int
  no:Bool
  deriving DecidableEq,Inhabited
abbrev Lim.ds(x:Lim):List D:=[I x.lo,I x.hi,.bool x.no]
def alnD(x:Cir)(k:Chk):Lim:=if(alo x k).Lo<=(alo x k).Hi then⟨(alo x k).Lo,(alo x k).Hi,false⟩else⟨0,0,true⟩
def alnI(S:Spn)(i:Nat):Lim:=if S.Lo<=S.Hi/\S.Lo<=(i:Int)-301 then⟨S.Lo,min S.Hi ((i:Int)-301),false⟩else⟨0,0,true⟩
theorem zuY{S:Spn}(h:S.Lo<=S.Hi-> -300<=S.Lo/\S.Hi<=300):alnI S 0=⟨0,0,true⟩:=by
 unfold alnI
 rw[kG]
 intro h1
 have:=h h1.1
 omega
theorem zpB{S:Spn}(h:S.Lo<=S.Hi-> -300<=S.Lo/\S.Hi<=300):alnI S 601=if S.Lo<=S.Hi then⟨S.Lo,S.Hi,false⟩else⟨0,0,true⟩:=by
 unfold alnI
 by_cases h1:S.Lo<=S.Hi
 ·have:=h h1
  rw[kH ⟨h1,by omega⟩,kH h1]
  congr 1;omega
 rw[kG (fun hh=>h1 hh.1),kG h1]
theorem zsN{S:Spn}{i:Nat}(h:¬(S.Lo<=(i:Int)-300/\(i:Int)-300<=S.Hi)):alnI S (i+1)=alnI S i:=by
 unfold alnI
 by_cases h1:S.Lo<=S.Hi
 ·by_cases h2:S.Lo<=(i:Int)-301
  ·rw[kH ⟨h1,by omega⟩,kH ⟨h1,h2⟩]
   congr 1;omega
  rw[kG (by omega),kG (by omega)]
 rw[kG (fun hh=>h1 hh.1),kG (fun hh=>h1 hh.1)]
theorem zpA{S:Spn}{i:Nat}(h:S.Lo<=(i:Int)-300/\(i:Int)-300<=S.Hi)(hn:(alnI S i).no=true):alnI S (i+1)=⟨(i:Int)-300,(i:Int)-300,false⟩:=by
 unfold alnI at hn⊢
 split at hn
 ·cases hn
 rename_i h2
 rw[kH (by omega)]
 have e1:S.Lo=(i:Int)-300:=by omega
 rw[e1];congr 1;omega
theorem zpz{S:Spn}{i:Nat}(h:S.Lo<=(i:Int)-300/\(i:Int)-300<=S.Hi)(hn:(alnI S i).no=false):alnI S (i+1)=⟨(alnI S i).lo,(i:Int)-300,false⟩:=by
 unfold alnI at hn⊢
 split at hn
 ·rename_i h2
  rw[kH (by omega),kH h2]
  dsimp only
  congr 1;omega
 cases hn
theorem zn9(c:Cirs)(k:Chk)(hk:ChkOk c k)(hx:on (chkO c k).At=true)(hn:c.C.length<=1000000):Spec PP 248 [c.v,k.v] [.agg (alnD (chkO c k) k).ds]:=by
 have e1:fndC c k.C=(chkO c k,true):=by unfold fndC chkO;rw[kG (by have:=hk.cc;omega)]
 have hne:(chkO c k).At≠k.Mark:=fun h=>hk.ne h.symm
 have hb:=zgl hx hk.on hne
 have rng:=zpy (chkO c k) k
 have key:=fun z hz=>zst (x:=chkO c k) (k:=k) hb hk.s hk.l (z:=z) hz
 have hkk:=hk
 refine sA Tryz.func248 ?_
 refine cP (zhJ c k.C hn) rfl rfl ?_
 rw[e1]
 generalize chkO c k=x at*
 refine cP (ze1 x.At k.Mark) rfl rfl ?_
 rw[zgi hx hk.on hne]
 have ed:alnD x k=alnI (alo x k) 601:=by rw[zpB rng];rfl
 rw[ed]
 generalize alo x k=S at*
 refine lOf (σ:=Nat) (fun i=>([(3,.box 3 0),(4,.box 4 0),(7,.box 7 0),(9,.box 9 0),(10,.d (I ((i:Int)-300)))],[(3,.box (k.ds.map AV.d)),(4,.box ([I 0,I 0,.bool false].map AV.d)),(7,.box ([I (bear x.At k.Mark).1,I (bear x.At k.Mark).2].map AV.d)),(9,.box ((alnI S i).ds.map AV.d))])) (fun i=>i<=601) (fun i=>601-i) 0
  ⟨rfl,⟨obD k.ds rfl,obD [I 0,I 0,.bool false] rfl,obD [I (bear x.At k.Mark).1,I (bear x.At k.Mark).2] rfl,obD (alnI S 0).ds (by rw[zuY rng];rfl),trivial⟩,wq rfl⟩ (jF _) fun i hi=>?_
 apply bY<;>intro h1
 ·have h1:(i:Int)-300<=300:=dT h1
  refine cP (zts (bear x.At k.Mark) k.Shown k.Slack ((i:Int)-300) hb hkk.s hkk.l (by omega)) rfl rfl ?_
  have ky:=key ((i:Int)-300) (by omega)
  apply bY<;>intro h2
  ·have h2:canB (bear x.At k.Mark) k.Shown k.Slack ((i:Int)-300)=true:=h2
   have h3:=ky.1 h2
   refine sT ?_
   apply bY<;>intro h4
   ·have h4:(alnI S i).no=true:=h4
    repeat first|refine sT ?_|refine sYe h2 ?_
    refine⟨i6,?_⟩
    refine⟨i+1,⟨rfl,⟨obD k.ds rfl,obD [I 0,I 0,.bool false] rfl,obD [I (bear x.At k.Mark).1,I (bear x.At k.Mark).2] rfl,obD (alnI S (i+1)).ds (by rw[zpA h3 h4];rfl),trivial⟩,avQ rfl,avQ rfl,avQ rfl,avQ rfl,avI rfl (by omega),trivial⟩,(show i+1<=601 by omega),(msr (by omega))⟩
   have h4:(alnI S i).no=false:=h4
   repeat first|refine sT ?_|refine sYe h2 ?_
   refine⟨i6,?_⟩
   refine⟨i+1,⟨rfl,⟨obD k.ds rfl,obD [I 0,I 0,.bool false] rfl,obD [I (bear x.At k.Mark).1,I (bear x.At k.Mark).2] rfl,obD (alnI S (i+1)).ds (by rw[zpz h3 h4];show some (Ob.box ([I (alnI S i).lo,I ((i:Int)-300),.bool (alnI S i).no].map AV.d))=_;rw[h4]),trivial⟩,avQ rfl,avQ rfl,avQ rfl,avQ rfl,avI rfl (by omega),trivial⟩,(show i+1<=601 by omega),(msr (by omega))⟩
  have h2:canB (bear x.At k.Mark) k.Shown k.Slack ((i:Int)-300)=false:=h2
  have h3:¬(S.Lo<=(i:Int)-300/\(i:Int)-300<=S.Hi):=fun h=>by rw[ky.2 h]at h2;cases h2
  repeat first|refine sF ?_|refine sNo h2 ?_
  refine⟨i6,?_⟩
  refine⟨i+1,⟨rfl,⟨obD k.ds rfl,obD [I 0,I 0,.bool false] rfl,obD [I (bear x.At k.Mark).1,I (bear x.At k.Mark).2] rfl,obD (alnI S (i+1)).ds (by rw[zsN h3];rfl),trivial⟩,avQ rfl,avQ rfl,avQ rfl,avQ rfl,avI rfl (by omega),trivial⟩,(show i+1<=601 by omega),(msr (by omega))⟩
 have h1:i=601:=by have:¬(i:Int)-300<=300:=dF h1;omega
 subst h1
 exact r1C rfl rfl rfl rfl rfl rfl (zaa _)
theorem zpT(x:Cir)(a b:Int)(hx:0<=x.Drift/\x.Drift<=60)(ha:0<=a/\a<=1048576)(hb:0<=b/\b<=1048576):Spec PP 247 [x.v,N a,N b] [N (drf x a b)]:=by
 have m1:=mulB (a:=x.Drift) (b:=max (a-b) (b-a)) (x:=60) (y:=1048576) (by omega) (by omega)
 have m0:=wK hx.1 (show 0<=max (a-b) (b-a)by omega)
 refine sA Tryz.func247 ?_
 have g1:inR .i64 (x.Drift*max (a-b) (b-a)):=i6
 have g2:inR .i64 (x.Drift*max (a-b) (b-a)+59):=i6
 have eq:(x.Drift*max (a-b) (b-a)+59).tdiv 60=drf x a b:=by
  unfold drf
  rw[ja5 (by omega)]
  omega
 have g3:inR .i64 ((x.Drift*max (a-b) (b-a)+59).tdiv 60):=by
  rw[ja5 (by omega)]
  exact i6
 refine⟨i6,⟨i6,⟨g1,⟨g2,⟨⟨by decide,g3⟩,?_⟩⟩⟩⟩⟩
 exact r1I rfl eq
end Go.Pg
namespace Go.Pg
open Go.Proofs Go.RowKit Go.Sort Go.Shelf
structure Tg where
  N:Int
  T:Int
  lo:Int
  hi:Int
  no:Bool
  deriving DecidableEq,Inhabited
abbrev Tg.ds(x:Tg):List D:=[I x.N,I x.T,I x.lo,I x.hi,.bool x.no]
abbrev Tg.v(x:Tg):V1:=.agg x.ds
def Tg.at(x:Tg):Nat->D
 |0=>I x.N
 |1=>I x.T
 |2=>I x.lo
 |3=>I x.hi
 | _=>.bool x.no
abbrev lTg(l:List Tg):D:=.slc 5 l.length fun i=>(l.getD i default).at
abbrev rowTg(l:List Tg):Nat->Nat->D:=fun i=>(l.getD i default).at
theorem ztv{vs:List Tg}{p:Tg}{g:Nat->Nat->D}(hg:∀j,j<5->D.eqv (g 0 j) (p.at j)):D.eqv (.slc 5 (vs.length+1) (appRow vs.length (rowTg vs) g)) (.slc 5 (vs++[p]).length (rowTg (vs++[p]))):=by
 refine⟨by simp,.inr ⟨rfl,fun i hi j hj=>?_⟩⟩
 show D.eqv (appRow vs.length (rowTg vs) g i j) (((vs++[p]).getD i default).at j)
 unfold appRow
 by_cases h:i<vs.length
 ·rw[kH h,hZ,jJ h,<- hZ]
  exact dE _
 have e:i=vs.length:=by omega
 subst e
 rw[kG h,kE,hZ,jK (jE _),kE]
 exact hg j hj
theorem eqv5{f:Nat->D}{p:Tg}(h0:f 0=I p.N)(h1:f 1=I p.T)(h2:f 2=I p.lo)(h3:f 3=I p.hi)(h4:f 4= .bool p.no):∀j,j<5->D.eqv (f j) (p.at j)
 |0,_=>by rw[h0];exact⟨rfl,rfl⟩
 |1,_=>by rw[h1];exact⟨rfl,rfl⟩
 |2,_=>by rw[h2];exact⟨rfl,rfl⟩
 |3,_=>by rw[h3];exact⟨rfl,rfl⟩
 |4,_=>by rw[h4];exact rfl
def tg0(x:Cir):Tg:=⟨0,x.From,x.Lo,x.Hi,false⟩
def tgK(x:Cir)(k:Chk):Tg:=⟨k.ID,k.Tick,(alnD x k).lo,(alnD x k).hi,(alnD x k).no⟩
def tgsR(c:Cirs)(x:Cir)(n:Nat):List Tg:=tg0 x::(((c.K.take n).filter fun k=>k.C==x.ID).map (tgK x))
def tgsL(c:Cirs)(x:Cir):List Tg:=tgsR c x c.K.length
theorem zny{c:Cirs}{x:Cir}{i:Nat}(h:i<c.K.length)(hk:(c.K.getD i default).C=x.ID):tgsR c x (i+1)=tgsR c x i++[tgK x (c.K.getD i default)]:=by
 unfold tgsR
 have e:[c.K.getD i default].filter (fun k:Chk=>k.C==x.ID)=[c.K.getD i default]:=by rw[qA (by rw[hk];exact jaH _)];rfl
 rw[zav h default,kV,jT,e]
 rfl
theorem zqO{c:Cirs}{x:Cir}{i:Nat}(h:i<c.K.length)(hk:(c.K.getD i default).C≠x.ID):tgsR c x (i+1)=tgsR c x i:=by
 unfold tgsR
 have e:[c.K.getD i default].filter (fun k:Chk=>k.C==x.ID)=[]:=by rw[qF (by simpa using hk)];rfl
 rw[zav h default,kV,e,jat]
theorem zfq(c:Cirs)(x:Cir)(n:Nat):(tgsR c x n).length<=n+1:=by
 unfold tgsR
 have:=qD (fun k:Chk=>k.C==x.ID) (c.K.take n)
 have:=List.length_take_le n c.K
 simp;omega
theorem zsq{c:Cirs}{id:Int}(hid:¬cirI c id<0){k:Chk}(hk:k.C=(c.C.getD (cirI c id).toNat default).ID):chkO c k=c.C.getD (cirI c id).toNat default:=by
 unfold chkO
 rw[hk,zie hid]
theorem zgG(c:Cirs)(id:Int)(h:CirsOk c)(hid:¬cirI c id<0):Spec PP 199 [c.v,(c.C.getD (cirI c id).toNat default).v] [.d (lTg (tgsL c (c.C.getD (cirI c id).toNat default)))]:=by
 have hO:=fun k=>zsq hid (k:=k)
 have hX:=(h.cs _ (zaS hid).1).on
 generalize c.C.getD (cirI c id).toNat default=x at*
 have hm:=h.m
 have hn:=h.n
 refine sA Tryz.func199 ?_
 refine lOf (σ:=Nat) (fun i=>([(2,.box 2 0),(3,.box 3 0),(5,.own 13),(6,.d (I i))],[(2,bxCs c),(3,.box (x.ds.map AV.d)),(13,.row 317 5 (tgsR c x i).length (rowTg (tgsR c x i)))])) (fun i=>i<=c.K.length) (fun i=>c.K.length-i) 0
  ⟨rfl,⟨obCs rfl,obD x.ds rfl,obR rfl ⟨rfl,.inr ⟨rfl,fun i hi j hj=>?_⟩⟩,trivial⟩,wq rfl⟩ (jF _) fun i hi=>?_
 ·obtain rfl:i=0:=by omega
  exact eqv5 (p:=tg0 x) rfl rfl rfl rfl rfl j hj
 apply bY<;>intro h1
 ·have h1:i<c.K.length:=by have:=dT h1;omega
  refine oN 9 ?_
  refine⟨⟨rfl,by omega,by omega⟩,?_⟩
  apply bY<;>intro h2
  ·have h2:(c.K.getD i default).C=x.ID:=by simpa using h2
   have eO:=hO (c.K.getD i default) h2
   refine oN 24 ?_
   refine⟨⟨rfl,by omega,by omega⟩,⟨⟨rfl,by omega,by omega⟩,⟨⟨rfl,by omega,by omega⟩,?_⟩⟩⟩
   refine oP (zn9 c (c.K.getD i default) (h.ks i h1) (by rw[eO];exact hX) (by omega)) rfl rfl ?_
   have hl:=zfq c x i
   refine⟨⟨.inr rfl,by simp only[maxLen];omega,by dsimp only;omega⟩,?_⟩
   refine⟨i6,?_⟩
   refine⟨i+1,⟨rfl,⟨obCs rfl,obD x.ds rfl,obR rfl ?_,trivial⟩,wq rfl⟩,h1,(msr (by omega))⟩
   rw[zny h1 h2]
   exact ztv (eqv5 (p:=tgK x (c.K.getD i default)) rfl rfl (by show I (alnD (chkO c (c.K.getD i default)) _).lo=_;rw[eO];rfl) (by show I (alnD (chkO c (c.K.getD i default)) _).hi=_;rw[eO];rfl) (by show D.bool (alnD (chkO c (c.K.getD i default)) _).no=_;rw[eO];rfl))
  have h2:(c.K.getD i default).C≠x.ID:=by simpa using h2
  refine⟨i6,?_⟩
  refine⟨i+1,⟨rfl,⟨obCs rfl,obD x.ds rfl,obR rfl (by rw[zqO h1 h2];exact dE _),trivial⟩,wq rfl⟩,h1,(msr (by omega))⟩
 have h1:i=c.K.length:=by have:=dF h1;omega
 subst h1
 exact⟨⟨_,_,_,_,rfl,dE _⟩,trivial⟩
structure TgOk(t:Tg):Prop where
  lo:-300<=t.lo/\t.lo<=300
  hi:-300<=t.hi/\t.hi<=300
  t:0<=t.T/\t.T<=1048576
def agaB(x:Cir)(a b:Tg):Bool:=decide (b.hi+drf x a.T b.T<a.lo)||decide (a.hi+drf x a.T b.T<b.lo)
theorem zj8(x:Cir)(a b:Tg)(hx:0<=x.Drift/\x.Drift<=60)(ha:TgOk a)(hb:TgOk b):Spec PP 245 [x.v,a.v,b.v] [B (agaB x a b)]:=by
 have db:=zjE hx ha.t hb.t
 have a1:=ha.lo
 have a2:=ha.hi
 have b1:=hb.lo
 have b2:=hb.hi
 refine sA Tryz.func245 ?_
 refine cP (zpT x a.T b.T hx ha.t hb.t) rfl rfl ?_
 refine⟨i6,?_⟩
 apply bY<;>intro h1
 ·have h1:decide (b.hi+drf x a.T b.T<a.lo)=true:=h1
  refine sT ?_
  refine r1B rfl ?_
  unfold agaB;rw[h1];rfl
 have h1:decide (b.hi+drf x a.T b.T<a.lo)=false:=h1
 refine⟨i6,?_⟩
 refine sF ?_
 refine r1B rfl ?_
 unfold agaB;rw[h1];rfl
def prAt(p:Int×Int):Nat->D
 |0=>I p.1
 | _=>I p.2
abbrev lPr(l:List (Int×Int)):D:=.slc 2 l.length fun i=>prAt (l.getD i default)
def lsP(p q:Int×Int):Bool:=decide (p.1<q.1)||(p.1==q.1&&decide (p.2<q.2))
def leadN(q:Int×Int):List (Int×Int)->Nat
 | []=>0
 |a::r=>if lsP a q=true then leadN q r+1 else 0
def putL(L:List (Int×Int))(q:Int×Int):List (Int×Int):=L.take (leadN q L)++q::L.drop (leadN q L)
theorem zfY(q:Int×Int):∀L:List (Int×Int),leadN q L<=L.length
 | []=>jE _
 |a::r=>by
  unfold leadN
  split
  ·have:=zfY q r;simp;omega
  simp
theorem zdH(q:Int×Int):∀(L:List (Int×Int)) (i:Nat),i<=L.length->(∀j,j<i->lsP (L.getD j default) q=true)->(i<L.length->lsP (L.getD i default) q=false)->leadN q L=i
 | [],i,h,_,_=>by simp at h;subst h;rfl
 |a::r,0,_,_,h2=>by
  have:=h2 (by simp)
  unfold leadN
  rw[kG (by rw[show lsP a q=false from this];decide)]
 |a::r,i+1,h,h1,h2=>by
  have h0:=h1 0 (by omega)
  unfold leadN
  rw[kH (show lsP a q=true from h0),zdH q r i (by simpa using h) (fun j hj=>by simpa using h1 (j+1) (by omega)) (fun hi=>by simpa using h2 (by simpa using hi))]
theorem zfH(L:List (Int×Int))(q:Int×Int):(putL L q).length=L.length+1:=by
 have:=zfY q L
 unfold putL
 simp
 omega
theorem zoe(L:List (Int×Int))(q:Int×Int)(m:Nat):(putL L q).getD m default=if m<leadN q L then L.getD m default else if m=leadN q L then q else L.getD (m-1) default:=by
 have hl:=zfY q L
 unfold putL
 rw[hZ]
 by_cases h1:m<leadN q L
 ·rw[kH h1,jJ (by rw[jQ];omega),jS,kH h1,<- hZ]
 rw[kG h1,jK (by rw[jQ];omega),jQ]
 rw[show min (leadN q L) L.length=leadN q L by omega]
 by_cases h2:m=leadN q L
 ·rw[kH h2,h2,kE];rfl
 rw[kG h2]
 obtain⟨d,hd⟩:∃d,m-leadN q L=d+1:=⟨m-leadN q L-1,by omega⟩
 rw[hd,wG,wC,show leadN q L+d=m-1 by omega,<- hZ]
theorem zhP{L:List (Int×Int)}{q:Int×Int}{i:Nat}(hi:i<=L.length)(hat:leadN q L=i){n n':Nat}{F f:Nat->Nat->D}(hn:n=i)(hn':n'=i)(hF:∀a,a<i->∀j,j<2->F a j=prAt (L.getD a default) j)(h:∀j,j<2->f 0 j=prAt q j):
  D.eqv (.slc 2 (n+1+(L.length-n')) (appRow (n+1) (appRow n F f) fun a=>prAt (L.getD (n'+a) default))) (lPr (putL L q)):=by
 subst hn
 subst hn'
 refine⟨by rw[zfH];omega,.inr ⟨rfl,fun m hm j hj=>?_⟩⟩
 show D.eqv (appRow (n'+1) (appRow n' F f) (fun a=>prAt (L.getD (n'+a) default)) m j) (prAt ((putL L q).getD m default) j)
 rw[zoe,hat]
 unfold appRow
 by_cases h1:m<n'
 ·rw[kH (by omega),kH h1,kH h1,hF m h1 j hj];exact dE _
 by_cases h2:m=n'
 ·rw[kH (by omega),kG h1,kG h1,kH h2,h2,kE,h j hj];exact dE _
 rw[kG (by omega),kG h1,kG h2]
 show D.eqv (prAt (L.getD (n'+(m-(n'+1))) default) j) _
 rw[show n'+(m-(n'+1))=m-1 by omega];exact dE _
theorem zlw{f:Nat->D}{q:Int×Int}(h0:f 0=I q.1)(h1:f 1=I q.2):∀j,j<2->f j=prAt q j
 |0,_=>h0
 |1,_=>h1
theorem zpS(L:List (Int×Int))(q:Int×Int)(hn:L.length<=100000):Spec PP 246 [.d (lPr L),.agg [I q.1,I q.2]] [.d (lPr (putL L q))]:=by
 refine sA Tryz.func246 ?_
 refine lOf (σ:=Nat) (fun i=>([(0,.d (lPr L)),(3,.box 3 0),(5,.d (I i))],[(3,.box ([I q.1,I q.2].map AV.d))])) (fun i=>i<=L.length/\∀j,j<i->lsP (L.getD j default) q=true) (fun i=>L.length-i) 0
  ⟨rfl,⟨obD [I q.1,I q.2] rfl,trivial⟩,wq rfl⟩ z0L fun i hi=>?_
 obtain⟨hi,ha⟩:=hi
 have next:lsP (L.getD i default) q=true->∀j,j<i+1->lsP (L.getD j default) q=true:=fun h j hj=>by
  by_cases e:j=i
  ·subst e;exact h
  exact ha j (by omega)
 refine oN 34 ?_
 apply bY<;>intro h1
 ·have h1:i<L.length:=by have:=dT h1;omega
  refine⟨⟨rfl,by omega,by omega⟩,⟨⟨by decide,by decide⟩,⟨⟨by decide,by decide⟩,?_⟩⟩⟩
  apply bY<;>intro h2
  ·have h2:decide ((L.getD i default).1<q.1)=true:=h2
   repeat first|apply sT|apply sF
   refine⟨i6,?_⟩
   exact⟨i+1,⟨rfl,⟨obD [I q.1,I q.2] rfl,trivial⟩,wq rfl⟩,⟨h1,next (by unfold lsP;rw[h2];rfl)⟩,(msr (by omega))⟩
  have h2:decide ((L.getD i default).1<q.1)=false:=h2
  refine⟨⟨rfl,by omega,by omega⟩,⟨⟨by decide,by decide⟩,⟨⟨by decide,by decide⟩,?_⟩⟩⟩
  apply bY<;>intro h3
  ·have h3:((L.getD i default).1==q.1)=true:=h3
   refine⟨⟨rfl,by omega,by omega⟩,⟨⟨by decide,by decide⟩,⟨⟨by decide,by decide⟩,?_⟩⟩⟩
   repeat first|apply sT|apply sF
   apply bY<;>intro h4
   ·have h4:decide ((L.getD i default).2<q.2)=true:=h4
    refine⟨i6,?_⟩
    exact⟨i+1,⟨rfl,⟨obD [I q.1,I q.2] rfl,trivial⟩,wq rfl⟩,⟨h1,next (by unfold lsP;rw[h3,h4,qE,k9])⟩,(msr (by omega))⟩
   have h4:decide ((L.getD i default).2<q.2)=false:=h4
   have hat:leadN q L=i:=zdH q L i hi ha fun _=>by unfold lsP;rw[h2,h3,h4];rfl
   refine Exists.intro [1001,1002,1003,1005,1006,1008,1009,1010,0,4,7,11,12] (And.intro (by kernel_rfl) (FzOb.fz [3] ?_))
   refine⟨rfl,⟨rfl,?_⟩⟩
   refine⟨rfl,⟨rfl,?_⟩⟩
   refine⟨rfl,⟨⟨.inr rfl,by omega,by omega⟩,⟨rfl,?_⟩⟩⟩
   refine⟨rfl,⟨rfl,?_⟩⟩
   refine⟨rfl,⟨rfl,?_⟩⟩
   refine⟨rfl,⟨rfl,?_⟩⟩
   refine⟨rfl,⟨rfl,?_⟩⟩
   refine⟨rfl,⟨⟨.inr rfl,by omega,by omega⟩,⟨rfl,?_⟩⟩⟩
   refine⟨⟨.inr rfl,by simp only[maxLen];omega,by dsimp only;omega⟩,?_⟩
   refine⟨⟨.inr rfl,by simp only[maxLen];omega,by dsimp only;omega⟩,?_⟩
   refine⟨⟨.inr rfl,by simp only[maxLen];omega,by dsimp only;omega⟩,?_⟩
   refine⟨⟨_,_,_,_,rfl,?_⟩,trivial⟩
   exact zhP hi hat (qB i) rfl (fun a _ j _=>rfl) (zlw rfl rfl)
  have h3:((L.getD i default).1==q.1)=false:=h3
  repeat first|apply sT|apply sF
  have hat:leadN q L=i:=zdH q L i hi ha fun _=>by unfold lsP;rw[h2,h3];rfl
  refine Exists.intro [1001,1002,1003,1005,1006,1008,1009,1010,0,4,7,11,12] (And.intro (by kernel_rfl) (FzOb.fz [3] ?_))
  refine⟨rfl,⟨rfl,?_⟩⟩
  refine⟨rfl,⟨rfl,?_⟩⟩
  refine⟨rfl,⟨⟨.inr rfl,by omega,by omega⟩,⟨rfl,?_⟩⟩⟩
  refine⟨rfl,⟨rfl,?_⟩⟩
  refine⟨rfl,⟨rfl,?_⟩⟩
  refine⟨rfl,⟨rfl,?_⟩⟩
  refine⟨rfl,⟨rfl,?_⟩⟩
  refine⟨rfl,⟨⟨.inr rfl,by omega,by omega⟩,⟨rfl,?_⟩⟩⟩
  refine⟨⟨.inr rfl,by simp only[maxLen];omega,by dsimp only;omega⟩,?_⟩
  refine⟨⟨.inr rfl,by simp only[maxLen];omega,by dsimp only;omega⟩,?_⟩
  refine⟨⟨.inr rfl,by simp only[maxLen];omega,by dsimp only;omega⟩,?_⟩
  refine⟨⟨_,_,_,_,rfl,?_⟩,trivial⟩
  exact zhP hi hat (qB i) rfl (fun a _ j _=>rfl) (zlw rfl rfl)
 have h1:i=L.length:=by have:=dF h1;omega
 repeat first|apply sT|apply sF
 have hat:leadN q L=i:=zdH q L i hi ha fun h=>by omega
 refine Exists.intro [1001,1002,1003,1005,1006,1008,1009,1010,0,4,7,11,12] (And.intro (by kernel_rfl) (FzOb.fz [3] ?_))
 refine⟨rfl,⟨rfl,?_⟩⟩
 refine⟨rfl,⟨rfl,?_⟩⟩
 refine⟨rfl,⟨⟨.inr rfl,by omega,by omega⟩,⟨rfl,?_⟩⟩⟩
 refine⟨rfl,⟨rfl,?_⟩⟩
 refine⟨rfl,⟨rfl,?_⟩⟩
 refine⟨rfl,⟨rfl,?_⟩⟩
 refine⟨rfl,⟨rfl,?_⟩⟩
 refine⟨rfl,⟨⟨.inr rfl,by omega,by omega⟩,⟨rfl,?_⟩⟩⟩
 refine⟨⟨.inr rfl,by simp only[maxLen];omega,by dsimp only;omega⟩,?_⟩
 refine⟨⟨.inr rfl,by simp only[maxLen];omega,by dsimp only;omega⟩,?_⟩
 refine⟨⟨.inr rfl,by simp only[maxLen];omega,by dsimp only;omega⟩,?_⟩
 refine⟨⟨_,_,_,_,rfl,?_⟩,trivial⟩
 exact zhP hi hat (qB i) rfl (fun a _ j _=>rfl) (zlw rfl rfl)
def fireB(x:Cir)(l:List Tg)(i k:Nat):Bool:=
 (((i:Int)==(k:Int))&&(l.getD i default).no)||(decide ((l.getD i default).N<(l.getD k default).N)&& !(l.getD i default).no&& !(l.getD k default).no&&agaB x (l.getD i default) (l.getD k default))
def outK(x:Cir)(l:List Tg)(i:Nat)(o:List (Int×Int)):Nat->List (Int×Int)
 |0=>o
 |k+1=>if fireB x l i k=true then putL (outK x l i o k) ((l.getD i default).N,(l.getD k default).N)else outK x l i o k
def outI(x:Cir)(l:List Tg):Nat->List (Int×Int)
 |0=>[]
 |i+1=>outK x l i (outI x l i) l.length
theorem zfP(x:Cir)(l:List Tg)(i:Nat)(o:List (Int×Int)):∀k,(outK x l i o k).length<=o.length+k
 |0=>jE _
 |k+1=>by
  have:=zfP x l i o k
  unfold outK
  split
  ·rw[zfH];omega
  omega
theorem zi9(x:Cir)(l:List Tg):∀i,(outI x l i).length<=i*l.length
 |0=>by simp[outI]
 |i+1=>by
  have h1:=zi9 x l i
  have h2:=zfP x l i (outI x l i) l.length
  unfold outI
  rw[qG,Nat.one_mul]
  omega
theorem zfO{x:Cir}{l:List Tg}{i k:Nat}{o:List (Int×Int)}(h:fireB x l i k=true):outK x l i o (k+1)=putL (outK x l i o k) ((l.getD i default).N,(l.getD k default).N):=by
 show(if _ then _ else _)=_;rw[kH h]
theorem zc6{x:Cir}{l:List Tg}{i k:Nat}{o:List (Int×Int)}(h:fireB x l i k=false):outK x l i o (k+1)=outK x l i o k:=by
 show(if _ then _ else _)=_;rw[kG (by rw[h];decide)]
theorem zhK(c:Cirs)(id:Int)(h:CirsOk c)(hid:¬cirI c id<0)(hl:∀t∈tgsL c (c.C.getD (cirI c id).toNat default),TgOk t):
    Spec PP 197 [c.v,(c.C.getD (cirI c id).toNat default).v] [.d (lPr (outI (c.C.getD (cirI c id).toNat default) (tgsL c (c.C.getD (cirI c id).toNat default)) (tgsL c (c.C.getD (cirI c id).toNat default)).length))]:=by
  have hT:=zgG c id h hid
  have hx:=(h.cs _ (zaS hid).1).d
  have hlen:(tgsL c (c.C.getD (cirI c id).toNat default)).length<=61:=jM (zfq c _ _) (by have:=h.m;omega)
  generalize c.C.getD (cirI c id).toNat default=x at*
  generalize tgsL c x=l at*
  refine sA Tryz.func197 ?_
  refine cR hT rfl rfl ?_
  refine lOf (σ:=Nat) (fun i=>([(3,.box 3 0),(5,.d (lTg l)),(6,.d (lPr (outI x l i))),(7,.d (I i))],[(3,.box (x.ds.map AV.d))])) (fun i=>i<=l.length) (fun i=>l.length-i) 0
    ⟨rfl,⟨obD x.ds rfl,trivial⟩,avQ rfl,avR _ rfl,avOw rfl rfl rfl ⟨rfl,.inl rfl⟩,avR _ rfl,trivial⟩ (jF _) fun i hi=> ?_
  apply bY<;>intro h0
  · have h0:i<l.length:=by have:=dT h0;omega
    have oi:=hl _ (gd1 h0 default)
    refine lOf (σ:=Nat) (fun k=>([(3,.box 3 0),(5,.d (lTg l)),(6,.d (lPr (outK x l i (outI x l i) k))),(7,.d (I i)),(8,.d (I k))],[(3,.box (x.ds.map AV.d))])) (fun k=>k<=l.length) (fun k=>l.length-k) 0
      ⟨rfl,⟨obD x.ds rfl,trivial⟩,wq rfl⟩ (jF _) fun k hk=> ?_
    apply bY<;>intro h1
    · have h1:k<l.length:=by have:=dT h1;omega
      have ok:=hl _ (gd1 h1 default)
      have ol:(outK x l i (outI x l i) k).length<=10000:=by
        have a1:=zfP x l i (outI x l i) k
        have a2:=zi9 x l i
        have a3:i*l.length<=61*61:=jbj (by omega) hlen
        omega
      refine⟨⟨rfl,by omega,by omega⟩,?_⟩
      refine⟨⟨rfl,by omega,by omega⟩,?_⟩
      apply bY<;>intro h2
      · have h2:((i:Int)==(k:Int))=true:=h2
        obtain rfl:i=k:=by have:(i:Int)=k:=by simpa using h2
                           omega
        repeat first|apply sT|apply sF
        apply bY<;>intro h3
        · have h3:(l.getD i default).N<(l.getD i default).N:=dT h3
          omega
        have h3:decide ((l.getD i default).N<(l.getD i default).N)=false:=h3
        repeat first|apply sT|apply sF
        apply bY<;>intro h4
        · have h4:(l.getD i default).no=true:=h4
          have hf:fireB x l i i=true:=by unfold fireB;rw [h2,h4];rfl
          repeat first|apply sT|apply sF
          refine cR (zpS (outK x l i (outI x l i) i) ((l.getD i default).N,(l.getD i default).N) (by omega)) rfl rfl ?_
          refine⟨i6,?_⟩
          refine⟨i+1,⟨rfl,⟨obD x.ds rfl,trivial⟩,avQ rfl,avR _ rfl,avR _ (by rw [zfO hf];rfl),wq rfl⟩,h1,(msr (by omega))⟩
        have h4:(l.getD i default).no=false:=h4
        have hf:fireB x l i i=false:=by unfold fireB;rw [h3,h4,kW];rfl
        repeat first|apply sT|apply sF
        refine⟨i6,?_⟩
        refine⟨i+1,⟨rfl,⟨obD x.ds rfl,trivial⟩,avQ rfl,avR _ rfl,avR _ (by rw [zc6 hf];rfl),wq rfl⟩,h1,(msr (by omega))⟩
      have h2:((i:Int)==(k:Int))=false:=h2
      repeat first|apply sT|apply sF
      apply bY<;>intro h3
      · have h3:decide ((l.getD i default).N<(l.getD k default).N)=true:=h3
        repeat first|apply sT|apply sF
        apply bY<;>intro h4
        · have h4:(l.getD i default).no=false:=zd5 h4
          repeat first|apply sT|apply sF
          apply bY<;>intro h5
          · have h5:(l.getD k default).no=false:=zd5 h5
            refine cP (zj8 x (l.getD i default) (l.getD k default) hx oi ok) rfl rfl ?_
            repeat first|apply sT|apply sF
            apply bY<;>intro h6
            · have h6:agaB x (l.getD i default) (l.getD k default)=true:=h6
              have hf:fireB x l i k=true:=by unfold fireB;rw [h3,h4,h5,h6,jX];exact .inr rfl
              refine cR (zpS (outK x l i (outI x l i) k) ((l.getD i default).N,(l.getD k default).N) (by omega)) rfl rfl ?_
              refine⟨i6,?_⟩
              refine⟨k+1,⟨rfl,⟨obD x.ds rfl,trivial⟩,avQ rfl,avR _ rfl,avR _ (by rw [zfO hf];rfl),wq rfl⟩,h1,(msr (by omega))⟩
            have h6:agaB x (l.getD i default) (l.getD k default)=false:=h6
            have hf:fireB x l i k=false:=by unfold fireB;rw [h2,h6,kW];rfl
            refine⟨i6,?_⟩
            refine⟨k+1,⟨rfl,⟨obD x.ds rfl,trivial⟩,avQ rfl,avR _ rfl,avR _ (by rw [zc6 hf];rfl),wq rfl⟩,h1,(msr (by omega))⟩
          have h5:(l.getD k default).no=true:=zd6 h5
          have hf:fireB x l i k=false:=by unfold fireB;rw [h2,h5];simp
          repeat first|apply sT|apply sF
          refine⟨i6,?_⟩
          refine⟨k+1,⟨rfl,⟨obD x.ds rfl,trivial⟩,avQ rfl,avR _ rfl,avR _ (by rw [zc6 hf];rfl),wq rfl⟩,h1,(msr (by omega))⟩
        have h4:(l.getD i default).no=true:=zd6 h4
        have hf:fireB x l i k=false:=by unfold fireB;rw [h2,h4];simp
        repeat first|apply sT|apply sF
        refine⟨i6,?_⟩
        refine⟨k+1,⟨rfl,⟨obD x.ds rfl,trivial⟩,avQ rfl,avR _ rfl,avR _ (by rw [zc6 hf];rfl),wq rfl⟩,h1,(msr (by omega))⟩
      have h3:decide ((l.getD i default).N<(l.getD k default).N)=false:=h3
      have hf:fireB x l i k=false:=by unfold fireB;rw [h2,h3];rfl
      repeat first|apply sT|apply sF
      refine⟨i6,?_⟩
      refine⟨k+1,⟨rfl,⟨obD x.ds rfl,trivial⟩,avQ rfl,avR _ rfl,avR _ (by rw [zc6 hf];rfl),wq rfl⟩,h1,(msr (by omega))⟩
    have h1:k=l.length:=by have:=dF h1;omega
    subst h1
    refine⟨i6,?_⟩
    exact⟨i+1,⟨rfl,⟨obD x.ds rfl,trivial⟩,wq rfl⟩,h0,(msr (by omega))⟩
  have h0:i=l.length:=by have:=dF h0;omega
  subst h0
  exact⟨dE _,trivial⟩
def limS(x:Cir)(t:Int)(s:Spn)(g:Tg):Spn:=⟨max s.Lo (g.lo-drf x g.T t),min s.Hi (g.hi+drf x g.T t)⟩
def limF(x:Cir)(t:Int)(l:List Tg):Spn:=l.foldl (limS x t) ⟨-300,300⟩
theorem zlp(x:Cir)(l:List Tg)(t:Int)(hx:0<=x.Drift/\x.Drift<=60)(hl:∀g∈l,TgOk g)(hn:l.length<=1000)(ht:0<=t/\t<=1048576):Spec PP 198 [x.v,.d (lTg l),N t] [(limF x t l).v]:=by
 refine sA Tryz.func198 ?_
 refine lOf (σ:=Nat) (fun i=>([(1,.d (lTg l)),(2,.d (I t)),(3,.box 3 0),(6,.box 6 0),(7,.box 7 0),(8,.d (I i))],[(3,.box (x.ds.map AV.d)),(6,.box ([I 0,I 0].map AV.d)),(7,.box ([I (limF x t (l.take i)).Lo,I (limF x t (l.take i)).Hi].map AV.d))])) (fun i=>i<=l.length) (fun i=>l.length-i) 0
  ⟨rfl,⟨obD x.ds rfl,obD [I 0,I 0] rfl,obD [I (-300),I 300] rfl,trivial⟩,wq rfl⟩ (jF _) fun i hi=>?_
 apply bY<;>intro h1
 ·have h1:i<l.length:=by have:=dT h1;omega
  have o:=hl _ (gd1 h1 default)
  have q1:=o.lo
  have q2:=o.hi
  have db:=zjE hx o.t ht
  have eS:limF x t (l.take (i+1))=limS x t (limF x t (l.take i)) (l.getD i default):=by unfold limF;rw[zav h1 default,wJ];rfl
  refine oN 9 ?_
  refine⟨⟨rfl,by omega,by omega⟩,?_⟩
  refine oP (zpT x (l.getD i default).T t hx o.t ht) rfl rfl ?_
  refine oN 14 ?_
  refine⟨⟨rfl,by omega,by omega⟩,?_⟩
  have z1:inR .i64 ((l.getD i default).lo-drf x (l.getD i default).T t):=i6
  have z2:inR .i64 ((l.getD i default).hi+drf x (l.getD i default).T t):=i6
  refine⟨z1,?_⟩
  refine oN 14 ?_
  refine⟨⟨rfl,by omega,by omega⟩,?_⟩
  refine⟨z2,?_⟩
  refine⟨i6,?_⟩
  refine⟨i+1,⟨rfl,⟨obD x.ds rfl,obD [I 0,I 0] rfl,obD [I (limF x t (l.take (i+1))).Lo,I (limF x t (l.take (i+1))).Hi] (by rw[eS];rfl),trivial⟩,wq rfl⟩,h1,(msr (by omega))⟩
 have h1:i=l.length:=by have:=dF h1;omega
 subst h1
 rw[jZ]
 exact r1C rfl rfl rfl rfl rfl rfl (zaa _)
def tgOf(t:Thg):Tg:=⟨t.k.ID,t.k.Tick,if t.s.Lo<=t.s.Hi then t.s.Lo else 0,if t.s.Lo<=t.s.Hi then t.s.Hi else 0,noneB t⟩
theorem zs3{x:Cir}(h:x.Lo<=x.Hi):tgOf (thg0 x)=tg0 x:=by
 unfold tgOf tg0 thg0 noneB
 dsimp only
 rw[kH h,kH h,jH (by omega)]
theorem zs2(x:Cir)(k:Chk):tgOf ⟨k,alo x k⟩=tgK x k:=by
 unfold tgOf tgK noneB alnD
 dsimp only
 by_cases h:(alo x k).Lo<=(alo x k).Hi
 ·rw[kH h,kH h,kH h,jH (by omega)]
 rw[kG h,kG h,kG h,jG (by omega)]
theorem zkT{c:Cirs}{x:Cir}(h:x.Lo<=x.Hi):tgsL c x=(thsR c x c.K.length).map tgOf:=by
 unfold tgsL tgsR thsR thsK
 rw[kY,jbb,zs3 h]
 congr 1
 refine qH fun k _=>?_
 exact(zs2 x k).symm
theorem zi7{x:Cir}{l:List Tg}{i:Nat}:∀{k:Nat}{o:List (Int×Int)},outK x l i o k=[]↔o=[]/\∀j,j<k->fireB x l i j=false
 |0,o=>⟨fun h=>⟨h,fun j hj=>absurd hj (qJ _)⟩,fun h=>h.1⟩
 |k+1,o=>by
  cases hf:fireB x l i k with
  |true=>
   rw[zfO hf]
   refine⟨fun h=>?_,fun h=>?_⟩
   ·have:=zfH (outK x l i o k) ((l.getD i default).N,(l.getD k default).N)
    rw[h]at this;simp at this
   ·have:=h.2 k (by omega)
    rw[hf]at this;cases this
  |false=>
  rw[zc6 hf,zi7]
  refine⟨fun h=>⟨h.1,fun j hj=>?_⟩,fun h=>⟨h.1,fun j hj=>h.2 j (by omega)⟩⟩
  by_cases e:j=k
  ·subst e;exact hf
  exact h.2 j (by omega)
theorem zi8{x:Cir}{l:List Tg}:∀{i:Nat},outI x l i=[]↔∀j,j<i->∀k,k<l.length->fireB x l j k=false
 |0=>⟨fun _ j hj=>absurd hj (qJ _),fun _=>rfl⟩
 |i+1=>by
  show outK x l i (outI x l i) l.length=[]↔_
  rw[zi7,zi8]
  refine⟨fun h j hj=>?_,fun h=>⟨fun j hj=>h j (by omega),h i (by omega)⟩⟩
  by_cases e:j=i
  ·subst e;exact h.2
  exact h.1 j (by omega)
theorem zp5{α β:Type}[Inhabited α][Inhabited β](f:α->β)(l:List α){i:Nat}(h:i<l.length):(l.map f).getD i default=f (l.getD i default):=by
 rw[hZ,hZ,jU,kF h];rfl
theorem ziv{x:Cir}{a b:Thg}(ha:noneB a=false)(hb:noneB b=false):agaB x (tgOf a) (tgOf b)=cl2 x a b:=by
 have h1:a.s.Lo<=a.s.Hi:=by have:=jab ha;omega
 have h2:b.s.Lo<=b.s.Hi:=by have:=jab hb;omega
 unfold agaB cl2 tgOf gap
 dsimp only
 rw[kH h1,kH h1,kH h2,kH h2,<- Bool.decide_or]
 apply qI.2
 omega
theorem zom{x:Cir}{l:List Thg}(hd:∀i j,i<l.length->j<l.length->(l.getD i default).k.ID=(l.getD j default).k.ID->i=j):outI x (l.map tgOf) (l.map tgOf).length=[]↔Fine x l:=by
 rw[zi8,kO]
 have ef:∀i k,i<l.length->k<l.length->fireB x (l.map tgOf) i k=(((i:Int)==(k:Int))&&noneB (l.getD i default)||(decide ((l.getD i default).k.ID<(l.getD k default).k.ID)&& !noneB (l.getD i default)&& !noneB (l.getD k default)&&agaB x (tgOf (l.getD i default)) (tgOf (l.getD k default)))):=fun i k hi hk=>by
  unfold fireB
  rw[zp5 _ _ hi,zp5 _ _ hk];rfl
 unfold Fine
 rw[zfM]
 constructor
 ·intro h
  have hn:∀i,i<l.length->noneB (l.getD i default)=false:=fun i hi=>by
   have:=h i hi i hi
   rw[ef i i hi hi]at this
   simp at this
   exact this
  refine⟨fun t ht=>?_,fun i j hij hj=>?_⟩
  ·obtain⟨i,hi,rfl⟩:=za4 default ht
   exact hn i hi
  have hi:i<l.length:=by omega
  have n1:=hn i hi
  have n2:=hn j hj
  rcases Int.lt_trichotomy (l.getD i default).k.ID (l.getD j default).k.ID with h1|h1|h1
  ·have:=h i hi j hj
   rw[ef i j hi hj,n1,n2,jG h1,ziv n1 n2]at this
   simpa using this
  ·exact absurd (hd i j hi hj h1) (by omega)
  have:=h j hj i hi
  rw[ef j i hj hi,n1,n2,jG h1,ziv n2 n1]at this
  rw[zgd]
  simpa using this
 intro⟨h1,h2⟩ i hi k hk
 have n1:=h1 _ (gd1 hi default)
 have n2:=h1 _ (gd1 hk default)
 rw[ef i k hi hk,n1,n2,ziv n1 n2,kW,jaC]
 rcases jbf i k with h|h|h
 ·rw[h2 i k h hk,kW]
 ·subst h
  rw[jH (by omega)];rfl
 rw[zgd,h2 k i h hi,kW]
theorem zp8(x:Cir)(t:Int):∀(l:List Tg) (s:Spn) (y:Int),(l.foldl (limS x t) s).Lo<=y↔s.Lo<=y/\∀g∈l,g.lo-drf x g.T t<=y
 | [],s,y=>by simp
 |g::r,s,y=>by
  rw[jaE,zp8 x t r,jbr]
  unfold limS
  dsimp only
  constructor
  ·rintro⟨h1,h2⟩;exact⟨by omega,by omega,h2⟩
  rintro⟨h1,h2,h3⟩;exact⟨by omega,h3⟩
theorem zp9(x:Cir)(t:Int):∀(l:List Tg) (s:Spn) (y:Int),y<=(l.foldl (limS x t) s).Hi↔y<=s.Hi/\∀g∈l,y<=g.hi+drf x g.T t
 | [],s,y=>by simp
 |g::r,s,y=>by
  rw[jaE,zp9 x t r,jbr]
  unfold limS
  dsimp only
  constructor
  ·rintro⟨h1,h2⟩;exact⟨by omega,by omega,h2⟩
  rintro⟨h1,h2,h3⟩;exact⟨by omega,h3⟩
theorem zrN{x:Cir}{t:Int}{l m:List Thg}(hp:l.Perm m)(hn:∀g∈l,noneB g=false):limF x t (l.map tgOf)=⟨(zer x m t).lo,(zer x m t).hi⟩:=by
 have hs:∀g∈l,(tgOf g).lo=g.s.Lo/\(tgOf g).hi=g.s.Hi/\(tgOf g).T=g.k.Tick:=fun g hg=>by
  have h1:g.s.Lo<=g.s.Hi:=by have:=jab (hn g hg);omega
  unfold tgOf;dsimp only
  rw[kH h1,kH h1];exact⟨rfl,rfl,rfl⟩
 have k1:∀y,(limF x t (l.map tgOf)).Lo<=y↔(zer x m t).lo<=y:=fun y=>by
  unfold limF zer
  rw[zp8,zpD]
  refine and_congr_right fun _=>⟨fun h g hg=>?_,fun h g hg=>?_⟩
  ·have hg':=hp.mem_iff.2 hg
   have:=h _ (List.mem_map_of_mem hg')
   rw[(hs g hg').1,(hs g hg').2.2]at this;exact this
  obtain⟨g',hg',rfl⟩:=kJ.1 hg
  rw[(hs g' hg').1,(hs g' hg').2.2]
  exact h g' (hp.mem_iff.1 hg')
 have k2:∀y,y<=(limF x t (l.map tgOf)).Hi↔y<=(zer x m t).hi:=fun y=>by
  unfold limF zer
  rw[zp9,zpE]
  refine and_congr_right fun _=>⟨fun h g hg=>?_,fun h g hg=>?_⟩
  ·have hg':=hp.mem_iff.2 hg
   have:=h _ (List.mem_map_of_mem hg')
   rw[(hs g hg').2.1,(hs g hg').2.2]at this;exact this
  obtain⟨g',hg',rfl⟩:=kJ.1 hg
  rw[(hs g' hg').2.1,(hs g' hg').2.2]
  exact h g' (hp.mem_iff.1 hg')
 have e1:(limF x t (l.map tgOf)).Lo=(zer x m t).lo:=Int.le_antisymm ((k1 _).2 (jaY _)) ((k1 _).1 (jaY _))
 have e2:(limF x t (l.map tgOf)).Hi=(zer x m t).hi:=Int.le_antisymm ((k2 _).1 (jaY _)) ((k2 _).2 (jaY _))
 rw[<- e1,<- e2]
section
variable {c:Cirs}(h:CirsOk c){id:Int}(hid:¬cirI c id<0)
include h hid
theorem zdw:(thsR c (c.C.getD (cirI c id).toNat default) c.K.length).Perm (thsL c (c.C.getD (cirI c id).toNat default)):=(jaL _ _).symm
theorem zs1:∀t∈tgsL c (c.C.getD (cirI c id).toNat default),TgOk t:=fun t ht=>by
 have hx:=h.cs _ (zaS hid).1
 rw[zkT hx.z.2.1]at ht
 obtain⟨g,hg,rfl⟩:=kJ.1 ht
 have o:=ziC h hid g ((zdw h hid).mem_iff.1 hg)
 have o1:=o.lo
 have o2:=o.hi
 refine⟨?_,?_,o.t⟩
 ·unfold tgOf;dsimp only;split<;>omega
 unfold tgOf;dsimp only;split<;>omega
theorem zsp:∀i j,i<c.K.length->j<c.K.length->(c.K.getD i default).ID=(c.K.getD j default).ID->i=j:=fun i j hi hj e=>by
 have h1:=h.ki i hi
 have h2:=h.ki j hj
 have h3:=zge hi
 have h4:=zge hj
 rw[e]at h1 h3
 omega
theorem zqM:((thsR c (c.C.getD (cirI c id).toNat default) c.K.length).map fun t=>t.k.ID).Nodup:=by
 have hK:(c.K.map Chk.ID).Nodup:=by
  unfold List.Nodup
  rw[List.pairwise_map,zfM]
  intro i j hij hj e
  have:=zsp h hid i j (by omega) hj e
  omega
 unfold thsR thsK
 rw[jZ,kY,jbb,wI]
 constructor
 ·intro hm
  obtain⟨k,hk,e⟩:=kJ.1 hm
  have hk:=(kS.1 hk).1
  obtain⟨j,hj,rfl⟩:=za4 default hk
  have o:=(h.ks j hj).id
  have e:(c.K.getD j default).ID=0:=e
  omega
 exact hK.sublist ((jbu (l:=c.K)).map Chk.ID)
theorem zqL:∀i j,i<(thsR c (c.C.getD (cirI c id).toNat default) c.K.length).length->j<(thsR c (c.C.getD (cirI c id).toNat default) c.K.length).length->((thsR c (c.C.getD (cirI c id).toNat default) c.K.length).getD i default).k.ID=((thsR c (c.C.getD (cirI c id).toNat default) c.K.length).getD j default).k.ID->i=j:=fun i j hi hj e=>by
 have hn:=zqM h hid
 unfold List.Nodup at hn
 rw[List.pairwise_map,zfM]at hn
 rcases jbf i j with h1|h1|h1
 ·exact absurd e (hn i j h1 hj)
 ·exact h1
 exact absurd e.symm (hn j i h1 hi)
theorem zmT:outI (c.C.getD (cirI c id).toNat default) (tgsL c (c.C.getD (cirI c id).toNat default)) (tgsL c (c.C.getD (cirI c id).toNat default)).length=[]↔clsL (c.C.getD (cirI c id).toNat default) (thsL c (c.C.getD (cirI c id).toNat default))=[]:=by
 have hx:=h.cs _ (zaS hid).1
 rw[zkT hx.z.2.1,zom (zqL h hid),zmM (zdw h hid),zjF]
theorem zt9(t:Int)(hc:clsL (c.C.getD (cirI c id).toNat default) (thsL c (c.C.getD (cirI c id).toNat default))=[]):limF (c.C.getD (cirI c id).toNat default) t (tgsL c (c.C.getD (cirI c id).toNat default))=⟨(zer (c.C.getD (cirI c id).toNat default) (thsL c (c.C.getD (cirI c id).toNat default)) t).lo,(zer (c.C.getD (cirI c id).toNat default) (thsL c (c.C.getD (cirI c id).toNat default)) t).hi⟩:=by
 have hx:=h.cs _ (zaS hid).1
 have hf:=(zjF _ _).1 hc
 rw[zkT hx.z.2.1]
 exact zrN (zdw h hid) fun g hg=>hf.1 g ((zdw h hid).mem_iff.1 hg)
end
theorem zqu{c:Cirs}{id t:Int}(h0:cirsE c=0)(h1:¬cirI c id<0)(h2:within t (c.C.getD (cirI c id).toNat default).From (c.C.getD (cirI c id).toNat default).To=true):
  zerR c id t=if clsL (c.C.getD (cirI c id).toNat default) (thsL c (c.C.getD (cirI c id).toNat default))=[]then(⟨(zer (c.C.getD (cirI c id).toNat default) (thsL c (c.C.getD (cirI c id).toNat default)) t).lo,(zer (c.C.getD (cirI c id).toNat default) (thsL c (c.C.getD (cirI c id).toNat default)) t).hi⟩,0)else(⟨0,0⟩,9):=by
 have ek:knw c id [t]=(c.C.getD (cirI c id).toNat default,thsL c (c.C.getD (cirI c id).toNat default),0):=by
  unfold knw
  rw[kG (fun hh=>hh h0),kG h1,kH (by rw[jaA,h2];rfl)]
 have ea:atR c id t=(c.C.getD (cirI c id).toNat default,thsL c (c.C.getD (cirI c id).toNat default),agrE (c.C.getD (cirI c id).toNat default) (thsL c (c.C.getD (cirI c id).toNat default))):=by
  unfold atR;rw[ek];dsimp only;rw[kH rfl]
 unfold zerR
 rw[ea]
 dsimp only
 unfold agrE
 by_cases hc:clsL (c.C.getD (cirI c id).toNat default) (thsL c (c.C.getD (cirI c id).toNat default))=[]
 ·rw[kH hc,kG (by decide),kH hc]
 rw[kG hc,kH (by decide),kG hc]
theorem zhr{c:Cirs}{id t e:Int}(h:knw c id [t]=((knw c id [t]).1,(knw c id [t]).2.1,e))(he:e≠0):zerR c id t=(⟨0,0⟩,e):=by
 have h2:(knw c id [t]).2.2=e:=jI (fun z:Cir×List Thg×Int=>z.2.2) h
 have ea:(atR c id t).2.2=e:=by
  show(if(knw c id [t]).2.2=0 then _ else(knw c id [t]).2.2)=e
  rw[h2,kG he]
 unfold zerR
 rw[ea,kH he]
theorem zqx{c:Cirs}{id t:Int}(h0:cirsE c≠0):zerR c id t=(⟨0,0⟩,cirsE c):=zhr (by unfold knw;rw[kH h0]) h0
theorem zqw{c:Cirs}{id t:Int}(h0:cirsE c=0)(h1:cirI c id<0):zerR c id t=(⟨0,0⟩,5):=zhr (by unfold knw;rw[kG (fun hh=>hh h0),kH h1]) (by decide)
theorem zqv{c:Cirs}{id t:Int}(h0:cirsE c=0)(h1:¬cirI c id<0)(h2:within t (c.C.getD (cirI c id).toNat default).From (c.C.getD (cirI c id).toNat default).To=false):zerR c id t=(⟨0,0⟩,1):=zhr (by unfold knw;rw[kG (fun hh=>hh h0),kG h1,kG (by rw[jaA,h2,qK];decide)]) (by decide)
def useR(c:Cirs)(id t:Int):Cir×Int:=
 if cirsE c≠0 then(default,cirsE c)else if cirI c id<0 then(default,5)
 else if within t (c.C.getD (cirI c id).toNat default).From (c.C.getD (cirI c id).toNat default).To=false then(default,1)else(c.C.getD (cirI c id).toNat default,0)
theorem ztq(c:Cirs)(id t:Int):Spec PP 196 [c.v,N id,.agg [I t,I t]] [.agg ((useR c id t).1.ds++[I (useR c id t).2])]:=by
 refine sA Tryz.func196 ?_
 refine cP (zfF c) rfl rfl ?_
 apply bY<;>intro h0
 ·have e:useR c id t=(default,cirsE c):=by unfold useR;rw[kH (by simpa using h0)]
  rw[e]
  exact r1C rfl rfl rfl rfl rfl rfl (zaa _)
 have h0:cirsE c=0:=by simpa using h0
 have ok:=zbP h0
 have e0:useR c id t=if cirI c id<0 then(default,5)else if within t (c.C.getD (cirI c id).toNat default).From (c.C.getD (cirI c id).toNat default).To=false then(default,1)else(c.C.getD (cirI c id).toNat default,0):=by unfold useR;rw[kG (fun hh=>hh h0)]
 refine cP (zhJ c id (by have:=ok.n;omega)) rfl rfl ?_
 by_cases h1:cirI c id<0
 ·have e1:fndC c id=(default,false):=by unfold fndC;rw[kH h1]
  rw[e1,e0,kH h1]
  refine sT ?_
  exact r1C rfl rfl rfl rfl rfl rfl (zaa _)
 have e1:fndC c id=(c.C.getD (cirI c id).toNat default,true):=by unfold fndC;rw[kG h1]
 rw[e1,e0,kG h1]
 generalize c.C.getD (cirI c id).toNat default=x
 refine sF ?_
 apply bY<;>intro h2
 ·have:t<t:=dT h2
  omega
 repeat first|apply sT|apply sF
 apply bY<;>intro h3
 ·have h3:t<x.From:=dT h3
  repeat first|apply sT|apply sF
  rw[kH (by unfold within;rw[jH (show ¬x.From<=t by omega)];rfl)]
  exact r1C rfl rfl rfl rfl rfl rfl (zaa _)
 have h3:¬t<x.From:=dF h3
 repeat first|apply sT|apply sF
 apply bY<;>intro h4
 ·have h4:x.To<t:=dT h4
  rw[kH (by unfold within;rw[jH (show ¬t<=x.To by omega),kW])]
  exact r1C rfl rfl rfl rfl rfl rfl (zaa _)
 have h4:¬x.To<t:=dF h4
 rw[kG (by rw[zab.2 (show x.From<=t/\t<=x.To by omega)];decide)]
 exact r1C rfl rfl rfl rfl rfl rfl (zaa _)
theorem zhL(c:Cirs)(id t:Int):Spec PP 124 [c.v,N id,N t] [.agg [I (zerR c id t).1.Lo,I (zerR c id t).1.Hi,I (zerR c id t).2]]:=by
 refine sA Tryz.func124 ?_
 refine cP (ztq c id t) rfl rfl ?_
 by_cases h0:cirsE c=0
 ·by_cases h1:cirI c id<0
  ·have e:useR c id t=(default,5):=by unfold useR;rw[kG (fun hh=>hh h0),kH h1]
   rw[e,zqw h0 h1]
   refine sYe rfl ?_
   exact r1C rfl rfl rfl rfl rfl rfl (zaa _)
  cases h2:within t (c.C.getD (cirI c id).toNat default).From (c.C.getD (cirI c id).toNat default).To with
  |false=>
   have e:useR c id t=(default,1):=by unfold useR;rw[kG (fun hh=>hh h0),kG h1,kH h2]
   rw[e,zqv h0 h1 h2]
   refine sYe rfl ?_
   exact r1C rfl rfl rfl rfl rfl rfl (zaa _)
  |true=>
  have e:useR c id t=(c.C.getD (cirI c id).toNat default,0):=by unfold useR;rw[kG (fun hh=>hh h0),kG h1,kG (by rw[h2];decide)]
  have ok:=zbP h0
  have hC:=zhK c id ok h1 (zs1 ok h1)
  have hTh:=zgG c id ok h1
  have hcl:=zmT ok h1
  have hle:=zt9 ok h1 t
  have hto:=zs1 ok h1
  have hlen:(tgsL c (c.C.getD (cirI c id).toNat default)).length<=61:=jM (zfq c _ _) (by have:=ok.m;omega)
  have hx:=ok.cs _ (zaS h1).1
  have ht:=zab.1 h2
  rw[e,zqu h0 h1 h2]
  generalize c.C.getD (cirI c id).toNat default=x at*
  refine sNo rfl ?_
  refine cR hC rfl rfl ?_
  by_cases hc:clsL x (thsL c x)=[]
  ·have ho:=hcl.2 hc
   rw[kH hc]
   refine sNo (by rw[ho];rfl) ?_
   refine oN 10 ?_
   refine oRo hTh rfl rfl ?_
   refine oP (zlp x (tgsL c x) t hx.d hto (by omega) (by have:=hx.t;omega)) rfl rfl ?_
   rw[hle hc]
   exact r1C rfl rfl rfl rfl rfl rfl (zaa _)
  have ho:outI x (tgsL c x) (tgsL c x).length≠[]:=fun h=>hc (hcl.1 h)
  have hp:0<(outI x (tgsL c x) (tgsL c x).length).length:=jaX.2 ho
  rw[kG hc]
  refine sYe (jG (by omega)) ?_
  exact r1C rfl rfl rfl rfl rfl rfl (zaa _)
 have e:useR c id t=(default,cirsE c):=by unfold useR;rw[kH h0]
 rw[e,zqx h0]
 refine sYe (by simpa using h0) ?_
 exact r1C rfl rfl rfl rfl rfl rfl (zaa _)
def askR(c:Cirs)(r:Rdg):Spn×Int:=if rdgE c r≠0 then(⟨0,0⟩,rdgE c r)else zerR c r.C r.Tick
theorem zn8(c:Cirs)(r:Rdg):Spec PP 200 [c.v,r.v] [.agg [I (askR c r).1.Lo,I (askR c r).1.Hi,I (askR c r).2]]:=by
 refine sA Tryz.func200 ?_
 refine cP (zfF c) rfl rfl ?_
 apply bY<;>intro h0
 ·have h0:cirsE c≠0:=by simpa using h0
  have e:askR c r=(⟨0,0⟩,cirsE c):=by
   have:rdgE c r=cirsE c:=by unfold rdgE;rw[kH h0]
   unfold askR;rw[this,kH h0]
  rw[e]
  exact r1C rfl rfl rfl rfl rfl rfl (zaa _)
 have h0:cirsE c=0:=by simpa using h0
 have e0:rdgE c r=if(!within r.Shown 0 3599|| !within r.Slack 1 100)=true then 1 else 0:=by unfold rdgE;rw[kG (fun hh=>hh h0)]
 have bad:(!within r.Shown 0 3599|| !within r.Slack 1 100)=true->askR c r=(⟨0,0⟩,1):=fun h=>by
  unfold askR;rw[e0,kH h,kH (by decide)]
 refine cP (zaG r.Shown 0 3599) rfl rfl ?_
 refine cP (zaG r.Slack 1 100) rfl rfl ?_
 apply bY<;>intro h1
 ·have h1:(!within r.Shown 0 3599)=true:=h1
  repeat first|apply sT|apply sF
  rw[bad (by rw[h1];rfl)]
  exact r1C rfl rfl rfl rfl rfl rfl (zaa _)
 have h1:(!within r.Shown 0 3599)=false:=h1
 repeat first|apply sT|apply sF
 apply bY<;>intro h2
 ·have h2:(!within r.Slack 1 100)=true:=h2
  rw[bad (by rw[h2,k9])]
  exact r1C rfl rfl rfl rfl rfl rfl (zaa _)
 have h2:(!within r.Slack 1 100)=false:=h2
 have e:askR c r=zerR c r.C r.Tick:=by
  have e1:rdgE c r=0:=by rw[e0,h1,h2];rfl
  unfold askR;rw[e1,kG (fun hh=>hh rfl)]
 refine cP (zhL c r.C r.Tick) rfl rfl ?_
 rw[e]
 exact r1C rfl rfl rfl rfl rfl rfl (zaa _)
theorem zuR{c:Cirs}{r:Rdg}(h:(askR c r).2≠0):wdgR c r=(⟨0,0⟩,(askR c r).2):=by
 unfold askR at h⊢
 unfold wdgR
 split
 ·rfl
 rename_i h1
 rw[kG h1]at h
 rw[kH h]
theorem zuS{c:Cirs}{r:Rdg}(h:(askR c r).2=0):rdgE c r=0/\(zerR c r.C r.Tick).2=0/\askR c r=zerR c r.C r.Tick:=by
 unfold askR at h⊢
 split at h
 ·rename_i h1;exact absurd h h1
 rename_i h1
 rw[kG h1]
 exact⟨jL h1,h,rfl⟩
theorem ziT(c:Cirs)(r:Rdg):Spec PP 125 [c.v,r.v] [.agg [I (wdgR c r).1.F,I (wdgR c r).1.T,I (wdgR c r).2]]:=by
 refine sA Tryz.func125 ?_
 refine cP (zn8 c r) rfl rfl ?_
 apply bY<;>intro h0
 ·have h0:(askR c r).2≠0:=by simpa using h0
  rw[zuR h0]
  exact r1C rfl rfl rfl rfl rfl rfl (zaa _)
 have h0:(askR c r).2=0:=by simpa using h0
 obtain⟨h1,h2,h3⟩:=zuS h0
 have hs:(0<=r.Shown/\r.Shown<=3599)/\(1<=r.Slack/\r.Slack<=100):=by
  unfold rdgE at h1
  split at h1
  ·rename_i h;exact absurd h1 h
  split at h1
  ·cases h1
  rename_i h
  simp only[jX,jY,not_or,jao]at h
  exact⟨zab.1 h.1,zab.1 h.2⟩
 have zb:=zhs h2
 rw[h3]
 have e0:wdgR c r=if 900<2*r.Slack+(zerR c r.C r.Tick).1.Hi-(zerR c r.C r.Tick).1.Lo then(⟨0,0⟩,50)else(wdg (r.Shown-r.Slack-(zerR c r.C r.Tick).1.Hi) (2*r.Slack+(zerR c r.C r.Tick).1.Hi-(zerR c r.C r.Tick).1.Lo),0):=by
  unfold wdgR;rw[kG (fun hh=>hh h1),kG (fun hh=>hh h2)]
 rw[e0]
 generalize (zerR c r.C r.Tick).1=z at*
 refine⟨i6,⟨i6,⟨i6,?_⟩⟩⟩
 apply bY<;>intro h4
 ·have h4:900<2*r.Slack+z.Hi-z.Lo:=dT h4
  rw[kH h4]
  exact r1C rfl rfl rfl rfl rfl rfl (zaa _)
 have h4:¬900<2*r.Slack+z.Hi-z.Lo:=dF h4
 rw[kG h4]
 refine oN 23 ?_
 refine⟨i6,⟨i6,?_⟩⟩
 refine oP (zhM (r.Shown-r.Slack-z.Hi) (by omega)) rfl rfl ?_
 refine⟨i6,⟨i6,?_⟩⟩
 refine oP (zhM (r.Shown+r.Slack-z.Lo) (by omega)) rfl rfl ?_
 refine r1C rfl rfl rfl rfl rfl rfl ⟨⟨rfl,rfl⟩,⟨rfl,?_⟩,⟨rfl,rfl⟩,trivial⟩
 show(r.Shown+r.Slack-z.Lo)%3600=(r.Shown-r.Slack-z.Hi+(2*r.Slack+z.Hi-z.Lo))%3600
 congr 1;omega
theorem zrH(m:Mp)(p:Place):onM m p=(decide (0<=p.X)&&decide (p.X<m.W)&&decide (0<=p.Y)&&decide (p.Y<m.H)):=by
 rw[kQ,zad];simp only[jP,kA];omega
theorem ztu(m:Mp)(p:Place):Spec PP 83 [m.v,p.v] [B (onM m p)]:=by
 refine sA Tryz.func83 ?_
 rw[zrH]
 apply bY<;>intro h1
 ·have h1:decide (0<=p.X)=true:=h1
  refine sT ?_
  apply bY<;>intro h2
  ·have h2:decide (p.X<m.W)=true:=h2
   refine sT ?_
   apply bY<;>intro h3
   ·have h3:decide (0<=p.Y)=true:=h3
    refine sT ?_
    refine r1B rfl ?_
    rw[h1,h2,h3];rfl
   have h3:decide (0<=p.Y)=false:=h3
   refine sF ?_
   refine r1B rfl ?_
   rw[h1,h2,h3];rfl
  have h2:decide (p.X<m.W)=false:=h2
  refine sF (sF (sF ?_))
  refine r1B rfl ?_
  rw[h1,h2];rfl
 have h1:decide (0<=p.X)=false:=h1
 refine sF (sF (sF (sF (sF ?_))))
 refine r1B rfl ?_
 rw[h1];rfl
theorem zlr(h:Int):Spec PP 191 [N h] [B (within h 0 200)]:=by
 refine sA Tryz.func191 ?_
 repeat' first
  |refine sT ?_
  |refine sF ?_
  |refine bY (fun _=>?_) (fun _=>?_)
  |refine r1B rfl ?_
 all_goals (unfold within;simp_all<;>omega)
theorem zls(h:Int):Spec PP 251 [N h] [B (within h 0 1048576)]:=by
 refine sA Tryz.func251 ?_
 repeat' first
  |refine sT ?_
  |refine sF ?_
  |refine bY (fun _=>?_) (fun _=>?_)
  |refine r1B rfl ?_
 all_goals (unfold within;simp_all<;>omega)
theorem zrj(a b:Place)(d:Int)(ha:on a=true)(hb:on b=true)(hd:0<=d/\d<=100):Spec PP 265 [a.v,b.v,N d] [B (nearB a b d)]:=by
 obtain⟨a1,a2⟩:=zbk.1 ha
 obtain⟨b1,b2⟩:=zbk.1 hb
 have m1:=mulB (a:=a.X-b.X) (b:=a.X-b.X) (x:=48) (y:=48) (by omega) (by omega)
 have m2:=mulB (a:=a.Y-b.Y) (b:=a.Y-b.Y) (x:=48) (y:=48) (by omega) (by omega)
 have m3:=mulB (a:=d) (b:=d) (x:=100) (y:=100) (by omega) (by omega)
 refine sA Tryz.func265 ?_
 refine⟨i6,⟨i6,⟨i6,⟨i6,⟨i6,⟨i6,⟨i6,⟨i6,?_⟩⟩⟩⟩⟩⟩⟩⟩
 exact r1B rfl rfl
theorem ze2(c:Ctry)(id:Int)(hn:c.T.length<=1000000):Spec PP 192 [c.v,N id] [N (towI c.T id)]:=by
 refine sA Tryz.func192 ?_
 refine lOf (σ:=Nat) (fun i=>([(1,.d (I id)),(2,.box 2 0),(5,.d (I i))],[(2,bxCt c)])) (fun i=>i<=c.T.length/\∀j,j<i->((c.T.getD j default).ID==id)=false) (fun i=>c.T.length-i) 0
  ⟨rfl,⟨obCt rfl,trivial⟩,wq rfl⟩ z0L fun i hi=>?_
 obtain⟨hi,ha⟩:=hi
 apply bY<;>intro h1
 ·have h1:i<c.T.length:=by have:=dT h1;omega
  refine⟨⟨rfl,by omega,by omega⟩,?_⟩
  apply bY<;>intro h2
  ·refine r1I rfl ?_
   exact(zaj (p:=fun t:Twr=>t.ID==id) default h1 h2 ha).symm
  refine⟨i6,?_⟩
  refine⟨i+1,⟨rfl,⟨obCt rfl,trivial⟩,wq rfl⟩,⟨h1,fun j hj=>?_⟩,(msr (by omega))⟩
  by_cases e:j=i
  ·subst e;exact h2
  exact ha j (by omega)
 have h1:i=c.T.length:=by have:=dF h1;omega
 subst h1
 refine r1I rfl ?_
 exact(zam (p:=fun t:Twr=>t.ID==id) default ha).symm
theorem ztt(c:Ctry)(t:Int)(hn:c.Z.length<=1000000):Spec PP 253 [c.v,N t] [N (farZ t c.Z)]:=by
 refine sA Tryz.func253 ?_
 refine lOf (σ:=Nat) (fun i=>([(1,.d (I t)),(2,.box 2 0),(5,.d (I i))],[(2,bxCt c)])) (fun i=>i<=c.Z.length/\farZ t (c.Z.drop i)=farZ t c.Z) (fun i=>c.Z.length-i) 0
  ⟨rfl,⟨obCt rfl,trivial⟩,wq rfl⟩ ⟨jF _,rfl⟩ fun i hi=>?_
 obtain⟨hi,ha⟩:=hi
 apply bY<;>intro h1
 ·have h1:i<c.Z.length:=by have:=dT h1;omega
  have hd:=zg9 (t:=t) h1
  refine⟨⟨rfl,by omega,by omega⟩,?_⟩
  apply bY<;>intro h2
  ·have h2:(c.Z.getD i default).From<=t:=dT h2
   refine⟨⟨rfl,by omega,by omega⟩,?_⟩
   refine sT ?_
   apply bY<;>intro h3
   ·have h3:t<=(c.Z.getD i default).To:=dT h3
    refine⟨⟨rfl,by omega,by omega⟩,?_⟩
    refine r1I rfl ?_
    rw[<- ha,hd,kH ⟨h2,h3⟩];rfl
   have h3:¬t<=(c.Z.getD i default).To:=dF h3
   rw[kG fun h=>h3 h.2]at hd
   refine⟨i6,?_⟩
   exact⟨i+1,⟨rfl,⟨obCt rfl,trivial⟩,wq rfl⟩,⟨h1,by rw[<- hd];exact ha⟩,(msr (by omega))⟩
  have h2:¬(c.Z.getD i default).From<=t:=dF h2
  refine sF (sF ?_)
  rw[kG fun h=>h2 h.1]at hd
  refine⟨i6,?_⟩
  exact⟨i+1,⟨rfl,⟨obCt rfl,trivial⟩,wq rfl⟩,⟨h1,by rw[<- hd];exact ha⟩,(msr (by omega))⟩
 have h1:i=c.Z.length:=by have:=dF h1;omega
 subst h1
 rw[ja9]at ha
 refine r1I rfl ?_
 rw[<- ha];rfl
theorem zbf(m:Mp):validM m=(!(decide (m.W<1)||decide (49<m.W)||decide (m.H<1)||decide (49<m.H)|| !decide ((m.G.length:Int)=m.W*m.H))&& !(m.G.any fun h=>!within h 0 4000)):=by
 rw[kQ]
 unfold validM within
 simp only[jP,jY,qN,kA,jaW,jai,qQ,Bool.not_not]
 constructor
 ·intro h;exact⟨by omega,h.2⟩
 intro h;exact⟨by omega,h.2⟩
theorem zod(m:Mp):Spec PP 190 [m.v] [B (validM m)]:=by
 refine sA Tryz.func190 ?_
 apply bY<;>intro k0
 ·have k0:decide (m.W<1)=true:=k0
  refine sT (sT (sT (sT (sT (sT (sT (sT ?_)))))))
  refine r1B rfl ?_
  rw[zbf];simp only[k0,k9,qS,jaB,qK]
 have k0:decide (m.W<1)=false:=k0
 refine sF ?_
 apply bY<;>intro k1
 ·have k1:decide (49<m.W)=true:=k1
  refine sT (sT (sT (sT (sT (sT ?_)))))
  refine r1B rfl ?_
  rw[zbf];simp only[k0,k1,k9,qS,jaB,qK]
 have k1:decide (49<m.W)=false:=k1
 refine sF ?_
 apply bY<;>intro k2
 ·have k2:decide (m.H<1)=true:=k2
  refine sT (sT (sT (sT ?_)))
  refine r1B rfl ?_
  rw[zbf];simp only[k0,k1,k2,k9,qS,jaB,qK]
 have k2:decide (m.H<1)=false:=k2
 refine sF ?_
 apply bY<;>intro k3
 ·have k3:decide (49<m.H)=true:=k3
  refine sT (sT ?_)
  refine r1B rfl ?_
  rw[zbf];simp only[k0,k1,k2,k3,k9,qS,jaB,qK]
 have k3:decide (49<m.H)=false:=k3
 have b1:1<=m.W/\m.W<=49:=by have:=jab k0;have:=jab k1;omega
 have b2:1<=m.H/\m.H<=49:=by have:=jab k2;have:=jab k3;omega
 have b3:=mulB (a:=m.W) (b:=m.H) (x:=49) (y:=49) (by omega) (by omega)
 refine⟨i6,?_⟩
 refine sF ?_
 apply bY<;>intro k4
 ·have k4:(m.G.length:Int)≠m.W*m.H:=by simpa using k4
  refine r1B rfl ?_
  rw[zbf,jH k4];simp
 have k4:(m.G.length:Int)=m.W*m.H:=by simpa using k4
 have e0:validM m= !(m.G.any fun h=>!within h 0 4000):=by rw[zbf,k0,k1,k2,k3,jG k4];simp
 refine lOf (σ:=Nat) (fun i=>([(1,.box 1 0),(3,.d (I i))],[(1,.box (m.ds.map AV.d))])) (fun i=>i<=m.G.length/\∀j,j<i->within (m.G.getD j 0) 0 4000=true) (fun i=>m.G.length-i) 0
  ⟨rfl,⟨obD m.ds rfl,trivial⟩,wq rfl⟩ z0L fun i hi=>?_
 obtain⟨hi,ha⟩:=hi
 apply bY<;>intro h1
 ·have h1:i<m.G.length:=by have:=dT h1;omega
  have bad:within (m.G.getD i 0) 0 4000=false->validM m=false:=fun h=>by
   rw[e0,kM.2 ⟨_,gd1 h1 0,by rw[h];rfl⟩];rfl
  refine⟨⟨rfl,by omega,by omega⟩,?_⟩
  apply bY<;>intro h2
  ·have h2:m.G.getD i 0<0:=dT h2
   refine sT (sT ?_)
   refine r1B rfl ?_
   exact(bad (by unfold within;rw[jH (by omega)];rfl)).symm
  have h2:¬m.G.getD i 0<0:=dF h2
  refine⟨⟨rfl,by omega,by omega⟩,?_⟩
  refine sF ?_
  apply bY<;>intro h3
  ·have h3:4000<m.G.getD i 0:=dT h3
   refine r1B rfl ?_
   exact(bad (by unfold within;rw[jH (p:=m.G.getD i 0<=4000) (by omega),kW])).symm
  have h3:¬4000<m.G.getD i 0:=dF h3
  refine⟨i6,?_⟩
  refine⟨i+1,⟨rfl,⟨obD m.ds rfl,trivial⟩,wq rfl⟩,⟨h1,fun j hj=>?_⟩,(msr (by omega))⟩
  by_cases e:j=i
  ·subst e;exact zab.2 (by omega)
  exact ha j (by omega)
 have h1:i=m.G.length:=by have:=dF h1;omega
 subst h1
 refine r1B rfl ?_
 rw[e0,zqt 0 fun j hj=>by rw[ha j hj];rfl];rfl
theorem zfG(n:Int)(hn:-1000000<=n/\n<=1000000):Spec PP 307 [N n] [N ((n.natAbs:Nat):Int)]:=by
 refine sA Tryz.func307 ?_
 refine⟨i6,?_⟩
 exact r1I rfl (by show max n (-n)=_;omega)
theorem zbi(l k:Int):Spec PP 308 [N 0,N l,N k] [(Place.mk l k).v]:=by
 refine sA Tryz.func308 ?_
 refine sNo rfl ?_
 exact r1C rfl rfl rfl rfl rfl rfl (zbR rfl rfl)
theorem zbh(l k:Int):Spec PP 308 [N 1,N l,N k] [(Place.mk k l).v]:=by
 refine sA Tryz.func308 ?_
 refine sYe rfl ?_
 exact r1C rfl rfl rfl rfl rfl rfl (zbR rfl rfl)
theorem zcG(m:Mp)(p:Place)(hv:validM m=true)(hp:onM m p=true):Spec PP 289 [m.v,p.v] [N (grd m p)]:=by
 obtain⟨w,h,-,-⟩:=zaf hv
 obtain⟨a1,a2⟩:=zad.1 hp
 have g:=zaV hv hp
 have m1:=mulB (a:=p.Y) (b:=m.W) (x:=49) (y:=49) (by omega) (by omega)
 refine sA Tryz.func289 ?_
 refine⟨i6,⟨i6,⟨⟨rfl,g.1.1,g.1.2⟩,?_⟩⟩⟩
 exact r1I rfl rfl
def dvs(a b:Int):Int:=max ((Nat.gcd a.natAbs b.toNat:Nat):Int) 1
theorem zj9(a b:Int)(ha:-1000000000<=a/\a<=1000000000)(hb:0<=b/\b<=1000000000):Spec PP 315 [N a,N b] [N (dvs a b)]:=by
 have loop:∀{s:St}{K:KK} (x0:Nat),s.sl 0= .d (.int .i64 x0)->s.sl 1= .d (.int .i64 b)->True:=fun _ _ _=>trivial
 refine sA Tryz.func315 ?_
 apply bY<;>intro h0
 ·have h0:a<0:=dT h0
  refine⟨i6,?_⟩
  refine lOf (σ:=Nat×Nat) (fun p=>([(0,.d (I p.1)),(1,.d (I p.2))],[])) (fun p=>Nat.gcd p.1 p.2=Nat.gcd a.natAbs b.toNat/\p.1<=1000000000/\p.2<=1000000000) (fun p=>p.2) (a.natAbs,b.toNat)
   ⟨rfl,trivial,avI rfl (by omega),avI rfl (by omega),trivial⟩ ⟨rfl,by omega,by omega⟩ fun⟨x,y⟩ ⟨hg,h1,h2⟩=>?_
  dsimp only at hg h1 h2⊢
  apply bY<;>intro h3
  ·have h3:0<y:=by have:=dT h3;omega
   refine oN 6 ?_
   refine⟨by omega,?_⟩
   have hlt:=jau x h3
   refine⟨(y,x%y),⟨rfl,trivial,avR _ rfl,avI rfl (by rw[wE (by omega)];rfl),trivial⟩,⟨?_,h2,(show x%y<=1000000000 by omega)⟩,hlt⟩
   dsimp only
   rw[<- hg,Nat.gcd_comm x y,Nat.gcd_rec y x,Nat.gcd_comm]
  have h3:y=0:=by have:=dF h3;omega
  subst h3
  refine r1I rfl ?_
  unfold dvs
  rw[<- hg,Nat.gcd_zero_right]
 have h0:¬a<0:=dF h0
 refine lOf (σ:=Nat×Nat) (fun p=>([(0,.d (I p.1)),(1,.d (I p.2))],[])) (fun p=>Nat.gcd p.1 p.2=Nat.gcd a.natAbs b.toNat/\p.1<=1000000000/\p.2<=1000000000) (fun p=>p.2) (a.natAbs,b.toNat)
  ⟨rfl,trivial,avI rfl (by omega),avI rfl (by omega),trivial⟩ ⟨rfl,by omega,by omega⟩ fun⟨x,y⟩ ⟨hg,h1,h2⟩=>?_
 dsimp only at hg h1 h2⊢
 apply bY<;>intro h3
 ·have h3:0<y:=by have:=dT h3;omega
  refine oN 6 ?_
  refine⟨by omega,?_⟩
  have hlt:=jau x h3
  refine⟨(y,x%y),⟨rfl,trivial,avR _ rfl,avI rfl (by rw[wE (by omega)];rfl),trivial⟩,⟨?_,h2,(show x%y<=1000000000 by omega)⟩,hlt⟩
  dsimp only
  rw[<- hg,Nat.gcd_comm x y,Nat.gcd_rec y x,Nat.gcd_comm]
 have h3:y=0:=by have:=dF h3;omega
 subst h3
 refine r1I rfl ?_
 unfold dvs
 rw[<- hg,Nat.gcd_zero_right]
def lowF(n d:Int):Int×Int:=(n.tdiv (dvs n d),d.tdiv (dvs n d))
theorem zeq(n d:Int):0<dvs n d:=by unfold dvs;omega
theorem zcL{n d:Int}(hn:0<=n)(hd:0<d):n=(lowF n d).1*dvs n d/\d=(lowF n d).2*dvs n d:=by
  have hg:0<Nat.gcd n.natAbs d.toNat:=Nat.gcd_pos_of_pos_right _ (by omega)
  have e:dvs n d=((Nat.gcd n.natAbs d.toNat:Nat):Int):=by unfold dvs;omega
  obtain⟨p,hp⟩:=Nat.gcd_dvd_left n.natAbs d.toNat
  obtain⟨q,hq⟩:=Nat.gcd_dvd_right n.natAbs d.toNat
  generalize hG:Nat.gcd n.natAbs d.toNat=g at*
  have en:n=(g:Int)*p:=by have:n=((n.natAbs:Nat):Int):=by omega
                          rw [this,hp];simp
  have ed:d=(g:Int)*q:=by have:d=((d.toNat:Nat):Int):=by omega
                          rw [this,hq];simp
  unfold lowF
  dsimp only
  rw [e]
  refine⟨?_,?_⟩
  · conv=>rhs;rw [en]
    rw [Int.mul_tdiv_cancel_left _ (by omega),jae];exact en
  conv=>rhs;rw [ed]
  rw [Int.mul_tdiv_cancel_left _ (by omega),jae];exact ed
theorem zhV{n d:Int}(hn:0<=n)(hd:0<d):(0<=(lowF n d).1/\(lowF n d).1<=n)/\(0<(lowF n d).2/\(lowF n d).2<=d):=by
 obtain⟨e1,e2⟩:=zcL hn hd
 have hg:=zeq n d
 generalize dvs n d=g at*
 generalize (lowF n d).1=p at*
 generalize (lowF n d).2=q at*
 have p0:0<=p:=by
  rcases jby p 0 with h|h
  ·have:=Int.mul_neg_of_neg_of_pos h hg;omega
  exact h
 have q0:0<q:=by
  rcases jby 0 q with h|h
  ·exact h
  have:=Int.mul_nonpos_of_nonpos_of_nonneg h (jaF hg);omega
 have m1:=jaJ (show 1<=g by omega) p0
 have m2:=jaJ (show 1<=g by omega) (jaF q0)
 omega
theorem zas(n d:Int)(hn:0<=n/\n<=1000000000)(hd:0<d/\d<=1000000000):Spec PP 309 [N n,N d] [.agg [I (lowF n d).1,I (lowF n d).2]]:=by
 have b:=zhV hn.1 hd.1
 have hg:=zeq n d
 refine sA Tryz.func309 ?_
 refine cP (zj9 n d (by omega) (by omega)) rfl rfl ?_
 have e1:n.tdiv (dvs n d)=(lowF n d).1:=rfl
 have e2:d.tdiv (dvs n d)=(lowF n d).2:=rfl
 refine oN 8 ?_
 refine⟨⟨by omega,zaZ (by rw[e1];omega) (by rw[e1];omega)⟩,⟨⟨by omega,zaZ (by rw[e2];omega) (by rw[e2];omega)⟩,?_⟩⟩
 exact r1C rfl rfl rfl rfl rfl rfl (zbR rfl rfl)
structure Prf where
  ax:Int
  k:Int
  an:Int
  ad:Int
  gn:Int
  gd:Int
  deriving DecidableEq,Inhabited
abbrev Prf.ds(x:Prf):List D:=[I x.ax,I x.k,I x.an,I x.ad,I x.gn,I x.gd]
abbrev Prf.v(x:Prf):V1:=.agg x.ds
def Prf.at(x:Prf):Nat->D
 |0=>I x.ax
 |1=>I x.k
 |2=>I x.an
 |3=>I x.ad
 |4=>I x.gn
 | _=>I x.gd
def prfOf(p:Pnt):Prf:=⟨p.ax,p.k,(lowF p.k p.n).1,(lowF p.k p.n).2,(lowF p.hi p.n).1,(lowF p.hi p.n).2⟩
structure PrfOk(x:Prf):Prop where
  an:0<=x.an/\x.an<=48
  ad:0<x.ad/\x.ad<=48
  gn:0<=x.gn/\x.gn<=192000
  gd:0<x.gd/\x.gd<=48
  le:x.an<=x.ad
theorem zi2{p:Pnt}(h:PntOk p)(hn:0<p.n):PrfOk (prfOf p):=by
 have b1:=zhV h.k.1 hn
 have b2:=zhV h.hi.1 hn
 have hk:=h.k
 have hnn:=h.n
 have hh:=h.hi
 have e:=zcL h.k.1 hn
 have hg:=zeq p.k p.n
 refine⟨?_,?_,?_,?_,?_⟩<;>show _<;>unfold prfOf<;>dsimp only
 ·omega
 ·omega
 ·omega
 ·omega
 rcases jby (lowF p.k p.n).2 (lowF p.k p.n).1 with h1|h1
 ·have:=Int.mul_lt_mul_of_pos_right h1 hg
  omega
 exact h1
def lsF(a b:Prf):Bool:=decide (a.an*b.ad<b.an*a.ad)
theorem zrl(a b:Prf)(ha:PrfOk a)(hb:PrfOk b):Spec PP 294 [.agg [I a.an,I a.ad],.agg [I b.an,I b.ad]] [B (lsF a b)]:=by
 have a1:=ha.an
 have a2:=ha.ad
 have b1:=hb.an
 have b2:=hb.ad
 have m1:=mulB (a:=a.an) (b:=b.ad) (x:=48) (y:=48) (by omega) (by omega)
 have m2:=mulB (a:=b.an) (b:=a.ad) (x:=48) (y:=48) (by omega) (by omega)
 refine sA Tryz.func294 ?_
 refine⟨i6,⟨i6,?_⟩⟩
 exact r1B rfl rfl
def ovF(x:Prf)(lo hi:Int):Bool:=decide ((lo*(x.ad-x.an)+hi*x.an)*x.gd<x.gn*x.ad)
theorem zri(x:Prf)(lo hi:Int)(hx:PrfOk x)(hl:0<=lo/\lo<=10000)(hh:0<=hi/\hi<=10000):Spec PP 288 [x.v,N lo,N hi] [B (ovF x lo hi)]:=by
 have a1:=hx.an
 have a2:=hx.ad
 have a3:=hx.gn
 have a4:=hx.gd
 have a5:=hx.le
 have m1:=mulB (a:=x.gn) (b:=x.ad) (x:=192000) (y:=48) (by omega) (by omega)
 have m2:=mulB (a:=lo) (b:=x.ad-x.an) (x:=10000) (y:=48) (by omega) (by omega)
 have m3:=mulB (a:=hi) (b:=x.an) (x:=10000) (y:=48) (by omega) (by omega)
 have m4:=mulB (a:=lo*(x.ad-x.an)+hi*x.an) (b:=x.gd) (x:=1000000) (y:=48) (by omega) (by omega)
 refine sA Tryz.func288 ?_
 refine⟨i6,⟨i6,⟨i6,⟨i6,⟨i6,⟨i6,?_⟩⟩⟩⟩⟩⟩
 exact r1B rfl rfl
theorem zol{m:Mp}{a b:Place}{ta tb:Int}{p:Pnt}(h:PntOk p)(hn:0<p.n):ovF (prfOf p) (grd m a+ta) (grd m b+tb)=ovrB m a ta b tb p:=by
 obtain⟨e1,e2⟩:=zcL h.k.1 hn
 obtain⟨e3,e4⟩:=zcL h.hi.1 hn
 have g1:=zeq p.k p.n
 have g2:=zeq p.hi p.n
 unfold ovF ovrB abvI prfOf
 dsimp only
 apply qI.2
 generalize dvs p.k p.n=u at*
 generalize dvs p.hi p.n=w at*
 generalize (lowF p.k p.n).1=an at*
 generalize (lowF p.k p.n).2=ad at*
 generalize (lowF p.hi p.n).1=gn at*
 generalize (lowF p.hi p.n).2=gd at*
 generalize grd m a+ta=A at*
 generalize grd m b+tb=C at*
 have k1:(A*(ad-an)+C*an)*gd*(u*w)=(A*(p.n-p.k)+C*p.k)*p.n:=by
  have x1:A*(p.n-p.k)=A*(ad-an)*u:=by rw[e1,e2];grind
  have x2:C*p.k=C*an*u:=by rw[e1];grind
  have x3:p.n=gd*w:=e4
  rw[x1,x2]
  conv=>rhs;rw[x3]
  grind
 have k2:gn*ad*(u*w)=p.hi*p.n:=by
  conv=>rhs;rw[e3,e2]
  grind
 have huw:=jbh g1 g2
 have s1:(A*(ad-an)+C*an)*gd<gn*ad↔(A*(ad-an)+C*an)*gd*(u*w)<gn*ad*(u*w):=(Int.mul_lt_mul_right huw).symm
 have s2:A*(p.n-p.k)+C*p.k<p.hi↔(A*(p.n-p.k)+C*p.k)*p.n<p.hi*p.n:=(Int.mul_lt_mul_right hn).symm
 rw[s1,k1,k2,<- s2]
 have c1:(p.n-p.k)*A=A*(p.n-p.k):=jae _ _
 have c2:p.k*C=C*p.k:=jae _ _
 rw[c1,c2]
 omega
theorem mix0{m:Mp}{a b:Place}{k:Int}:(0<(crsY a.X a.Y b.X b.Y k).tmod ((b.X-a.X).natAbs:Int)->grd m ⟨(crsX a.X b.X k),((crsY a.X a.Y b.X b.Y k).tdiv ((b.X-a.X).natAbs:Int))⟩*(((b.X-a.X).natAbs:Int)-(crsY a.X a.Y b.X b.Y k).tmod ((b.X-a.X).natAbs:Int))+grd m ⟨(crsX a.X b.X k),(((crsY a.X a.Y b.X b.Y k).tdiv ((b.X-a.X).natAbs:Int))+1)⟩*(crsY a.X a.Y b.X b.Y k).tmod ((b.X-a.X).natAbs:Int)=(crs0 m a b k).hi)
  /\((crsY a.X a.Y b.X b.Y k).tmod ((b.X-a.X).natAbs:Int)=0->grd m ⟨(crsX a.X b.X k),((crsY a.X a.Y b.X b.Y k).tdiv ((b.X-a.X).natAbs:Int))⟩*((b.X-a.X).natAbs:Int)=(crs0 m a b k).hi):=by
 unfold crs0 crsH
 dsimp only
 refine⟨fun h=>?_,fun h=>?_⟩
 ·rw[kH h,jae (grd m ⟨(crsX a.X b.X k),((crsY a.X a.Y b.X b.Y k).tdiv ((b.X-a.X).natAbs:Int))⟩),jae (grd m ⟨(crsX a.X b.X k),(((crsY a.X a.Y b.X b.Y k).tdiv ((b.X-a.X).natAbs:Int))+1)⟩)]
 rw[kG (by omega),h,Int.sub_zero,jae]
theorem zhO(m:Mp)(a b:Place)(k:Int)(hv:validM m=true)(ha:onM m a=true)(hb:onM m b=true)(hk:1<=k/\k<=48):Spec PP 293 [m.v,a.v,b.v,.agg [I 0,I k]] (if k<((b.X-a.X).natAbs:Int)then [(prfOf (crs0 m a b k)).v,B true]else [.agg [I 0,I 0,I 0,I 0,I 0,I 0],B false]):=by
 obtain⟨w,h,-,-⟩:=zaf hv
 obtain⟨a1,a2⟩:=zad.1 ha
 obtain⟨b1,b2⟩:=zad.1 hb
 by_cases hkn:k<((b.X-a.X).natAbs:Int)
 ·rw[kH hkn]
  have C:=zfd (f0:=a.X) (f1:=a.Y) (t0:=b.X) (t1:=b.Y) (k:=k) (lo:=0) (hi:=m.H-1) (by omega) (by omega) (by omega) ⟨hk.1,hkn⟩
  have m1:=mulB (a:=b.Y-a.Y) (b:=k) (x:=48) (y:=48) (by omega) (by omega)
  have m3:=mulB (a:=a.Y) (b:=((b.X-a.X).natAbs:Int)) (x:=48) (y:=48) (by omega) (by omega)
  have hx:=C.x
  have hw:=C.w
  have hr:=C.r
  have hu:=C.u
  have eX:=zid (f0:=a.X) (t0:=b.X) (k:=k) (by omega)
  have eY:a.Y*((b.X-a.X).natAbs:Int)+(b.Y-a.Y)*k=crsY a.X a.Y b.X b.Y k:=by unfold crsY;rw[jae (b.Y-a.Y) k]
  have o1:onM m ⟨(crsX a.X b.X k),((crsY a.X a.Y b.X b.Y k).tdiv ((b.X-a.X).natAbs:Int))⟩=true:=zad.2 (by dsimp only;omega)
  have d1:=(zaV hv o1).2
  have ok:=zda hv ha hb (k:=k) ⟨hk.1,hkn⟩
  have mix:=mix0 (m:=m) (a:=a) (b:=b) (k:=k)
  have en:(crs0 m a b k).n=((b.X-a.X).natAbs:Int):=rfl
  have ekk:(crs0 m a b k).k=k:=rfl
  have okh:=ok.hi
  have m4:=mulB (a:=grd m ⟨(crsX a.X b.X k),((crsY a.X a.Y b.X b.Y k).tdiv ((b.X-a.X).natAbs:Int))⟩) (x:=4000) (y:=48) (by omega) (b:=((b.X-a.X).natAbs:Int)) (by omega)
  refine sA Tryz.func293 ?_
  refine⟨i6,⟨i6,?_⟩⟩
  refine sNo rfl ?_
  refine cP (zfG (b.X-a.X) (by omega)) rfl rfl ?_
  repeat first|apply sT|apply sF|refine sNo rfl ?_
  apply bY<;>intro h1
  ·have:k<1:=dT h1
   omega
  repeat first|apply sT|apply sF
  apply bY<;>intro h2
  ·have:((b.X-a.X).natAbs:Int)<=k:=dT h2
   omega
  refine sNo rfl ?_
  apply bY<;>intro h3
  ·have h3:b.X-a.X<0:=dT h3
   have eX:a.X-k=crsX a.X b.X k:=by rw[eX,kG (by omega)]
   refine⟨i6,?_⟩
   rw[eX]
   refine⟨i6,⟨i6,⟨i6,?_⟩⟩⟩
   rw[eY]
   refine⟨⟨by omega,i6⟩,⟨by omega,?_⟩⟩
   refine oN 10 ?_
   refine oP (zbi (crsX a.X b.X k) ((crsY a.X a.Y b.X b.Y k).tdiv ((b.X-a.X).natAbs:Int))) rfl rfl ?_
   refine oP (zcG m ⟨(crsX a.X b.X k),((crsY a.X a.Y b.X b.Y k).tdiv ((b.X-a.X).natAbs:Int))⟩ hv o1) rfl rfl ?_
   refine⟨i6,?_⟩
   apply bY<;>intro h4
   ·have h4:0<(crsY a.X a.Y b.X b.Y k).tmod ((b.X-a.X).natAbs:Int):=dT h4
    have hu1:=hu h4
    have o2:onM m ⟨(crsX a.X b.X k),(((crsY a.X a.Y b.X b.Y k).tdiv ((b.X-a.X).natAbs:Int))+1)⟩=true:=zad.2 (by dsimp only;omega)
    have d2:=(zaV hv o2).2
    have m5:=mulB (a:=grd m ⟨(crsX a.X b.X k),((crsY a.X a.Y b.X b.Y k).tdiv ((b.X-a.X).natAbs:Int))⟩) (x:=4000) (y:=48) (by omega) (b:=((b.X-a.X).natAbs:Int)-(crsY a.X a.Y b.X b.Y k).tmod ((b.X-a.X).natAbs:Int)) (by omega)
    have m6:=mulB (a:=grd m ⟨(crsX a.X b.X k),(((crsY a.X a.Y b.X b.Y k).tdiv ((b.X-a.X).natAbs:Int))+1)⟩) (x:=4000) (y:=48) (by omega) (b:=(crsY a.X a.Y b.X b.Y k).tmod ((b.X-a.X).natAbs:Int)) (by omega)
    refine oN 23 ?_
    refine oP (zbi (crsX a.X b.X k) ((crsY a.X a.Y b.X b.Y k).tdiv ((b.X-a.X).natAbs:Int))) rfl rfl ?_
    refine oP (zcG m ⟨(crsX a.X b.X k),((crsY a.X a.Y b.X b.Y k).tdiv ((b.X-a.X).natAbs:Int))⟩ hv o1) rfl rfl ?_
    refine⟨i6,⟨i6,⟨i6,?_⟩⟩⟩
    refine oP (zbi (crsX a.X b.X k) ((crsY a.X a.Y b.X b.Y k).tdiv ((b.X-a.X).natAbs:Int)+1)) rfl rfl ?_
    refine oP (zcG m ⟨(crsX a.X b.X k),(((crsY a.X a.Y b.X b.Y k).tdiv ((b.X-a.X).natAbs:Int))+1)⟩ hv o2) rfl rfl ?_
    refine⟨i6,⟨i6,?_⟩⟩
    rw[mix.1 h4]
    refine oN 10 ?_
    refine oP (zas k ((b.X-a.X).natAbs:Int) (by omega) (by omega)) rfl rfl ?_
    refine oP (zas (crs0 m a b k).hi ((b.X-a.X).natAbs:Int) (by omega) (by omega)) rfl rfl ?_
    exact⟨rtC (a:=8) rfl rfl rfl rfl rfl rfl (zhb rfl rfl rfl rfl rfl rfl),rtB rfl rfl,trivial⟩
   have h4:¬0<(crsY a.X a.Y b.X b.Y k).tmod ((b.X-a.X).natAbs:Int):=dF h4
   rw[mix.2 (by omega)]
   refine oN 10 ?_
   refine oP (zas k ((b.X-a.X).natAbs:Int) (by omega) (by omega)) rfl rfl ?_
   refine oP (zas (crs0 m a b k).hi ((b.X-a.X).natAbs:Int) (by omega) (by omega)) rfl rfl ?_
   exact⟨rtC (a:=8) rfl rfl rfl rfl rfl rfl (zhb rfl rfl rfl rfl rfl rfl),rtB rfl rfl,trivial⟩
  have h3:¬b.X-a.X<0:=dF h3
  have eX:a.X+k=crsX a.X b.X k:=by rw[eX,kH (by omega)]
  refine⟨i6,?_⟩
  rw[eX]
  refine⟨i6,⟨i6,⟨i6,?_⟩⟩⟩
  rw[eY]
  refine⟨⟨by omega,i6⟩,⟨by omega,?_⟩⟩
  refine oN 10 ?_
  refine oP (zbi (crsX a.X b.X k) ((crsY a.X a.Y b.X b.Y k).tdiv ((b.X-a.X).natAbs:Int))) rfl rfl ?_
  refine oP (zcG m ⟨(crsX a.X b.X k),((crsY a.X a.Y b.X b.Y k).tdiv ((b.X-a.X).natAbs:Int))⟩ hv o1) rfl rfl ?_
  refine⟨i6,?_⟩
  apply bY<;>intro h4
  ·have h4:0<(crsY a.X a.Y b.X b.Y k).tmod ((b.X-a.X).natAbs:Int):=dT h4
   have hu1:=hu h4
   have o2:onM m ⟨(crsX a.X b.X k),(((crsY a.X a.Y b.X b.Y k).tdiv ((b.X-a.X).natAbs:Int))+1)⟩=true:=zad.2 (by dsimp only;omega)
   have d2:=(zaV hv o2).2
   have m5:=mulB (a:=grd m ⟨(crsX a.X b.X k),((crsY a.X a.Y b.X b.Y k).tdiv ((b.X-a.X).natAbs:Int))⟩) (x:=4000) (y:=48) (by omega) (b:=((b.X-a.X).natAbs:Int)-(crsY a.X a.Y b.X b.Y k).tmod ((b.X-a.X).natAbs:Int)) (by omega)
   have m6:=mulB (a:=grd m ⟨(crsX a.X b.X k),(((crsY a.X a.Y b.X b.Y k).tdiv ((b.X-a.X).natAbs:Int))+1)⟩) (x:=4000) (y:=48) (by omega) (b:=(crsY a.X a.Y b.X b.Y k).tmod ((b.X-a.X).natAbs:Int)) (by omega)
   refine oN 23 ?_
   refine oP (zbi (crsX a.X b.X k) ((crsY a.X a.Y b.X b.Y k).tdiv ((b.X-a.X).natAbs:Int))) rfl rfl ?_
   refine oP (zcG m ⟨(crsX a.X b.X k),((crsY a.X a.Y b.X b.Y k).tdiv ((b.X-a.X).natAbs:Int))⟩ hv o1) rfl rfl ?_
   refine⟨i6,⟨i6,⟨i6,?_⟩⟩⟩
   refine oP (zbi (crsX a.X b.X k) ((crsY a.X a.Y b.X b.Y k).tdiv ((b.X-a.X).natAbs:Int)+1)) rfl rfl ?_
   refine oP (zcG m ⟨(crsX a.X b.X k),(((crsY a.X a.Y b.X b.Y k).tdiv ((b.X-a.X).natAbs:Int))+1)⟩ hv o2) rfl rfl ?_
   refine⟨i6,⟨i6,?_⟩⟩
   rw[mix.1 h4]
   refine oN 10 ?_
   refine oP (zas k ((b.X-a.X).natAbs:Int) (by omega) (by omega)) rfl rfl ?_
   refine oP (zas (crs0 m a b k).hi ((b.X-a.X).natAbs:Int) (by omega) (by omega)) rfl rfl ?_
   exact⟨rtC (a:=8) rfl rfl rfl rfl rfl rfl (zhb rfl rfl rfl rfl rfl rfl),rtB rfl rfl,trivial⟩
  have h4:¬0<(crsY a.X a.Y b.X b.Y k).tmod ((b.X-a.X).natAbs:Int):=dF h4
  rw[mix.2 (by omega)]
  refine oN 10 ?_
  refine oP (zas k ((b.X-a.X).natAbs:Int) (by omega) (by omega)) rfl rfl ?_
  refine oP (zas (crs0 m a b k).hi ((b.X-a.X).natAbs:Int) (by omega) (by omega)) rfl rfl ?_
  exact⟨rtC (a:=8) rfl rfl rfl rfl rfl rfl (zhb rfl rfl rfl rfl rfl rfl),rtB rfl rfl,trivial⟩
 rw[kG hkn]
 refine sA Tryz.func293 ?_
 refine⟨i6,⟨i6,?_⟩⟩
 refine sNo rfl ?_
 refine cP (zfG (b.X-a.X) (by omega)) rfl rfl ?_
 repeat first|apply sT|apply sF|refine sNo rfl ?_
 apply bY<;>intro h1
 ·have:k<1:=dT h1
  omega
 repeat first|apply sT|apply sF
 apply bY<;>intro h2
 ·exact⟨rtC (a:=8) rfl rfl rfl rfl rfl rfl (zaa _),rtB rfl rfl,trivial⟩
 have:¬((b.X-a.X).natAbs:Int)<=k:=dF h2
 omega
theorem mix1{m:Mp}{a b:Place}{k:Int}:(0<(crsY a.Y a.X b.Y b.X k).tmod ((b.Y-a.Y).natAbs:Int)->grd m ⟨((crsY a.Y a.X b.Y b.X k).tdiv ((b.Y-a.Y).natAbs:Int)),(crsX a.Y b.Y k)⟩*(((b.Y-a.Y).natAbs:Int)-(crsY a.Y a.X b.Y b.X k).tmod ((b.Y-a.Y).natAbs:Int))+grd m ⟨(((crsY a.Y a.X b.Y b.X k).tdiv ((b.Y-a.Y).natAbs:Int))+1),(crsX a.Y b.Y k)⟩*(crsY a.Y a.X b.Y b.X k).tmod ((b.Y-a.Y).natAbs:Int)=(crs1 m a b k).hi)
  /\((crsY a.Y a.X b.Y b.X k).tmod ((b.Y-a.Y).natAbs:Int)=0->grd m ⟨((crsY a.Y a.X b.Y b.X k).tdiv ((b.Y-a.Y).natAbs:Int)),(crsX a.Y b.Y k)⟩*((b.Y-a.Y).natAbs:Int)=(crs1 m a b k).hi):=by
 unfold crs1 crsH
 dsimp only
 refine⟨fun h=>?_,fun h=>?_⟩
 ·rw[kH h,jae (grd m ⟨((crsY a.Y a.X b.Y b.X k).tdiv ((b.Y-a.Y).natAbs:Int)),(crsX a.Y b.Y k)⟩),jae (grd m ⟨(((crsY a.Y a.X b.Y b.X k).tdiv ((b.Y-a.Y).natAbs:Int))+1),(crsX a.Y b.Y k)⟩)]
 rw[kG (by omega),h,Int.sub_zero,jae]
theorem zhN(m:Mp)(a b:Place)(k:Int)(hv:validM m=true)(ha:onM m a=true)(hb:onM m b=true)(hk:1<=k/\k<=48):Spec PP 293 [m.v,a.v,b.v,.agg [I 1,I k]] (if k<((b.Y-a.Y).natAbs:Int)then [(prfOf (crs1 m a b k)).v,B true]else [.agg [I 0,I 0,I 0,I 0,I 0,I 0],B false]):=by
 obtain⟨w,h,-,-⟩:=zaf hv
 obtain⟨a1,a2⟩:=zad.1 ha
 obtain⟨b1,b2⟩:=zad.1 hb
 by_cases hkn:k<((b.Y-a.Y).natAbs:Int)
 ·rw[kH hkn]
  have C:=zfd (f0:=a.Y) (f1:=a.X) (t0:=b.Y) (t1:=b.X) (k:=k) (lo:=0) (hi:=m.W-1) (by omega) (by omega) (by omega) ⟨hk.1,hkn⟩
  have m1:=mulB (a:=b.X-a.X) (b:=k) (x:=48) (y:=48) (by omega) (by omega)
  have m3:=mulB (a:=a.X) (b:=((b.Y-a.Y).natAbs:Int)) (x:=48) (y:=48) (by omega) (by omega)
  have hx:=C.x
  have hw:=C.w
  have hr:=C.r
  have hu:=C.u
  have eX:=zid (f0:=a.Y) (t0:=b.Y) (k:=k) (by omega)
  have eY:a.X*((b.Y-a.Y).natAbs:Int)+(b.X-a.X)*k=crsY a.Y a.X b.Y b.X k:=by unfold crsY;rw[jae (b.X-a.X) k]
  have o1:onM m ⟨((crsY a.Y a.X b.Y b.X k).tdiv ((b.Y-a.Y).natAbs:Int)),(crsX a.Y b.Y k)⟩=true:=zad.2 (by dsimp only;omega)
  have d1:=(zaV hv o1).2
  have ok:=zc9 hv ha hb (k:=k) ⟨hk.1,hkn⟩
  have mix:=mix1 (m:=m) (a:=a) (b:=b) (k:=k)
  have en:(crs1 m a b k).n=((b.Y-a.Y).natAbs:Int):=rfl
  have ekk:(crs1 m a b k).k=k:=rfl
  have okh:=ok.hi
  have m4:=mulB (a:=grd m ⟨((crsY a.Y a.X b.Y b.X k).tdiv ((b.Y-a.Y).natAbs:Int)),(crsX a.Y b.Y k)⟩) (x:=4000) (y:=48) (by omega) (b:=((b.Y-a.Y).natAbs:Int)) (by omega)
  refine sA Tryz.func293 ?_
  refine⟨i6,⟨i6,?_⟩⟩
  refine sYe rfl ?_
  refine cP (zfG (b.Y-a.Y) (by omega)) rfl rfl ?_
  repeat first|apply sT|apply sF|refine sNo rfl ?_
  apply bY<;>intro h1
  ·have:k<1:=dT h1
   omega
  repeat first|apply sT|apply sF
  apply bY<;>intro h2
  ·have:((b.Y-a.Y).natAbs:Int)<=k:=dT h2
   omega
  refine sYe rfl ?_
  apply bY<;>intro h3
  ·have h3:b.Y-a.Y<0:=dT h3
   have eX:a.Y-k=crsX a.Y b.Y k:=by rw[eX,kG (by omega)]
   refine⟨i6,?_⟩
   rw[eX]
   refine⟨i6,⟨i6,⟨i6,?_⟩⟩⟩
   rw[eY]
   refine⟨⟨by omega,i6⟩,⟨by omega,?_⟩⟩
   refine oN 10 ?_
   refine oP (zbh (crsX a.Y b.Y k) ((crsY a.Y a.X b.Y b.X k).tdiv ((b.Y-a.Y).natAbs:Int))) rfl rfl ?_
   refine oP (zcG m ⟨((crsY a.Y a.X b.Y b.X k).tdiv ((b.Y-a.Y).natAbs:Int)),(crsX a.Y b.Y k)⟩ hv o1) rfl rfl ?_
   refine⟨i6,?_⟩
   apply bY<;>intro h4
   ·have h4:0<(crsY a.Y a.X b.Y b.X k).tmod ((b.Y-a.Y).natAbs:Int):=dT h4
    have hu1:=hu h4
    have o2:onM m ⟨(((crsY a.Y a.X b.Y b.X k).tdiv ((b.Y-a.Y).natAbs:Int))+1),(crsX a.Y b.Y k)⟩=true:=zad.2 (by dsimp only;omega)
    have d2:=(zaV hv o2).2
    have m5:=mulB (a:=grd m ⟨((crsY a.Y a.X b.Y b.X k).tdiv ((b.Y-a.Y).natAbs:Int)),(crsX a.Y b.Y k)⟩) (x:=4000) (y:=48) (by omega) (b:=((b.Y-a.Y).natAbs:Int)-(crsY a.Y a.X b.Y b.X k).tmod ((b.Y-a.Y).natAbs:Int)) (by omega)
    have m6:=mulB (a:=grd m ⟨(((crsY a.Y a.X b.Y b.X k).tdiv ((b.Y-a.Y).natAbs:Int))+1),(crsX a.Y b.Y k)⟩) (x:=4000) (y:=48) (by omega) (b:=(crsY a.Y a.X b.Y b.X k).tmod ((b.Y-a.Y).natAbs:Int)) (by omega)
    refine oN 23 ?_
    refine oP (zbh (crsX a.Y b.Y k) ((crsY a.Y a.X b.Y b.X k).tdiv ((b.Y-a.Y).natAbs:Int))) rfl rfl ?_
    refine oP (zcG m ⟨((crsY a.Y a.X b.Y b.X k).tdiv ((b.Y-a.Y).natAbs:Int)),(crsX a.Y b.Y k)⟩ hv o1) rfl rfl ?_
    refine⟨i6,⟨i6,⟨i6,?_⟩⟩⟩
    refine oP (zbh (crsX a.Y b.Y k) ((crsY a.Y a.X b.Y b.X k).tdiv ((b.Y-a.Y).natAbs:Int)+1)) rfl rfl ?_
    refine oP (zcG m ⟨(((crsY a.Y a.X b.Y b.X k).tdiv ((b.Y-a.Y).natAbs:Int))+1),(crsX a.Y b.Y k)⟩ hv o2) rfl rfl ?_
    refine⟨i6,⟨i6,?_⟩⟩
    rw[mix.1 h4]
    refine oN 10 ?_
    refine oP (zas k ((b.Y-a.Y).natAbs:Int) (by omega) (by omega)) rfl rfl ?_
    refine oP (zas (crs1 m a b k).hi ((b.Y-a.Y).natAbs:Int) (by omega) (by omega)) rfl rfl ?_
    exact⟨rtC (a:=8) rfl rfl rfl rfl rfl rfl (zhb rfl rfl rfl rfl rfl rfl),rtB rfl rfl,trivial⟩
   have h4:¬0<(crsY a.Y a.X b.Y b.X k).tmod ((b.Y-a.Y).natAbs:Int):=dF h4
   rw[mix.2 (by omega)]
   refine oN 10 ?_
   refine oP (zas k ((b.Y-a.Y).natAbs:Int) (by omega) (by omega)) rfl rfl ?_
   refine oP (zas (crs1 m a b k).hi ((b.Y-a.Y).natAbs:Int) (by omega) (by omega)) rfl rfl ?_
   exact⟨rtC (a:=8) rfl rfl rfl rfl rfl rfl (zhb rfl rfl rfl rfl rfl rfl),rtB rfl rfl,trivial⟩
  have h3:¬b.Y-a.Y<0:=dF h3
  have eX:a.Y+k=crsX a.Y b.Y k:=by rw[eX,kH (by omega)]
  refine⟨i6,?_⟩
  rw[eX]
  refine⟨i6,⟨i6,⟨i6,?_⟩⟩⟩
  rw[eY]
  refine⟨⟨by omega,i6⟩,⟨by omega,?_⟩⟩
  refine oN 10 ?_
  refine oP (zbh (crsX a.Y b.Y k) ((crsY a.Y a.X b.Y b.X k).tdiv ((b.Y-a.Y).natAbs:Int))) rfl rfl ?_
  refine oP (zcG m ⟨((crsY a.Y a.X b.Y b.X k).tdiv ((b.Y-a.Y).natAbs:Int)),(crsX a.Y b.Y k)⟩ hv o1) rfl rfl ?_
  refine⟨i6,?_⟩
  apply bY<;>intro h4
  ·have h4:0<(crsY a.Y a.X b.Y b.X k).tmod ((b.Y-a.Y).natAbs:Int):=dT h4
   have hu1:=hu h4
   have o2:onM m ⟨(((crsY a.Y a.X b.Y b.X k).tdiv ((b.Y-a.Y).natAbs:Int))+1),(crsX a.Y b.Y k)⟩=true:=zad.2 (by dsimp only;omega)
   have d2:=(zaV hv o2).2
   have m5:=mulB (a:=grd m ⟨((crsY a.Y a.X b.Y b.X k).tdiv ((b.Y-a.Y).natAbs:Int)),(crsX a.Y b.Y k)⟩) (x:=4000) (y:=48) (by omega) (b:=((b.Y-a.Y).natAbs:Int)-(crsY a.Y a.X b.Y b.X k).tmod ((b.Y-a.Y).natAbs:Int)) (by omega)
   have m6:=mulB (a:=grd m ⟨(((crsY a.Y a.X b.Y b.X k).tdiv ((b.Y-a.Y).natAbs:Int))+1),(crsX a.Y b.Y k)⟩) (x:=4000) (y:=48) (by omega) (b:=(crsY a.Y a.X b.Y b.X k).tmod ((b.Y-a.Y).natAbs:Int)) (by omega)
   refine oN 23 ?_
   refine oP (zbh (crsX a.Y b.Y k) ((crsY a.Y a.X b.Y b.X k).tdiv ((b.Y-a.Y).natAbs:Int))) rfl rfl ?_
   refine oP (zcG m ⟨((crsY a.Y a.X b.Y b.X k).tdiv ((b.Y-a.Y).natAbs:Int)),(crsX a.Y b.Y k)⟩ hv o1) rfl rfl ?_
   refine⟨i6,⟨i6,⟨i6,?_⟩⟩⟩
   refine oP (zbh (crsX a.Y b.Y k) ((crsY a.Y a.X b.Y b.X k).tdiv ((b.Y-a.Y).natAbs:Int)+1)) rfl rfl ?_
   refine oP (zcG m ⟨(((crsY a.Y a.X b.Y b.X k).tdiv ((b.Y-a.Y).natAbs:Int))+1),(crsX a.Y b.Y k)⟩ hv o2) rfl rfl ?_
   refine⟨i6,⟨i6,?_⟩⟩
   rw[mix.1 h4]
   refine oN 10 ?_
   refine oP (zas k ((b.Y-a.Y).natAbs:Int) (by omega) (by omega)) rfl rfl ?_
   refine oP (zas (crs1 m a b k).hi ((b.Y-a.Y).natAbs:Int) (by omega) (by omega)) rfl rfl ?_
   exact⟨rtC (a:=8) rfl rfl rfl rfl rfl rfl (zhb rfl rfl rfl rfl rfl rfl),rtB rfl rfl,trivial⟩
  have h4:¬0<(crsY a.Y a.X b.Y b.X k).tmod ((b.Y-a.Y).natAbs:Int):=dF h4
  rw[mix.2 (by omega)]
  refine oN 10 ?_
  refine oP (zas k ((b.Y-a.Y).natAbs:Int) (by omega) (by omega)) rfl rfl ?_
  refine oP (zas (crs1 m a b k).hi ((b.Y-a.Y).natAbs:Int) (by omega) (by omega)) rfl rfl ?_
  exact⟨rtC (a:=8) rfl rfl rfl rfl rfl rfl (zhb rfl rfl rfl rfl rfl rfl),rtB rfl rfl,trivial⟩
 rw[kG hkn]
 refine sA Tryz.func293 ?_
 refine⟨i6,⟨i6,?_⟩⟩
 refine sYe rfl ?_
 refine cP (zfG (b.Y-a.Y) (by omega)) rfl rfl ?_
 repeat first|apply sT|apply sF|refine sNo rfl ?_
 apply bY<;>intro h1
 ·have:k<1:=dT h1
  omega
 repeat first|apply sT|apply sF
 apply bY<;>intro h2
 ·exact⟨rtC (a:=8) rfl rfl rfl rfl rfl rfl (zaa _),rtB rfl rfl,trivial⟩
 have:¬((b.Y-a.Y).natAbs:Int)<=k:=dF h2
 omega
abbrev lPf(l:List Prf):D:=.slc 6 l.length fun i=>(l.getD i default).at
abbrev rowPf(l:List Prf):Nat->Nat->D:=fun i=>(l.getD i default).at
def posS(p:Prf):List Prf->Nat
 | []=>0
 |a::r=>if posS p r=0/\lsF p a=true then 0 else posS p r+1
theorem zfJ(p:Prf):∀(L:List Prf) (k:Nat),k<=L.length->(∀j,k<=j->j<L.length->lsF p (L.getD j default)=true)->(0<k->lsF p (L.getD (k-1) default)=false)->posS p L=k
 | [],k,h,_,_=>by simp at h;subst h;rfl
 |a::r,0,_,h1,_=>by
  have e:=zfJ p r 0 (jF _) (fun j _ hj=>by simpa using h1 (j+1) (by omega) (by simpa using hj)) (fun h=>absurd h (Nat.lt_irrefl _))
  unfold posS
  rw[kH ⟨e,h1 0 (jE _) (by simp)⟩]
 |a::r,k+1,h,h1,h2=>by
  have e:=zfJ p r k (by simpa using h) (fun j hk hj=>by simpa using h1 (j+1) (by omega) (by simpa using hj)) (fun hk=>by
   have:=h2 (by omega)
   obtain⟨d,rfl⟩:∃d,k=d+1:=⟨k-1,by omega⟩
   simpa using this)
  unfold posS
  rw[kG,e]
  rw[e]
  rintro⟨rfl,h3⟩
  have:=h2 (by omega)
  rw[show lsF p a=false from this]at h3
  cases h3
theorem zhT(p:Prf):∀L:List Prf,posS p L<=L.length
 | []=>jE _
 |a::r=>by
  have:=zhT p r
  unfold posS
  split
  ·simp
  simp;omega
def insF(L:List Prf)(p:Prf):List Prf:=L.take (posS p L)++p::L.drop (posS p L)
theorem zjo(L:List Prf)(p:Prf):(insF L p).length=L.length+1:=by
 have:=zhT p L
 unfold insF
 simp
 omega
theorem zoR{L:List Prf}{p x:Prf}:x∈insF L p↔x∈L\/x=p:=by
 unfold insF
 rw[kL,qC]
 constructor
 ·rintro(h|rfl|h)
  ·exact .inl (qY h)
  ·exact .inr rfl
  exact .inl (ja7 h)
 rintro(h|rfl)
 ·rw[<- List.take_append_drop (posS p L) L]at h
  rcases kL.1 h with h|h
  ·exact .inl h
  exact .inr (.inr h)
 exact .inr (.inl rfl)
theorem zoS(L:List Prf)(p:Prf)(m:Nat):(insF L p).getD m default=if m<posS p L then L.getD m default else if m=posS p L then p else L.getD (m-1) default:=by
 have hl:=zhT p L
 unfold insF
 rw[hZ]
 by_cases h1:m<posS p L
 ·rw[kH h1,jJ (by rw[jQ];omega),jS,kH h1,<- hZ]
 rw[kG h1,jK (by rw[jQ];omega),jQ]
 rw[show min (posS p L) L.length=posS p L by omega]
 by_cases h2:m=posS p L
 ·rw[kH h2,h2,kE];rfl
 rw[kG h2]
 obtain⟨d,hd⟩:∃d,m-posS p L=d+1:=⟨m-posS p L-1,by omega⟩
 rw[hd,wG,wC,show posS p L+d=m-1 by omega,<- hZ]
def shL(L:List Prf)(p:Prf)(i m:Nat):Prf:=if m<i then L.getD m default else if m=i then(if i=L.length then p else L.getD i default)else L.getD (m-1) default
def shR(L:List Prf)(p:Prf)(i:Nat):Nat->Nat->D:=fun m=>(shL L p i m).at
theorem at6{f:Nat->D}{p:Prf}(h0:f 0=I p.ax)(h1:f 1=I p.k)(h2:f 2=I p.an)(h3:f 3=I p.ad)(h4:f 4=I p.gn)(h5:f 5=I p.gd):∀j,j<6->D.eqv (f j) (p.at j)
 |0,_=>by rw[h0];exact⟨rfl,rfl⟩
 |1,_=>by rw[h1];exact⟨rfl,rfl⟩
 |2,_=>by rw[h2];exact⟨rfl,rfl⟩
 |3,_=>by rw[h3];exact⟨rfl,rfl⟩
 |4,_=>by rw[h4];exact⟨rfl,rfl⟩
 |5,_=>by rw[h5];exact⟨rfl,rfl⟩
theorem zpV{L:List Prf}{p:Prf}{g:Nat->Nat->D}(hg:∀j,j<6->D.eqv (g 0 j) (p.at j)):D.eqv (.slc 6 (L.length+1) (appRow L.length (rowPf L) g)) (.slc 6 (L.length+1) (shR L p L.length)):=by
 refine⟨rfl,.inr ⟨rfl,fun m hm j hj=>?_⟩⟩
 show D.eqv (appRow L.length (rowPf L) g m j) (shR L p L.length m j)
 unfold appRow shR shL
 by_cases h:m<L.length
 ·rw[kH h,kH h];exact dE _
 have e:m=L.length:=by omega
 subst e
 rw[kG h,kG h,kH rfl,kH rfl,kE]
 exact hg j hj
def pntA(m:Mp)(a b:Place)(ax:Nat)(k:Int):Pnt:=if ax=0 then crs0 m a b k else crs1 m a b k
def dAx(a b:Place)(ax:Nat):Int:=if ax=0 then dX a b else dY a b
def linS(m:Mp)(a b:Place)(ax:Nat)(L:List Prf):Nat->List Prf
 |0=>L
 |j+1=>if((j:Int)+1)<dAx a b ax then insF (linS m a b ax L j) (prfOf (pntA m a b ax ((j:Int)+1)))else linS m a b ax L j
def linU(m:Mp)(a b:Place):Nat->List Prf
 |0=>[]
 |i+1=>linS m a b i (linU m a b i) 48
def linL(m:Mp)(a b:Place):List Prf:=linU m a b 2
theorem zfX(m:Mp)(a b:Place)(ax:Nat)(L:List Prf):∀j,(linS m a b ax L j).length<=L.length+j
 |0=>jE _
 |j+1=>by
  have:=zfX m a b ax L j
  unfold linS
  split
  ·rw[zjo];omega
  omega
theorem zfW(m:Mp)(a b:Place):∀i,(linU m a b i).length<=i*48
 |0=>by simp[linU]
 |i+1=>by
  have h1:=zfW m a b i
  have h2:=zfX m a b i (linU m a b i) 48
  unfold linU
  omega
theorem linS_mem{m:Mp}{a b:Place}{ax:Nat}{L:List Prf}{x:Prf}:∀{j},x∈linS m a b ax L j↔x∈L\/∃k:Nat,k<j/\((k:Int)+1)<dAx a b ax/\x=prfOf (pntA m a b ax ((k:Int)+1))
 |0=>by
  show x∈L↔_
  constructor
  ·exact .inl
  ·rintro(h|⟨k,hk,_⟩)
   ·exact h
   ·exact absurd hk (qJ _)
 |j+1=>by
  unfold linS
  split
  ·rename_i h
   rw[zoR,linS_mem]
   constructor
   ·rintro((h1|⟨k,h1,h2⟩)|h1)
    ·exact .inl h1
    ·exact .inr ⟨k,by omega,h2⟩
    exact .inr ⟨j,by omega,h,h1⟩
   rintro(h1|⟨k,h1,h2,h3⟩)
   ·exact .inl (.inl h1)
   by_cases e:k=j
   ·subst e;exact .inr h3
   exact .inl (.inr ⟨k,by omega,h2,h3⟩)
  rename_i h
  rw[linS_mem]
  constructor
  ·rintro(h1|⟨k,h1,h2⟩)
   ·exact .inl h1
   exact .inr ⟨k,by omega,h2⟩
  rintro(h1|⟨k,h1,h2,h3⟩)
  ·exact .inl h1
  by_cases e:k=j
  ·subst e;exact absurd h2 h
  exact .inr ⟨k,by omega,h2,h3⟩
theorem zdG{m:Mp}{a b:Place}{x:Prf}(hX:dX a b<=48)(hY:dY a b<=48):x∈linL m a b↔(∃k:Int,1<=k/\k<dX a b/\x=prfOf (crs0 m a b k))\/∃k:Int,1<=k/\k<dY a b/\x=prfOf (crs1 m a b k):=by
 unfold linL
 show x∈linS m a b 1 (linS m a b 0 [] 48) 48↔_
 rw[linS_mem,linS_mem]
 constructor
 ·rintro((h|⟨k,h1,h2,h3⟩)|⟨k,h1,h2,h3⟩)
  ·cases h
  ·exact .inl ⟨(k:Int)+1,by omega,h2,h3⟩
  exact .inr ⟨(k:Int)+1,by omega,h2,h3⟩
 rintro(⟨k,h1,h2,h3⟩|⟨k,h1,h2,h3⟩)
 ·refine .inl (.inr ⟨(k-1).toNat,by omega,?_,?_⟩)
  ·rw[show(((k-1).toNat:Nat):Int)+1=k by omega];exact h2
  rw[show(((k-1).toNat:Nat):Int)+1=k by omega];exact h3
 refine .inr ⟨(k-1).toNat,by omega,?_,?_⟩
 ·rw[show(((k-1).toNat:Nat):Int)+1=k by omega];exact h2
 rw[show(((k-1).toNat:Nat):Int)+1=k by omega];exact h3
theorem zfI{m:Mp}{a b:Place}{p:Pnt}:∀(n:Nat) (k0 k1:Int),ptsN a b k0 k1=n->(p∈ptsF m a b n k0 k1↔(∃k:Int,k0<=k/\k<dX a b/\p=crs0 m a b k)\/∃k:Int,k1<=k/\k<dY a b/\p=crs1 m a b k)
 |0,k0,k1,hn=>by
  unfold ptsN at hn
  constructor
  ·intro h;cases h
  ·rintro(⟨k,h1,h2,_⟩|⟨k,h1,h2,_⟩)<;>omega
 |n+1,k0,k1,hn=>by
  have hh:k0<dX a b\/k1<dY a b:=by unfold ptsN at hn;omega
  by_cases hc:dX a b<=k0\/(k1<dY a b/\k1*dX a b<k0*dY a b)
  ·have h1:k1<dY a b:=by omega
   have e:=ziX (a:=a) (b:=b) (k0:=k0) h1
   show p∈(if _ then(if _ then _ else _)else _)↔_
   rw[kH hh,kH hc,qC,zfI n k0 (k1+1) (by omega)]
   constructor
   ·rintro(rfl|h|⟨k,g1,g2,g3⟩)
    ·exact .inr ⟨k1,jaY _,h1,rfl⟩
    ·exact .inl h
    exact .inr ⟨k,by omega,g2,g3⟩
   rintro(h|⟨k,g1,g2,g3⟩)
   ·exact .inr (.inl h)
   by_cases e:k=k1
   ·subst e;exact .inl g3
   exact .inr (.inr ⟨k,by omega,g2,g3⟩)
  have h0:k0<dX a b:=by omega
  have e:=ziY (a:=a) (b:=b) (k1:=k1) h0
  show p∈(if _ then(if _ then _ else _)else _)↔_
  rw[kH hh,kG hc,qC,zfI n (k0+1) k1 (by omega)]
  constructor
  ·rintro(rfl|⟨k,g1,g2,g3⟩|h)
   ·exact .inl ⟨k0,jaY _,h0,rfl⟩
   ·exact .inl ⟨k,by omega,g2,g3⟩
   exact .inr h
  rintro(⟨k,g1,g2,g3⟩|h)
  ·by_cases e:k=k0
   ·subst e;exact .inl g3
   exact .inr (.inl ⟨k,by omega,g2,g3⟩)
  exact .inr (.inr h)
theorem ptsL_mem{m:Mp}{a b:Place}{p:Pnt}:p∈ptsL m a b↔(∃k:Int,1<=k/\k<dX a b/\p=crs0 m a b k)\/∃k:Int,1<=k/\k<dY a b/\p=crs1 m a b k:=zfI _ 1 1 rfl
theorem zoy{m:Mp}{a b:Place}{ta tb:Int}(hv:validM m=true)(ha:onM m a=true)(hb:onM m b=true):((linL m a b).any fun x=>ovF x (grd m a+ta) (grd m b+tb))=(ptsL m a b).any (ovrB m a ta b tb):=by
 have hd:=zlL hv ha hb
 have hX:dX a b<=48:=hd.2.2.1.2
 have hY:dY a b<=48:=hd.2.2.2.2
 rw[kQ,kM,kM]
 constructor
 ·rintro⟨x,hx,ho⟩
  rcases(zdG hX hY).1 hx with⟨k,h1,h2,rfl⟩|⟨k,h1,h2,rfl⟩
  ·refine⟨crs0 m a b k,ptsL_mem.2 (.inl ⟨k,h1,h2,rfl⟩),?_⟩
   rw[zol (zda hv ha hb ⟨h1,h2⟩) (show 0<dX a b by omega)]at ho;exact ho
  refine⟨crs1 m a b k,ptsL_mem.2 (.inr ⟨k,h1,h2,rfl⟩),?_⟩
  rw[zol (zc9 hv ha hb ⟨h1,h2⟩) (show 0<dY a b by omega)]at ho;exact ho
 rintro⟨p,hp,ho⟩
 rcases ptsL_mem.1 hp with⟨k,h1,h2,rfl⟩|⟨k,h1,h2,rfl⟩
 ·refine⟨prfOf (crs0 m a b k),(zdG hX hY).2 (.inl ⟨k,h1,h2,rfl⟩),?_⟩
  rw[zol (zda hv ha hb ⟨h1,h2⟩) (show 0<dX a b by omega)];exact ho
 refine⟨prfOf (crs1 m a b k),(zdG hX hY).2 (.inr ⟨k,h1,h2,rfl⟩),?_⟩
 rw[zol (zc9 hv ha hb ⟨h1,h2⟩) (show 0<dY a b by omega)];exact ho
theorem zt8{m:Mp}{a b:Place}(hv:validM m=true)(ha:onM m a=true)(hb:onM m b=true):∀x∈linL m a b,PrfOk x:=fun x hx=>by
 have hd:=zlL hv ha hb
 rcases(zdG hd.2.2.1.2 hd.2.2.2.2).1 hx with⟨k,h1,h2,rfl⟩|⟨k,h1,h2,rfl⟩
 ·exact zi2 (zda hv ha hb ⟨h1,h2⟩) (show 0<dX a b by omega)
 exact zi2 (zc9 hv ha hb ⟨h1,h2⟩) (show 0<dY a b by omega)
theorem zpK{L:List Prf}{Q:Prf}{kk q:Nat}(h:kk<q)(hq:q<=L.length){z:Nat}(hz:z<6):getD' (shL L Q q ((q:Int)-1).toNat).ds z=(L.getD (q-1) default).at z:=by
 have e:shL L Q q ((q:Int)-1).toNat=L.getD (q-1) default:=by
  have e1:((q:Int)-1).toNat=q-1:=by omega
  rw[e1]
  unfold shL;rw[kH (by omega)]
 rw[e]
 have h6:z=0\/z=1\/z=2\/z=3\/z=4\/z=5:=by omega
 rcases h6 with rfl|rfl|rfl|rfl|rfl|rfl<;>rfl
theorem zk0{L:List Prf}{Q:Prf}{kk q:Nat}(h:kk<q)(hq:q<=L.length){ys:List D}(hl:ys.length=6)(hy:∀z,z<6->getD' ys z=(L.getD (q-1) default).at z):D.eqv (.slc 6 (L.length+1) (storeRow (shR L Q q) q 0 ys)) (.slc 6 (L.length+1) (shR L Q (q-1))):=by
 refine⟨rfl,.inr ⟨rfl,fun n hn j hj=>?_⟩⟩
 show D.eqv (storeRow (shR L Q q) q 0 ys n j) (shR L Q (q-1) n j)
 unfold storeRow
 by_cases h1:n=q
 ·subst h1
  rw[kH ⟨rfl,jF _,by omega⟩,Nat.sub_zero,hy j hj]
  unfold shR shL
  rw[kG (by omega),kG (by omega)]
  exact dE _
 rw[kG fun hh=>h1 hh.1]
 unfold shR shL
 by_cases h2:n<q
 ·rw[kH h2]
  by_cases h3:n<q-1
  ·rw[kH h3];exact dE _
  have e:n=q-1:=by omega
  rw[kG h3,kH e,kG (by omega),e];exact dE _
 rw[kG h2,kG h1,kG (by omega),kG (by omega)];exact dE _
theorem zpL{L:List Prf}{Q:Prf}{q:Nat}(hp:posS Q L=q){ys:List D}(hl:ys.length=6)(hy:∀z,z<6->D.eqv (getD' ys z) (Q.at z)):D.eqv (.slc 6 (L.length+1) (storeRow (shR L Q q) q 0 ys)) (.slc 6 (insF L Q).length (rowPf (insF L Q))):=by
 refine⟨(zjo L Q).symm,.inr ⟨rfl,fun n hn j hj=>?_⟩⟩
 show D.eqv (storeRow (shR L Q q) q 0 ys n j) (((insF L Q).getD n default).at j)
 rw[zoS,hp]
 unfold storeRow
 by_cases h1:n=q
 ·subst h1
  rw[kH ⟨rfl,jF _,by omega⟩,Nat.sub_zero,kG (Nat.lt_irrefl _),kH rfl]
  exact hy j hj
 rw[kG fun hh=>h1 hh.1]
 unfold shR shL
 by_cases h2:n<q
 ·rw[kH h2,kH h2];exact dE _
 rw[kG h2,kG h1,kG h2,kG h1];exact dE _
theorem zrh(m:Mp)(a b:Place)(ax:Nat)(k:Int)(hv:validM m=true)(ha:onM m a=true)(hb:onM m b=true)(hax:ax<2)(hk:1<=k/\k<=48):Spec PP 293 [m.v,a.v,b.v,.agg [I ax,I k]] (if k<dAx a b ax then [(prfOf (pntA m a b ax k)).v,B true]else [.agg [I 0,I 0,I 0,I 0,I 0,I 0],B false]):=by
 have h:ax=0\/ax=1:=by omega
 rcases h with rfl|rfl
 ·exact zhO m a b k hv ha hb hk
 exact zhN m a b k hv ha hb hk
theorem zpZ{m:Mp}{a b:Place}{ax:Nat}{k:Int}(hv:validM m=true)(ha:onM m a=true)(hb:onM m b=true)(hax:ax<2)(hk:1<=k/\k<dAx a b ax):PrfOk (prfOf (pntA m a b ax k)):=by
 have h:ax=0\/ax=1:=by omega
 rcases h with rfl|rfl
 ·have h2:k<dX a b:=hk.2
  exact zi2 (zda hv ha hb ⟨hk.1,h2⟩) (show 0<dX a b by omega)
 have h2:k<dY a b:=hk.2
 exact zi2 (zc9 hv ha hb ⟨hk.1,h2⟩) (show 0<dY a b by omega)
theorem zmb{m:Mp}{a b:Place}{i j:Nat}(hv:validM m=true)(ha:onM m a=true)(hb:onM m b=true)(hi:i<2)(hU:∀x∈linU m a b i,PrfOk x):∀x∈linS m a b i (linU m a b i) j,PrfOk x:=fun x hx=>by
 rcases linS_mem.1 hx with h|⟨k,h1,h2,rfl⟩
 ·exact hU x h
 exact zpZ hv ha hb hi ⟨by omega,h2⟩
theorem zma{m:Mp}{a b:Place}(hv:validM m=true)(ha:onM m a=true)(hb:onM m b=true):∀i,i<=2->∀x∈linU m a b i,PrfOk x
 |0,_,x,hx=>by cases hx
 |i+1,hi,x,hx=>zmb hv ha hb (by omega) (zma hv ha hb i (by omega)) x hx
theorem zrk(m:Mp)(a b:Place)(hv:validM m=true)(ha:onM m a=true)(hb:onM m b=true):Spec PP 287 [m.v,a.v,b.v] [.d (lPf (linL m a b))]:=by
 refine sA Tryz.func287 ?_
 refine lOf (σ:=Nat) (fun i=>([(3,.box 3 0),(4,.box 4 0),(5,.box 5 0),(7,.own 7),(8,.d (I i))],[(3,.box (m.ds.map AV.d)),(4,.box ([I a.X,I a.Y].map AV.d)),(5,.box ([I b.X,I b.Y].map AV.d)),(7,.row 366 6 (linU m a b i).length (rowPf (linU m a b i)))])) (fun i=>i<=2) (fun i=>2-i) 0
  ⟨rfl,⟨obD m.ds rfl,obD [I a.X,I a.Y] rfl,obD [I b.X,I b.Y] rfl,obR rfl ⟨rfl,.inl rfl⟩,trivial⟩,wq rfl⟩ (jF _) fun i hi=>?_
 apply bY<;>intro h0
 ·have h0:i<2:=by have:(i:Int)<2:=dT h0;omega
  refine lOf (σ:=Nat) (fun j=>([(3,.box 3 0),(4,.box 4 0),(5,.box 5 0),(7,.own 7),(8,.d (I i)),(9,.d (I ((j:Int)+1)))],[(3,.box (m.ds.map AV.d)),(4,.box ([I a.X,I a.Y].map AV.d)),(5,.box ([I b.X,I b.Y].map AV.d)),(7,.row 366 6 (linS m a b i (linU m a b i) j).length (rowPf (linS m a b i (linU m a b i) j)))])) (fun j=>j<=48) (fun j=>48-j) 0
   ⟨rfl,⟨obD m.ds rfl,obD [I a.X,I a.Y] rfl,obD [I b.X,I b.Y] rfl,obR rfl (dE _),trivial⟩,wq rfl⟩ (jF _) fun j hj=>?_
  apply bY<;>intro h1
  ·have h1:(j:Int)+1<=48:=dT h1
   have hP:=zrh m a b i ((j:Int)+1) hv ha hb h0 (by omega)
   by_cases hk:(j:Int)+1<dAx a b i
   ·rw[kH hk]at hP
    have eN:linS m a b i (linU m a b i) (j+1)=insF (linS m a b i (linU m a b i) j) (prfOf (pntA m a b i ((j:Int)+1))):=by
     show(if _ then _ else _)=_
     rw[kH hk]
    have hQ:PrfOk (prfOf (pntA m a b i ((j:Int)+1))):=zpZ hv ha hb h0 ⟨by omega,hk⟩
    have hL:=zmb (j:=j) hv ha hb h0 (zma hv ha hb i hi)
    refine cP hP rfl rfl ?_
    refine sNo rfl ?_
    obtain⟨Q,eQ⟩:∃Q,Q=prfOf (pntA m a b i ((j:Int)+1)):=⟨_,rfl⟩
    rw[<- eQ]at hQ eN⊢
    obtain⟨L,eL⟩:∃L,L=linS m a b i (linU m a b i) j:=⟨_,rfl⟩
    have L1:L.length<=1000:=by
     rw[eL]
     have a1:=zfX m a b i (linU m a b i) j
     have a2:=zfW m a b i
     omega
    rw[<- eL]at hL eN⊢
    refine lOf (σ:=Nat) (fun kk=>([(3,.box 3 0),(4,.box 4 0),(5,.box 5 0),(7,.own 7),(8,.d (I i)),(9,.d (I ((j:Int)+1))),(10,.box 10 0),(12,.d (I kk))],[(3,.box (m.ds.map AV.d)),(4,.box ([I a.X,I a.Y].map AV.d)),(5,.box ([I b.X,I b.Y].map AV.d)),(10,.box (Q.ds.map AV.d)),(7,.row 366 6 L.length (rowPf L))])) (fun kk=>kk<=L.length/\∀z,kk<=z->z<L.length->lsF Q (L.getD z default)=true) (fun kk=>kk) L.length
     ⟨rfl,⟨obD m.ds rfl,obD [I a.X,I a.Y] rfl,obD [I b.X,I b.Y] rfl,obD Q.ds rfl,obR rfl (dE _),trivial⟩,wq rfl⟩ ⟨jE _,fun z h1 h2=>absurd h2 (by omega)⟩ fun kk hkk0=>?_
    obtain⟨hkk,hall⟩:=hkk0
    refine oN 13 ?_
    apply bY<;>intro h2
    ·have h2:0<kk:=by have:=dT h2;omega
     refine⟨i6,⟨⟨by omega,by omega⟩,?_⟩⟩
     have hm:=gd1 (l:=L) (i:=kk-1) (by omega) default
     have hz:((kk:Int)-1).toNat=kk-1:=by omega
     refine⟨by omega,?_⟩
     rw[hz]
     refine oP (zrl Q (L.getD (kk-1) default) hQ (hL _ hm)) rfl rfl ?_
     refine sT ?_
     apply bY<;>intro h3
     ·have h3:lsF Q (L.getD (kk-1) default)=true:=h3
      refine⟨i6,?_⟩
      refine⟨kk-1,⟨rfl,⟨obD m.ds rfl,obD [I a.X,I a.Y] rfl,obD [I b.X,I b.Y] rfl,obD Q.ds rfl,obR rfl (dE _),trivial⟩,avQ rfl,avQ rfl,avQ rfl,avQ rfl,avR _ rfl,avR _ rfl,avQ rfl,avI rfl (by omega),trivial⟩,⟨by omega,fun z h4 h5=>?_⟩,(show kk-1<kk by omega)⟩
      by_cases e:z=kk-1
      ·subst e;exact h3
      exact hall z (by omega) h5
     have h3:lsF Q (L.getD (kk-1) default)=false:=h3
     have hpos:posS Q L=kk:=zfJ Q L kk hkk hall fun _=>h3
     refine⟨⟨.inr rfl,by simp only[maxLen];omega,by dsimp only;omega⟩,?_⟩
     refine⟨i6,?_⟩
     refine lOf (σ:=Nat) (fun q=>([(3,.box 3 0),(4,.box 4 0),(5,.box 5 0),(7,.own 7),(8,.d (I i)),(9,.d (I ((j:Int)+1))),(10,.box 10 0),(12,.d (I kk)),(13,.d (I q))],[(3,.box (m.ds.map AV.d)),(4,.box ([I a.X,I a.Y].map AV.d)),(5,.box ([I b.X,I b.Y].map AV.d)),(10,.box (Q.ds.map AV.d)),(7,.row 366 6 (L.length+1) (shR L Q q))])) (fun q=>kk<=q/\q<=L.length) (fun q=>q) L.length
      ⟨rfl,⟨obD m.ds rfl,obD [I a.X,I a.Y] rfl,obD [I b.X,I b.Y] rfl,obD Q.ds rfl,obR rfl (zpV (at6 rfl rfl rfl rfl rfl rfl)),trivial⟩,avQ rfl,avQ rfl,avQ rfl,avQ rfl,avR _ rfl,avR _ rfl,avQ rfl,avR _ rfl,avI rfl (by omega),trivial⟩ ⟨hkk,jE _⟩ fun q hq=>?_
     apply bY<;>intro h5
     ·have h5:kk<q:=by have:=dT h5;omega
      refine⟨i6,⟨⟨by omega,by omega⟩,⟨by omega,⟨⟨by omega,by omega⟩,⟨by omega,?_⟩⟩⟩⟩⟩
      refine⟨i6,?_⟩
      exact⟨q-1,⟨rfl,⟨obD m.ds rfl,obD [I a.X,I a.Y] rfl,obD [I b.X,I b.Y] rfl,obD Q.ds rfl,obR rfl (zk0 h5 hq.2 rfl (fun z hz=>zpK h5 hq.2 hz)),trivial⟩,avQ rfl,avQ rfl,avQ rfl,avQ rfl,avR _ rfl,avR _ rfl,avQ rfl,avR _ rfl,avI rfl (by omega),trivial⟩,(show kk<=q-1/\q-1<=L.length by omega),(show q-1<q by omega)⟩
     have h5:q=kk:=by have:=dF h5;omega
     subst h5
     refine⟨⟨by omega,by omega⟩,⟨by omega,?_⟩⟩
     refine⟨i6,?_⟩
     exact⟨j+1,⟨rfl,⟨obD m.ds rfl,obD [I a.X,I a.Y] rfl,obD [I b.X,I b.Y] rfl,obR rfl (by rw[eN];exact zpL hpos rfl (at6 rfl rfl rfl rfl rfl rfl)),trivial⟩,avQ rfl,avQ rfl,avQ rfl,avQ rfl,avR _ rfl,avI rfl (by omega),trivial⟩,(show j+1<=48 by omega),(msr (by omega))⟩
    have h2:kk=0:=by have:=dF h2;omega
    have hpos:posS Q L=kk:=zfJ Q L kk hkk hall fun h=>by omega
    refine sF (sF ?_)
    refine⟨⟨.inr rfl,by simp only[maxLen];omega,by dsimp only;omega⟩,?_⟩
    refine⟨i6,?_⟩
    refine lOf (σ:=Nat) (fun q=>([(3,.box 3 0),(4,.box 4 0),(5,.box 5 0),(7,.own 7),(8,.d (I i)),(9,.d (I ((j:Int)+1))),(10,.box 10 0),(12,.d (I kk)),(13,.d (I q))],[(3,.box (m.ds.map AV.d)),(4,.box ([I a.X,I a.Y].map AV.d)),(5,.box ([I b.X,I b.Y].map AV.d)),(10,.box (Q.ds.map AV.d)),(7,.row 366 6 (L.length+1) (shR L Q q))])) (fun q=>kk<=q/\q<=L.length) (fun q=>q) L.length
     ⟨rfl,⟨obD m.ds rfl,obD [I a.X,I a.Y] rfl,obD [I b.X,I b.Y] rfl,obD Q.ds rfl,obR rfl (zpV (at6 rfl rfl rfl rfl rfl rfl)),trivial⟩,avQ rfl,avQ rfl,avQ rfl,avQ rfl,avR _ rfl,avR _ rfl,avQ rfl,avR _ rfl,avI rfl (by omega),trivial⟩ ⟨hkk,jE _⟩ fun q hq=>?_
    apply bY<;>intro h5
    ·have h5:kk<q:=by have:=dT h5;omega
     refine⟨i6,⟨⟨by omega,by omega⟩,⟨by omega,⟨⟨by omega,by omega⟩,⟨by omega,?_⟩⟩⟩⟩⟩
     refine⟨i6,?_⟩
     exact⟨q-1,⟨rfl,⟨obD m.ds rfl,obD [I a.X,I a.Y] rfl,obD [I b.X,I b.Y] rfl,obD Q.ds rfl,obR rfl (zk0 h5 hq.2 rfl (fun z hz=>zpK h5 hq.2 hz)),trivial⟩,avQ rfl,avQ rfl,avQ rfl,avQ rfl,avR _ rfl,avR _ rfl,avQ rfl,avR _ rfl,avI rfl (by omega),trivial⟩,(show kk<=q-1/\q-1<=L.length by omega),(show q-1<q by omega)⟩
    have h5:q=kk:=by have:=dF h5;omega
    subst h5
    refine⟨⟨by omega,by omega⟩,⟨by omega,?_⟩⟩
    refine⟨i6,?_⟩
    exact⟨j+1,⟨rfl,⟨obD m.ds rfl,obD [I a.X,I a.Y] rfl,obD [I b.X,I b.Y] rfl,obR rfl (by rw[eN];exact zpL hpos rfl (at6 rfl rfl rfl rfl rfl rfl)),trivial⟩,avQ rfl,avQ rfl,avQ rfl,avQ rfl,avR _ rfl,avI rfl (by omega),trivial⟩,(show j+1<=48 by omega),(msr (by omega))⟩
   rw[kG hk]at hP
   have eN:linS m a b i (linU m a b i) (j+1)=linS m a b i (linU m a b i) j:=by
    show(if _ then _ else _)=_
    rw[kG hk]
   refine cP hP rfl rfl ?_
   refine sYe rfl ?_
   refine⟨i6,?_⟩
   exact⟨j+1,⟨rfl,⟨obD m.ds rfl,obD [I a.X,I a.Y] rfl,obD [I b.X,I b.Y] rfl,obR rfl (by rw[eN];exact dE _),trivial⟩,avQ rfl,avQ rfl,avQ rfl,avQ rfl,avR _ rfl,avI rfl (by omega),trivial⟩,(show j+1<=48 by omega),(msr (by omega))⟩
  have h1:j=48:=by have:¬(j:Int)+1<=48:=dF h1;omega
  subst h1
  refine⟨i6,?_⟩
  exact⟨i+1,⟨rfl,⟨obD m.ds rfl,obD [I a.X,I a.Y] rfl,obD [I b.X,I b.Y] rfl,obR rfl (dE _),trivial⟩,wq rfl⟩,(show i+1<=2 by omega),(msr (by omega))⟩
 have h0:i=2:=by have:¬(i:Int)<2:=dF h0;omega
 subst h0
 exact⟨⟨_,_,_,_,rfl,dE _⟩,trivial⟩
end Go.Pg
