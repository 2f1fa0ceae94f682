/- Lemmas, joined by program. -/
import Derived.Test.YtnifogelanhdiaaGreatM9
import Derived.KernelRfl
import Derived.Shelf.Sort.Plain
import Derived.Test.YtnifogelanhdiaaGreatChecked
import Derived.Deep.Slices
import Derived.Deep.Fields
import Derived.ChangeSame
import Derived.OpenShut
import Derived.ProofKit
import Derived.ChangeOld
import Derived.Below
set_option maxHeartbeats 4000000
set_option linter.all false
namespace Go.Proofs
open Go.Shelf Go.RowKit Go.Lib Go.Sort
def Tryz.srtI_ren:Go.Shelf.Ren:=⟨fun | 189=>97 | 125=>109 | 257=>147 | 128=>165 | 129=>166 | 294=>197 | 295=>198 | 296=>199 | 297=>200 | 298=>201 | 299=>202 | 216=>203 | 300=>204 | 301=>205 | 328=>221 | 329=>208 | 330=>209 | 331=>222 | 332=>223 | 215=>212 | 343=>240 | n=>n,fun | 28=>22 | 3=>3 | 46=>200 | 0=>0 | 51=>257 | 53=>240 | 4=>4 | 183=>251 | 182=>250 | 131=>93 | 5=>5 | 9=>9 | 218=>288 | 222=>292 | 228=>315 | 229=>235 | n=>n,fun | n=>n⟩
theorem Tryz.srtI:Go.Proofs.Lays.n189 Tryz.prog Tryz.srtI_ren:={
  mixed:=by kernel_rfl,
  f125:=Tryz.func109.trans (jI some (by kernel_rfl)),
  f128:=Tryz.func165.trans (jI some (by kernel_rfl)),
  f129:=Tryz.func166.trans (jI some (by kernel_rfl)),
  f189:=Tryz.func97.trans (jI some (by kernel_rfl)),
  f215:=Tryz.func212.trans (jI some (by kernel_rfl)),
  f216:=Tryz.func203.trans (jI some (by kernel_rfl)),
  f257:=Tryz.func147.trans (jI some (by kernel_rfl)),
  f294:=Tryz.func197.trans (jI some (by kernel_rfl)),
  f295:=Tryz.func198.trans (jI some (by kernel_rfl)),
  f296:=Tryz.func199.trans (jI some (by kernel_rfl)),
  f297:=Tryz.func200.trans (jI some (by kernel_rfl)),
  f298:=Tryz.func201.trans (jI some (by kernel_rfl)),
  f299:=Tryz.func202.trans (jI some (by kernel_rfl)),
  f300:=Tryz.func204.trans (jI some (by kernel_rfl)),
  f301:=Tryz.func205.trans (jI some (by kernel_rfl)),
  f328:=Tryz.func221.trans (jI some (by kernel_rfl)),
  f329:=Tryz.func208.trans (jI some (by kernel_rfl)),
  f330:=Tryz.func209.trans (jI some (by kernel_rfl)),
  f331:=Tryz.func222.trans (jI some (by kernel_rfl)),
  f332:=Tryz.func223.trans (jI some (by kernel_rfl)),
  f343:=Tryz.func240.trans (jI some (by kernel_rfl)),
  t0:=Tryz.underlying0,
  a0:=Tryz.isAgg0,
  z0:=Tryz.sizeOf0,
  v0:=Tryz.zeroValue0,
  t3:=Tryz.underlying3,
  a3:=Tryz.isAgg3,
  z3:=Tryz.sizeOf3,
  v3:=Tryz.zeroValue3,
  t4:=Tryz.underlying4,
  a4:=Tryz.isAgg4,
  z4:=Tryz.sizeOf4,
  v4:=Tryz.zeroValue4,
  t5:=Tryz.underlying5,
  a5:=Tryz.isAgg5,
  z5:=Tryz.sizeOf5,
  v5:=Tryz.zeroValue5,
  t9:=Tryz.underlying9,
  a9:=Tryz.isAgg9,
  z9:=Tryz.sizeOf9,
  v9:=Tryz.zeroValue9,
  t28:=Tryz.underlying22,
  a28:=Tryz.isAgg22,
  z28:=Tryz.sizeOf22,
  v28:=Tryz.zeroValue22,
  t46:=Tryz.underlying200,
  a46:=Tryz.isAgg200,
  z46:=Tryz.sizeOf200,
  v46:=Tryz.zeroValue200,
  t51:=Tryz.underlying257,
  a51:=Tryz.isAgg257,
  z51:=Tryz.sizeOf257,
  v51:=Tryz.zeroValue257,
  t53:=Tryz.underlying240,
  a53:=Tryz.isAgg240,
  z53:=Tryz.sizeOf240,
  v53:=Tryz.zeroValue240,
  t131:=Tryz.underlying93,
  a131:=Tryz.isAgg93,
  z131:=Tryz.sizeOf93,
  v131:=Tryz.zeroValue93,
  t182:=Tryz.underlying250,
  a182:=Tryz.isAgg250,
  z182:=Tryz.sizeOf250,
  v182:=Tryz.zeroValue250,
  t183:=Tryz.underlying251,
  a183:=Tryz.isAgg251,
  z183:=Tryz.sizeOf251,
  v183:=Tryz.zeroValue251,
  t218:=Tryz.underlying288,
  a218:=Tryz.isAgg288,
  z218:=Tryz.sizeOf288,
  v218:=Tryz.zeroValue288,
  t222:=Tryz.underlying292,
  a222:=Tryz.isAgg292,
  z222:=Tryz.sizeOf292,
  v222:=Tryz.zeroValue292,
  t228:=Tryz.underlying315,
  a228:=Tryz.isAgg315,
  z228:=Tryz.sizeOf315,
  v228:=Tryz.zeroValue315,
  t229:=Tryz.underlying235,
  a229:=Tryz.isAgg235,
  z229:=Tryz.sizeOf235,
  v229:=Tryz.zeroValue235 }
end Go.Proofs
set_option maxRecDepth 100000
namespace Go.Pg
open Go.Proofs Go.RowKit Go.Sort Go.Shelf
abbrev rowI (l:List Int):Nat->Nat->D:=fun i _=>I (l.getD i 0)
theorem zid (l:List Int) (hn:l.length<=1000000):SpecR PP 97 [] [] 3 1 l.length (rowI l) (rowI (l.mergeSort fun x y=>decide (x<=y))) []:=
 zg5 Tryz.srtI ⟨_,Tryz.func97,by kernel_rfl,by kernel_rfl⟩ 3 l hn
structure IdsOk (l:List Rpt):Prop where
  b:∀ i,i<l.length->1<=(l.getD i default).ID/\(l.getD i default).ID<=1099511627776
  d:∀ i j,i<l.length->j<l.length->(l.getD i default).ID=(l.getD j default).ID->i=j
theorem zrL {s:Svc} {b:Brn} {l:List Rpt} (h:GivOk s b l):IdsOk l:=by
 have bd:∀ i,i<l.length->1<=(l.getD i default).ID/\(l.getD i default).ID<=1099511627776:=fun i hi=>by
  have h1:=(h.r i hi).1
  unfold frmB at h1
  simp only[jP,jY] at h1
  have h2:=h1.1
  unfold frmC at h2
  simp only[qT,qV] at h2
  exact zaa.1 h2.1.1.1
 have dd:∀ i j,i<j->j<l.length->(l.getD i default).ID≠(l.getD j default).ID:=fun i j hij hj e=>by
  have h1:=h.d j hj
  rw[<- e] at h1
  have h2:(l.getD i default).ID∈(l.take j).map Rpt.ID:=by
   refine kK.2 ⟨l.getD i default,?_,rfl⟩
   have e2:(l.take j).getD i default=l.getD i default:=by
    rw[hU,jS,kH hij,<- hU]
   rw[<- e2]
   exact gd1 (by rw[jQ]; omega) default
  rw[kD.2 h2] at h1
  cases h1
 refine⟨bd,fun i j hi hj e=>?_⟩
 rcases jbs i j with h1 | h1 | h1
 ·exact absurd e (dd i j h1 hj)
 ·exact h1
 exact absurd e.symm (dd j i h1 hi)
theorem zm2 (s:Svc) (b:Brn) (l:List Rpt):(plcR s b l).1.length<=2401:=by
 unfold plcR
 split
 ·simp
 rename_i h
 have ok:=zde (jL h)
 exact jM (zds _ _ _) (zbv ok.s.c.m)
abbrev Lk.ds (x:Lk):List D:=[I x.Tower,I x.C,I x.Tick,I x.From,I x.To,I x.Slack]
theorem zfy {L:List (Nat->Bool)} {n:Nat}:metP L n=true ↔ ∀ P∈L,P n=true:=by unfold metP; exact jC
theorem zft {w:Wdg} (h1:0<=w.F/\w.F<=3599) (h2:0<=w.T/\w.T<=3599):openW w=(w.T - w.F) % 3600:=by
 unfold openW; rw[kH ⟨zaa.2 h1,zaa.2 h2⟩]
theorem zk0 {u t T m:Int} {a p:Place} (ht:0<=t/\t<=T) (hm:0<=m) (hT:T+m<=900) (h:liesW (wdg (u+t) m) a p=true):liesW (wdg u (T+m)) a p=true:=by
 unfold liesW at h ⊢
 simp only[jP,jY,jae,kA] at h ⊢
 obtain⟨⟨⟨h1,h2⟩,h3⟩,h4⟩:=h
 have bk:=zbX h2.1 h2.2 h3
 have o1:openW (wdg (u+t) m)=m:=by
  rw[zft (by unfold wdg; dsimp only; omega) (by unfold wdg; dsimp only; omega)]
  unfold wdg; dsimp only; omega
 have o2:openW (wdg u (T+m))=T+m:=by
  rw[zft (by unfold wdg; dsimp only; omega) (by unfold wdg; dsimp only; omega)]
  unfold wdg; dsimp only; omega
 refine⟨⟨⟨?_,h2⟩,h3⟩,?_⟩
 ·unfold validW; rw[o2]; exact zaa.2 (by omega)
 rw[o1] at h4
 rw[o2]
 generalize (bear a p).1=n at *
 generalize (bear a p).2=d at *
 have e1:(n - (wdg (u+t) m).F * d) % (3600 * d)=(n - (u+t) * d) % (3600 * d):=by
  have:(wdg (u+t) m).F=(u+t) - 3600 * ((u+t) / 3600):=by unfold wdg; dsimp only; omega
  rw[this]
  have e:n - ((u+t) - 3600 * ((u+t) / 3600)) * d=(n - (u+t) * d)+(u+t) / 3600 * (3600 * d):=by grind
  rw[e,Int.add_mul_emod_self_right]
 have e2:(n - (wdg u (T+m)).F * d) % (3600 * d)=(n - u * d) % (3600 * d):=by
  have:(wdg u (T+m)).F=u - 3600 * (u / 3600):=by unfold wdg; dsimp only; omega
  rw[this]
  have e:n - (u - 3600 * (u / 3600)) * d=(n - u * d)+u / 3600 * (3600 * d):=by grind
  rw[e,Int.add_mul_emod_self_right]
 rw[e1] at h4
 rw[e2]
 have hd:0<d:=bk.1.1
 have x0:=Int.emod_nonneg (n - (u+t) * d) (show 3600 * d≠0 by omega)
 generalize hX:(n - (u+t) * d) % (3600 * d)=X at *
 have m1:0<=t * d:=jad ht.1 (by omega)
 have m2:t * d<=T * d:=jV ht.2 (by omega)
 have m3:(T+m) * d<=900 * d:=jV hT (by omega)
 have m4:(T+m) * d=T * d+m * d:=Int.add_mul _ _ _
 have q:=Int.emod_add_mul_ediv (n - (u+t) * d) (3600 * d)
 rw[hX] at q
 have e3:n - u * d=(X+t * d)+(n - (u+t) * d) / (3600 * d) * (3600 * d):=by
  have:(u+t) * d=u * d+t * d:=Int.add_mul _ _ _
  rw[jbo ((n - (u+t) * d) / (3600 * d))]
  omega
 rw[e3,Int.add_mul_emod_self_right,Int.emod_eq_of_lt (by omega) (by omega)]
 omega
theorem zcq {s:Svc} {r:Rpt} (h:rptE s r=0):frmB r=true /\ ¬ ((towG s.c.T r.Tower).2=false \/ cirI s.k r.C<0)/\(s.k.C.getD (cirI s.k r.C).toNat default).At=(towG s.c.T r.Tower).1.At/\(zerR s.k r.C r.Tick).2=0:=by
 unfold rptE at h
 split at h
 ·cases h
 rename_i h1
 split at h
 ·cases h
 rename_i h2
 split at h
 ·cases h
 rename_i h3
 split at h
 ·rename_i h4; exact absurd h h4
 rename_i h4
 exact⟨by simpa using h1,h2,jL h3,jL h4⟩
theorem rpt_w {s:Svc} {r:Rpt} (h:rptE s r=0) (hk:r.Kind=1):(wdgR s.k (rdgO r)).2=0:=by
 obtain⟨f1,f2,f3,f4⟩:=zcq h
 unfold rptE at h
 rw[kG (by rw[f1]; decide),kG f2,kG (fun hh=>hh f3),kG (fun hh=>hh f4),kH hk] at h
 exact h
structure Lim where
  lo:Int
  hi:Int
  no:Bool
  deriving DecidableEq,Inhabited
abbrev Lim.ds (x:Lim):List D:=[I x.lo,I x.hi,.bool x.no]
structure Tg where
  N:Int
  T:Int
  lo:Int
  hi:Int
  no:Bool
  deriving DecidableEq,Inhabited
abbrev Tg.ds (x:Tg):List D:=[I x.N,I x.T,I x.lo,I x.hi,.bool x.no]
abbrev Tg.v (x:Tg):V1:=.agg x.ds
def Tg.at (x:Tg):Nat->D
 | 0=>I x.N
 | 1=>I x.T
 | 2=>I x.lo
 | 3=>I x.hi
 | _=>.bool x.no
structure Prf where
  ax:Int
  k:Int
  an:Int
  ad:Int
  gn:Int
  gd:Int
  deriving DecidableEq,Inhabited
abbrev Prf.ds (x:Prf):List D:=[I x.ax,I x.k,I x.an,I x.ad,I x.gn,I x.gd]
abbrev Prf.v (x:Prf):V1:=.agg x.ds
def Prf.at (x:Prf):Nat->D
 | 0=>I x.ax
 | 1=>I x.k
 | 2=>I x.an
 | 3=>I x.ad
 | 4=>I x.gn
 | _=>I x.gd
abbrev Hz.ds (x:Hz):List D:=[I x.From,I x.To,I x.Far]
theorem zoQ {g:Int->Int->Int} (hg:∀ x y,g x y=0) (a b c d k:Int):crsH g a b c d k=0:=by
 unfold crsH
 simp only[hg,Int.mul_zero,Int.add_zero,ite_self]
theorem zhi {m:Mp} (hm:∀ p,grd m p=0) (a b:Place):∀ (n:Nat) (k0 k1:Int),∀ p∈ptsF m a b n k0 k1,p.hi=0
 | 0,_,_,p,hp=>by cases hp
 | n+1,k0,k1,p,hp=>by
  unfold ptsF at hp
  split at hp
  ·split at hp
   ·rcases k9.1 hp with rfl | hp
    ·exact zoQ (g:=fun y x=>grd m ⟨x,y⟩) (fun _ _=>hm _) _ _ _ _ _
    exact zhi hm a b n _ _ p hp
   rcases k9.1 hp with rfl | hp
   ·exact zoQ (g:=fun x y=>grd m ⟨x,y⟩) (fun _ _=>hm _) _ _ _ _ _
   exact zhi hm a b n _ _ p hp
  cases hp
theorem zgz {m:Mp} (hm:∀ p,grd m p=0) (hv:validM m=true) {a b:Place} (ha:onM m a=true) (hb:onM m b=true) {ta tb:Int} (h1:0<=ta) (h2:0<=tb):freeB m a ta b tb=true:=by
 unfold freeB
 rw[jY,wI]
 intro p hp
 have ok:=zor hv ha hb p hp
 have h3:=zhi hm a b _ _ _ p hp
 unfold ovrB abvI
 rw[h3,hm,hm]
 have k1:=jad (show 0<=p.n - p.k by have:=ok.k; omega) (show 0<=0+ta by omega)
 have k2:=jad ok.k.1 (show 0<=0+tb by omega)
 simp only[kA]
 omega
end Go.Pg
namespace Go.Pg
open Go.RowKit Go.ChangeShapes Go.WideShapes Go.Deep
section
variable {H:Type} {enc:TypeId × Value->H} {P:Program} {w:World} {base:Nat} {spare:Nat->Bool} {held:Bool}
theorem zqH {n:Int} (h:(Lit.int .i64 n).wf=true):-9223372036854775808<=n/\n<=9223372036854775807:=by
 have h:(decide (IntKind.min .i64<=n) && decide (n<=IntKind.max .i64))=true:=h
 simp only[jP,kA] at h
 exact h
def IntFs (P:Program) (fs:Array Field):Prop:=∀ (j:Nat) (f:Field),fs[j]?=some f->P.underlying f.type=some (.int .i64)
theorem zrl {r:Reach} {b0:Nat} {t:TypeId} {fs:Array Field} {v:Value} {d:DataW H} {p:List MemPlace} (hs:P.underlying t=some (.struct fs)) (hone:oneCellFields P fs=true) (hC:P.cellsOf t=fs.size) (hI:IntFs P fs)
  (hv:Value.okWide P w r b0 t v) (h:DataW.Trod enc P w base spare held t v d p) :
  ∃ ns:List Int,ns.length=fs.size/\(∀ n∈ns,-9223372036854775808<=n/\n<=9223372036854775807)/\v = .agg (ns.map (Value.int .i64)).toArray:=by
 obtain⟨cs,rfl,hsz⟩:=okWide_struct hs hv
 obtain⟨l⟩:=cs
 have hl:l.length=fs.size:=by simpa [hC] using hsz
 obtain⟨fuel,hf⟩:=h
 obtain⟨xs,n,_,hx,_,hlen,hg⟩:=DataW.trod_struct hs hf
 have key:∀ j,j<l.length -> ∃ n:Int,l[j]?=some (.int .i64 n)/\(Lit.int .i64 n).wf=true:=fun j hj=>by
  have hjf:fs[j]?=some (fs[j]'(by omega)):=qX (by omega)
  obtain⟨o0,k0⟩:=hone_of hone j _ hjf
  have h1:=hg j _ hjf
  rw[o0,k0] at h1
  have hxs:xs[j]?=some (xs[j]'(by omega)):=kF (by omega)
  rw[hxs] at h1
  obtain⟨n,hc,_,hw⟩:=DataW.trod_int (hI j _ hjf) h1
  refine⟨n,?_,hw⟩
  have:(l.drop j).take 1=[.int .i64 n]:=by simpa [Value.cells] using hc
  rw[qB hj] at this
  have h3:l[j]=Value.int .i64 n:=(List.cons.inj this).1
  rw[kF hj,h3]
 have:∀ l:List Value,(∀ j,j<l.length -> ∃ n:Int,l[j]?=some (.int .i64 n)/\(Lit.int .i64 n).wf=true) -> ∃ ns:List Int,ns.length=l.length/\(∀ n∈ns,-9223372036854775808<=n/\n<=9223372036854775807)/\l=ns.map (Value.int .i64):=by
  intro l
  induction l with
  | nil=>intro _; exact⟨[],rfl,by simp,rfl⟩
  | cons u r ih=>
  intro hk
  obtain⟨n,h1,h2⟩:=hk 0 (by simp)
  obtain⟨ns,h3,h4,h5⟩:=ih fun j hj=>by simpa using hk (j+1) (by simpa using hj)
  refine⟨n :: ns,by simp[h3],fun m hm=>?_,?_⟩
  ·rcases k9.1 hm with rfl | hm
   ·exact zqH h2
   exact h4 m hm
  simp only[List.getElem?_cons_zero,jO] at h1
  rw[h1,h5]; rfl
 obtain⟨ns,h1,h2,h3⟩:=this l key
 exact⟨ns,by omega,h2,by rw[h3]⟩
theorem all2I {ok:Nat->Prop} (ns:List Int):All2 (Rep w ok) (ns.map I) (ns.map (Value.int .i64)):=by
 induction ns with
 | nil=>exact .nil
 | cons n r ih=>exact .cons rfl ih
end
section
variable {w:World} {ok:Nat->Prop} {len:Nat} {g:Nat->Nat->Int} {v:Value}
theorem zsi (ns:List Int):Rep1 w ok (.agg (ns.map I)) (.agg (ns.map (Value.int .i64)).toArray):=⟨_,rfl,all2I ns⟩
end
inductive Sh where
  | int (k:IntKind)
  | sl (k:Nat) (f:Nat->Sh)
def Fits:Sh->D->Prop
 | .int k,x=>∃ n:Int,(k.min<=n/\n<=k.max)/\x = .int k n
 | .sl k s,x=>∃ (n:Nat) (f:Nat->Nat->D),x = .slc k n f/\n<=maxLen /\ ∀ i,i<n -> ∀ j,j<k->Fits (s j) (f i j)
def GdS (w:World) (s:Sh) (v:Value):Prop:=∃ x:D,Rep w (fun b=>b<w.heap.size) x v/\Fits s x
def shFs (cells:TypeId->Nat) (g:TypeId->Option (List Sh)):Nat->List Field->Option (List Sh)
 | _,[]=>some []
 | off,f :: r=>(g f.type).bind fun a=>bif f.offset==off && a.length==cells f.type then (shFs cells g (off+a.length) r).map fun b=>a++b else none
def shSt (P:Program) (g:TypeId->Option (List Sh)) (t:TypeId) (fs:Array Field):Option (List Sh):=(shFs P.cellsOf g 0 fs.toList).bind fun ks=>bif ks.length==P.cellsOf t then some ks else none
def shSl (P:Program) (g:TypeId->Option (List Sh)) (e:TypeId):Option (List Sh):=(g e).bind fun ks=>bif ks.length==P.cellsOf e then some [.sl ks.length fun j=>getD' ks j] else none
where getD':List Sh->Nat->Sh
 | [],_=>.int .i64
 | x :: _,0=>x
 | _ :: r,j+1=>getD' r j
def shOf (P:Program):Nat->TypeId->Option (List Sh)
 | 0,_=>none
 | n+1,t=>match P.underlying t with
  | some (.int k)=>some [.int k]
  | some (.slice e)=>shSl P (shOf P n) e
  | some (.struct fs)=>shSt P (shOf P n) t fs
  | _=>none
theorem zmJ {l:List Sh} {j:Nat} (h:j<l.length):l[j]?=some (shSl.getD' l j):=by
 induction l generalizing j with
 | nil=>cases h
 | cons x r ih=>cases j with
  | zero=>rfl
  | succ j=>simpa [shSl.getD'] using ih (by simpa using h)
theorem All2.app' {α β:Type} {R:α->β->Prop} {a c:List α} {b d:List β} (h1:All2 R a b) (h2:All2 R c d):All2 R (a++c) (b++d):=by
 induction h1 with
 | nil=>exact h2
 | cons h _ ih=>exact .cons h ih
theorem zqn {w:World} {a:Addr} {v:Value} (h:w.cell? a=some v):a.block<w.heap.size:=by
 rcases jaA a.block w.heap.size with h1 | h1
 ·exact h1
 simp only[World.cell?,jam h1] at h
 cases h
theorem wf_kind {k:IntKind} {n:Int} (h:(Lit.int k n).wf=true):k.min<=n/\n<=k.max:=by
 have h:(decide (IntKind.min k<=n) && decide (n<=IntKind.max k))=true:=h
 simp only[jP,kA] at h
 exact h
section
variable {H:Type} {enc:TypeId × Value->H} {P:Program} {w:World} {base:Nat} {spare:Nat->Bool} {held:Bool}
theorem zga {g:TypeId->Option (List Sh)} {n:Nat} {cs:List Value}
  (ih:∀ t ks,g t=some ks -> ∀ cs x,DataW.trod enc P w base spare held n t cs=some x->All2 (GdS w) ks cs) :
  ∀ (r:List Field) (off:Nat) (ks:List Sh),shFs P.cellsOf g off r=some ks->(∀ f∈r,∃ x,DataW.trod enc P w base spare held n f.type ((cs.drop f.offset).take (P.cellsOf f.type))=some x)->All2 (GdS w) ks ((cs.drop off).take ks.length)
 | [],off,ks,h,_=>by
  simp only[shFs,jO] at h
  subst h
  exact .nil
 | f :: r,off,ks,h,hx=>by
  unfold shFs at h
  obtain⟨a,ha,h⟩:=jbv.1 h
  cases hc:f.offset==off && a.length==P.cellsOf f.type with
  | false=>rw[hc] at h; cases h
  | true=>
  rw[hc] at h
  obtain⟨b,hb,rfl⟩:=Option.map_eq_some_iff.1 (show (shFs P.cellsOf g (off+a.length) r).map (fun b=>a++b)=some ks from h)
  simp only[jP,jaf] at hc
  obtain⟨x,h1⟩:=hx f (wB ..)
  rw[hc.1,<- hc.2] at h1
  have g1:=ih _ _ ha _ _ h1
  have g2:=zga ih r (off+a.length) b hb fun f hf=>hx f (qS _ hf)
  rw[jR,List.take_add,List.drop_drop]
  exact g1.app' g2
theorem zfm:∀ (n:Nat) (t:TypeId) (ks:List Sh),shOf P n t=some ks -> ∀ (fuel:Nat) (cs:List Value) (x:DataW H × List MemPlace),DataW.trod enc P w base spare held fuel t cs=some x->All2 (GdS w) ks cs
 | 0,_,_,h,_,_,_,_=>by cases h
 | n+1,t,ks,h,fuel,cs,x,ht=>by
  unfold shOf at h
  split at h
  ·rename_i k hu
   simp only[jO] at h
   subst h
   obtain⟨m,rfl,_,hw⟩:=DataW.trod_int hu ht
   exact .cons ⟨.int k m,rfl,m,wf_kind hw,rfl⟩ .nil
  ·rename_i e hu
   unfold shSl at h
   obtain⟨ks',hk,h⟩:=jbv.1 h
   cases hc:ks'.length==P.cellsOf e with
   | false=>rw[hc] at h; cases h
   | true=>
   rw[hc] at h
   simp only[kS,jO] at h
   subst h
   have hc:=jaf.1 hc
   obtain⟨v,rfl⟩:∃ v,cs=[v]:=by
    rcases open_slice hu ht with⟨rfl,_⟩ | ⟨ad,len,cap,m,n',D,Pl,rfl,_⟩
    ·exact⟨_,rfl⟩
    exact⟨_,rfl⟩
   refine .cons ?_ .nil
   rcases open_slice hu ht with⟨h1,_⟩ | ⟨ad,len,cap,m,n',D,Pl,h1,hb,hl,hm,hmm,hx,hi⟩
   ·cases h1
    exact⟨.slc ks'.length 0 fun _ _=>.nil,.inl ⟨rfl,rfl⟩,0,_,rfl,by unfold maxLen; omega,fun i hi=>absurd hi (qQ _)⟩
   cases h1
   have key:∀ i,i<len -> ∀ j,j<ks'.length -> ∃ v,w.cell? (ad.add (i * ks'.length+j))=some v/\GdS w (shSl.getD' ks' j) v:=fun i him j hjl=>by
    obtain⟨cs',hcc,ht'⟩:=hi i (by rw[hmm]; split <;> omega)
    have hg:=zfm n e ks' hk _ _ _ ht'
    obtain⟨_,hcl,hat⟩:=World.cells?_some hcc
    obtain⟨v,hv,hgv⟩:=hg.get j _ (zmJ hjl)
    refine⟨v,?_,hgv⟩
    rw[<- Go.Deep.add_add,hc]
    rw[hat j (by omega)]; exact hv
   refine⟨.slc ks'.length len fun i j=>if h:i<len/\j<ks'.length then Classical.choose (jas (key i h.1 j h.2)).2 else .nil,.inr ⟨ad,cap,rfl,hl,hm,fun i hi j hj=>?_⟩,len,_,rfl,by omega,fun i hi j hj=>?_⟩
   ·have hs:=jas (key i hi j hj)
    have hs2:=jas hs.2
    refine⟨?_,_,hs.1,?_⟩
    ·have:=zqn hs.1
     rwa [zaJ] at this
    dsimp only; rw[dif_pos ⟨hi,hj⟩]; exact hs2.1
   dsimp only; rw[dif_pos ⟨hi,hj⟩]
   exact (jas (jas (key i hi j hj)).2).2
  ·rename_i fs hu
   unfold shSt at h
   obtain⟨ks',hk,h⟩:=jbv.1 h
   cases hc:ks'.length==P.cellsOf t with
   | false=>rw[hc] at h; cases h
   | true=>
   rw[hc] at h
   simp only[kS,jO] at h
   subst h
   obtain⟨xs,m,rfl,_,hl,hlen,hf⟩:=DataW.trod_struct hu ht
   have key:=zga (cs:=cs) (n:=m) (fun t ks h cs x hx=>zfm n t ks h m cs x hx) fs.toList 0 ks' hk fun f hf'=>by
    obtain⟨i,hi,rfl⟩:=kP hf'
    have hi':i<fs.size:=by simpa using hi
    have h1:=hf i fs[i] (qX hi')
    rw[kF (show i<xs.length by omega)] at h1
    exact⟨_,by simpa using h1⟩
   rw[List.drop_zero,List.take_of_length_le (by have:=jaf.1 hc; omega)] at key
   exact key
  cases h
theorem zea:∀ {ks:List Sh} {cs:List Value},All2 (GdS w) ks cs -> ∃ xs:List D,All2 (Rep w (fun b=>b<w.heap.size)) xs cs/\All2 Fits ks xs
 | [],[],.nil=>⟨[],.nil,.nil⟩
 | _ :: _,_ :: _,.cons ⟨x,h1,h2⟩ h=>by
  obtain⟨xs,h3,h4⟩:=zea h
  exact⟨x :: xs,.cons h1 h3,.cons h2 h4⟩
theorem openS {r:Reach} {b0:Nat} (n:Nat) {t:TypeId} {fs:Array Field} {ks:List Sh} {v:Value} {d:DataW H} {p:List MemPlace} (hs:P.underlying t=some (.struct fs)) (hk:shOf P n t=some ks)
  (hv:Value.okWide P w r b0 t v) (h:DataW.Trod enc P w base spare held t v d p):∃ xs:List D,Rep1 w (fun b=>b<w.heap.size) (.agg xs) v/\All2 Fits ks xs:=by
 obtain⟨cs,rfl,hsz⟩:=okWide_struct hs hv
 obtain⟨fuel,hf⟩:=h
 obtain⟨xs,h1,h2⟩:=zea (zfm n t ks hk fuel _ _ (by simpa [Value.cells] using hf))
 exact⟨xs,⟨cs.toList,by simp,h1⟩,h2⟩
theorem openL {r:Reach} {b0:Nat} (n:Nat) {t e:TypeId} {ks:List Sh} {v:Value} {d:DataW H} {p:List MemPlace} (hs:P.underlying t=some (.slice e)) (hk:shOf P (n+1) t=some ks)
  (hv:Value.okWide P w r b0 t v) (h:DataW.Trod enc P w base spare held t v d p):∃ x:D,Rep1 w (fun b=>b<w.heap.size) (.d x) v/\All2 Fits ks [x]:=by
 obtain⟨a,len,cap,rfl⟩:=okWide_slice hs hv
 obtain⟨fuel,hf⟩:=h
 obtain⟨xs,h1,h2⟩:=zea (zfm (n+1) t ks hk fuel _ _ (by simpa [Value.cells] using hf))
 cases h1 with
 | cons h h'=>cases h'; exact⟨_,h,h2⟩
end
theorem fitsL {α:Type} [Inhabited α] {k:Nat} {at_:α->Nat->D} {s:Nat->Sh} {x:D} (mkα:(Nat->Int)->α) (hi:∀ j,j<k->s j = .int .i64) (hk:∀ g:Nat->Int,∀ j,j<k->at_ (mkα g) j=I (g j)) (h:Fits (.sl k s) x) :
  ∃ l:List α,l.length<=maxLen/\(∀ a∈l,∃ g:Nat->Int,a=mkα g /\ ∀ j,j<k -> -9223372036854775808<=g j/\g j<=9223372036854775807)/\D.eqv x (.slc k l.length fun i=>at_ (l.getD i default)):=by
 obtain⟨n,f,rfl,hn,hf⟩:=h
 have key:∀ i,i<n -> ∀ j,j<k -> ∃ z:Int,(-9223372036854775808<=z/\z<=9223372036854775807)/\f i j=I z:=fun i hi' j hj=>by
  have h1:=hf i hi' j hj
  rw[hi j hj] at h1
  exact h1
 let g:Nat->Nat->Int:=fun i j=>if h:i<n/\j<k then Classical.choose (key i h.1 j h.2) else 0
 have hg:∀ i,i<n -> ∀ j,j<k->(-9223372036854775808<=g i j/\g i j<=9223372036854775807)/\f i j=I (g i j):=fun i hi' j hj=>by
  have e:g i j=Classical.choose (key i hi' j hj):=dif_pos ⟨hi',hj⟩
  rw[e]
  exact jas (key i hi' j hj)
 refine⟨(List.range n).map fun i=>mkα (g i),by simpa using hn,fun a ha=>?_,by simp,.inr ⟨rfl,fun i hi' j hj=>?_⟩⟩
 ·obtain⟨i,hi',rfl⟩:=kK.1 ha
  exact⟨g i,rfl,fun j hj=>(hg i (kI.1 hi') j hj).1⟩
 have e:((List.range n).map fun i=>mkα (g i)).getD i default=mkα (g i):=by
  rw[hU,jU,qR hi']; rfl
 show D.eqv (f i j) (at_ (((List.range n).map fun i=>mkα (g i)).getD i default) j)
 rw[e,hk _ j hj,(hg i hi' j hj).2]
 exact⟨rfl,rfl⟩
end Go.Pg
namespace Go.Pg
open Go.Proofs Go.RowKit
theorem avBl {s:St} {ob:Nat->Option Ob} {v:AV} {a b:Bool} (h:v = .d (.bool a)) (e:a=b):AVle s ob v (.d (.bool b)):=by subst h; subst e; exact dE _
theorem zmt {T:List Twr} {id:Int} (h:¬ towI T id<0):towG T id=(T.getD (towI T id).toNat default,true):=by unfold towG; rw[kG h]
theorem zqV (a p:Place) (z sl:Int):(-1000<=(shwS a p z sl).Lo/\(shwS a p z sl).Lo<=5000)/\(-1000<=(shwS a p z sl).Hi/\(shwS a p z sl).Hi<=5000):=by
 unfold shwS
 split
 ·rename_i h
  unfold shwB at h
  simp only[jP,jY,jae,zaa] at h
  obtain⟨⟨⟨⟨h1,h2⟩,h3⟩,h4⟩,h5⟩:=h
  obtain⟨⟨d1,d2⟩,n1,n2⟩:=zbX h1 h2 h3
  dsimp only
  generalize (bear a p).1=n at *
  generalize (bear a p).2=d at *
  have q:∀ m:Int,-400<=m/\m<=400 -> -400 * d<=n+m * d/\n+m * d<=4000 * d:=fun m hm=>by
   have a:=jV hm.1 (wE d1)
   have b:=jV hm.2 (wE d1)
   omega
  have u1:=q (z - sl) (by omega)
  have u2:=q (z+sl) (by omega)
  refine⟨⟨?_,?_⟩,?_,?_⟩
  ·have:=jaJ (a:=-(n+(z - sl) * d)) (b:=400) d1 (by omega); omega
  ·have:=(jaF (a:=-4000) (b:=-(n+(z - sl) * d)) d1).2 (by omega); omega
  ·have:=(jaF (a:=-400) (b:=n+(z+sl) * d) d1).2 (by omega); omega
  have:=jaJ (a:=n+(z+sl) * d) (b:=4000) d1 (by omega); omega
 decide
def tolB (s:Svc) (b:Brn) (p:Place) (z:Int) (r:Rpt):Bool:=
 if r.Kind=1 then lookB s b r p && shwB (towG s.c.T r.Tower).1.At p z r.Slack && decide ((r.From - (shwS (towG s.c.T r.Tower).1.At p z r.Slack).Lo) % 3600<=(shwS (towG s.c.T r.Tower).1.At p z r.Slack).Hi - (shwS (towG s.c.T r.Tower).1.At p z r.Slack).Lo)
 else !lookB s b r p || !shwB (towG s.c.T r.Tower).1.At p z r.Slack || decide ((r.To - r.From) % 3600<((shwS (towG s.c.T r.Tower).1.At p z r.Slack).Lo - r.From) % 3600+(shwS (towG s.c.T r.Tower).1.At p z r.Slack).Hi - (shwS (towG s.c.T r.Tower).1.At p z r.Slack).Lo)
def atK (s:Svc) (r:Rpt) (i:Nat):Place:=if (towI s.c.T r.Tower).toNat<i then (towG s.c.T r.Tower).1.At else ⟨0,0⟩
theorem zms {s:Svc} (h:CtryOk s.c) {id:Int} {i:Nat} (hi:i<s.c.T.length) (h0:¬ towI s.c.T id<0):(s.c.T.getD i default).ID=id ↔ i=(towI s.c.T id).toNat:=by
 rcases idxL_cases (fun t:Twr=>t.ID==id) s.c.T default with⟨e,-⟩ | ⟨m,hm,e,e1,e2⟩
 ·exact absurd (show towI s.c.T id<0 by unfold towI; rw[e]; decide) h0
 have e:towI s.c.T id=m:=e
 rw[e,jar]
 have e1:(s.c.T.getD m default).ID=id:=by simpa using e1
 constructor
 ·intro g
  rcases jbs i m with g1 | g1 | g1
  ·have t:=e2 i g1
   rw[g] at t; simp at t
  ·exact g1
  have:=h.d i hi
  rw[wI] at this
  have m2:s.c.T.getD m default∈s.c.T.take i:=by
   have q:(s.c.T.take i).getD m default=s.c.T.getD m default:=by
    rw[hU,jS,kH g1,<- hU]
   rw[<- q]
   exact gd1 (by rw[jQ]; omega) default
  exact absurd (by rw[e1,g]; simp) (this _ m2)
 rintro rfl; exact e1
theorem znD {r:Rpt} (h:frmB r=true):0<=r.From/\r.From<=3599:=by
 unfold frmB at h
 simp only[jP,jY] at h
 have h2:=h.1
 unfold frmC at h2
 simp only[qT,qV] at h2
 exact zaa.1 h2.1.2
end Go.Pg
