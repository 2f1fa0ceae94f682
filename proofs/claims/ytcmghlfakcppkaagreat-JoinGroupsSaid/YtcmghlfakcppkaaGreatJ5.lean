/- Lemmas, joined by program. -/
import Derived.Test.YtcmghlfakcppkaaGreatJ4
import Derived.Sort.LoopGhostIn
set_option maxHeartbeats 4000000
set_option linter.all false
namespace Go.Pg
open Go.RowKit
section
variable {P:Program}{T:TT}{E:Env}{cx:Cx}{γ:Nat->Value}{s s':St}{a:Act}{w:World}{F:Fence}{n:Nat}{ops:Array Oper}
def gd(s:St)(ops:Array Oper)(o:Oper):Option Bool:=
 match o.guard with
 |none=>some true
 |some (j,want)=>match gval s ops.toList j with
  | .d (.bool b)=>some (b==want)
  | .undef=>some false
  | _=>none
def stG(P:Program)(T:TT)(E:Env)(ops:Array Oper)(o:Oper)(s:St)(K:St->Prop):Prop:=
 match gd s ops o with
 |some true=>stD P T E s o K
 |some false=>K (s.putO o.dst .undef)
 |none=>False
def opG(P:Program)(T:TT)(E:Env)(ops:Array Oper)(i:Nat)(K:St->Prop)(s:St):Prop:=
 match ops[i]? with
 |none=>K s
 |some o=>stG P T E ops o s K
def op2(ow:Bool)(P:Program)(T:TT)(E:Env)(ops:Array Oper)(i:Nat)(K:St->Prop)(s:St):Prop:=
 opG P T E ops i K s\/(ow=true/\∃o,ops[i]?=some o/\o.guard=none/\OwnD E P s o K)
def anyA(ow:Bool)(P:Program)(T:TT)(E:Env)(ops:Array Oper)(Q:St->Prop):Nat->Array Bool->St->Prop
 |0,listed,s=>Region.ready .any ops listed=[]/\Q s
 |fuel+1,listed,s=>((Region.ready .any ops listed=[]->Q s)/\∀i∈Region.ready .any ops listed,op2 ow P T E ops i (anyA ow P T E ops Q fuel (listed.setIfInBounds i true)) s)\/
  ∃y o,y∈Region.ready .any ops listed/\(∀j∈Region.ready .any ops listed,j=y)/\cmpB ops y=true/\ops[y]?=some o/\o.guard=none/\∃ids,stE P T E (s.freezes ids) o (anyA ow P T E ops Q fuel (listed.setIfInBounds y true))
theorem zaY(s:St){x y:Option Nat}(v u:AV)(h:∀d,x=some d->y≠some d):(s.putO x v).putO y u=(s.putO y u).putO x v:=by
 cases x with
 |none=>rfl
 |some d=>
 cases y with
 |none=>rfl
 |some e=>
 have hne:d≠e:=fun he=>h d rfl (he▸rfl)
 show(⟨upd (upd s.sl d v) e u,s.ob⟩:St)=⟨upd (upd s.sl e u) d v,s.ob⟩
 congr 1
 funext t
 simp only[zat]
 by_cases h1:t=e
 ·subst h1;simp[jaw hne]
 simp[h1]
theorem zgb{s:St}{d:Option Nat}{v:AV}{x:Operand}(h:∀t,d=some t->x≠ .tmp t):ev (s.putO d v) x=ev s x:=by
 cases d with
 |none=>rfl
 |some t=>
 cases x with
 |tmp u=>
  show(upd s.sl t v u).unpin=(s.sl u).unpin
  rw[zai _ _ fun e=>h t rfl (by rw[e])]
 | _=>rfl
theorem zbJ{o:Oper}{d:Nat}(h:d∉o.looksAt ops):∀x∈o.op.operands,x≠ .tmp d:=fun x hx e=>by
 subst e
 refine h ?_
 unfold Oper.looksAt
 refine kL.2 (.inl (List.mem_filterMap.2 ⟨_,by simpa using hx,rfl⟩))
theorem zaA{o:Oper}{d:Option Nat}{v:AV}(h:∀t,d=some t->t∉o.looksAt ops)(s:St):SameOn s (s.putO d v) o.op:=fun x hx=>zgb fun t ht=>zbJ (h t ht) x hx
theorem zhB{o:Oper}{d:Option Nat}{v:AV}(h:∀t,d=some t->t∉o.looksAt ops)(s:St):SameOn (s.putO d v) s o.op:=fun x hx=>(zgb fun t ht=>zbJ (h t ht) x hx).symm
theorem zdC(s:St)(d:Option Nat)(v:AV):More s (s.putO d v):=fun i o h=>by cases d<;>exact h
theorem zd7(s:St)(d:Option Nat)(v:AV):More (s.putO d v) s:=fun i o h=>by cases d<;>exact h
theorem zcP{o:Oper}{d:Option Nat}{v:AV}(h:∀t,d=some t->t∉o.looksAt ops)(s:St):gd (s.putO d v) ops o=gd s ops o:=by
 unfold gd
 cases hg:o.guard with
 |none=>rfl
 |some p=>
 obtain⟨j,want⟩:=p
 have:gval (s.putO d v) ops.toList j=gval s ops.toList j:=by
  unfold gval dstOf
  rw[zau]
  cases hj:ops.toList[j]? with
  |none=>rfl
  |some oj=>
  cases hd:oj.dst with
  |none=>simp[hd]
  |some t=>
  simp only[hd]
  cases d with
  |none=>rfl
  |some e=>
  refine zai _ _ fun he=>h e rfl ?_
  unfold Oper.looksAt
  refine kL.2 (.inr ?_)
  have hj':ops[j]?=some oj:=by simpa using hj
  simp[hg,hj',hd,he]
 simp only[this]
theorem zh5{o:Oper}{s s':St}(h:s'.sl=s.sl):gd s' ops o=gd s ops o:=by
 unfold gd gval;simp only[h]
def Yl(P:Program)(T:TT)(E:Env)(ops:Array Oper)(o:Oper)(v:AV)(s:St):Prop:=
 (gd s ops o=some true/\valD P T E s o.op fun u=>u=v)\/(gd s ops o=some false/\v= .undef)
theorem Yl.opG{i:Nat}{o:Oper}{v:AV}(hi:ops[i]?=some o)(hb:isB o.op=true)(hy:Yl P T E ops o v s){K:St->Prop}(h:K (s.putO o.dst v)):opG P T E ops i K s:=by
 unfold Go.Pg.opG stG
 simp only[hi]
 rcases hy with⟨h1,h2⟩|⟨h1,rfl⟩
 ·simp only[h1,stD,hb]
  exact(zb6 P T E s o.op _).2 ⟨v,h2,h⟩
 simp only[h1];exact h
theorem zkz{i:Nat}{o:Oper}{K:St->Prop}(hi:ops[i]?=some o)(hb:isB o.op=true)(h:opG P T E ops i K s):∃v,Yl P T E ops o v s/\K (s.putO o.dst v):=by
 unfold opG stG at h
 simp only[hi]at h
 cases hg:gd s ops o with
 |none=>simp[hg]at h
 |some b=>
 cases b with
 |true=>
  simp only[hg,stD,hb]at h
  obtain⟨v,h1,h2⟩:=(zb6 P T E s o.op _).1 h
  exact⟨v,.inl ⟨hg,h1⟩,h2⟩
 |false=>simp only[hg]at h;exact⟨.undef,.inr ⟨hg,rfl⟩,h⟩
def Mon(f:(St->Prop)->Prop):Prop:=∀K K':St->Prop,(∀s,K s->K' s)->f K->f K'
theorem Mon.k(s:St):Mon fun K=>K s:=fun _ _ h=>h s
theorem Mon.false:Mon fun _=>False:=fun _ _ _ h=>h
theorem Mon.and{p:Prop}{f:(St->Prop)->Prop}(h:Mon f):Mon fun K=>p/\f K:=fun _ _ hk ⟨hp,hf⟩=>⟨hp,h _ _ hk hf⟩
theorem Mon.ex{α:Type}{f:α->(St->Prop)->Prop}(h:∀x,Mon (f x)):Mon fun K=>∃x,f x K:=fun _ _ hk ⟨x,hf⟩=>⟨x,h x _ _ hk hf⟩
theorem Mon.cond{b:Bool}{f g:(St->Prop)->Prop}(h1:Mon f)(h2:Mon g):Mon fun K=>bif b then f K else g K:=by
 cases b
 ·exact h2
 exact h1
theorem Mon.spl{f:(AV->Prop)->Prop}(h:Spl f)(g:AV->St):Mon fun K=>f fun v=>K (g v):=fun K K' hk hf=>by
 obtain⟨v,h1,h2⟩:=(h _).1 hf
 exact(h _).2 ⟨v,h1,hk _ h2⟩
theorem zko(E:Env)(P:Program)(s:St)(o:Oper)(f:Operand)(args:List Operand):Mon (CallSt E P s o f args):=fun K K' hk h=>by
 simp only[zag]at*
 rcases h with⟨ids,f,ex,h0,h⟩|⟨ids,f,ex,d,h0,h1,h⟩|⟨s',h1,h2⟩|⟨⟨n,d,sl,ob,vs,h1,h2,h3,h4,h5,h6,h7,h8,h9,h10⟩⟩|⟨⟨ys,n,m,f',ex,xs,sl,rest,obs,obs',pins,res,resF,q1,q2,q3,q4,q5,q6,q7,q8,q9,q10,q11⟩⟩
 ·exact .inl ⟨ids,f,ex,h0,Mon.spl (zch E.dr P (s.freezes ids) f _) (fun v=>(s.freezes ids).putO o.dst v) K K' hk h⟩
 ·refine .inr (.inl ⟨ids,f,ex,d,h0,h1,?_⟩)
  simp only[zar]at*
  obtain⟨xs,e,k,n,g,r,g1,g2,g3,g4⟩:=h
  exact⟨xs,e,k,n,g,r,g1,g2,g3,hk _ g4⟩
 ·exact .inr (.inr (.inl ⟨s',h1,hk _ h2⟩))
 ·exact .inr (.inr (.inr (.inl ⟨⟨n,d,sl,ob,vs,h1,h2,h3,h4,h5,h6,h7,h8,hk _ h9,hk _ h10⟩⟩)))
 exact .inr (.inr (.inr (.inr ⟨⟨ys,n,m,f',ex,xs,sl,rest,obs,obs',pins,res,resF,q1,q2,q3,q4,q5,q6,q7,q8,q9,hk _ q10,hk _ q11⟩⟩)))
theorem zjZ(T:TT)(s:St)(t:Nat)(a x:AV):Mon (storeE T s t a x):=by
 unfold storeE
 split
 ·split
  ·refine .cond ?_ .false
   split
   ·exact .k _
   exact .false
  exact .false
 ·split
  ·exact .cond (.and (.k _)) .false
  exact .false
 exact .false
theorem znE{s:St}{x:AV}{f:Nat->Nat->(Nat->Nat->D)->(St->Prop)->Prop}(h:∀k m g,Mon (f k m g)):Mon fun K=>srcE s x fun k m g=>f k m g K:=by
 unfold srcE
 split
 ·exact h _ _ _
 ·exact h _ _ _
 ·exact h _ _ _
 ·split
  ·exact h _ _ _
  exact .false
 exact .false
theorem zio(fr:Bool)(T:TT)(s:St)(dst:Option Nat)(t:Nat)(a x:AV):Mon (appendE fr T s dst t a x):=by
 unfold appendE
 split
 ·split
  ·refine znE fun k m g=>?_
   split
   ·split
    ·exact .cond (.and (.k _)) .false
    exact .false
   ·exact .cond (.and (.k _)) .false
   ·exact .cond (.and (.k _)) .false
   exact .false
  exact .false
 exact .false
theorem zl2(T:TT)(t:Nat)(l c:AV)(F:Nat->Nat->TI->(Nat->Nat->D)->St):Mon fun K=>makeE T t l c fun e n ei f=>K (F e n ei f):=by
 unfold makeE
 split
 ·split
  ·split
   ·exact .cond (.and (.k _)) .false
   exact .false
  exact .false
 exact .false
theorem zb3(T:TT)(s:St)(t len:Nat)(parts:List (Nat×Operand))(g:Nat->TI->(Nat->Nat->D)->St):Mon fun K=>buildSliceE T s t len parts fun e ei f=>K (g e ei f):=by
 unfold buildSliceE
 split
 ·split
  ·split
   ·split
    ·exact .cond (.k _) .false
    exact .false
   exact .false
  exact .false
 exact .false
theorem zkn(T:TT)(s:St)(t:Nat)(v:AV):Mon (clearE T s t v):=by
 unfold clearE
 split
 ·split
  ·split
   ·exact .cond (.and (.k _)) .false
   exact .false
  exact .false
 exact .false
theorem zl6(P:Program)(T:TT)(s:St)(t:Nat)(x i:AV)(ok:Bool)(F:AV->St):Mon fun K=>lookE P T s t x i ok fun v=>K (F v):=by
 unfold lookE
 split
 ·split
  ·exact .and (.ex fun _=>.and (.k _))
  exact .false
 exact .false
theorem znu(P:Program)(T:TT)(s:St)(t:Nat)(x i v:AV):Mon (updE P T s t x i v):=by
 unfold updE
 split
 ·split
  ·exact .and (.k _)
  exact .false
 exact .false
theorem Mon.all{α:Type}{p:α->Prop}{f:α->(St->Prop)->Prop}(h:∀x,Mon (f x)):Mon fun K=>∀x,p x->f x K:=fun _ _ hk H x hp=>h x _ _ hk (H x hp)
theorem zpc(T:TT)(s:St)(dst:Option Nat)(t i m i' k' lo n':Nat):Mon (delE T s dst t i m i' k' lo n'):=by
 unfold delE
 split
 ·split
  ·exact .cond (.and (.k _)) .false
  exact .false
 exact .false
theorem zpu(fr:Bool)(T:TT)(s:St)(dst:Option Nat)(t:Nat)(a x:AV):Mon (appE fr T s dst t a x):=by
 unfold appE
 split
 ·exact zpc _ _ _ _ _ _ _ _ _ _
 exact zio _ _ _ _ _ _ _
theorem zfu(P:Program)(T:TT)(E:Env)(s:St)(o:Oper):Mon (stE P T E s o):=by
 have plain:∀s:St,Mon fun K=>opE P T E s o.op fun v=>K (s.putO o.dst v):=fun s=>.spl (zhU P T E s o.op) _
 unfold stE
 split
 ·split
  ·exact .cond (.k _) .false
  exact .false
 ·split
  ·exact .cond (.k _) .false
  exact .false
 ·split
  ·exact zjZ _ _ _ _ _
  exact .false
 ·split
  ·split
   ·exact zb3 _ _ _ _ _ _
   exact zb3 _ _ _ _ _ _
  exact .false
 ·split
  ·exact zl2 _ _ _ _ _
  exact .false
 ·split
  ·exact .k _
  exact .false
 ·exact zl6 _ _ _ _ _ _ _ _
 ·split
  ·exact znu _ _ _ _ _ _ _
  exact .false
 ·split
  ·split
   ·split
    ·exact .k _
    exact .false
   exact .false
  exact .k _
 ·split
  ·split
   ·exact .and (.k _)
   exact .false
  rename_i h _ _ _;rw[<- h]at*;exact plain s
 ·split
  ·exact .spl (zff _ _ _ _) _
  exact plain _
 ·split
  ·exact .cond (zpu _ _ _ _ _ _ _) .false
  exact .false
 ·exact zko _ _ _ _ _ _
 ·exact plain s
 ·exact plain s
 ·exact plain s
 ·split
  ·exact zkn _ _ _ _
  exact .false
 ·exact plain s
 ·exact .ex fun s'=>.and (.k _)
 ·split
  ·exact .all fun b=>.k _
  exact plain s
 exact plain s
theorem zhw(P:Program)(T:TT)(E:Env)(s:St)(o:Oper):Mon (stD P T E s o):=by
 unfold stD
 split
 ·exact .spl (zb6 P T E s o.op) _
 split
 ·split
  ·exact zfu _ _ _ _ _
  exact .false
 exact zfu _ _ _ _ _
theorem zeO{d:Option Nat}{v:AV}{t:Nat}{A X:AV}{K ps:St->Prop}(h:storeE T (s.putO d v) t A X K)(hp:∀s':St,s'.sl=s.sl->ps s'):storeE T s t A X fun s'=>ps s'/\K (s'.putO d v):=by
 have hob:(s.putO d v).ob=s.ob:=by cases d<;>rfl
 have hset:∀i o,(s.putO d v).setOb i o=(s.setOb i o).putO d v:=fun i o=>by cases d<;>rfl
 unfold storeE at*
 cases ht:T t with
 |none=>simp[ht]at h
 |some ti=>
 cases A with
 |box i off=>
  simp only[ht,hob,hset]at h⊢
  cases h1:s.ob i with
  |none=>simp[h1]at h
  |some o=>
   cases o with
   |row e k n f=>simp[h1]at h
   |mp m ks f=>simp[h1]at h
   |box cs=>
    cases h2:cellsA X with
    |none=>simp[h1,h2]at h
    |some ys=>
     simp only[h1,h2]at h⊢
     cases hc:(Nat.beq ys.length ti.size)with
     |false=>simp[hc]at h
     |true=>
      simp only[hc,kT]at h⊢
      cases hr:setRange cs off ys with
      |none=>simp[hr]at h
      |some cs'=>simp only[hr]at h⊢;exact⟨hp _ rfl,h⟩
 |elt i k n c=>
  simp only[ht,hob,hset]at h⊢
  cases h1:s.ob i with
  |none=>simp[h1]at h
  |some o=>
   cases o with
   |box cs=>simp[h1]at h
   |mp m ks f=>simp[h1]at h
   |row e k' N f=>
    cases h2:cellsD X with
    |none=>simp[h1,h2]at h
    |some ys=>
     simp only[h1,h2]at h⊢
     cases hc:(Nat.beq k k'&&Nat.beq ys.length ti.size&&Nat.ble (c+ti.size) k)with
     |false=>simp[hc]at h
     |true=>simp only[hc,kT]at h⊢;exact⟨h.1,hp _ rfl,h.2⟩
 | _=>simp[ht]at h
structure Keep(ops:Array Oper)(s s':St)(o:Oper):Prop where
  gd:gd s' ops o=gd s ops o
  on:SameOn s s' o.op
theorem Keep.put{oi:Oper}{d:Option Nat}{u:AV}(h3:∀t,d=some t->t∉oi.looksAt ops)(s:St):Keep ops s (s.putO d u) oi:=⟨zcP h3 s,zaA h3 s⟩
theorem zlJ{j:Nat}{oi oj:Oper}{v:AV}(hj:ops[j]?=some oj)(hap:oi.apart ops oj=true)(hcls:(isB oj.op||isAl oj.op)=true){K:St->Prop}
  (h:opG P T E ops j K (s.putO oi.dst v)):opG P T E ops j (fun s'=>(Keep ops s s' oi/\More s s')/\K (s'.putO oi.dst v)) s:=by
 obtain⟨h1,h2,h3⟩:=Oper.apart_spec hap
 cases hb:isB oj.op with
 |true=>
  obtain⟨u,hu,hK⟩:=zkz hj hb h
  refine Yl.opG (v:=u) hj hb ?_ ⟨⟨.put h3 s,zdC s _ _⟩,by rw[<- zaY s v u h2];exact hK⟩
  rcases hu with⟨g1,g2⟩|⟨g1,rfl⟩
  ·exact .inl ⟨by rw[zcP h1]at g1;exact g1,zgs (zd7 s _ _) (zhB h1 s) g2⟩
  ·exact .inr ⟨by rw[zcP h1]at g1;exact g1,rfl⟩
 |false=>
 have hal:isAl oj.op=true:=by simpa [hb]using hcls
 unfold opG stG at h⊢
 simp only[hj]at h⊢
 rw[zcP h1]at h
 cases hg:gd s ops oj with
 |none=>simp[hg]at h
 |some b=>
 cases b with
 |false=>simp only[hg]at h⊢;exact⟨⟨.put h3 s,zdC s _ _⟩,by rw[<- zaY s v .undef h2];exact h⟩
 |true=>
 simp only[hg,stD,hb,hal]at h⊢
 have hev:∀x∈oj.op.operands,ev (s.putO oi.dst v) x=ev s x:=zaA h1 s
 cases hd:oj.dst with
 |none=>
  simp only[hd]at h⊢
  obtain⟨dst,op,type,pos,after,guard⟩:=oj
  cases op<;>first|(simp[isAl]at hal;done)|skip
  all_goals (simp only at hd;subst hd)
  all_goals first
   |(simp[stE]at h;done)
   |(rename_i r;cases r<;>first|(simp[stE]at h;done)|(simp[isAl]at hal;done))
 |some d=>
 simp only[hd]at h⊢
 have hob:(s.putO oi.dst v).ob d=s.ob d:=by cases oi.dst<;>rfl
 rw[hob]at h
 cases hs:s.ob d with
 |some o=>simp[hs]at h
 |none=>
 simp only[hs]at h⊢
 have made:∀(o:Ob) (u:AV),K (mk (s.putO oi.dst v) d o u)->(Keep ops s (mk s d o u) oi/\More s (mk s d o u))/\K ((mk s d o u).putO oi.dst v):=fun o u h=>by
  simp only[mk,hob,hs]at h⊢
  have hm:More s ((s.setOb d (some o)).put d u):=fun i o' ho=>by
   show upd s.ob d _ i=some o'
   rw[zai _ _ (fun e=>by subst e;rw[hs]at ho;cases ho)];exact ho
  have hso:SameOn s ((s.setOb d (some o)).put d u) oi.op:=fun x hx=>by
   have:=zaA (ops:=ops) (o:=oi) (d:=some d) (v:=u) (by rw[<- hd];exact h3) s x hx
   rw[<- this]
   cases x<;>rfl
  have hge:=zh5 (ops:=ops) (o:=oi) (s:=s.putO (some d) u) (s':=(s.setOb d (some o)).put d u) rfl
  refine⟨⟨⟨by rw[hge];exact zcP (by rw[<- hd];exact h3) s,hso⟩,hm⟩,?_⟩
  cases hx:oi.dst with
  |none=>rw[hx]at h;exact h
  |some e=>
  rw[hx]at h
  have hne:e≠d:=fun he=>h2 e hx (by rw[he,hd])
  have:((s.setOb d (some o)).put d u).put e v=((s.put e v).setOb d (some o)).put d u:=by
   show(⟨upd (upd s.sl d u) e v,_⟩:St)=⟨upd (upd s.sl e v) d u,_⟩
   congr 1
   funext t
   simp only[zat]
   by_cases h4:t=d
   ·subst h4;simp[jaw hne]
   simp[h4]
  show K (((s.setOb d (some o)).put d u).put e v)
  rw[this];exact h
 obtain⟨dst,op,type,pos,after,guard⟩:=oj
 cases op<;>first|(simp[isAl]at hal;done)|skip
 case alloc t=>
  simp only at hd;subst hd
  simp only[stE]at h⊢
  cases ht:T t with
  |none=>simp[ht]at h
  |some ti=>
  simp only[ht]at h⊢
  cases hz:ti.zero.all (·.oneCell')with
  |false=>simp[hz]at h
  |true=>simp only[hz,kT]at h⊢;exact made _ _ h
 case makeMap t r=>
  cases r with
  |some r=>simp[isAl]at hal
  |none=>
  simp only at hd;subst hd
  simp only[stE]at h⊢
  cases hm:mapN T t with
  |none=>simp[hm]at h
  |some m=>simp only[hm]at h⊢;exact made _ _ h
 case buildSlice t len parts=>
  simp only at hd;subst hd
  have hln:Nat.beq len 0=true:=hal
  have hfr:(E.cut (frzN+d)&& !Nat.beq len 0)=false:=by rw[hln];simp
  simp only[stE,hfr]at h⊢
  have hp:∀p∈parts.toList,ev (s.putO oi.dst v) p.2=ev s p.2:=fun p hp=>hev p.2 (by simp only[Op.operands,jbo,kJ];exact⟨p,hp,rfl⟩)
  have e:∀place l,fillE place (s.putO oi.dst v) parts.toList l=fillE place s parts.toList l:=fun _ _=>zbq hp
  unfold buildSliceE at h⊢
  simp only[e]at h
  cases ht:T t with
  |none=>simp[ht]at h
  |some ti=>
  obtain⟨size,ag,bytes,zero,kind⟩:=ti
  cases kind with
  |slice el=>
   simp only[ht]at h⊢
   cases he:T el with
   |none=>simp[he]at h
   |some ei=>
    simp only[he]at h⊢
    cases hz:cds ei.zero with
    |none=>simp[hz]at h
    |some zs=>
     simp only[hz]at h⊢
     cases hf:fillE (placesA ei) s parts.toList (repD len zs)with
     |none=>simp[hf]at h
     |some l=>
      simp only[hf]at h⊢
      cases hb':(Nat.ble 1 ei.size&&Nat.beq ei.zero.length ei.size&&Nat.ble (len*ei.size) 16777216)with
      |false=>simp[hb']at h
      |true=>simp only[hb',kT]at h⊢;exact made _ _ h
  | _=>simp[ht]at h
theorem Yl.keep{o:Oper}{v:AV}(hy:Yl P T E ops o v s)(hk:Keep ops s s' o)(hm:More s s'):Yl P T E ops o v s':=by
 rcases hy with⟨g1,g2⟩|⟨g1,rfl⟩
 ·exact .inl ⟨by rw[hk.gd];exact g1,zgs hm hk.on g2⟩
 exact .inr ⟨by rw[hk.gd];exact g1,rfl⟩
theorem zca{i:Nat}{K K':St->Prop}(h:∀s,K s->K' s)(hl:opG P T E ops i K s):opG P T E ops i K' s:=by
 unfold opG at*
 cases hi:ops[i]? with
 |none=>simp only[hi]at*;exact h _ hl
 |some o=>
 simp only[hi]at*
 unfold stG at*
 cases hg:gd s ops o with
 |none=>simp[hg]at hl
 |some b=>
 cases b with
 |false=>simp only[hg]at*;exact h _ hl
 |true=>simp only[hg]at*;exact zhw P T E s o _ _ h hl
theorem zrF{j:Nat}{oi oj:Oper}{v:AV}(hj:ops[j]?=some oj)(hap:oi.apart ops oj=true)(hcls:(isB oj.op||isAl oj.op||(isPu oi.op&&isSt oj.op))=true){K:St->Prop}
  (hy:Yl P T E ops oi v s)(h:opG P T E ops j K (s.putO oi.dst v)):opG P T E ops j (fun s'=>Yl P T E ops oi v s'/\K (s'.putO oi.dst v)) s:=by
 cases hba:(isB oj.op||isAl oj.op)with
 |true=>exact zca (fun s' hs'=>⟨hy.keep hs'.1.1 hs'.1.2,hs'.2⟩) (zlJ hj hap hba h)
 |false=>
 obtain⟨h1,h2,h3⟩:=Oper.apart_spec hap
 have keep:∀u,Yl P T E ops oi v (s.putO oj.dst u):=fun u=>hy.keep (.put h3 s) (zdC s _ _)
 have hb:isB oj.op=false:=by cases q:isB oj.op<;>simp[q]at hba⊢
 have hal':isAl oj.op=false:=by cases q:isAl oj.op<;>simp[q]at hba⊢
 have hc:isPu oi.op=true/\isSt oj.op=true:=by simpa [hb,hal']using hcls
 obtain⟨hpu,hst⟩:=hc
 unfold opG stG at h⊢
 simp only[hj]at h⊢
 rw[zcP h1]at h
 cases hg:gd s ops oj with
 |none=>simp[hg]at h
 |some b=>
 cases b with
 |false=>simp only[hg]at h⊢;exact⟨keep _,by rw[<- zaY s v .undef h2];exact h⟩
 |true=>
 simp only[hg,stD,hb,hal']at h⊢
 have hev:∀x∈oj.op.operands,ev (s.putO oi.dst v) x=ev s x:=zaA h1 s
 obtain⟨dst,op,type,pos,after,guard⟩:=oj
 cases op<;>first|(simp[isSt]at hst;done)|skip
 rename_i t x y
 have e1:=hev x (by simp[Op.operands])
 have e2:=hev y (by simp[Op.operands])
 cases dst with
 |some d=>simp[stE]at h
 |none=>
 simp only[stE]at h⊢
 rw[e1,e2]at h
 refine zeO (ps:=fun s'=>Yl P T E ops oi v s') h fun s' hs'=>?_
 have hso:SameOn s s' oi.op:=fun x _=>by cases x<;>simp[ev,hs']
 rcases hy with⟨g1,g2⟩|⟨g1,rfl⟩
 ·exact .inl ⟨by rw[zh5 hs'];exact g1,zkG hpu hso g2⟩
 exact .inr ⟨by rw[zh5 hs'];exact g1,rfl⟩
theorem zjb{ow:Bool}{i:Nat}{K K':St->Prop}(h:∀s,K s->K' s)(hl:op2 ow P T E ops i K s):op2 ow P T E ops i K' s:=by
 rcases hl with hl|⟨h0,o,h1,h2,⟨fo,args,at',f,ex,d,h3,h4,h5,h6,h7⟩⟩
 ·exact .inl (zca h hl)
 refine .inr ⟨h0,o,h1,h2,⟨fo,args,at',f,ex,d,h3,h4,h5,h6,?_⟩⟩
 rw[zar]at h7⊢
 obtain⟨xs,e,k,n,g,r,g1,g2,g3,g4⟩:=h7
 exact⟨xs,e,k,n,g,r,g1,g2,g3,h _ g4⟩
theorem zrG{ow:Bool}{j:Nat}{oi oj:Oper}{v:AV}(hj:ops[j]?=some oj)(hap:oi.apart ops oj=true)(hcls:(isB oj.op||isAl oj.op||(isPu oi.op&&isSt oj.op))=true){K:St->Prop}
  (hy:Yl P T E ops oi v s)(h:op2 ow P T E ops j K (s.putO oi.dst v)):op2 ow P T E ops j (fun s'=>Yl P T E ops oi v s'/\K (s'.putO oi.dst v)) s:=by
 rcases h with h|⟨h0,o,h1,h2,⟨fo,args,at',f,ex,d,h3,h4,h5,h6,h7⟩⟩
 ·exact .inl (zrF hj hap hcls hy h)
 rw[hj]at h1
 cases h1
 obtain⟨p1,p2,p3⟩:=Oper.apart_spec hap
 have hev:∀x∈oj.op.operands,ev (s.putO oi.dst v) x=ev s x:=zaA p1 s
 have hob:(s.putO oi.dst v).ob d=s.ob d:=by cases oi.dst<;>rfl
 have hs:s.ob d=none:=by rw[<- hob];exact h5
 have e1:ev (s.putO oi.dst v) fo=ev s fo:=hev fo (by rw[h3];simp[Op.operands,Call.operands])
 have e2:args.toList.map (ev (s.putO oi.dst v))=args.toList.map (ev s):=qH fun x hx=>hev x (by rw[h3];simp only[Op.operands,Call.operands,jan];exact .inr (by simpa using hx))
 rw[e1]at h6
 rw[e2]at h7
 refine .inr ⟨h0,oj,hj,h2,⟨fo,args,at',f,ex,d,h3,h4,hs,h6,?_⟩⟩
 rw[zar]at h7⊢
 obtain⟨xs,e,k,n,g,r,g1,g2,g3,g4⟩:=h7
 refine⟨xs,e,k,n,g,r,zbx (zd7 s _ _) g1,g2,g3,?_⟩
 simp only[mk,hob,hs]at g4⊢
 have hm:More s ((s.setOb d (some (.row e k n g))).put d (ownAV d r)):=fun i o' ho=>by
  show upd s.ob d _ i=some o'
  rw[zai _ _ (fun e=>by subst e;rw[hs]at ho;cases ho)];exact ho
 have hso:SameOn s ((s.setOb d (some (.row e k n g))).put d (ownAV d r)) oi.op:=fun x hx=>by
  have:=zaA (ops:=ops) (o:=oi) (d:=some d) (v:=ownAV d r) (by rw[<- h4];exact p3) s x hx
  rw[<- this]
  cases x<;>rfl
 have hge:=zh5 (ops:=ops) (o:=oi) (s:=s.putO (some d) (ownAV d r)) (s':=(s.setOb d (some (.row e k n g))).put d (ownAV d r)) rfl
 refine⟨hy.keep ⟨by rw[hge];exact zcP (by rw[<- h4];exact p3) s,hso⟩ hm,?_⟩
 cases hx:oi.dst with
 |none=>rw[hx]at g4;exact g4
 |some t=>
 rw[hx]at g4
 have hne:t≠d:=fun e=>p2 t hx (by rw[h4,e])
 have:((s.setOb d (some (.row e k n g))).put d (ownAV d r)).putO (some t) v=((s.putO (some t) v).setOb d (some (.row e k n g))).put d (ownAV d r):=by
  have:=zaY (s.setOb d (some (.row e k n g))) (x:=some d) (y:=some t) (ownAV d r) v (fun q hq e=>by cases hq;exact hne (jak e))
  exact this
 rw[this]
 exact g4
theorem zlI{o:Oper}{K K':St->Prop}(h:∀s,K s->K' s)(hl:OwnD E P s o K):OwnD E P s o K':=by
 obtain⟨fo,args,at',f,ex,d,h3,h4,h5,h6,h7⟩:=hl
 refine⟨fo,args,at',f,ex,d,h3,h4,h5,h6,?_⟩
 rw[zar]at h7⊢
 obtain⟨xs,e,k,n,g,r,g1,g2,g3,g4⟩:=h7
 exact⟨xs,e,k,n,g,r,g1,g2,g3,h _ g4⟩
theorem zrD{oi oj:Oper}{v:AV}(hap:oi.apart ops oj=true){K:St->Prop}(h:OwnD E P (s.putO oi.dst v) oj K):OwnD E P s oj (fun s'=>(Keep ops s s' oi/\More s s')/\K (s'.putO oi.dst v)):=by
 obtain⟨fo,args,at',f,ex,d,h3,h4,h5,h6,h7⟩:=h
 obtain⟨p1,p2,p3⟩:=Oper.apart_spec hap
 have hev:∀x∈oj.op.operands,ev (s.putO oi.dst v) x=ev s x:=zaA p1 s
 have hob:(s.putO oi.dst v).ob d=s.ob d:=by cases oi.dst<;>rfl
 have hs:s.ob d=none:=by rw[<- hob];exact h5
 have e1:ev (s.putO oi.dst v) fo=ev s fo:=hev fo (by rw[h3];simp[Op.operands,Call.operands])
 have e2:args.toList.map (ev (s.putO oi.dst v))=args.toList.map (ev s):=qH fun x hx=>hev x (by rw[h3];simp only[Op.operands,Call.operands,jan];exact .inr (by simpa using hx))
 rw[e1]at h6
 rw[e2]at h7
 refine⟨fo,args,at',f,ex,d,h3,h4,hs,h6,?_⟩
 rw[zar]at h7⊢
 obtain⟨xs,e,k,n,g,r,g1,g2,g3,g4⟩:=h7
 refine⟨xs,e,k,n,g,r,zbx (zd7 s _ _) g1,g2,g3,?_⟩
 simp only[mk,hob,hs]at g4⊢
 have hm:More s ((s.setOb d (some (.row e k n g))).put d (ownAV d r)):=fun i o' ho=>by
  show upd s.ob d _ i=some o'
  rw[zai _ _ (fun e=>by subst e;rw[hs]at ho;cases ho)];exact ho
 have hso:SameOn s ((s.setOb d (some (.row e k n g))).put d (ownAV d r)) oi.op:=fun x hx=>by
  have:=zaA (ops:=ops) (o:=oi) (d:=some d) (v:=ownAV d r) (by rw[<- h4];exact p3) s x hx
  rw[<- this]
  cases x<;>rfl
 have hge:=zh5 (ops:=ops) (o:=oi) (s:=s.putO (some d) (ownAV d r)) (s':=(s.setOb d (some (.row e k n g))).put d (ownAV d r)) rfl
 refine⟨⟨⟨by rw[hge];exact zcP (by rw[<- h4];exact p3) s,hso⟩,hm⟩,?_⟩
 cases hx:oi.dst with
 |none=>rw[hx]at g4;exact g4
 |some t=>
 rw[hx]at g4
 have hne:t≠d:=fun e=>p2 t hx (by rw[h4,e])
 have:((s.setOb d (some (.row e k n g))).put d (ownAV d r)).putO (some t) v=((s.putO (some t) v).setOb d (some (.row e k n g))).put d (ownAV d r):=by
  have:=zaY (s.setOb d (some (.row e k n g))) (x:=some d) (y:=some t) (ownAV d r) v (fun q hq e=>by cases hq;exact hne (jak e))
  exact this
 rw[this]
 exact g4
structure Pln(ops:Array Oper)(s:St)(o:Oper)(v:AV):Prop where
  ngd:o.guard=none
  on:∀x∈o.op.operands,∀b∈(ev s x).refs,(∀p∈ops.toList,p.dst≠some b)/\∃cs,s.ob b=some (.box cs)/\∀c∈cs,c.refs=[]
  res:∀b∈v.refs,∃x∈o.op.operands,b∈(ev s x).refs
theorem zeX(v:AV):v.unpin.refs=v.refs:=by cases v<;>rfl
theorem Pln.keep{o:Oper}{v:AV}(hp:Pln ops s o v)(hk:Keep ops s s' o)(hm:∀x∈o.op.operands,MoreV s s' (ev s x)):Pln ops s' o v:=
 ⟨hp.ngd,fun x hx b hb=>by
  rw[hk.on x hx]at hb
  obtain⟨h1,cs,h2,h3⟩:=hp.on x hx b hb
  exact⟨h1,cs,hm x hx b hb _ h2,h3⟩,fun b hb=>by
  obtain⟨x,hx,h⟩:=hp.res b hb
  exact⟨x,hx,by rw[hk.on x hx];exact h⟩⟩
theorem zlT{α β:Type}(f:α->β):∀(l:List α) (i:Nat),nth (l.map f) i=(nth l i).map f
 | [],_=>rfl
 | _::_,0=>rfl
 | _::l,i+1=>zlT f l i
theorem zdZ(v:AV)(i:Nat):(v.purge i).unpin=v.unpin.purge i:=by
 have h:v.unpin.hasRef i=v.hasRef i:=by unfold AV.hasRef;rw[zeX]
 unfold AV.purge
 rw[h]
 cases v.hasRef i<;>rfl
theorem zic(v:Value):(cv v).refs=[]:=by
 unfold cv
 split
 ·rename_i l c;cases Nat.beq l 0&&Nat.beq c 0<;>rfl
 ·split<;>rfl
 split<;>rfl
structure Ldo(T:TT)(ops:Array Oper)(s:St)(o:Oper)(v:AV):Prop where
  ngd:o.guard=none
  on:∃x b off cs,o.op.operands= #[x]/\ev s x= .box b off/\(∀p∈ops.toList,p.dst≠some b)/\s.ob b=some (.box cs)/\
    ((∃t ti,o.op= .load t x/\T t=some ti/\ti.agg=false/\nth cs off=some v)\/(o.op= .nilCheck x/\v= .box b off)\/∃st fld off',o.op= .fieldAddr st x fld/\v= .box b off'/\fieldAddrE T st fld (.box b off) fun u=>u=v)
theorem Ldo.yl{o:Oper}{v:AV}(h:Ldo T ops s o v):Yl P T E ops o v s:=by
 obtain⟨ng,x,b,off,cs,_,h2,_,h4,h5⟩:=h
 refine .inl ⟨by unfold gd;rw[ng],?_⟩
 rcases h5 with⟨t,ti,e,ht,ha,hn⟩|⟨e,hv⟩|⟨st,fld,off',e,-,hf⟩
 ·rw[e]
  show opE P T E s (.load t x) _
  simp only[opE,ht,loadE,h2,AV.asPtr,loadP,h4,ha,hn]
 ·rw[e]
  simp only[valD,opE,h2,hv,nilE]
 rw[e]
 simp only[valD,opE,h2]
 exact hf
theorem Ldo.keep{o:Oper}{v:AV}(h:Ldo T ops s o v)(hk:Keep ops s s' o)(hm:∀x∈o.op.operands,MoreV s s' (ev s x)):Ldo T ops s' o v:=by
 obtain⟨ng,x,b,off,cs,h1,h2,h3,h4,h5⟩:=h
 have hx:x∈o.op.operands:=by rw[h1];simp
 exact⟨ng,x,b,off,cs,h1,by rw[hk.on x hx,h2],h3,hm x hx b (by rw[h2];simp[AV.refs]) _ h4,h5⟩
theorem Ldo.drop{oi:Oper}{v:AV}(h:Ldo T ops s oi v){i:Nat}(hi:(∃e k n f,s.ob i=some (.row e k n f))\/∃p∈ops.toList,p.dst=some i)(o':Ob){d:Nat}(h3:d∉oi.looksAt ops)(u:AV):
  Ldo T ops (((s.drop i).setOb i (some o')).put d u) oi (v.purge i):=by
 obtain⟨ng,x,b,off,cs,g1,g2,g3,g4,g5⟩:=h
 have hx:x∈oi.op.operands:=by rw[g1];simp
 have hne:b≠i:=fun e=>by
  subst e
  rcases hi with⟨e,k,n,f,h2⟩|⟨p,hp,h2⟩
  ·rw[g4]at h2;cases h2
  exact g3 p hp h2
 have hbx:(AV.box b off).purge i= .box b off:=za9 (by simp[AV.refs];exact jaw hne)
 refine⟨ng,x,b,off,cs.map (AV.purge i),g1,?_,g3,?_,?_⟩
 ·cases x with
  |tmp t=>
   have hne:t≠d:=fun e=>zbJ h3 _ hx (by rw[e])
   show(upd (fun t=>(s.sl t).purge i) d u t).unpin=_
   have g2:(s.sl t).unpin= .box b off:=g2
   rw[zai _ _ hne,zdZ,g2,hbx]
  |const c=> 
   have g2:cv c= .box b off:=g2
   have:=zic c
   rw[g2]at this;cases this
  |func f=>cases g2
  |global g=>cases g2
 ·show upd (s.drop i).ob i (some o') b=_
  rw[zai _ _ hne,zib,kG hne,g4]
  rfl
 rcases g5 with⟨t,ti,e,ht,ha,hn⟩|⟨e,hv⟩|⟨st,fld,off',e,hv,hf⟩
 ·exact .inl ⟨t,ti,e,ht,ha,by rw[zlT,hn];rfl⟩
 ·exact .inr (.inl ⟨e,by rw[hv,hbx]⟩)
 have hb':v.purge i=v:=by rw[hv];exact za9 (by simp[AV.refs];exact jaw hne)
 exact .inr (.inr ⟨st,fld,off',e,by rw[hb',hv],by rw[hb'];exact hf⟩)
def Iv(P:Program)(T:TT)(E:Env)(ops:Array Oper)(o:Oper)(s:St)(v:AV):Prop:=Yl P T E ops o v s/\((isMv o.op=true/\o.guard=none)\/Pln ops s o v\/Ldo T ops s o v)
theorem Iv.keep{o:Oper}{v:AV}(hpl:isPl o.op=true)(h:Iv P T E ops o s v)(hk:Keep ops s s' o)(hm:∀x∈o.op.operands,MoreV s s' (ev s x)):Iv P T E ops o s' v:=by
 obtain⟨hy,hp⟩:=h
 refine⟨?_,hp.imp id fun hp=>hp.imp (fun hp=>hp.keep hk hm) fun hp=>hp.keep hk hm⟩
 rcases hy with⟨g1,g2⟩|⟨g1,rfl⟩
 ·exact .inl ⟨by rw[hk.gd];exact g1,zkH hpl hk.on hm g2⟩
 exact .inr ⟨by rw[hk.gd];exact g1,rfl⟩
theorem zhd(s:St)(i:Nat)(d:Option Nat)(v:AV):(s.putO d v).drop i=(s.drop i).putO d (v.purge i):=by
 cases d with
 |none=>rfl
 |some e=>
 show(⟨fun t=>((upd s.sl e v) t).purge i,_⟩:St)=⟨upd (fun t=>(s.sl t).purge i) e (v.purge i),_⟩
 congr 1
 funext t
 simp only[zat]
 by_cases h:t=e
 ·simp only[h,jbe]
 simp[h]
theorem Iv.drop{oi:Oper}{v:AV}(hpl:isPl oi.op=true)(h:Iv P T E ops oi s v){i:Nat}(hi:(∃e k n f,s.ob i=some (.row e k n f))\/∃p∈ops.toList,p.dst=some i)(o':Ob){d:Nat}(h3:d∉oi.looksAt ops)(u:AV):
  Iv P T E ops oi (((s.drop i).setOb i (some o')).put d u) (v.purge i):=by
 obtain⟨hy,hp⟩:=id h
 rcases hp with⟨hmv,hg⟩|hp|hp
 rotate_left 2
 ·have:=hp.drop hi o' h3 u
  exact⟨this.yl,.inr (.inr this)⟩
 ·refine⟨.inl ⟨by unfold gd;rw[hg],?_⟩,.inl ⟨hmv,hg⟩⟩
  have hy:valD P T E s oi.op fun u=>u=v:=by
   rcases hy with h|h
   ·exact h.2
   have:=h.1;unfold gd at this;rw[hg]at this;cases this
  obtain⟨dst,op,type,pos,after,guard⟩:=oi
  cases op<;>first|(simp[isMv]at hmv;done)|skip
  rename_i x _
  have hy:ev s x=v:=hy
  show ev _ x=v.purge i
  rw[<- hy]
  cases x with
  |tmp t=>
   have hne:t≠d:=fun e=>zbJ h3 (.tmp t) (by simp[Op.operands]) (by rw[e])
   show(upd (fun t=>(s.sl t).purge i) d u t).unpin=(s.sl t).unpin.purge i
   rw[zai _ _ hne,zdZ]
  |const c=>
   have h:i∉(cv c).refs:=by rw[zic];exact jam
   exact(za9 h).symm
  |func f=>rfl
  |global g=>rfl
 have hi:∀x∈oi.op.operands,i∉(ev s x).refs:=fun x hx hb=>by
  obtain⟨hd,cs,h1,_⟩:=hp.on x hx i hb
  rcases hi with⟨e,k,n,f,h2⟩|⟨p,hp,h2⟩
  ·rw[h1]at h2;cases h2
  exact hd p hp h2
 rw[za9 (fun hb=>by obtain⟨x,hx,h⟩:=hp.res i hb;exact hi x hx h)]
 refine h.keep hpl ⟨?_,fun x hx=>?_⟩ fun x hx b hb o ho=>?_
 ·unfold gd;rw[hp.ngd]
 ·cases x with
  |tmp t=>
   have hne:t≠d:=fun e=>zbJ h3 _ hx (by rw[e])
   show(upd (fun t=>(s.sl t).purge i) d u t).unpin=(s.sl t).unpin
   rw[zai _ _ hne,za9]
   rw[<- zeX];exact hi _ hx
  | _=>rfl
 obtain⟨_,cs,h1,h2⟩:=hp.on x hx b hb
 rw[h1]at ho;cases ho
 have hne:b≠i:=fun e=>hi x hx (e▸hb)
 show upd (s.drop i).ob i (some o') b=_
 rw[zai _ _ hne,zib,kG hne,h1]
 simp only[qL,Ob.purge,jO,Ob.box.injEq]
 exact(qH fun c hc=>za9 (by rw[h2 c hc];exact jam)).trans (List.map_id _)
theorem ztS{j:Nat}{oi oj:Oper}{v:AV}(hj:ops[j]?=some oj)(hap:oi.apart ops oj=true)(hpl:isPl oi.op=true)(hA:isAp oj.op=true)(hAg:oj.guard=none)(hp:Iv P T E ops oi s v){K:St->Prop}
  (h:opG P T E ops j K (s.putO oi.dst v)):opG P T E ops j (fun s'=>∃v',Iv P T E ops oi s' v'/\K (s'.putO oi.dst v')) s:=by
 obtain⟨h1,h2,h3⟩:=Oper.apart_spec hap
 have hev:∀x∈oj.op.operands,ev (s.putO oi.dst v) x=ev s x:=zaA h1 s
 have hmem:oj∈ops.toList:=by have:=jaP hj;simpa using this
 unfold opG stG at h⊢
 simp only[hj]at h⊢
 unfold gd at h⊢
 simp only[hAg]at h⊢
 obtain⟨dst,op,type,pos,after,guard⟩:=oj
 cases op<;>first|(simp[isAp]at hA;done)|skip
 rename_i c
 obtain⟨callee,args,argTypes⟩:=c
 cases callee<;>first|(simp[isAp]at hA;done)|skip
 rename_i bi
 cases bi<;>first|(simp[isAp]at hA;done)|skip
 simp only[stD,isB,isAl,stE]at h⊢
 cases ha:args.toList with
 |nil=>simp[ha]at h
 |cons a r=>
 cases r with
 |nil=>simp[ha]at h
 |cons x r=>
 cases r with
 |cons y r=>simp[ha]at h
 |nil=>
 cases ht:argTypes.toList with
 |nil=>simp[ha,ht]at h
 |cons t r=>
 cases r with
 |nil=>simp[ha,ht]at h
 |cons t' r=>
 cases r with
 |cons y r=>simp[ha,ht]at h
 |nil=>
 simp only[ha,ht]at h⊢
 cases hb:Nat.beq t t' with
 |false=>simp[hb]at h
 |true=>
 simp only[hb,kT]at h⊢
 have ho:∀y∈args.toList,ev (s.putO oi.dst v) y=ev s y:=fun y hy=>hev y (by simp only[Op.operands,Call.operands,jan];exact .inr (by simpa using hy))
 rw[ho a (by rw[ha];simp),ho x (by rw[ha];simp)]at h
 have hob:(s.putO oi.dst v).ob=s.ob:=by cases oi.dst<;>rfl
 rcases appE_cases (ev s a) (ev s x)with⟨i,m,i',k',lo,n',q1,q2⟩|q
 ·rw[q1,q2]at h⊢
  have h:delE T (s.putO oi.dst v) dst t i m i' k' lo n' K:=h
  show delE T s dst t i m i' k' lo n' (fun s'=>∃v',Iv P T E ops oi s' v'/\K (s'.putO oi.dst v'))
  unfold delE at h⊢
  rw[hob]at h
  cases dst with
  |none=>
   exfalso
   cases hty:T t with
   |none=>simp[hty]at h
   |some ti=>
    obtain⟨size,ag,bytes,zero,kind⟩:=ti
    cases kind<;>simp[hty]at h
  |some d=>
  have hd3:d∉oi.looksAt ops:=h3 d rfl
  cases hty:T t with
  |none=>simp[hty]at h
  |some ti=>
  obtain⟨size,ag,bytes,zero,kind⟩:=ti
  cases kind with
  |slice el=>
   simp only[hty]at h⊢
   cases he:T el with
   |none=>simp[he]at h
   |some ei=>
    cases hoi:s.ob i with
    |none=>simp[he,hoi]at h
    |some o=>
     cases o with
     |box cs=>simp[he,hoi]at h
     |mp m ks f=>simp[he,hoi]at h
     |row e2 k2 N f=>
      simp only[he,hoi]at h⊢
      generalize (Nat.beq el e2&&Nat.beq k2 ei.size&&Nat.beq k' k2&&Nat.beq i i'&&Nat.ble 1 ei.size&&Nat.beq ei.zero.length ei.size:Bool)=bb at h⊢
      cases bb with
      |false=>exact h.elim
      |true=>
       simp only[kT]at h⊢
       refine⟨h.1,?_⟩
       have hK:=h.2
       refine⟨_,hp.drop hpl (.inl ⟨_,_,_,_,hoi⟩) _ hd3 (.own i),?_⟩
       have hK:K ((((s.putO oi.dst v).drop i).setOb i (some (.row el k2 (m+n') (cutRow f m lo)))).put d (.own i)):=hK
       show K ((((s.drop i).setOb i (some (.row el k2 (m+n') (cutRow f m lo)))).put d (.own i)).putO oi.dst (v.purge i))
       rw[zhd s i oi.dst v]at hK
       generalize v.purge i=v at hK⊢
       have e1:((s.drop i).putO oi.dst v).setOb i (some (.row el k2 (m+n') (cutRow f m lo)))=((s.drop i).setOb i (some (.row el k2 (m+n') (cutRow f m lo)))).putO oi.dst v:=by cases oi.dst<;>rfl
       rw[e1]at hK
       have e2:=zaY ((s.drop i).setOb i (some (.row el k2 (m+n') (cutRow f m lo)))) (x:=oi.dst) (y:=some d) v (.own i) (fun e he hh=>h2 e he hh)
       rw[show((((s.drop i).setOb i (some (.row el k2 (m+n') (cutRow f m lo)))).putO oi.dst v).put d (.own i))=((((s.drop i).setOb i (some (.row el k2 (m+n') (cutRow f m lo)))).putO oi.dst v).putO (some d) (.own i))from rfl,e2]at hK
       exact hK
  | _=>simp[hty]at h
 rw[q]at h⊢
 generalize frB E dst=fr at h⊢
 unfold appendE at h⊢
 cases dst with
 |none=>
  exfalso
  cases hty:T t with
  |none=>simp[hty]at h
  |some ti=>
   obtain⟨size,ag,bytes,zero,kind⟩:=ti
   cases kind<;>simp[hty]at h
 |some d=>
 have hd3:d∉oi.looksAt ops:=h3 d rfl
 have anew:∀(i:Nat) (o':Ob) (u:AV),((∃e k n f,s.ob i=some (.row e k n f))\/∃p∈ops.toList,p.dst=some i)->K ((((s.putO oi.dst v).drop i).setOb i (some o')).put d u)->
   ∃v',Iv P T E ops oi (((s.drop i).setOb i (some o')).put d u) v'/\K ((((s.drop i).setOb i (some o')).put d u).putO oi.dst v'):=fun i o' u hi hK=>by
  refine⟨_,hp.drop hpl hi o' hd3 u,?_⟩
  rw[zhd s i oi.dst v]at hK
  generalize v.purge i=v at hK⊢
  have e1:((s.drop i).putO oi.dst v).setOb i (some o')=((s.drop i).setOb i (some o')).putO oi.dst v:=by cases oi.dst<;>rfl
  rw[e1]at hK
  have e2:=zaY ((s.drop i).setOb i (some o')) (x:=oi.dst) (y:=some d) v u (fun e he hh=>h2 e he hh)
  rw[show((((s.drop i).setOb i (some o')).putO oi.dst v).put d u)=((((s.drop i).setOb i (some o')).putO oi.dst v).putO (some d) u)from rfl,e2]at hK
  exact hK
 have anew0:∀(o':Ob) (u:AV),K (mk (s.putO oi.dst v) d o' u)->∃v',Iv P T E ops oi (mk s d o' u) v'/\K ((mk s d o' u).putO oi.dst v'):=fun o' u hK=>by
  unfold mk at hK⊢
  rw[hob]at hK
  cases hs:s.ob d with
  |some o=>simp only[hs]at hK⊢;exact anew d o' u (.inr ⟨_,hmem,rfl⟩) hK
  |none=>
  simp only[hs]at hK⊢
  have hng:oi.guard=none:=hp.2.elim (fun h=>h.2) fun h=>h.elim (fun h=>h.ngd) fun h=>h.ngd
  refine⟨v,hp.keep hpl ⟨by unfold gd;rw[hng],fun x hx=>?_⟩ (fun x hx b hb o ho=>?_),?_⟩
  ·have:=zaA (ops:=ops) (o:=oi) (d:=some d) (v:=u) (fun t ht=>by cases ht;exact hd3) s x hx
   rw[<- this];cases x<;>rfl
  ·show upd s.ob d _ b=some o
   rw[zai _ _ (fun e=>by subst e;rw[hs]at ho;cases ho)];exact ho
  have e1:(s.putO oi.dst v).setOb d (some o')=(s.setOb d (some o')).putO oi.dst v:=by cases oi.dst<;>rfl
  rw[e1]at hK
  have e2:=zaY (s.setOb d (some o')) (x:=oi.dst) (y:=some d) v u (fun e he hh=>h2 e he hh)
  rw[show(((s.setOb d (some o')).putO oi.dst v).put d u)=(((s.setOb d (some o')).putO oi.dst v).putO (some d) u)from rfl,e2]at hK
  exact hK
 cases hty:T t with
 |none=>simp[hty]at h
 |some ti=>
 obtain⟨size,ag,bytes,zero,kind⟩:=ti
 cases kind with
 |slice el=>
  simp only[hty]at h⊢
  cases he:T el with
  |none=>simp[he]at h
  |some ei=>
   simp only[he]at h⊢
   have src:∀{K1 K2:Nat->Nat->(Nat->Nat->D)->Prop},(∀k m g,K1 k m g->K2 k m g)->srcE (s.putO oi.dst v) (ev s x) K1->srcE s (ev s x) K2:=fun {K1 K2} hK hs=>by
    unfold srcE at*
    rw[hob]at hs
    split at hs
    ·exact hK _ _ _ hs
    ·exact hK _ _ _ hs
    ·exact hK _ _ _ hs
    ·rename_i id' _
     cases q:s.ob id' with
     |none=>simp[q]at hs
     |some o=>
     cases o with
     |box cs=>simp[q]at hs
     |mp m ks f=>simp[q]at hs
     |row e' k' n' f'=>simp only[q]at hs⊢;exact hK _ _ _ hs
    exact hs.elim
   refine src (fun k m g hh=>?_) h
   rw[hob]at hh
   have nil:(bif Nat.ble 1 ei.size&&Nat.beq ei.zero.length ei.size then((m=0\/k=ei.size)/\m<=maxLen/\m*ei.bytes<=140737488355328)/\K (mk (s.putO oi.dst v) d (.row el ei.size m g) (.own d))else False)->
     (bif Nat.ble 1 ei.size&&Nat.beq ei.zero.length ei.size then((m=0\/k=ei.size)/\m<=maxLen/\m*ei.bytes<=140737488355328)/\
      (∃v',Iv P T E ops oi (mk s d (.row el ei.size m g) (.own d)) v'/\K ((mk s d (.row el ei.size m g) (.own d)).putO oi.dst v'))else False):=fun hh=>by
    generalize (Nat.ble 1 ei.size&&Nat.beq ei.zero.length ei.size:Bool)=bb at hh⊢
    cases bb with
    |false=>exact hh.elim
    |true=>simp only[kT]at hh⊢;exact⟨hh.1,anew0 _ _ hh.2⟩
   cases hav:ev s a with
   |own i=>
    simp only[hav]at hh⊢
    cases hoi:s.ob i with
    |none=>simp[hoi]at hh
    |some o=>
     cases o with
     |box cs=>simp[hoi]at hh
     |mp m ks f=>simp[hoi]at hh
     |row e' k' n' f'=>
      simp only[hoi]at hh⊢
      generalize (Nat.beq el e'&&Nat.beq k' ei.size&&Nat.ble 1 ei.size&&Nat.beq ei.zero.length ei.size:Bool)=bb at hh⊢
      cases bb with
      |false=>exact hh.elim
      |true=>
       simp only[kT]at hh⊢
       refine⟨hh.1,?_⟩
       cases fr with
       |false=>exact anew i _ (.own i) (.inl ⟨_,_,_,_,hoi⟩) hh.2
       |true=>exact anew i _ _ (.inl ⟨_,_,_,_,hoi⟩) hh.2
   |nilsl=>simp only[hav]at hh⊢;exact nil hh
   |d p=>
    cases p with
    |nil=>simp only[hav]at hh⊢;exact nil hh
    | _=>simp[hav]at hh
   | _=>simp[hav]at hh
 | _=>simp[hty]at h
def Closed(ops:Array Oper)(listed:Array Bool):Prop:=∀j oj,ops[j]?=some oj->listed.getD j true=true->∀e∈oj.after,Region.binds .any e=true->listed.getD e.on false=true
theorem Closed.start(ops:Array Oper):Closed ops (Array.replicate ops.size false):=fun j oj hj hl=>by
 have hlt:=(jB.1 hj).1
 simp[hlt]at hl
theorem zh4{l:Array Bool}{j:Nat}(h:l.getD j false=true):l.getD j true=true:=by
 rcases jaD j l.size with hj|hj
 ·simp[hj]at h⊢;exact h
 simp[jaj hj]
theorem Closed.step{listed:Array Bool}(hc:Closed ops listed){k:Nat}(hk:k∈Region.ready .any ops listed):Closed ops (listed.setIfInBounds k true):=fun j oj hj hl e he hb=>by
 by_cases hjk:j=k
 ·subst hjk
  obtain⟨_,o,ho,hall⟩:=mem_ready.1 hk
  rw[hj]at ho;cases ho
  exact getD_set_true (hall e he hb)
 rw[getD_set_ne true (jaw hjk)]at hl
 exact getD_set_true (hc j oj hj hl e he hb)
theorem znh{listed:Array Bool}(hc:Closed ops listed){i:Nat}(hi:listed.getD i true=false):∀(r:List Oper) (acc:List Bool) (pre:List Oper),ops.toList=pre++r->acc.length=pre.length->
  (∀j oj,ops[j]?=some oj->acc.getD j false=true->(∀e∈oj.after,Region.binds .any e=true->listed.getD e.on false=true)->False)->
  ∀j oj,ops[j]?=some oj->(behs i r acc).getD j false=true->(∀e∈oj.after,Region.binds .any e=true->listed.getD e.on false=true)->False
 | [],acc,pre,_,_,H=>H
 |o::r,acc,pre,hp,hl,H=>by
  simp only[behs]
  refine znh hc hi r _ (pre++[o]) (by rw[hp];simp) (by simp[hl]) fun j oj hj ha hall=>?_
  rcases jaD j acc.length with h|h
  ·rw[hZ,jJ h,<- hZ]at ha
   exact H j oj hj ha hall
  rcases Nat.lt_or_eq_of_le h with h2|h2
  ·rw[hZ,jad (by simp;omega)]at ha
   cases ha
  subst h2
  have e1:ops.toList[acc.length]?=some o:=by rw[hp,hl];simp
  have e2:ops[acc.length]?=some o:=by simpa using e1
  rw[e2]at hj;cases hj
  rw[hZ,jK (jE _),kE]at ha
  simp only[List.getElem?_cons_zero,Option.getD_some]at ha
  obtain⟨e,he,hbe⟩:=Array.any_eq_true'.1 ha
  simp only[jP,jX,jai]at hbe
  have hon:=hall e he hbe.1
  rcases hbe.2 with h3|h3
  ·subst h3
   rw[zh4 hon]at hi;cases hi
  cases hoe:ops[e.on]? with
  |none=>
   have hlt:e.on<acc.length:=by
    rcases jaD e.on acc.length with h4|h4
    ·exact h4
    rw[hZ,jad h4]at h3;cases h3
   have:e.on<ops.toList.length:=by rw[hp,jR];omega
   have h5:ops[e.on]?=some ops.toList[e.on]:=by
    have:=kF this
    simpa using this
   rw[hoe]at h5;cases h5
  |some oe=>exact H e.on oe hoe h3 (hc e.on oe hoe (zh4 hon))
theorem zcs{listed:Array Bool}(hc:Closed ops listed){i j:Nat}(hi:listed.getD i true=false)(hj:j∈Region.ready .any ops listed):(behs i ops.toList []).getD j false=false:=by
 obtain⟨_,o,ho,hall⟩:=mem_ready.1 hj
 cases h:(behs i ops.toList []).getD j false with
 |false=>rfl
 |true=>exact(znh hc hi ops.toList [] [] rfl rfl (fun j oj _ h=>by cases h) j o ho h hall).elim
theorem zuG{listed:Array Bool}(hc:Closed ops listed){i y:Nat}(hi:i∈Region.ready .any ops listed)(hy:y∈Region.ready .any ops listed)(hne:y≠i)(hcmp:cmpB ops y=true):False:=by
 have h1:=zcs hc (mem_ready.1 hi).1 hy
 have h2:=zcs hc (mem_ready.1 hy).1 hi
 obtain⟨_,o,ho,_⟩:=mem_ready.1 hi
 have hlt:i<ops.size:=(jB.1 ho).1
 have:=jC.1 hcmp i (kK.2 hlt)
 simp only[h1,h2,qZ]at this
 exact hne (jA this).symm
theorem zey{ow:Bool}{Q:St->Prop}{i j:Nat}{fuel:Nat}{listed:Array Bool}{s:St}(hc:Closed ops listed)(hi:i∈Region.ready .any ops listed)(hj:j∈Region.ready .any ops listed)(hji:j≠i)
  (H:anyA ow P T E ops Q (fuel+1) (listed.setIfInBounds i true) s):∀j∈Region.ready .any ops (listed.setIfInBounds i true),op2 ow P T E ops j (anyA ow P T E ops Q fuel ((listed.setIfInBounds i true).setIfInBounds j true)) s:=by
 rcases H with H|⟨y,o,h1,h2,h3,h4,h5,h6⟩
 ·exact H.2
 have:=h2 j (ready_mono hj hji)
 subst this
 exact(zuG hc hi hj hji h3).elim
theorem zfi{ow:Bool}{Q:St->Prop}{i:Nat}{oi:Oper}{v:AV}(hi:ops[i]?=some oi)(hbi:isB oi.op=true):
  ∀(fuel:Nat) (listed:Array Bool) (s:St),Closed ops listed->
   (∀j oj,ops[j]?=some oj->j≠i->listed.getD j true=false->(∀e∈oj.after,Region.binds .any e=true->e.on≠i)->(behs i ops.toList []).getD j false=false->oi.apart ops oj=true/\(isB oj.op||isAl oj.op||(isPu oi.op&&isSt oj.op))=true)->
   i∈Region.ready .any ops listed->Yl P T E ops oi v s->
   anyA ow P T E ops Q fuel (listed.setIfInBounds i true) (s.putO oi.dst v)->anyA ow P T E ops Q (fuel+1) listed s:=by
 intro fuel
 induction fuel with
 |zero=>
  intro listed s _ _ hr hy H
  refine .inl ⟨fun h=>(by rw[h]at hr;cases hr),fun j hj=>?_⟩
  by_cases hji:j=i
  ·subst hji;exact .inl (hy.opG hi hbi H)
  ·have:=ready_mono hj hji
   rw[H.1]at this
   cases this
 |succ fuel ih=>
 intro listed s hcl hfree hr hy H
 refine .inl ⟨fun h=>(by rw[h]at hr;cases hr),fun j hj=>?_⟩
 by_cases hji:j=i
 ·subst hji;exact .inl (hy.opG hi hbi H)
 have h1:=(zey hcl hr hj hji H) j (ready_mono hj hji)
 obtain⟨hjun,oj,hoj,hall⟩:=mem_ready.1 hj
 have hnot:∀e∈oj.after,Region.binds .any e=true->e.on≠i:=fun e he hb heq=>by
  have h1:=hall e he hb
  have h0:=(mem_ready.1 hr).1
  rw[heq]at h1
  rw[zh4 h1]at h0;cases h0
 obtain⟨hap,hcls⟩:=hfree j oj hoj hji hjun hnot (zcs hcl (mem_ready.1 hr).1 hj)
 have h2:=zrG hoj hap hcls hy h1
 have hfree':∀k ok,ops[k]?=some ok->k≠i->(listed.setIfInBounds j true).getD k true=false->
   (∀e∈ok.after,Region.binds .any e=true->e.on≠i)->(behs i ops.toList []).getD k false=false->oi.apart ops ok=true/\(isB ok.op||isAl ok.op||(isPu oi.op&&isSt ok.op))=true:=fun k ok hk hki hun hno hbe=>by
  refine hfree k ok hk hki ?_ hno hbe
  by_cases hjk:j=k
  ·subst hjk;exact hjun
  rw[getD_set_ne true hjk]at hun;exact hun
 refine zjb (fun s' h3=>ih (listed.setIfInBounds j true) s' (hcl.step hj) hfree' (ready_mono hr (jaw hji)) h3.1 ?_) h2
 rw[jaU _ _ hji]
 exact h3.2
theorem zez{ow:Bool}{Q:St->Prop}{i:Nat}{oi:Oper}(hi:ops[i]?=some oi)(hpl:isPl oi.op=true)(hbi:isB oi.op=true):
  ∀(fuel:Nat) (listed:Array Bool) (s:St) (v:AV),Closed ops listed->
   (∀j oj,ops[j]?=some oj->j≠i->listed.getD j true=false->(behs i ops.toList []).getD j false=false->oi.apart ops oj=true/\((isB oj.op||isAl oj.op)=true\/(isAp oj.op=true/\oj.guard=none)))->
   i∈Region.ready .any ops listed->Iv P T E ops oi s v->
   anyA ow P T E ops Q fuel (listed.setIfInBounds i true) (s.putO oi.dst v)->anyA ow P T E ops Q (fuel+1) listed s:=by
 intro fuel
 induction fuel with
 |zero=>
  intro listed s v _ _ hr hy H
  refine .inl ⟨fun h=>(by rw[h]at hr;cases hr),fun j hj=>?_⟩
  by_cases hji:j=i
  ·subst hji;exact .inl (hy.1.opG hi hbi H)
  ·have:=ready_mono hj hji
   rw[H.1]at this
   cases this
 |succ fuel ih=>
 intro listed s v hcl hfree hr hy H
 refine .inl ⟨fun h=>(by rw[h]at hr;cases hr),fun j hj=>?_⟩
 by_cases hji:j=i
 ·subst hji;exact .inl (hy.1.opG hi hbi H)
 have h0:=(zey hcl hr hj hji H) j (ready_mono hj hji)
 obtain⟨hjun,oj,hoj,hall⟩:=mem_ready.1 hj
 obtain⟨hap,hcls⟩:=hfree j oj hoj hji hjun (zcs hcl (mem_ready.1 hr).1 hj)
 have h2:op2 ow P T E ops j (fun s'=>∃v',Iv P T E ops oi s' v'/\anyA ow P T E ops Q fuel ((listed.setIfInBounds i true).setIfInBounds j true) (s'.putO oi.dst v')) s:=by
  rcases h0 with h1|⟨c0,o,hj',hog,hown⟩
  rotate_left
  ·rw[hoj]at hj'
   cases hj'
   refine .inr ⟨c0,oj,hoj,hog,?_⟩
   exact zlI (fun s' h=>⟨v,hy.keep hpl h.1.1 fun x _ b _ o ho=>h.1.2 b o ho,h.2⟩) (zrD hap hown)
  refine .inl ?_
  rcases hcls with hcls|⟨c1,c2⟩
  ·exact zca (fun s' h=>⟨v,hy.keep hpl h.1.1 fun x _ b _ o ho=>h.1.2 b o ho,h.2⟩) (zlJ hoj hap hcls h1)
  exact ztS hoj hap hpl c1 c2 hy h1
 have hfree':∀k ok,ops[k]?=some ok->k≠i->(listed.setIfInBounds j true).getD k true=false->(behs i ops.toList []).getD k false=false->oi.apart ops ok=true/\((isB ok.op||isAl ok.op)=true\/(isAp ok.op=true/\ok.guard=none)):=fun k ok hk hki hun hbe=>by
  refine hfree k ok hk hki ?_ hbe
  by_cases hjk:j=k
  ·subst hjk;exact hjun
  rw[getD_set_ne true hjk]at hun;exact hun
 refine zjb (fun s' ⟨v',h3,h4⟩=>ih (listed.setIfInBounds j true) s' v' (hcl.step hj) hfree' (ready_mono hr (jaw hji)) h3 ?_) h2
 rw[jaU _ _ hji]
 exact h4
theorem zon{j:Nat}{oi oj:Oper}{v:AV}(hj:ops[j]?=some oj)(hap:oi.apart ops oj=true)(hpl:isPl oi.op=true)(hcls:(isB oj.op||isAl oj.op||isSt oj.op)=true)(hn:∀x∈oi.op.operands,(ev s x).refs=[]){K:St->Prop}
  (hy:Yl P T E ops oi v s)(h:opG P T E ops j K (s.putO oi.dst v)):opG P T E ops j (fun s'=>(Yl P T E ops oi v s'/\∀x∈oi.op.operands,(ev s' x).refs=[])/\K (s'.putO oi.dst v)) s:=by
 have refs:∀{s'},SameOn s s' oi.op->∀x∈oi.op.operands,(ev s' x).refs=[]:=fun hs x hx=>by rw[hs x hx];exact hn x hx
 cases hba:(isB oj.op||isAl oj.op)with
 |true=>exact zca (fun s' hs'=>⟨⟨hy.keep hs'.1.1 hs'.1.2,refs hs'.1.1.on⟩,hs'.2⟩) (zlJ hj hap hba h)
 |false=>
 obtain⟨h1,h2,h3⟩:=Oper.apart_spec hap
 have keep:∀u,Yl P T E ops oi v (s.putO oj.dst u)/\∀x∈oi.op.operands,(ev (s.putO oj.dst u) x).refs=[]:=fun u=>⟨hy.keep (.put h3 s) (zdC s _ _),refs (Keep.put h3 s).on⟩
 have hb:isB oj.op=false:=by cases q:isB oj.op<;>simp[q]at hba⊢
 have hal':isAl oj.op=false:=by cases q:isAl oj.op<;>simp[q]at hba⊢
 have hst:isSt oj.op=true:=by simpa [hb,hal']using hcls
 unfold opG stG at h⊢
 simp only[hj]at h⊢
 rw[zcP h1]at h
 cases hg:gd s ops oj with
 |none=>simp[hg]at h
 |some b=>
 cases b with
 |false=>simp only[hg]at h⊢;exact⟨keep _,by rw[<- zaY s v .undef h2];exact h⟩
 |true=>
 simp only[hg,stD,hb,hal']at h⊢
 have hev:∀x∈oj.op.operands,ev (s.putO oi.dst v) x=ev s x:=zaA h1 s
 obtain⟨dst,op,type,pos,after,guard⟩:=oj
 cases op<;>first|(simp[isSt]at hst;done)|skip
 rename_i t x y
 have e1:=hev x (by simp[Op.operands])
 have e2:=hev y (by simp[Op.operands])
 cases dst with
 |some d=>simp[stE]at h
 |none=>
 simp only[stE]at h⊢
 rw[e1,e2]at h
 refine zeO (ps:=fun s'=>Yl P T E ops oi v s'/\∀x∈oi.op.operands,(ev s' x).refs=[]) h fun s' hs'=>?_
 have hso:SameOn s s' oi.op:=fun x _=>by cases x<;>simp[ev,hs']
 refine⟨?_,refs hso⟩
 rcases hy with⟨g1,g2⟩|⟨g1,rfl⟩
 ·exact .inl ⟨by rw[zh5 hs'];exact g1,zkH hpl hso (fun x hx b hb=>by rw[hn x hx]at hb;cases hb) g2⟩
 exact .inr ⟨by rw[zh5 hs'];exact g1,rfl⟩
theorem zir{Q:St->Prop}{i:Nat}{oi:Oper}{v:AV}(hi:ops[i]?=some oi)(hpl:isPl oi.op=true)(hbi:isB oi.op=true):
  ∀(fuel:Nat) (listed:Array Bool) (s:St),Closed ops listed->
   (∀j oj,ops[j]?=some oj->j≠i->listed.getD j true=false->(behs i ops.toList []).getD j false=false->oi.apart ops oj=true/\(isB oj.op||isAl oj.op||isSt oj.op)=true)->
   i∈Region.ready .any ops listed->(∀x∈oi.op.operands,(ev s x).refs=[])->Yl P T E ops oi v s->
   anyA false P T E ops Q fuel (listed.setIfInBounds i true) (s.putO oi.dst v)->anyA false P T E ops Q (fuel+1) listed s:=by
 intro fuel
 induction fuel with
 |zero=>
  intro listed s _ _ hr hp hy H
  refine .inl ⟨fun h=>(by rw[h]at hr;cases hr),fun j hj=>?_⟩
  by_cases hji:j=i
  ·subst hji;exact .inl (hy.opG hi hbi H)
  ·have:=ready_mono hj hji
   rw[H.1]at this
   cases this
 |succ fuel ih=>
 intro listed s hcl hfree hr hp hy H
 refine .inl ⟨fun h=>(by rw[h]at hr;cases hr),fun j hj=>?_⟩
 by_cases hji:j=i
 ·subst hji;exact .inl (hy.opG hi hbi H)
 have h1:=((zey hcl hr hj hji H) j (ready_mono hj hji)).resolve_right fun q=>by cases q.1
 obtain⟨hjun,oj,hoj,hall⟩:=mem_ready.1 hj
 obtain⟨hap,hcls⟩:=hfree j oj hoj hji hjun (zcs hcl (mem_ready.1 hr).1 hj)
 have h2:=zon hoj hap hpl hcls hp hy h1
 have hfree':∀k ok,ops[k]?=some ok->k≠i->(listed.setIfInBounds j true).getD k true=false->(behs i ops.toList []).getD k false=false->oi.apart ops ok=true/\(isB ok.op||isAl ok.op||isSt ok.op)=true:=fun k ok hk hki hun hbe=>by
  refine hfree k ok hk hki ?_ hbe
  by_cases hjk:j=k
  ·subst hjk;exact hjun
  rw[getD_set_ne true hjk]at hun;exact hun
 refine .inl (zca (fun s' h3=>ih (listed.setIfInBounds j true) s' (hcl.step hj) hfree' (ready_mono hr (jaw hji)) h3.1.2 h3.1.1 ?_) h2)
 rw[jaU _ _ hji]
 exact h3.2
def NoRef(ops:Array Oper)(d:Nat)(s:St):Prop:=∀(j:Nat) (o:Oper),ops[j]?=some o->∀x∈o.op.operands,x≠ .tmp d->d∉(ev s x).refs
theorem zaR{s:St}{d:Nat}{o:Ob}{v:AV}(h:s.ob d=none):mk s d o v=(s.setOb d (some o)).put d v:=by unfold mk;rw[h]
theorem zeP{s s':St}(h1:∀t,s.sl t=s'.sl t)(h2:∀t,s.ob t=s'.ob t):s=s':=by
 cases s;cases s'
 congr 1
 ·funext t;exact h1 t
 funext t;exact h2 t
theorem ao_made{oj:Oper}{e:Nat}(hal:isAo oj.op=true)(hd:oj.dst=some e):
  (∃O' V',V'.refs=[e]/\V'.unpin=V'/\(∀i,Ob.purge i O'=O')/\∀(s:St) (K:St->Prop),stD P T E s oj K↔(s.ob e=none/\K (mk s e O' V')))\/∀(s:St) (K:St->Prop),¬stD P T E s oj K:=by
 obtain⟨dst,op,type,pos,after,guard⟩:=oj
 dsimp only at hd
 subst hd
 cases op<;>first|(simp[isAo]at hal;done)|skip
 case alloc t=>
  cases ht:T t with
  |none=>
   refine .inr fun s K h=>?_
   simp only[stD,isB,isAl,stE,ht]at h
   cases hs:s.ob e<;>simp[hs]at h
  |some ti=>
  cases hz:(ti.zero.all (·.oneCell'))with
  |false=>
   refine .inr fun s K h=>?_
   simp only[stD,isB,isAl,stE,ht,hz]at h
   cases hs:s.ob e<;>simp[hs]at h
  |true=>
  refine .inl ⟨.box (ti.zero.map cv),.box e 0,rfl,rfl,fun i=>?_,fun s K=>?_⟩
  ·show Ob.box ((ti.zero.map cv).map (AV.purge i))=_
   rw[jbb]
   exact jI Ob.box (qH fun c _=>za9 (by rw[zic];exact jam))
  simp only[stD,isB,isAl,stE,ht,hz,kT]
  cases hs:s.ob e<;>simp[hs]
 case makeMap t r=>
  cases r with
  |some r=>simp[isAo]at hal
  |none=>
  cases hm:mapN T t with
  |none=>
   refine .inr fun s K h=>?_
   simp only[stD,isB,isAl,stE,hm]at h
   cases hs:s.ob e<;>simp[hs]at h
  |some m=>
  refine .inl ⟨.mp m [] fun _=>dflt,.own e,rfl,rfl,fun i=>rfl,fun s K=>?_⟩
  simp only[stD,isB,isAl,stE,hm]
  cases hs:s.ob e<;>simp[hs]
 case buildSlice t len ps=>
  have hal:(Nat.beq len 0&&ps.toList.isEmpty)=true:=hal
  rw[jP]at hal
  have hB:isB (.buildSlice t len ps)=false:=by show(!Nat.beq len 0)=false;rw[hal.1];rfl
  have hA:isAl (.buildSlice t len ps)=true:=hal.1
  have hfr:(E.cut (frzN+e)&& !Nat.beq len 0)=false:=by rw[hal.1];simp
  have hps:ps.toList=[]:=List.isEmpty_iff.1 hal.2
  have hno:(∀(s:St) (K:Nat->TI->(Nat->Nat->D)->Prop),¬buildSliceE T s t len [] K)->∀(s:St) (K:St->Prop),¬stD P T E s { dst:=some e,op:=.buildSlice t len ps,type,pos,after,guard } K:=fun hn s K h=>by
   simp only[stD,hB,hA,stE,hfr,hps]at h
   cases hs:s.ob e with
   |none=>simp only[hs]at h;exact hn _ _ h
   |some o=>simp[hs]at h
  cases ht:T t with
  |none=>exact .inr (hno fun s K h=>by simp[buildSliceE,ht]at h)
  |some ti=>
  obtain⟨size,ag,bytes,zero,kind⟩:=ti
  cases kind with
  |slice el=>
   cases he:T el with
   |none=>exact .inr (hno fun s K h=>by simp[buildSliceE,ht,he]at h)
   |some ei=>
    cases hz:cds ei.zero with
    |none=>exact .inr (hno fun s K h=>by simp[buildSliceE,ht,he,hz]at h)
    |some zs=>
     cases hb:(Nat.ble 1 ei.size&&Nat.beq ei.zero.length ei.size&&Nat.ble (len*ei.size) 16777216)with
     |false=>exact .inr (hno fun s K h=>by simp[buildSliceE,ht,he,hz,fillE,hb]at h)
     |true=>
      refine .inl ⟨.row el ei.size len (rowOf ei.size (repD len zs)),.own e,rfl,rfl,fun i=>rfl,fun s K=>?_⟩
      simp only[stD,hB,hA,stE,hfr,hps,buildSliceE,ht,he,hz,fillE,hb,kT]
      cases hs:s.ob e<;>simp[hs]
  | _=>exact .inr (hno fun s K h=>by simp[buildSliceE,ht]at h)
theorem ziq{oj:Oper}{s:St}{K:St->Prop}(hal:isAo oj.op=true)(hd:oj.dst=none)(h:stD P T E s oj K):False:=by
 obtain⟨dst,op,type,pos,after,guard⟩:=oj
 dsimp only at hd
 subst hd
 cases op<;>first|(simp[isAo]at hal;done)|skip
 case alloc t=>simp[stD,isB,isAl,stE]at h
 case makeMap t r=>
  cases r with
  |some r=>simp[isAo]at hal
  |none=>simp[stD,isB,isAl,stE]at h
 case buildSlice t len ps=>
  have hal:(Nat.beq len 0&&ps.toList.isEmpty)=true:=hal
  rw[jP]at hal
  have hB:isB (.buildSlice t len ps)=false:=by show(!Nat.beq len 0)=false;rw[hal.1];rfl
  simp[stD,hB,stE]at h
theorem zsK{d e:Nat}{O:Ob}{V:AV}{K:St->Prop}{fr:Bool}{t:Nat}{a x:AV}(he:e≠d)(h0:s.ob d=none)(hn:NoRef ops d s)(hV:V.refs=[d])(hO:∀i,Ob.purge i O=O)(ha:d∉a.refs)(hx:d∉x.refs)
  (h:appE fr T ((s.setOb d (some O)).put d V) (some e) t a x K):appE fr T s (some e) t a x fun s'=>(s'.ob d=none/\NoRef ops d s')/\K (mk s' d O V):=by
 have hob:∀i,i≠d->((s.setOb d (some O)).put d V).ob i=s.ob i:=fun i hi=>zai s.ob _ hi
 have anew:∀(i:Nat) (o':Ob) (u:AV),i≠d->d∉u.refs->u.unpin=u->K (((((s.setOb d (some O)).put d V).drop i).setOb i (some o')).put e u)->
   ((((s.drop i).setOb i (some o')).put e u).ob d=none/\NoRef ops d (((s.drop i).setOb i (some o')).put e u))/\K (mk (((s.drop i).setOb i (some o')).put e u) d O V):=fun i o' u hi hu hun hK=>by
  have h0':(((s.drop i).setOb i (some o')).put e u).ob d=none:=by
   show upd (upd (fun j=>(s.ob j).map (Ob.purge i)) i none) i _ d=none
   rw[zai _ _ (jaw hi),zai _ _ (jaw hi),h0];rfl
  refine⟨⟨h0',fun k o hk y hy hyd=>?_⟩,?_⟩
  ·cases y with
   |tmp w=>
    show d∉(upd (fun t=>(s.sl t).purge i) e u w).unpin.refs
    by_cases hw:w=e
    ·subst hw;rw[zac,hun];exact hu
    ·rw[zai _ _ hw]
     have:=hn k o hk (.tmp w) hy hyd
     have this:d∉(s.sl w).unpin.refs:=this
     show d∉((s.sl w).purge i).unpin.refs
     unfold AV.purge
     cases (s.sl w).hasRef i with
     |true=>exact jam
     |false=>exact this
   |const v=>exact hn k o hk (.const v) hy hyd
   |global g=>exact hn k o hk (.global g) hy hyd
   |func f=>exact hn k o hk (.func f) hy hyd
  rw[zaR h0']
  refine cast (jI K (zeP (fun w=>?_) fun w=>?_)) hK
  ·show upd (fun w=>(upd s.sl d V w).purge i) e u w=upd (upd (fun w=>(s.sl w).purge i) e u) d V w
   simp only[zat]
   by_cases h4:w=d
   ·subst h4
    simp only[jaw he,jbe,jaG]
    exact za9 (by rw[hV];simpa using hi)
   simp[h4]
  show upd (upd (fun j=>(upd s.ob d (some O) j).map (Ob.purge i)) i none) i (some o') w=upd (upd (upd (fun j=>(s.ob j).map (Ob.purge i)) i none) i (some o')) d (some O) w
  simp only[zat]
  by_cases h4:w=d
  ·subst h4;simp[jaw hi,hO]
  simp[h4]
 have anew0:∀(o':Ob) (u:AV),d∉u.refs->u.unpin=u->K (mk ((s.setOb d (some O)).put d V) e o' u)->((mk s e o' u).ob d=none/\NoRef ops d (mk s e o' u))/\K (mk (mk s e o' u) d O V):=fun o' u hu hun hK=>by
  cases hs:s.ob e with
  |some o=>
   have e1:mk ((s.setOb d (some O)).put d V) e o' u=((((s.setOb d (some O)).put d V).drop e).setOb e (some o')).put e u:=by unfold mk;rw[hob e he,hs]
   have e2:mk s e o' u=((s.drop e).setOb e (some o')).put e u:=by unfold mk;rw[hs]
   rw[e1]at hK
   rw[e2]
   exact anew e o' u he hu hun hK
  |none=>
  rw[zaR ((hob e he).trans hs)]at hK
  rw[zaR hs]
  have h0':((s.setOb e (some o')).put e u).ob d=none:=by
   show upd s.ob e _ d=none
   rw[zai _ _ (jaw he)];exact h0
  refine⟨⟨h0',fun k o hk y hy hyd=>?_⟩,?_⟩
  ·cases y with
   |tmp w=>
    show d∉(upd s.sl e u w).unpin.refs
    by_cases hw:w=e
    ·subst hw;rw[zac,hun];exact hu
    ·rw[zai _ _ hw];exact hn k o hk (.tmp w) hy hyd
   |const v=>exact hn k o hk (.const v) hy hyd
   |global g=>exact hn k o hk (.global g) hy hyd
   |func f=>exact hn k o hk (.func f) hy hyd
  rw[zaR h0']
  refine cast (jI K (zeP (fun w=>?_) fun w=>?_)) hK
  ·show upd (upd s.sl d V) e u w=upd (upd s.sl e u) d V w
   simp only[zat]
   by_cases h4:w=d
   ·subst h4;simp[jaw he]
   simp[h4]
  show upd (upd s.ob d _) e _ w=upd (upd s.ob e _) d _ w
  simp only[zat]
  by_cases h4:w=d
  ·subst h4;simp[jaw he]
  simp[h4]
 rcases appE_cases a x with⟨i,m,i',k',lo,n',rfl,rfl⟩|q
 ·have hi:i≠d:=fun e=>ha (by rw[e];simp[AV.refs])
  have h:delE T ((s.setOb d (some O)).put d V) (some e) t i m i' k' lo n' K:=h
  show delE T s (some e) t i m i' k' lo n' fun s'=>(s'.ob d=none/\NoRef ops d s')/\K (mk s' d O V)
  unfold delE at h⊢
  rw[hob i hi]at h
  cases hty:T t with
  |none=>simp[hty]at h
  |some ti=>
  obtain⟨size,ag,bytes,zero,kind⟩:=ti
  cases kind with
  |slice el=>
   simp only[hty]at h⊢
   cases hel:T el with
   |none=>simp[hel]at h
   |some ei=>
    cases hoi:s.ob i with
    |none=>simp[hel,hoi]at h
    |some o=>
     cases o with
     |box cs=>simp[hel,hoi]at h
     |mp m ks f=>simp[hel,hoi]at h
     |row e2 k2 N f=>
      simp only[hel,hoi]at h⊢
      generalize (Nat.beq el e2&&Nat.beq k2 ei.size&&Nat.beq k' k2&&Nat.beq i i'&&Nat.ble 1 ei.size&&Nat.beq ei.zero.length ei.size:Bool)=bb at h⊢
      cases bb with
      |false=>exact h.elim
      |true=>
       simp only[kT]at h⊢
       exact⟨h.1,anew i _ (.own i) hi (by simp[AV.refs];exact jaw hi) rfl h.2⟩
  | _=>simp[hty]at h
 rw[q]at h⊢
 unfold appendE at h⊢
 cases hty:T t with
 |none=>simp[hty]at h
 |some ti=>
 obtain⟨size,ag,bytes,zero,kind⟩:=ti
 cases kind with
 |slice el=>
  simp only[hty]at h⊢
  cases hel:T el with
  |none=>simp[hel]at h
  |some ei=>
   simp only[hel]at h⊢
   have src:∀{K1 K2:Nat->Nat->(Nat->Nat->D)->Prop},(∀k m g,K1 k m g->K2 k m g)->srcE ((s.setOb d (some O)).put d V) x K1->srcE s x K2:=fun {K1 K2} hK hs=>by
    cases x with
    |own j=>
     have hj:j≠d:=fun e=>hx (by rw[e];simp[AV.refs])
     simp only[srcE]at hs⊢
     rw[hob j hj]at hs
     cases q:s.ob j with
     |none=>simp[q]at hs
     |some o=>
      cases o with
      |box cs=>simp[q]at hs
      |mp m ks f=>simp[q]at hs
      |row e' k' n' f'=>simp only[q]at hs⊢;exact hK _ _ _ hs
    |nilsl=>exact hK _ _ _ hs
    |d y=>
     cases y with
     |slc k m g=>exact hK _ _ _ hs
     |nil=>exact hK _ _ _ hs
     | _=>exact hs.elim
    | _=>exact hs.elim
   refine src (fun k m g hh=>?_) h
   have nil:(bif Nat.ble 1 ei.size&&Nat.beq ei.zero.length ei.size then((m=0\/k=ei.size)/\m<=maxLen/\m*ei.bytes<=140737488355328)/\K (mk ((s.setOb d (some O)).put d V) e (.row el ei.size m g) (.own e))else False)->
     (bif Nat.ble 1 ei.size&&Nat.beq ei.zero.length ei.size then((m=0\/k=ei.size)/\m<=maxLen/\m*ei.bytes<=140737488355328)/\
      (((mk s e (.row el ei.size m g) (.own e)).ob d=none/\NoRef ops d (mk s e (.row el ei.size m g) (.own e)))/\K (mk (mk s e (.row el ei.size m g) (.own e)) d O V))else False):=fun hh=>by
    generalize (Nat.ble 1 ei.size&&Nat.beq ei.zero.length ei.size:Bool)=bb at hh⊢
    cases bb with
    |false=>exact hh.elim
    |true=>simp only[kT]at hh⊢;exact⟨hh.1,anew0 _ _ (by simp[AV.refs];exact jaw he) rfl hh.2⟩
   cases a with
   |own i=>
    have hi:i≠d:=fun e=>ha (by rw[e];simp[AV.refs])
    simp only at hh⊢
    rw[hob i hi]at hh
    cases hoi:s.ob i with
    |none=>simp[hoi]at hh
    |some o=>
     cases o with
     |box cs=>simp[hoi]at hh
     |mp m ks f=>simp[hoi]at hh
     |row e' k' n' f'=>
      simp only[hoi]at hh⊢
      generalize (Nat.beq el e'&&Nat.beq k' ei.size&&Nat.ble 1 ei.size&&Nat.beq ei.zero.length ei.size:Bool)=bb at hh⊢
      cases bb with
      |false=>exact hh.elim
      |true=>
       simp only[kT]at hh⊢
       refine⟨hh.1,?_⟩
       cases fr with
       |false=>exact anew i _ (.own i) hi (by simp[AV.refs];exact jaw hi) rfl hh.2
       |true=>exact anew i _ _ hi (by simp[AV.refs]) rfl hh.2
   |nilsl=>exact nil hh
   |d p=>
    cases p with
    |nil=>exact nil hh
    | _=>exact hh.elim
   | _=>exact hh.elim
 | _=>simp[hty]at h
theorem ztR{j d:Nat}{oi oj:Oper}{O:Ob}{V:AV}(hj:ops[j]?=some oj)(hd:oi.dst=some d)(hap:oi.apart ops oj=true)(hV:V.refs=[d])(hO:∀i,Ob.purge i O=O)(hcls:isAo oj.op=true\/(isSt oj.op=true/\oj.dst=none)\/isAp oj.op=true)(hgj:oj.guard=none)
  (h0:s.ob d=none)(hn:NoRef ops d s){K:St->Prop}(h:opG P T E ops j K (mk s d O V)):opG P T E ops j (fun s'=>(s'.ob d=none/\NoRef ops d s')/\K (mk s' d O V)) s:=by
 obtain⟨h1,h2,h3⟩:=Oper.apart_spec hap
 have hlk:=zbJ (h1 d hd)
 have hdd:=h2 d hd
 rw[zaR h0]at h
 have hev:∀x,x≠ .tmp d->ev ((s.setOb d (some O)).put d V) x=ev s x:=fun x hx=>zgb (s:=s.setOb d (some O)) (d:=some d) fun t ht=>by cases ht;exact hx
 have hgd:∀s:St,gd s ops oj=some true:=fun s=>by unfold gd;rw[hgj]
 unfold opG stG at h⊢
 simp only[hj,hgd]at h⊢
 rcases hcls with hal|⟨hst,hnd⟩|hap'
 ·cases hde:oj.dst with
  |none=>exact(ziq hal hde h).elim
  |some e=>
   have hne:e≠d:=fun he=>hdd (by rw[hde,he])
   have hob:((s.setOb d (some O)).put d V).ob e=s.ob e:=zai s.ob _ hne
   rcases ao_made (P:=P) (T:=T) (E:=E) hal hde with⟨O',V',hv,hu',-,hm⟩|hno
   ·rw[hm,hob]at h
    obtain⟨hoe,h⟩:=h
    rw[hm]
    refine⟨hoe,?_⟩
    rw[zaR (hob.trans hoe)]at h
    rw[zaR hoe]
    have h0':((s.setOb e (some O')).put e V').ob d=none:=by
     show upd s.ob e _ d=none
     rw[zai _ _ (jaw hne)];exact h0
    refine⟨⟨h0',fun k o hk x hx hxd=>?_⟩,?_⟩
    ·cases x with
     |tmp u=>
      show d∉(upd s.sl e V' u).unpin.refs
      by_cases hu:u=e
      ·subst hu;rw[zac,hu',hv]
       simpa using jaw hne
      ·rw[zai _ _ hu];exact hn k o hk (.tmp u) hx hxd
     |const v=>exact hn k o hk (.const v) hx hxd
     |global g=>exact hn k o hk (.global g) hx hxd
     |func f=>exact hn k o hk (.func f) hx hxd
    rw[zaR h0']
    refine cast (jI K (zeP (fun t=>?_) fun t=>?_)) h
    ·show upd (upd s.sl d V) e _ t=upd (upd s.sl e _) d V t
     simp only[zat]
     by_cases h4:t=e
     ·subst h4;simp[hne]
     simp[h4]
    show upd (upd s.ob d _) e _ t=upd (upd s.ob e _) d _ t
    simp only[zat]
    by_cases h4:t=e
    ·subst h4;simp[hne]
    simp[h4]
   exact(hno _ _ h).elim
 ·obtain⟨dst,op,type,pos,after,guard⟩:=oj
  cases op<;>first|(simp[isSt]at hst;done)|skip
  rename_i t A X
  dsimp only at hnd
  subst hnd
  have eA:=hev A (hlk A (by simp[Op.operands]))
  have eX:=hev X (hlk X (by simp[Op.operands]))
  have nA:=hn j _ hj A (by simp[Op.operands]) (hlk A (by simp[Op.operands]))
  simp only[stD,isB,isAl,stE,eA,eX]at h⊢
  have fin:∀(i:Nat) (o':Ob),i≠d->K (((s.setOb d (some O)).put d V).setOb i (some o'))->((s.setOb i (some o')).ob d=none/\NoRef ops d (s.setOb i (some o')))/\K (mk (s.setOb i (some o')) d O V):=fun i o' hi hk=>by
   have h0':(s.setOb i (some o')).ob d=none:=by
    show upd s.ob i _ d=none
    rw[zai _ _ (jaw hi)];exact h0
   refine⟨⟨h0',fun k o hk x hx hxd=>hn k o hk x hx hxd⟩,?_⟩
   rw[zaR h0']
   have e:((s.setOb d (some O)).put d V).setOb i (some o')=((s.setOb i (some o')).setOb d (some O)).put d V:=zeP (fun t=>rfl) fun t=>by
    show upd (upd s.ob d _) i _ t=upd (upd s.ob i _) d _ t
    simp only[zat]
    by_cases h4:t=i
    ·subst h4;simp[hi]
    simp[h4]
   rw[<- e];exact hk
  have hob:∀i,i≠d->((s.setOb d (some O)).put d V).ob i=s.ob i:=fun i hi=>zai s.ob _ hi
  unfold storeE at h⊢
  cases ht:T t with
  |none=>simp[ht]at h
  |some ti=>
  cases ha:ev s A with
  |box i off=>
   have hi:i≠d:=fun e=>nA (by rw[ha,e];simp[AV.refs])
   simp only[ht,ha,hob i hi]at h⊢
   cases ho:s.ob i with
   |none=>simp[ho]at h
   |some o=>
    cases o with
    |box cs=>
     cases hc:cellsA (ev s X)with
     |none=>simp[ho,hc]at h
     |some ys=>
      simp only[ho,hc]at h⊢
      cases hl:Nat.beq ys.length ti.size with
      |false=>simp[hl]at h
      |true=>
       simp only[hl,kT]at h⊢
       cases hr:setRange cs off ys with
       |none=>simp[hr]at h
       |some cs'=>simp only[hr]at h⊢;exact fin _ _ hi h
    |row e k n f=>simp[ho]at h
    |mp m ks f=>simp[ho]at h
  |elt i k n c=>
   have hi:i≠d:=fun e=>nA (by rw[ha,e];simp[AV.refs])
   simp only[ht,ha,hob i hi]at h⊢
   cases ho:s.ob i with
   |none=>simp[ho]at h
   |some o=>
    cases o with
    |box cs=>simp[ho]at h
    |mp m ks f=>simp[ho]at h
    |row e k' N f=>
     cases hc:cellsD (ev s X)with
     |none=>simp[ho,hc]at h
     |some ys=>
      simp only[ho,hc]at h⊢
      cases hl:(Nat.beq k k'&&Nat.beq ys.length ti.size&&Nat.ble (c+ti.size) k)with
      |false=>simp[hl]at h
      |true=>simp only[hl,kT]at h⊢;exact⟨h.1,fin _ _ hi h.2⟩
  | _=>simp[ht,ha]at h
 obtain⟨dst,op,type,pos,after,guard⟩:=oj
 cases op<;>first|(simp[isAp]at hap';done)|skip
 rename_i c
 obtain⟨cal,args,at'⟩:=c
 cases cal<;>first|(simp[isAp]at hap';done)|skip
 rename_i bt
 cases bt<;>first|(simp[isAp]at hap';done)|skip
 simp only[stD,isB,isAl,stE]at h⊢
 split at h
 ·rename_i a x t t' hargs hat
  have mA:a∈(Op.call { callee:=.builtin .append,args,argTypes:=at' }).operands:=by
   simp only[Op.operands,Call.operands,jan];exact .inr (by rw[<- Array.mem_toList_iff,hargs];simp)
  have mX:x∈(Op.call { callee:=.builtin .append,args,argTypes:=at' }).operands:=by
   simp only[Op.operands,Call.operands,jan];exact .inr (by rw[<- Array.mem_toList_iff,hargs];simp)
  have eA:=hev a (hlk a mA)
  have eX:=hev x (hlk x mX)
  have nA:=hn j _ hj a mA (hlk a mA)
  have nX:=hn j _ hj x mX (hlk x mX)
  rw[eA,eX]at h
  cases hb:Nat.beq t t' with
  |false=>simp[hb]at h
  |true=>
  simp only[hb,kT]at h⊢
  cases dst with
  |none=>
   exfalso
   generalize frB E none=fr at h
   rcases appE_cases (ev s a) (ev s x)with⟨i,m,i',k',lo,n',q1,q2⟩|q
   ·rw[q1,q2]at h
    have h:delE T ((s.setOb d (some O)).put d V) none t i m i' k' lo n' K:=h
    unfold delE at h
    cases hty:T t with
    |none=>simp[hty]at h
    |some ti=>
    obtain⟨size,ag,bytes,zero,kind⟩:=ti
    cases kind<;>simp[hty]at h
   ·rw[q]at h
    unfold appendE at h
    cases hty:T t with
    |none=>simp[hty]at h
    |some ti=>
     obtain⟨size,ag,bytes,zero,kind⟩:=ti
     cases kind<;>simp[hty]at h
  |some e=>
  exact zsK (fun he=>hdd (by rw[he])) h0 hn hV hO nA nX h
 exact h.elim
theorem zit{Q:St->Prop}{i d:Nat}{oi:Oper}{O:Ob}{V:AV}(hi:ops[i]?=some oi)(hg:oi.guard=none)(hd:oi.dst=some d)(hV:V.refs=[d])(hO:∀i,Ob.purge i O=O)(hm:∀(s:St) (K:St->Prop),stD P T E s oi K↔(s.ob d=none/\K (mk s d O V))):
  ∀(fuel:Nat) (listed:Array Bool) (s:St),Closed ops listed->
   (∀j oj,ops[j]?=some oj->j≠i->listed.getD j true=false->(behs i ops.toList []).getD j false=false->oi.apart ops oj=true/\(isAo oj.op=true\/(isSt oj.op=true/\oj.dst=none)\/isAp oj.op=true)/\oj.guard=none)->
   i∈Region.ready .any ops listed->s.ob d=none->NoRef ops d s->
   anyA false P T E ops Q fuel (listed.setIfInBounds i true) (mk s d O V)->anyA false P T E ops Q (fuel+1) listed s:=by
 have self:∀{K:St->Prop}{s:St},s.ob d=none->K (mk s d O V)->opG P T E ops i K s:=fun {K s} h0 hK=>by
  have hgd:gd s ops oi=some true:=by unfold gd;rw[hg]
  unfold opG stG
  simp only[hi,hgd]
  exact(hm s K).2 ⟨h0,hK⟩
 intro fuel
 induction fuel with
 |zero=>
  intro listed s _ _ hr h0 hn H
  refine .inl ⟨fun h=>(by rw[h]at hr;cases hr),fun j hj=>?_⟩
  by_cases hji:j=i
  ·subst hji;exact .inl (self h0 H)
  ·have:=ready_mono hj hji
   rw[H.1]at this
   cases this
 |succ fuel ih=>
 intro listed s hcl hfree hr h0 hn H
 refine .inl ⟨fun h=>(by rw[h]at hr;cases hr),fun j hj=>?_⟩
 by_cases hji:j=i
 ·subst hji;exact .inl (self h0 H)
 have h1:=((zey hcl hr hj hji H) j (ready_mono hj hji)).resolve_right fun q=>by cases q.1
 obtain⟨hjun,oj,hoj,hall⟩:=mem_ready.1 hj
 obtain⟨hap,hcls,hgj⟩:=hfree j oj hoj hji hjun (zcs hcl (mem_ready.1 hr).1 hj)
 have h2:=ztR hoj hd hap hV hO hcls hgj h0 hn h1
 have hfree':∀k ok,ops[k]?=some ok->k≠i->(listed.setIfInBounds j true).getD k true=false->(behs i ops.toList []).getD k false=false->oi.apart ops ok=true/\(isAo ok.op=true\/(isSt ok.op=true/\ok.dst=none)\/isAp ok.op=true)/\ok.guard=none:=fun k ok hk hki hun hbe=>by
  refine hfree k ok hk hki ?_ hbe
  by_cases hjk:j=k
  ·subst hjk;exact hjun
  rw[getD_set_ne true hjk]at hun;exact hun
 refine .inl (zca (fun s' h3=>ih (listed.setIfInBounds j true) s' (hcl.step hj) hfree' (ready_mono hr (jaw hji)) h3.1.1 h3.1.2 ?_) h2)
 rw[jaU _ _ hji]
 exact h3.2
theorem zdN{d e:Nat}{O:Ob}{V:AV}{K:St->Prop}{fr:Bool}{t:Nat}{a x:AV}(he:e≠d)(hV:V.refs=[d])(hO:∀i,Ob.purge i O=O)(h:appE fr T s (some e) t a x K):
  ∃s',K s'/\(∀K',K' s'->appE fr T s (some e) t a x K')/\(s'.ob d=none->s.ob d=none/\∀K',K' (mk s' d O V)->appE fr T ((s.setOb d (some O)).put d V) (some e) t a x K'):=by
 have hob:∀i,i≠d->((s.setOb d (some O)).put d V).ob i=s.ob i:=fun i hi=>zai s.ob _ hi
 have same:∀(i:Nat) (o':Ob) (u:AV),(((s.drop i).setOb i (some o')).put e u).ob d=none->i≠d/\s.ob d=none/\(((((s.setOb d (some O)).put d V).drop i).setOb i (some o')).put e u)=mk (((s.drop i).setOb i (some o')).put e u) d O V:=fun i o' u hn=>by
  have hn':=hn
  have hn:upd (upd (fun j=>(s.ob j).map (Ob.purge i)) i none) i (some o') d=none:=hn
  have hi:i≠d:=fun e=>by subst e;rw[zac]at hn;cases hn
  rw[zai _ _ (jaw hi),zai _ _ (jaw hi)]at hn
  have h0:s.ob d=none:=by
   cases hs:s.ob d with
   |none=>rfl
   |some o=>rw[hs]at hn;cases hn
  refine⟨hi,h0,?_⟩
  rw[zaR hn']
  refine zeP (fun w=>?_) fun w=>?_
  ·show upd (fun w=>(upd s.sl d V w).purge i) e u w=upd (upd (fun w=>(s.sl w).purge i) e u) d V w
   simp only[zat]
   by_cases h4:w=d
   ·subst h4
    simp only[jaw he,jbe,jaG]
    exact za9 (by rw[hV];simpa using hi)
   simp[h4]
  show upd (upd (fun j=>(upd s.ob d (some O) j).map (Ob.purge i)) i none) i (some o') w=upd (upd (upd (fun j=>(s.ob j).map (Ob.purge i)) i none) i (some o')) d (some O) w
  simp only[zat]
  by_cases h4:w=d
  ·subst h4;simp[jaw hi,hO]
  simp[h4]
 have same0:∀(o':Ob) (u:AV),(mk s e o' u).ob d=none->s.ob d=none/\mk ((s.setOb d (some O)).put d V) e o' u=mk (mk s e o' u) d O V:=fun o' u hn=>by
  cases hs:s.ob e with
  |some o=>
   have e1:mk ((s.setOb d (some O)).put d V) e o' u=((((s.setOb d (some O)).put d V).drop e).setOb e (some o')).put e u:=by unfold mk;rw[hob e he,hs]
   have e2:mk s e o' u=((s.drop e).setOb e (some o')).put e u:=by unfold mk;rw[hs]
   rw[e2]at hn
   rw[e1,e2]
   exact(same e o' u hn).2
  |none=>
  rw[zaR hs]at hn
  rw[zaR ((hob e he).trans hs),zaR hs]
  have h0:s.ob d=none:=by
   have hn:upd s.ob e (some o') d=none:=hn
   rwa [zai _ _ (jaw he)]at hn
  refine⟨h0,?_⟩
  rw[zaR hn]
  refine zeP (fun w=>?_) fun w=>?_
  ·show upd (upd s.sl d V) e u w=upd (upd s.sl e u) d V w
   simp only[zat]
   by_cases h4:w=d
   ·subst h4;simp[jaw he]
   simp[h4]
  show upd (upd s.ob d _) e _ w=upd (upd s.ob e _) d _ w
  simp only[zat]
  by_cases h4:w=d
  ·subst h4;simp[jaw he]
  simp[h4]
 rcases appE_cases a x with⟨i,m,i',k',lo,n',rfl,rfl⟩|q
 ·have h:delE T s (some e) t i m i' k' lo n' K:=h
  show ∃s',K s'/\(∀K',K' s'->delE T s (some e) t i m i' k' lo n' K')/\(s'.ob d=none->s.ob d=none/\∀K',K' (mk s' d O V)->delE T ((s.setOb d (some O)).put d V) (some e) t i m i' k' lo n' K')
  unfold delE at h⊢
  cases hty:T t with
  |none=>simp[hty]at h
  |some ti=>
  obtain⟨size,ag,bytes,zero,kind⟩:=ti
  cases kind with
  |slice el=>
   simp only[hty]at h⊢
   cases hel:T el with
   |none=>simp[hel]at h
   |some ei=>
    cases hoi:s.ob i with
    |none=>simp[hel,hoi]at h
    |some o=>
     cases o with
     |box cs=>simp[hel,hoi]at h
     |mp m ks f=>simp[hel,hoi]at h
     |row e2 k2 N f=>
      simp only[hel,hoi]at h⊢
      cases hbb:(Nat.beq el e2&&Nat.beq k2 ei.size&&Nat.beq k' k2&&Nat.beq i i'&&Nat.ble 1 ei.size&&Nat.beq ei.zero.length ei.size:Bool)with
      |false=>rw[hbb]at h;exact h.elim
      |true=>
       simp only[hbb,kT]at h⊢
       refine⟨_,h.2,fun K' hK=>⟨h.1,hK⟩,fun hn=>?_⟩
       obtain⟨g1,g2,g3⟩:=same i _ (.own i) hn
       refine⟨g2,fun K' hK=>?_⟩
       rw[hob i g1,hoi]
       simp only[hbb,kT]
       exact⟨h.1,cast (jI K' g3.symm) hK⟩
  | _=>simp[hty]at h
 rw[q fr T s (some e) t]at h
 have q1:∀K',appE fr T s (some e) t a x K'=appendE fr T s (some e) t a x K':=fun K'=>q fr T s (some e) t K'
 have q2:∀K',appE fr T ((s.setOb d (some O)).put d V) (some e) t a x K'=appendE fr T ((s.setOb d (some O)).put d V) (some e) t a x K':=fun K'=>q fr T _ (some e) t K'
 simp only[q1,q2]
 unfold appendE at h⊢
 cases hty:T t with
 |none=>simp[hty]at h
 |some ti=>
 obtain⟨size,ag,bytes,zero,kind⟩:=ti
 cases kind with
 |slice el=>
  simp only[hty]at h⊢
  cases hel:T el with
  |none=>simp[hel]at h
  |some ei=>
   simp only[hel]at h⊢
   have src:∀{K1:Nat->Nat->(Nat->Nat->D)->Prop},srcE s x K1->∃k m g,K1 k m g/\(∀K2,K2 k m g->srcE s x K2)/\(s.ob d=none->∀K2,K2 k m g->srcE ((s.setOb d (some O)).put d V) x K2):=fun {K1} hs=>by
    cases x with
    |own j=>
     simp only[srcE]at hs⊢
     cases q:s.ob j with
     |none=>simp[q]at hs
     |some o=>
      cases o with
      |box cs=>simp[q]at hs
      |mp m ks f=>simp[q]at hs
      |row e' k' n' f'=>
       simp only[q]at hs⊢
       refine⟨_,_,_,hs,fun K2 h=>h,fun h0 K2 h=>?_⟩
       have hj:j≠d:=fun e=>by subst e;rw[h0]at q;cases q
       rw[hob j hj,q];exact h
    |nilsl=>exact⟨_,_,_,hs,fun K2 h=>h,fun _ K2 h=>h⟩
    |d y=>
     cases y with
     |slc k m g=>exact⟨_,_,_,hs,fun K2 h=>h,fun _ K2 h=>h⟩
     |nil=>exact⟨_,_,_,hs,fun K2 h=>h,fun _ K2 h=>h⟩
     | _=>exact hs.elim
    | _=>exact hs.elim
   obtain⟨k,m,g,hh,r1,r2⟩:=src h
   cases a with
   |own i=>
    simp only at hh⊢
    cases hoi:s.ob i with
    |none=>simp[hoi]at hh
    |some o=>
     cases o with
     |box cs=>simp[hoi]at hh
     |mp m ks f=>simp[hoi]at hh
     |row e' k' n' f'=>
      simp only[hoi]at hh r1 r2⊢
      cases hbb:(Nat.beq el e'&&Nat.beq k' ei.size&&Nat.ble 1 ei.size&&Nat.beq ei.zero.length ei.size:Bool)with
      |false=>rw[hbb]at hh;exact hh.elim
      |true=>
       simp only[hbb,kT]at hh
       cases fr with
       |false=>
        refine⟨_,hh.2,fun K' hK=>r1 _ ?_,fun hn=>?_⟩
        ·simp only[hbb,kT];exact⟨hh.1,hK⟩
        ·obtain⟨g1,g2,g3⟩:=same i _ (.own i) hn
         refine⟨g2,fun K' hK=>r2 g2 _ ?_⟩
         rw[hob i g1,hoi]
         simp only[hbb,kT]
         exact⟨hh.1,cast (jI K' g3.symm) hK⟩
       |true=>
        refine⟨_,hh.2,fun K' hK=>r1 _ ?_,fun hn=>?_⟩
        ·simp only[hbb,kT];exact⟨hh.1,hK⟩
        ·obtain⟨g1,g2,g3⟩:=same i _ _ hn
         refine⟨g2,fun K' hK=>r2 g2 _ ?_⟩
         rw[hob i g1,hoi]
         simp only[hbb,kT]
         exact⟨hh.1,cast (jI K' g3.symm) hK⟩
   |nilsl=>
    cases hbb:(Nat.ble 1 ei.size&&Nat.beq ei.zero.length ei.size:Bool)with
    |false=>simp only[hbb]at hh;exact hh.elim
    |true=>
     simp only[hbb,kT]at hh
     refine⟨mk s e (.row el ei.size m g) (.own e),hh.2,fun K' hK=>r1 _ ?_,fun hn=>?_⟩
     ·simp only[hbb,kT];exact⟨hh.1,hK⟩
     ·obtain⟨g2,g3⟩:=same0 _ (.own e) hn
      refine⟨g2,fun K' hK=>r2 g2 _ ?_⟩
      simp only[hbb,kT];exact⟨hh.1,cast (jI K' g3.symm) hK⟩
   |d p=>
    cases p with
    |nil=>
     cases hbb:(Nat.ble 1 ei.size&&Nat.beq ei.zero.length ei.size:Bool)with
     |false=>simp only[hbb]at hh;exact hh.elim
     |true=>
      simp only[hbb,kT]at hh
      refine⟨mk s e (.row el ei.size m g) (.own e),hh.2,fun K' hK=>r1 _ ?_,fun hn=>?_⟩
      ·simp only[hbb,kT];exact⟨hh.1,hK⟩
      ·obtain⟨g2,g3⟩:=same0 _ (.own e) hn
       refine⟨g2,fun K' hK=>r2 g2 _ ?_⟩
       simp only[hbb,kT];exact⟨hh.1,cast (jI K' g3.symm) hK⟩
    | _=>exact hh.elim
   | _=>exact hh.elim
 | _=>simp[hty]at h
theorem ap_form{oi:Oper}(hap:isAp oi.op=true):(∃fr e t a x,oi.dst=some e/\a∈oi.op.operands/\x∈oi.op.operands/\∀(s:St) (K:St->Prop),stD P T E s oi K↔appE fr T s (some e) t (ev s a) (ev s x) K)\/∀(s:St) (K:St->Prop),¬stD P T E s oi K:=by
 obtain⟨dst,op,type,pos,after,guard⟩:=oi
 cases op<;>first|(simp[isAp]at hap;done)|skip
 rename_i c
 obtain⟨cal,args,at'⟩:=c
 cases cal<;>first|(simp[isAp]at hap;done)|skip
 rename_i bt
 cases bt<;>first|(simp[isAp]at hap;done)|skip
 by_cases hA:∃a x t t',args.toList=[a,x]/\at'.toList=[t,t']/\Nat.beq t t'=true
 ·obtain⟨a,x,t,t',h1,h2,h3⟩:=hA
  have mA:a∈(Op.call { callee:=.builtin .append,args,argTypes:=at' }).operands:=by
   simp only[Op.operands,Call.operands,jan];exact .inr (by rw[<- Array.mem_toList_iff,h1];simp)
  have mX:x∈(Op.call { callee:=.builtin .append,args,argTypes:=at' }).operands:=by
   simp only[Op.operands,Call.operands,jan];exact .inr (by rw[<- Array.mem_toList_iff,h1];simp)
  cases dst with
  |some e=>exact .inl ⟨frB E (some e),e,t,a,x,rfl,mA,mX,fun s K=>by simp only[stD,isB,isAl,stE,h1,h2,h3,kT]⟩
  |none=>
  refine .inr fun s K h=>?_
  simp only[stD,isB,isAl,stE,h1,h2,h3,kT]at h
  generalize frB E none=fr at h
  rcases appE_cases (ev s a) (ev s x)with⟨i,m,i',k',lo,n',q1,q2⟩|q
  ·rw[q1,q2]at h
   have h:delE T s none t i m i' k' lo n' K:=h
   unfold delE at h
   cases hty:T t with
   |none=>simp[hty]at h
   |some ti=>
   obtain⟨size,ag,bytes,zero,kind⟩:=ti
   cases kind<;>simp[hty]at h
  rw[q]at h
  unfold appendE at h
  cases hty:T t with
  |none=>simp[hty]at h
  |some ti=>
  obtain⟨size,ag,bytes,zero,kind⟩:=ti
  cases kind<;>simp[hty]at h
 refine .inr fun s K h=>?_
 simp only[stD,isB,isAl,stE]at h
 split at h
 ·rename_i a x t t' h1 h2
  cases hb:Nat.beq t t' with
  |false=>simp[hb]at h
  |true=>exact hA ⟨a,x,t,t',h1,h2,hb⟩
 exact h
theorem zis{Q:St->Prop}{i:Nat}{oi:Oper}(hi:ops[i]?=some oi)(hg:oi.guard=none)(hap:isAp oi.op=true):
  ∀(fuel:Nat) (listed:Array Bool) (s:St),Closed ops listed->
   (∀j oj,ops[j]?=some oj->j≠i->listed.getD j true=false->(behs i ops.toList []).getD j false=false->oi.apart ops oj=true/\isAo oj.op=true/\oj.guard=none)->
   i∈Region.ready .any ops listed->opG P T E ops i (anyA false P T E ops Q fuel (listed.setIfInBounds i true)) s->anyA false P T E ops Q (fuel+1) listed s:=by
 have hgd:∀s:St,gd s ops oi=some true:=fun s=>by unfold gd;rw[hg]
 have opI:∀(K:St->Prop) (s:St),opG P T E ops i K s↔stD P T E s oi K:=fun K s=>by unfold opG stG;simp only[hi,hgd]
 intro fuel
 induction fuel with
 |zero=>
  intro listed s _ _ hr H
  refine .inl ⟨fun h=>(by rw[h]at hr;cases hr),fun j hj=>?_⟩
  by_cases hji:j=i
  ·subst hji;exact .inl H
  ·exfalso
   have hrj:=ready_mono hj hji
   have H:=(opI _ _).1 H
   rcases ap_form (P:=P) (T:=T) (E:=E) hap with⟨fr,e,t,a,x,-,-,-,hf⟩|hno
   ·have H:=(hf _ _).1 H
    obtain⟨s',h1,-,-⟩:=zdN (d:=e+1) (O:=.box []) (V:=.box (e+1) 0) (by omega) rfl (fun i=>rfl) H
    have:=h1.1
    rw[this]at hrj;cases hrj
   ·exact hno _ _ H
 |succ fuel ih=>
 intro listed s hcl hfree hr H
 refine .inl ⟨fun h=>(by rw[h]at hr;cases hr),fun j hj=>?_⟩
 by_cases hji:j=i
 ·subst hji;exact .inl H
 obtain⟨hjun,oj,hoj,hall⟩:=mem_ready.1 hj
 obtain⟨hapt,hao,hgj⟩:=hfree j oj hoj hji hjun (zcs hcl (mem_ready.1 hr).1 hj)
 obtain⟨p1,p2,p3⟩:=Oper.apart_spec hapt
 have hgdj:∀s:St,gd s ops oj=some true:=fun s=>by unfold gd;rw[hgj]
 have opJ:∀(K:St->Prop) (s:St),opG P T E ops j K s↔stD P T E s oj K:=fun K s=>by unfold opG stG;simp only[hoj,hgdj]
 have H:=(opI _ _).1 H
 rcases ap_form (P:=P) (T:=T) (E:=E) hap with⟨fr,e,t,a,x,hde,mA,mX,hf⟩|hno
 rotate_left
 ·exact(hno _ _ H).elim
 have H:=(hf _ _).1 H
 have run:∀s',anyA false P T E ops Q (fuel+1) (listed.setIfInBounds i true) s'->stD P T E s' oj (anyA false P T E ops Q fuel ((listed.setIfInBounds i true).setIfInBounds j true)):=fun s' h1=>
  (opJ _ _).1 (((zey hcl hr hj hji h1) j (ready_mono hj hji)).resolve_right fun q=>by cases q.1)
 cases hd:oj.dst with
 |none=>
  obtain⟨s',h1,-,-⟩:=zdN (d:=e+1) (O:=.box []) (V:=.box (e+1) 0) (by omega) rfl (fun i=>rfl) H
  exact(ziq hao hd (run s' h1)).elim
 |some d=>
 rcases ao_made (P:=P) (T:=T) (E:=E) hao hd with⟨O',V',hv,hu',ho',hm⟩|hno
 rotate_left
 ·obtain⟨s',h1,-,-⟩:=zdN (d:=e+1) (O:=.box []) (V:=.box (e+1) 0) (by omega) rfl (fun i=>rfl) H
  exact(hno _ _ (run s' h1)).elim
 have hne:e≠d:=fun he=>p2 e hde (by rw[hd,he])
 obtain⟨s',h1,-,h3⟩:=zdN hne hv ho' H
 obtain⟨g1,g2⟩:=(hm _ _).1 (run s' h1)
 obtain⟨g3,g4⟩:=h3 g1
 refine .inl ((opJ _ _).2 ((hm _ _).2 ⟨g3,?_⟩))
 rw[zaR g3]
 have hfree':∀k ok,ops[k]?=some ok->k≠i->(listed.setIfInBounds j true).getD k true=false->(behs i ops.toList []).getD k false=false->oi.apart ops ok=true/\isAo ok.op=true/\ok.guard=none:=fun k ok hk hki hun hbe=>by
  refine hfree k ok hk hki ?_ hbe
  by_cases hjk:j=k
  ·subst hjk;exact hjun
  rw[getD_set_ne true hjk]at hun;exact hun
 refine ih (listed.setIfInBounds j true) _ (hcl.step hj) hfree' (ready_mono hr (jaw hji)) ((opI _ _).2 ((hf _ _).2 ?_))
 have hlk:=zbJ (ops:=ops) (o:=oi) (p3 d hd)
 have hev:∀y,y∈oi.op.operands->ev ((s.setOb d (some O')).put d V') y=ev s y:=fun y hy=>zgb (s:=s.setOb d (some O')) (d:=some d) fun t ht=>by cases ht;exact hlk y hy
 rw[hev a mA,hev x mX]
 refine g4 _ ?_
 rw[jaU _ _ hji]
 exact g2
theorem zkd{listed:Array Bool}{i:Nat}(h:okAp2 ops listed i=true):∃oi,ops[i]?=some oi/\i∈Region.ready .any ops listed/\oi.guard=none/\isAp oi.op=true/\
  ∀j oj,ops[j]?=some oj->j≠i->listed.getD j true=false->(behs i ops.toList []).getD j false=false->oi.apart ops oj=true/\isAo oj.op=true/\oj.guard=none:=by
 unfold okAp2 at h
 cases hi:ops[i]? with
 |none=>simp[hi]at h
 |some oi=>
 simp only[hi,jP]at h
 refine⟨oi,rfl,by simpa using h.1.1,by simpa using h.1.2,h.2.1,fun j oj hj hne hun hbe=>?_⟩
 have h3:=jC.1 h.2.2 j (kK.2 (jB.1 hj).1)
 simp only[hj,jX,hun,hbe,qT,jbs,jP]at h3
 rcases h3 with h3|⟨⟨h3,h4⟩,h5⟩
 ·exact absurd (jA h3) hne
 exact⟨h3,h4,by simpa using h5⟩
theorem zlP{listed:Array Bool}{i:Nat}(h:okAl ops listed i=true):∃oi,ops[i]?=some oi/\i∈Region.ready .any ops listed/\oi.guard=none/\isAo oi.op=true/\
  ∀j oj,ops[j]?=some oj->j≠i->listed.getD j true=false->(behs i ops.toList []).getD j false=false->oi.apart ops oj=true/\(isAo oj.op=true\/(isSt oj.op=true/\oj.dst=none)\/isAp oj.op=true)/\oj.guard=none:=by
 unfold okAl at h
 cases hi:ops[i]? with
 |none=>simp[hi]at h
 |some oi=>
 simp only[hi,jP]at h
 refine⟨oi,rfl,by simpa using h.1.1,by simpa using h.1.2,h.2.1,fun j oj hj hne hun hbe=>?_⟩
 have h3:=jC.1 h.2.2 j (kK.2 (jB.1 hj).1)
 simp only[hj,jX,hun,hbe,qT,jbs,jP]at h3
 rcases h3 with h3|⟨⟨h3,h4⟩,h5⟩
 ·exact absurd (jA h3) hne
 exact⟨h3,h4.elim (fun h4=>h4.elim .inl fun h4=>.inr (.inl (by simpa using h4))) fun h4=>.inr (.inr h4),by simpa using h5⟩
theorem zor{s:St}{o:Oper}{d:Nat}(hd:o.dst=some d)(h:noRefB s ops.toList o=true):NoRef ops d s:=fun j p hp x hx hxd hr=>by
 unfold noRefB at h
 simp only[hd]at h
 have h1:=jC.1 (jC.1 h p (by simpa using jaP hp)) x (by simpa using hx)
 simp only[jX,jY]at h1
 rcases h1 with h1|h1
 ·cases x with
  |tmp t=>exact hxd (by rw[jA h1])
  | _=>cases h1
 unfold AV.hasRef at h1
 have:=jay.1 h1 d hr
 rw[zay]at this;exact this rfl
theorem zkc{listed:Array Bool}{i:Nat}(h:okNow ops listed i=true): ∃oi,ops[i]?=some oi/\i∈Region.ready .any ops listed/\
    ((isB oi.op=true/\∀j oj,ops[j]?=some oj->j≠i->listed.getD j true=false->(∀e∈oj.after,Region.binds .any e=true->e.on≠i)->(behs i ops.toList []).getD j false=false->oi.apart ops oj=true/\(isB oj.op||isAl oj.op||(isPu oi.op&&isSt oj.op))=true)\/
     ∀j∈Region.ready .any ops listed,j=i):=by
  unfold okNow at h
  cases hi:ops[i]? with
  |none=>simp [hi]at h
  |some oi=>
   simp only [hi,jP,jX]at h
   refine⟨oi,rfl,by simpa using h.1,?_⟩
   rcases h.2 with h2|h2
   · refine .inl ⟨h2.1,fun j oj hj hne hun hno hbe=> ?_⟩
     have h3:=jC.1 h2.2 j (kK.2 (jB.1 hj).1)
     simp only [hj,jX,hun,hbe,qT,jbs,jP]at h3
     rcases h3 with h3|h3|h3
     · exact absurd (jA h3) hne
     · obtain⟨e,he,hb⟩:=Array.any_eq_true'.1 h3
       simp only [jP,jai]at hb
       exact absurd hb.2 (hno e he hb.1)
     exact⟨h3.1,by simpa using h3.2⟩
   exact .inr fun j hj=>jA (jC.1 h2 j hj)
theorem zqf{o:Op}(h:isPl o=true):isB o=true:=by cases o<;>first|(simp[isPl]at h;done)|rfl|exact h
theorem zlM{listed:Array Bool}{i:Nat}(h:okPs ops listed i=true):∃oi,ops[i]?=some oi/\i∈Region.ready .any ops listed/\isPl oi.op=true/\
  ∀j oj,ops[j]?=some oj->j≠i->listed.getD j true=false->(behs i ops.toList []).getD j false=false->oi.apart ops oj=true/\(isB oj.op||isAl oj.op||isSt oj.op)=true:=by
 unfold okPs at h
 cases hi:ops[i]? with
 |none=>simp[hi]at h
 |some oi=>
 simp only[hi,jP]at h
 refine⟨oi,rfl,by simpa using h.1,h.2.1,fun j oj hj hne hun hbe=>?_⟩
 have h3:=jC.1 h.2.2 j (kK.2 (jB.1 hj).1)
 simp only[hj,jX,hun,hbe,qT,jbs,jP]at h3
 rcases h3 with h3|⟨h3,h4⟩
 ·exact absurd (jA h3) hne
 exact⟨h3,by simpa using h4⟩
theorem zlN{listed:Array Bool}{i:Nat}(h:okPl ops listed i=true):∃oi,ops[i]?=some oi/\i∈Region.ready .any ops listed/\isPl oi.op=true/\
  ∀j oj,ops[j]?=some oj->j≠i->listed.getD j true=false->(behs i ops.toList []).getD j false=false->oi.apart ops oj=true/\((isB oj.op||isAl oj.op)=true\/(isAp oj.op=true/\oj.guard=none)):=by
 unfold okPl at h
 cases hi:ops[i]? with
 |none=>simp[hi]at h
 |some oi=>
 simp only[hi,jP]at h
 refine⟨oi,rfl,by simpa using h.1,h.2.1,fun j oj hj hne hun hbe=>?_⟩
 have h3:=jC.1 h.2.2 j (kK.2 (jB.1 hj).1)
 simp only[hj,jX,hun,hbe,qT,jbs,jP]at h3
 rcases h3 with h3|⟨h3,h4⟩
 ·exact absurd (jA h3) hne
 refine⟨h3,?_⟩
 rcases h4 with h4|h4
 ·exact .inl (by simpa using h4)
 exact .inr ⟨h4.1.1,by simpa using h4.1.2⟩
theorem ziw{off:Nat}{v w:AV}(h:addOff off v=some w):∀b∈w.refs,b∈v.refs:=fun b hb=>by
 unfold addOff at h
 cases v with
 |box i o=>simp only[AV.asPtr,addOffP,jO]at h;subst h;exact hb
 |elt i k n c=>simp only[AV.asPtr,addOffP,jO]at h;subst h;exact hb
 |roe m f=>
  simp only[AV.asPtr,addOffP]at h
  cases hh:Nat.ble off m<;>simp[hh]at h
  subst h;cases hb
 |d x=>
  cases x<;>simp only[AV.asPtr,addOffP]at h<;>first|(cases h;done)|skip
  rename_i m f
  cases hh:Nat.ble off m<;>simp[hh]at h
  subst h;cases hb
 | _=>simp[AV.asPtr,addOffP]at h
theorem iv_of{s:St}{o:Oper}{v:AV}(h:plainB s ops.toList o=true)(hr:isMv o.op=true\/isFa o.op=true\/v.refs=[])(hy:valD P T E s o.op fun u=>u=v):Iv P T E ops o s v:=by
 unfold plainB at h
 simp only[jP,jX]at h
 obtain⟨hg,h⟩:=h
 have hg:o.guard=none:=by simpa using hg
 refine⟨.inl ⟨by unfold gd;rw[hg],hy⟩,?_⟩
 rcases h with hmv|h
 ·exact .inl ⟨hmv,hg⟩
 by_cases hmv:isMv o.op=true
 ·exact .inl ⟨hmv,hg⟩
 refine .inr (.inl ⟨hg,fun x hx b hb=>?_,fun b hb=>?_⟩)
 ·have h2:=jC.1 h x (by simpa using hx)
  unfold plainV at h2
  cases hv:(ev s x).refs with
  |nil=>rw[hv]at hb;cases hb
  |cons c r=>
  cases r with
  |cons d r=>simp[hv]at h2
  |nil=>
  rw[hv]at hb
  obtain rfl:b=c:=by simpa using hb
  simp only[hv,jP]at h2
  refine⟨fun p hp e=>?_,?_⟩
  ·have:=jC.1 h2.1 p hp
   rw[e]at this
   simp[zay]at this
  cases ho:s.ob b with
  |none=>simp[ho]at h2
  |some o'=>
  cases o' with
  |row e k n f=>simp[ho]at h2
  |mp m ks f=>simp[ho]at h2
  |box cs=>
  simp only[ho]at h2
  exact⟨cs,rfl,fun c hc=>by have:=jC.1 h2.2 c hc;simpa using this⟩
 rcases hr with hr|hfa|hr
 ·exact absurd hr hmv
 ·obtain⟨dst,op,type,pos,after,guard⟩:=o
  cases op<;>first|(simp[isFa]at hfa;done)|skip
  rename_i st x fld _
  have hy:fieldAddrE T st fld (ev s x) fun u=>u=v:=hy
  refine⟨x,by simp[Op.operands],?_⟩
  unfold fieldAddrE at hy
  split at hy
  ·split at hy
   ·split at hy
    ·rename_i h1
     rename_i w _ _
     simp only[cond_eq_ite]at hy
     split at hy
     ·exact hy.elim
     subst hy;exact ziw ‹addOff _ _=some _› b hb
    exact hy.elim
   exact hy.elim
  exact hy.elim
 rw[hr]at hb;cases hb
theorem zfV{s:St}{b:Nat}(h:lnB s ops.toList b=true):(∀p∈ops.toList,p.dst≠some b)/\∃cs,s.ob b=some (.box cs):=by
 unfold lnB at h
 rw[jP]at h
 refine⟨fun p hp e=>?_,?_⟩
 ·have:=jC.1 h.1 p hp
  rw[e]at this
  simp[zay]at this
 cases ho:s.ob b with
 |none=>simp[ho]at h
 |some o=>
 cases o with
 |box cs=>exact⟨cs,rfl⟩
 | _=>simp[ho]at h
theorem iv_ld{s:St}{o:Oper}{v:AV}(h:ldB T s ops.toList o=true)(hy:valD P T E s o.op fun u=>u=v):Iv P T E ops o s v:=by
 have:Ldo T ops s o v:=by
  unfold ldB at h
  rw[jP]at h
  obtain⟨hg,h⟩:=h
  have hg:o.guard=none:=by simpa using hg
  obtain⟨dst,op,type,pos,after,guard⟩:=o
  cases op with
  |load t x=>
   have hy:opE P T E s (.load t x) fun u=>u=v:=hy
   simp only at h
   cases ht:T t with
   |none=>simp[ht]at h
   |some ti=>
    cases hv:ev s x with
    |box b off=>
     simp only[ht,hv,jP]at h
     obtain⟨h1,cs,h2⟩:=zfV h.2
     have ha:ti.agg=false:=by simpa using h.1
     simp only[opE,ht,loadE,hv,AV.asPtr,loadP,h2,ha]at hy
     refine⟨hg,x,b,off,cs,rfl,hv,h1,h2,.inl ⟨t,ti,rfl,ht,ha,?_⟩⟩
     cases hn:nth cs off with
     |none=>simp[hn]at hy
     |some c=>simp only[hn]at hy;rw[hy]
    | _=>simp[ht,hv]at h
  |nilCheck x=>
   have hy:opE P T E s (.nilCheck x) fun u=>u=v:=hy
   simp only[opE]at hy
   simp only at h
   cases hv:ev s x with
   |box b off=>
    simp only[hv]at h
    obtain⟨h1,cs,h2⟩:=zfV h
    rw[hv]at hy
    exact⟨hg,x,b,off,cs,rfl,hv,h1,h2,.inr (.inl ⟨rfl,hy.symm⟩)⟩
   | _=>simp[hv]at h
  |fieldAddr st x fld=>
   have hy:opE P T E s (.fieldAddr st x fld) fun u=>u=v:=hy
   simp only[opE]at hy
   simp only at h
   cases hv:ev s x with
   |box b off=>
    simp only[hv]at h
    obtain⟨h1,cs,h2⟩:=zfV h
    rw[hv]at hy
    have hf:=hy
    have:∃off',v= .box b off':=by
     unfold fieldAddrE at hy
     split at hy
     ·split at hy
      ·split at hy
       ·rename_i fi v' _ hq
        have hq:some (AV.box b (off+_))=some v':=hq
        simp only[cond_eq_ite]at hy
        split at hy
        ·exact hy.elim
        exact⟨_,by rw[<- hy,<- jak hq]⟩
       exact hy.elim
      exact hy.elim
     exact hy.elim
    obtain⟨off',e⟩:=this
    exact⟨hg,x,b,off,cs,rfl,hv,h1,h2,.inr (.inr ⟨st,fld,off',rfl,e,hf⟩)⟩
   | _=>simp[hv]at h
  | _=>simp at h
 exact⟨this.yl,.inr (.inr this)⟩
theorem zbb{ow:Bool}{Q:St->Prop}:∀(l:List Nat) (listed:Array Bool) (s:St),Closed ops listed->drawFrom ow ops l listed=true->runD P T E ops.toList l s Q->anyA ow P T E ops Q l.length listed s
 | [],listed,s,_,hB,h=>⟨by simpa [drawFrom]using hB,h⟩
 |k::l,listed,s,hcl,hB,h=>by
  unfold drawFrom at hB
  rw[zk8]at h
  cases hkk:Nat.ble 1000 k with
  |true=>
   simp only[hkk]at hB h
   cases hk2:Nat.ble 2000 k with
   |true=>
    cases hk3:Nat.ble 3000 k with
    |true=>
     cases hk4:Nat.ble 4000 k with
     |true=>
      cases hk5:Nat.ble 5000 k with
      |true=>
       cases hk6:Nat.ble 6000 k with
       |true=>
        simp only[hk2,hk3,hk4,hk5,hk6,jP]at hB h
        obtain⟨how,hok,hB'⟩:=hB
        unfold okW at hok
        cases h0:ops[k-6000]? with
        |none=>simp[h0]at hok
        |some o=>
         simp only[h0,jP]at hok
         obtain⟨⟨c1,c2⟩,c3⟩:=hok
         have hr:k-6000∈Region.ready .any ops listed:=by simpa using c1
         have hn:nth ops.toList (k-6000)=some o:=by rw[zau];simpa using h0
         simp only[hn]at h
         refine .inl ⟨fun hn=>(by rw[hn]at hr;cases hr),fun j hj=>?_⟩
         have hjk:=jA (jC.1 c2 j hj)
         rw[hjk]
         obtain⟨fo,args,at',f,ex,d,h3,h4,h5,h6,h7⟩:=h
         refine .inr ⟨how,o,h0,by simpa using c3,⟨fo,args,at',f,ex,d,h3,h4,h5,h6,?_⟩⟩
         rw[zar]at h7⊢
         obtain⟨xs,e,m,n,g,r,g1,g2,g3,g4⟩:=h7
         exact⟨xs,e,m,n,g,r,g1,g2,g3,zbb l _ _ (hcl.step hr) hB' (zaP g4)⟩
       |false=>
       simp only[hk2,hk3,hk4,hk5,hk6,jP]at hB h
       obtain⟨hok,hB'⟩:=hB
       unfold okY at hok
       cases h0:ops[k-5000]? with
       |none=>simp[h0]at hok
       |some o=>
        simp only[h0,jP]at hok
        obtain⟨⟨⟨c1,c2⟩,c3⟩,c4⟩:=hok
        have hr:k-5000∈Region.ready .any ops listed:=by simpa using c1
        have hn:nth ops.toList (k-5000)=some o:=by rw[zau];simpa using h0
        simp only[hn]at h
        obtain⟨ids,h⟩:=h
        exact .inr ⟨_,o,hr,fun j hj=>jA (jC.1 c2 j hj),c4,h0,by simpa using c3,ids,zfu P T E _ o _ _ (fun s' h'=>zbb l _ s' (hcl.step hr) hB' (zaP h')) (zdR h)⟩
      |false=>
      simp only[hk2,hk3,hk4,hk5,jP,jY]at hB h
      obtain⟨how,hok,hB'⟩:=hB
      subst how
      obtain⟨o,h0,hr,hpl,hfree⟩:=zlM hok
      have hn:nth ops.toList (k-4000)=some o:=by rw[zau];simpa using h0
      simp only[hn]at h
      obtain⟨hnr,h⟩:=h
      have hb:=zqf hpl
      have h:=zb8 h
      simp only[stD,hb]at h
      obtain⟨v,h1,h2⟩:=(zb6 P T E s o.op _).1 h
      unfold noRefsB at hnr
      simp only[jP]at hnr
      have hng:o.guard=none:=by simpa using hnr.1
      have href:∀x∈o.op.operands,(ev s x).refs=[]:=fun x hx=>by
       have:=jC.1 hnr.2 x (by simpa using hx)
       simpa using this
      exact zir h0 hpl hb l.length listed s hcl hfree hr href (.inl ⟨by unfold gd;rw[hng],h1⟩) (zbb l _ _ (hcl.step hr) hB' h2)
     |false=>
     simp only[hk2,hk3,hk4,jP]at hB h
     obtain⟨hok,hB'⟩:=hB
     unfold okY at hok
     cases h0:ops[k-3000]? with
     |none=>simp[h0]at hok
     |some o=>
      simp only[h0,jP]at hok
      obtain⟨⟨⟨c1,c2⟩,c3⟩,c4⟩:=hok
      have hr:k-3000∈Region.ready .any ops listed:=by simpa using c1
      have hn:nth ops.toList (k-3000)=some o:=by rw[zau];simpa using h0
      simp only[hn]at h
      exact .inr ⟨_,o,hr,fun j hj=>jA (jC.1 c2 j hj),c4,h0,by simpa using c3,[],zfu P T E s o _ _ (fun s' h'=>zbb l _ s' (hcl.step hr) hB' (zaP h')) (zdR h)⟩
    |false=>
    simp only[hk2,hk3,jP,jY]at hB h
    obtain⟨how,hok,hB'⟩:=hB
    subst how
    rw[jX]at hok
    rcases hok with hok|hok
    rotate_left
    ·obtain⟨o,h0,hr,hg,hap,hfree⟩:=zkd hok
     have hn:nth ops.toList (k-2000)=some o:=by rw[zau];simpa using h0
     simp only[hn]at h
     have hgd:gd s ops o=some true:=by unfold gd;rw[hg]
     refine zis h0 hg hap l.length listed s hcl hfree hr ?_
     unfold opG stG
     simp only[h0,hgd]
     exact zhw P T E s o _ _ (fun s' h'=>zbb l _ s' (hcl.step hr) hB' h') (zb8 h.2)
    obtain⟨o,h0,hr,hg,hao,hfree⟩:=zlP hok
    have hn:nth ops.toList (k-2000)=some o:=by rw[zau];simpa using h0
    simp only[hn]at h
    obtain⟨hnr,h⟩:=h
    have h:=zb8 h
    cases hd:o.dst with
    |none=>exact(ziq hao hd h).elim
    |some d=>
     rcases ao_made (P:=P) (T:=T) (E:=E) hao hd with⟨O',V',hv,hu',ho',hm⟩|hno
     ·obtain⟨hob,h⟩:=(hm _ _).1 h
      exact zit h0 hg hd hv ho' hm l.length listed s hcl hfree hr hob (zor hd hnr) (zbb l _ _ (hcl.step hr) hB' h)
     ·exact(hno _ _ h).elim
   |false=>
   simp only[hk2,jP]at hB h
   obtain⟨hok,hB'⟩:=hB
   obtain⟨o,h0,hr,hpl,hfree⟩:=zlN hok
   have hn:nth ops.toList (k-1000)=some o:=by rw[zau];simpa using h0
   simp only[hn]at h
   obtain⟨hpb,h⟩:=h
   have hb:=zqf hpl
   have h:=zb8 h
   simp only[stD,hb]at h
   obtain⟨v,h1,h2,h3⟩:=(zb6 P T E s o.op _).1 h
   by_cases hld:ldB T s ops.toList o=true
   ·exact zez h0 hpl hb l.length listed s v hcl hfree hr (iv_ld hld h1) (zbb l _ _ (hcl.step hr) hB' h3)
   have hld:ldB T s ops.toList o=false:=by simpa using hld
   rw[hld,qZ]at hpb
   rw[hld,jaC]at h2
   have hng:o.guard=none:=by
    unfold plainB at hpb
    simp only[jP]at hpb
    simpa using hpb.1
   have hres:isMv o.op=true\/isFa o.op=true\/v.refs=[]:=by
    unfold resB at h2
    rw[jX,jX]at h2
    rcases h2 with(h2|h2)|h2
    ·exact .inl h2
    ·exact .inr (.inl h2)
    refine .inr (.inr ?_)
    cases hd:o.dst with
    |none=>simp[hd]at h2
    |some d=>
    simp only[hd]at h2
    have:(s.putO (some d) v).sl d=v:=zac _ _ _
    rw[this]at h2
    simpa using h2
   refine zez h0 hpl hb l.length listed s v hcl hfree hr (iv_of hpb hres h1) ?_
   exact zbb l _ _ (hcl.step hr) hB' h3
  |false=>
  simp only[hkk,jP]at hB h
  obtain⟨hok,hB'⟩:=hB
  obtain⟨o,h0,hr,hcls⟩:=zkc hok
  have hn:nth ops.toList k=some o:=by rw[zau];simpa using h0
  simp only[hn]at h
  have step:(gd s ops o=some true/\stD P T E s o fun s'=>splitAt ops.toList k o.dst s' fun s'=>runD P T E ops.toList l s' Q)\/(gd s ops o=some false/\runD P T E ops.toList l (s.putO o.dst .undef) Q):=by
   unfold gd
   cases hg:o.guard with
   |none=>simp only[hg]at h;exact .inl ⟨rfl,zb8 h⟩
   |some p=>
   obtain⟨j,want⟩:=p
   simp only[hg]at h
   cases hv:gval s ops.toList j with
   |d q=>
    cases q with
    |bool b=>
     simp only[hv]at h
     cases hbw:(b==want)with
     |true=>simp only[hbw]at h;exact .inl ⟨by simp[hv,hbw],zb8 h⟩
     |false=>simp only[hbw]at h;exact .inr ⟨by simp[hv,hbw],h⟩
    | _=>simp[hv]at h
   |undef=>simp only[hv]at h;exact .inr ⟨by simp[hv],h⟩
   | _=>simp[hv]at h
  have onw:∀s',runD P T E ops.toList l s' Q->anyA ow P T E ops Q l.length (listed.setIfInBounds k true) s':=fun s' h'=>zbb l _ s' (hcl.step hr) hB' h'
  rcases hcls with⟨hb,hfree⟩|honly
  ·rcases step with⟨hg,hst⟩|⟨hg,hst⟩
   ·simp only[stD,hb]at hst
    obtain⟨v,h1,h2⟩:=(zb6 P T E s o.op _).1 hst
    exact zfi h0 hb l.length listed s hcl hfree hr (.inl ⟨hg,h1⟩) (onw _ (zaP h2))
   exact zfi h0 hb l.length listed s hcl hfree hr (.inr ⟨hg,rfl⟩) (onw _ hst)
  refine .inl ⟨fun hn=>(by rw[hn]at hr;cases hr),fun j hj=>?_⟩
  have:=honly j hj
  subst this
  refine .inl ?_
  unfold opG stG
  simp only[h0]
  rcases step with⟨hg,hst⟩|⟨hg,hst⟩
  ·simp only[hg]
   exact zhw P T E s o _ _ (fun s' h'=>onw s' (zaP h')) hst
  simp only[hg]
  exact onw _ hst
variable (hT:∀t i,T t=some i->TI.of P t=some i)(hE:∀t,E.eq t=true->EqFact P t)
include hT hE
variable (hD:cx.dr=true->E.dr=true)
include hD
theorem zqD(h:RG cx γ s a w){o:Oper}{K:AV->Prop}(hd:∀d,o.dst=some d->d<cx.N)(hl:valD P T E s o.op K):
  OpOK P o a w fun a' w'=>∃v,R cx (s.putO o.dst v) a' w'/\K v:=by
 obtain⟨dst,op,type,pos,after,guard⟩:=o
 cases op with
 |buildSlice t len parts=>
  have hl':buildSliceE T s t len parts.toList (fun _ ei f=>K (.d (.slc ei.size len f))):=hl
  obtain⟨e,ei,f,xs,hK,h1,h2,h3,h4,h5,h6⟩:=zaO hT h hl'
  have hg:=h.grow (zaq w (.cells xs.toArray e)) (fun _=>jE _)
  have hrep:Rep (w.alloc (.cells xs.toArray e)) (okOf cx s γ (w.alloc (.cells xs.toArray e))) (.slc ei.size len f) (.slice (some ⟨w.heap.size,0,none⟩) len len):=by
   refine .inr ⟨⟨w.heap.size,0,none⟩,len,rfl,jE _,by simp only[maxLen];omega,fun i hi j hj=>?_⟩
   obtain⟨u,hu,hr⟩:=h6 i hi j hj
   refine⟨.inr ⟨.inl h.below.size,by simp,fun p o ho e'=>?_⟩,u,?_,Rep.keep (fun b hb=>⟨?_,(zaq w _).block b (zal h hb)⟩) hr⟩
   ·have:=(zax h ho e').2
    exact absurd this (by simp)
   ·rw[zaw,qB]
    have:=heap_alloc_new w (.cells xs.toArray e)
    simp only[World.cell?,this];simpa using hu
   exact zfQ h (zaq w _) b (.inl hb)
  refine .value (x:=.slice (some ⟨w.heap.size,0,none⟩) len len) (w':=w.alloc (.cells xs.toArray e)) (by simp[execOp,h1]) ⟨.d (.slc ei.size len f),⟨γ,hg.putO (v:=.d (.slc ei.size len f)) hd hrep (fun j hj=>by simp[AV.refs]at hj)⟩,hK⟩
 |build t parts=>
  simp only[valD]at hl
  cases hb:(parts.toList.any fun p=>isOid (ev s p.2))with
  |true=>
   simp only[hb]at hl
   exact((zds hT h hl).ok (o:=⟨dst,.build t parts,type,pos,after,guard⟩) h hd fun z w' hz=>by simp[execOp,hz]).mono fun a' w' ⟨v,h1,h2⟩=>⟨v,⟨γ,h1⟩,h2⟩
  |false=>simp only[hb]at hl;exact(zlK hT hE hD h hd hl).mono fun a' w' ⟨v,h1,h2⟩=>⟨v,⟨γ,h1⟩,h2⟩
 |lookup t x i ok=>
  have hl:lookE P T s t (ev s x) (ev s i) ok K:=hl
  obtain⟨z,u,h1,h2,h3,h4⟩:=zjg hT h (ev_m h x).1 (ev_m h i).1 hl
  exact .value (x:=z) (w':=w) (by simp[execOp,h1]) ⟨u,⟨γ,h.putO (v:=u) hd h2 (fun j hj=>by rw[h3]at hj;cases hj)⟩,h4⟩
 | _=>exact(zlK hT hE hD h hd hl).mono fun a' w' ⟨v,h1,h2⟩=>⟨v,⟨γ,h1⟩,h2⟩
theorem zs7(h0:R cx s a w){o:Oper}(hd:∀d,o.dst=some d->d<cx.N){K:St->Prop}(hl:stD P T E s o K):OpOK P o a w fun a' w'=>∃s',R cx s' a' w'/\K s':=by
 unfold stD at hl
 cases hb:isB o.op with
 |true=>
  simp only[hb]at hl
  obtain⟨γ,h⟩:=h0
  exact(zqD hT hE hD h hd hl).mono fun a' w' ⟨v,h1,h2⟩=>⟨_,h1,h2⟩
 |false=>
 simp only[hb]at hl
 split at hl
 ·split at hl
  ·exact zhv hT hE hD h0 hd (fun fo args at' hop=>by simp[hop,isB]at*) hl
  exact hl.elim
 exact zhv hT hE hD h0 hd (fun fo args at' hop=>by simp[hop,isB]at*) hl
theorem ztQ(hF:FW F)(hN:dstsOK cx.N ops.toList=true){Q:Exit->Act->World->Prop}{i:Nat}{K:St->Prop}(h:R cx s a w)(hl:opG P T E ops i K s):
  wpOpIn F n P ops Q i (fun a' w'=>∃s',R cx s' a' w'/\K s') a w:=by
 unfold wpOpIn
 unfold opG at hl
 cases hi:ops[i]? with
 |none=>simp only[hi]at hl⊢;exact⟨s,h,hl⟩
 |some o=>
 simp only[hi]at hl⊢
 have hd:=zcg hN (o:=o) (by simpa using jaP hi)
 unfold stG at hl
 have go:stD P T E s o K->o.wpIn F n P a w (fun a' w'=>∃s',R cx s' a' w'/\K s') Q:=fun hl=>OpOK.wpIn hF (zs7 hT hE hD h hd hl)
 have no:K (s.putO o.dst .undef)->(∀f,o.about P w a.eval=some f->F.fn f)/\∃s',R cx s' (a.put o.dst Go.undef) w/\K s':=fun hl=>⟨fun f _=>hF.fn f,_,zgH h hd,hl⟩
 unfold gd at hl
 cases hg:o.guard with
 |none=>
  have:Region.wanted o (yielded ops a.tmps)=true:=by simp[Region.wanted,hg]
  simp only[this,jbe]
  simp only[hg]at hl
  exact go hl
 |some p=>
 obtain⟨j,want⟩:=p
 simp only[hg]at hl
 cases hv:gval s ops.toList j with
 |d q=>
  cases q with
  |bool b=>
   have hy:=zeM (Fm:=(·=cx)) ⟨_,rfl,h⟩ hv
   cases hbw:(b==want)with
   |true=>
    have hw:Region.wanted o (yielded ops a.tmps)=true:=by
     have:b=want:=by simpa using hbw
     simp[Region.wanted,hg,hy,this]
    simp only[hw,jbe]
    simp only[hv,hbw]at hl
    exact go hl
   |false=>
    have hw:Region.wanted o (yielded ops a.tmps)=false:=by
     have:b≠want:=by simpa using hbw
     simp[Region.wanted,hg,hy,this]
    simp only[hw,qT,jaG]
    simp only[hv,hbw]at hl
    exact no hl
  | _=>simp[hv]at hl
 |undef=>
  simp only[hv]at hl
  have hy:=zdO (Fm:=(·=cx)) ⟨_,rfl,h⟩ hv
  have hw:Region.wanted o (yielded ops a.tmps)=false:=by simp[Region.wanted,hg,hy]
  simp only[hw,qT,jaG]
  exact no hl
 | _=>simp[hv]at hl
variable {Fm:Cx->Prop}{N:Nat}(hNf:∀cx,Fm cx->cx.N=N)(hDf:∀cx,Fm cx->cx.dr=true->E.dr=true)(hY:YLaw Fm P E)
omit hD in
include hNf hDf hY in
theorem zgn{ow:Bool}(hF:FW F)(hN:dstsOK N ops.toList=true){Q:Exit->Act->World->Prop}{K:St->Prop}(hQ:∀s a w,RF Fm s a w->K s->Q .normal a w):
  ∀(fuel:Nat) (listed:Array Bool) {s:St}{a:Act}{w:World},RF Fm s a w->anyA ow P T E ops K fuel listed s->wpAnyIn F n P .any ops Q fuel listed a w
 |0,_,_,_,_,h,hl=>⟨hl.1,hQ _ _ _ h hl.2⟩
 |fuel+1,listed,_,_,_,h,hl=>by
  rcases hl with hl|⟨y,o,h1,h2,h3,h4,h5,ids,h6⟩
  ·refine⟨fun h0=>hQ _ _ _ h (hl.1 h0),fun i hi=>?_⟩
   obtain⟨cx,hcx,h⟩:=h
   rcases hl.2 i hi with hop|⟨-,o,h4,h5,hop⟩
   ·exact wpOpIn_mono (fun a' w' ⟨s',h1,h2⟩=>zgn hF hN hQ fuel _ ⟨cx,hcx,h1⟩ h2) (ztQ hT hE (hDf cx hcx) hF (by rw[hNf cx hcx];exact hN) h hop)
   unfold wpOpIn
   have hw:∀ys,Region.wanted o ys=true:=fun ys=>by simp[Region.wanted,h5]
   simp only[h4,hw,jbe]
   have hd:=zcg hN (o:=o) (by simpa using jaP h4)
   obtain⟨fo,args,at',f,ex,d,q3,q4,q5,q6,q7⟩:=hop
   obtain⟨γ,hg⟩:=h
   obtain⟨caps,hf,hc⟩:=za1 q6 (ev_m hg fo).1
   have ho:=zi6 hg q4 (hDf cx hcx) ((zbN hg args.toList).append hc) (by rw[hNf cx hcx];exact hd d q4) q7
   refine OpOK.wpIn hF (.enter (zaD q3 hf ho.1) (ho.2.mono fun e w' ⟨v,e1,ob,r,e2,e3⟩=>⟨v,e1,zgn hF hN hQ fuel _ ⟨cx,hcx,e2⟩ e3⟩))
  refine⟨fun h0=>(by rw[h0]at h1;cases h1),fun i hi=>?_⟩
  have:=h2 i hi
  subst this
  unfold wpOpIn
  have hw:∀ys,Region.wanted o ys=true:=fun ys=>by simp[Region.wanted,h5]
  simp only[h4,hw,jbe]
  have hd:=zcg hN (o:=o) (by simpa using jaP h4)
  have h:RF Fm _ _ _:=(by obtain⟨cx,hcx,h⟩:=h;exact⟨cx,hcx,R.freezes ids h⟩)
  exact OpOK.wpIn hF ((zpJ hT hE hNf hDf hY h hd h6).mono fun a' w' ⟨s',h1,h2⟩=>zgn hF hN hQ fuel _ h1 h2)
omit hD in
include hNf hDf hY in
theorem zsj(hF:FW F)(hm:P.follows .mixedOrders=true){id:Nat}(hN:dstsOK N ops.toList=true){Q:Exit->Act->World->Prop}{K:St->Prop}(hQ:∀s a w,RF Fm s a w->K s->Q .normal a w)(h:RF Fm s a w)
  {ord:List Nat}(hB:drawB ops ord=true)(hl:runD P T E ops.toList ord s K):(Code.region id ops true).wpIn F n P Q a w:=by
 obtain⟨cx,hcx,γ,h⟩:=h
 simp only[drawB,jP]at hB
 refine wpIn_region_any hm (zgn (ow:=ord.any (Nat.ble 6000)) hT hE hNf hDf hY hF hN hQ ops.size (Array.replicate ops.size false) (s:=s) ⟨cx,hcx,γ,h.drew⟩ ?_)
 have:=zbb (ow:=ord.any (Nat.ble 6000)) (P:=P) (T:=T) (E:=E) (Q:=K) (ops:=ops) ord (Array.replicate ops.size false) s (Closed.start ops) hB.2 hl
 rwa [jA hB.1]at this
end
theorem za5{P:Program}{b:Frame}{a:Act}{k:List Item}{cs:List Frame}{w:World}{c:Code}:step P (lone (b.atR a (.code (.scope c)::k)) cs w)= .next (lone (b.atR a (.code c:: .inScope c::k)) cs w):=
 step_lone_go (by simp[stepG,stepG.exec,Frame.atR])
theorem zft{P:Program}{b:Frame}{a:Act}{k:List Item}{cs:List Frame}{w:World}{c:Code}:step P (lone (b.atR a (.inScope c::k)) cs w)= .next (lone (b.atR a k) cs w):=
 step_lone_go (by simp[stepG,stepG.exec,Frame.atR])
theorem zjW{F:Fence}{n:Nat}{P:Program}{c:Code}{Q:Exit->Act->World->Prop}{a:Act}{w:World}(h:c.wpIn F n P (fun e a w=>match e with| .goto _=>False|e=>Q e a w) a w):(Code.scope c).wpIn F n P Q a w:=by
 intro b k cs hro hb hr
 have h0:(lone (b.atR a (.code (.scope c)::k)) cs w).fenced P F:=fenced_calm hb hr rfl
 obtain⟨e,a₁,w₁,hq,harr⟩:=h b (.inScope c::k) cs hro hb hr
 cases e with
 |normal=>exact⟨.normal,a₁,w₁,hq,.head h0 za5 (StepsIn.trans harr (.one (fenced_calm hb hr rfl) zft))⟩
 |exit id=>
  have hx:exitTo id (.inScope c::k)=exitTo id k:=by simp[exitTo]
  exact⟨_,a₁,w₁,hq,fun k' hk=>.head h0 za5 (harr.1 k' (by rw[hx];exact hk)),
   fun hr' hk=>let ⟨k₁,h1,h2⟩:=harr.2 hr' (by rw[hx];exact hk);⟨k₁,h1,.head h0 za5 h2⟩⟩
 |goto l=>exact hq.elim
 |ret=>exact⟨_,a₁,w₁,hq,.of_steps (.one h0 za5) harr⟩
 |panic ch=>exact⟨_,a₁,w₁,hq,.of_steps (.one h0 za5) harr⟩
 |outgrown=>exact⟨_,a₁,w₁,hq,.of_steps (.one h0 za5) harr⟩
section
variable {P:Program}{T:TT}{E:Env}{cx:Cx}{F:Fence}{n:Nat}
variable (hT:∀t i,T t=some i->TI.of P t=some i)(hE:∀t,E.eq t=true->EqFact P t)
include hT hE
variable {Fm:Cx->Prop}{N:Nat}(hNf:∀cx,Fm cx->cx.N=N)(hD:∀cx,Fm cx->cx.dr=true->E.dr=true)(hY:YLaw Fm P E)(hFw:FW F)(hIt:∀cx,Fm cx->cx.nod=true->E.it=true)
include hNf hD hY hFw hIt
theorem zb5(hF:∀cx,Fm cx->FWc cx F)(hm:P.follows .mixedOrders=true):∀(c:Code),codeN N c=true->∀{K:KK}{Q:Exit->Act->World->Prop}{s:St}{a:Act}{w:World},
  (∀e s a w,RF Fm s a w->K e s->Q e a w)->RF Fm s a w->awp P T E c s K->c.wpIn F n P Q a w
 | .skip,_,_,_,_,_,_,hQ,h,hl=>wpIn_skip (hQ _ _ _ _ h hl)
 | .region id ops draw,hN,K,Q,s,a,w,hQ,h,hl=>by
  have main:∀{s:St},RF Fm s a w->(match(generalizing:=false) draw with
    |false=>runOps P T E ops.toList 0 ops.toList s (K .normal)
    |true=>∃ord,drawB ops ord=true/\FzOb s fun s=>runD P T E ops.toList ord s (K .normal))->(Code.region id ops draw).wpIn F n P Q a w:=fun {s} h hl=>by
   cases draw with
   |false=>exact zlc hT hE hNf hD hY hFw hN (hQ .normal) h hl
   |true=>obtain⟨ord,h1,⟨ids,h2⟩⟩:=hl;obtain⟨cx,hcx,h⟩:=h;exact zsj hT hE hNf hD hY (hF cx hcx).fw hm hN (hQ .normal) ⟨cx,hcx,R.freezes ids h⟩ h1 h2
  rw[zku]at hl
  cases hc:E.cut id with
  |false=>simp only[hc]at hl;exact main h hl
  |true=>
   simp only[hc]at hl
   obtain⟨sl,ob,hw,hk⟩:=hl.out
   obtain⟨cx,hcx,h⟩:=h
   exact main ⟨cx,hcx,h.weak hw⟩ hk
 | .seq x y,hN,K,Q,s,a,w,hQ,h,hl=>by
  simp only[codeN,jP]at hN
  refine wpIn_seq (zb5 hF hm x hN.1 (K:=fun e s'=>match e with| .normal=>awp P T E y s' K|e=>K e s') (fun e s a w hR hk=>?_) h hl)
  cases e with
  |normal=>exact zb5 hF hm y hN.2 hQ hR hk
  | _=>exact hQ _ _ _ _ hR hk
 | .cond c x y,hN,K,Q,s,a,w,hQ,h,hl=>by
  simp only[codeN,jP]at hN
  simp only[zps]at hl
  cases hv:ev s c with
  |d q=>
   cases q with
   |bool b=>
    simp only[hv]at hl
    have hs:=Split.out hl
    obtain⟨cx,hcx,γ,hg⟩:=h
    have hm':=(ev_m hg c).1
    rw[hv]at hm'
    have he:a.eval c= .bool b:=hm'
    refine wpIn_cond he ?_
    cases b with
    |true=>exact zb5 hF hm x hN.1 hQ ⟨cx,hcx,γ,hg⟩ hs
    |false=>exact zb5 hF hm y hN.2 hQ ⟨cx,hcx,γ,hg⟩ hs
   | _=>simp[hv]at hl
  | _=>simp[hv]at hl
 | .block id c,hN,K,Q,s,a,w,hQ,h,hl=>by
  refine wpIn_block (zb5 hF hm c hN (K:=fun e s'=>match e with
   | .exit j=>match Nat.beq j id with
    |true=>K .normal s'
    |false=>K (.exit j) s'
   |e=>K e s') (fun e s a w hR hk=>?_) h hl)
  cases e with
  |exit j=>
   simp only at hk
   cases hb:Nat.beq j id with
   |true=>
    have:=jA hb
    subst this
    simp only[hb]at hk
    simp only[Exit.inBlock,jbe]
    exact hQ _ _ _ _ hR hk
   |false=>
    have:j≠id:=Nat.ne_of_beq_eq_false hb
    simp only[hb]at hk
    simp only[Exit.inBlock,this,jaG]
    exact hQ _ _ _ _ hR hk
  | _=>exact hQ _ _ _ _ hR hk
 | .loop c,hN,K,Q,s,a,w,hQ,h,hl=>by
  have hl':LoopOb (fun s K=>awp P T E c s K) s K:=hl
  simp only[zfj]at hl'
  obtain⟨σ,S,Inv,μ,x0,hw,hi,hr⟩:=hl'
  refine wpIn_loop_ghost (fun m a w=>∃x,Inv x/\μ x=m/\RF Fm (St.of (S x).1 (S x).2) a w) (μ x0) ⟨x0,hi,rfl,by obtain⟨cx,hcx,h⟩:=h;exact⟨cx,hcx,h.weak hw⟩⟩ fun m a w ⟨x,hx,hm',hR⟩=>?_
  refine zb5 hF hm c hN (K:=fun e s'=>match e with
   | .normal=>∃x',Weak s' (S x').1 (S x').2/\Inv x'/\μ x'<μ x
   |e=>K e s') (fun e s a w hR hk=>?_) hR (hr x hx)
  cases e with
  |normal=>
   obtain⟨x',h1,h2,h3⟩:=hk
   exact⟨μ x',hm'▸h3,x',h2,rfl,by obtain⟨cx,hcx,hR⟩:=hR;exact⟨cx,hcx,hR.weak h1⟩⟩
  | _=>exact hQ _ _ _ _ hR hk
 | .exit id,_,_,_,_,_,_,hQ,h,hl=>wpIn_exit (hQ _ _ _ _ h hl)
 | .ret,_,_,_,_,_,_,hQ,h,hl=>wpIn_ret (hQ _ _ _ _ h hl)
 | .label l,_,_,_,_,_,_,hQ,h,hl=>wpIn_label (hQ _ _ _ _ h hl)
 | .rangeFunc f ps as body,hN,K,Q,s,a,w,hQ,h,hl=>by
  have hl':CodeOb E.dr E.it P (.rangeFunc f ps as body) s K:=hl
  simp only[zdi]at hl'
  obtain⟨cx,hcx,h⟩:=h
  exact wpIn_mono (hl' cx F n a w (hD cx hcx) (hIt cx hcx) (hF cx hcx) (by rw[hNf cx hcx];exact hN) h) fun e a w ⟨s',h1,h2⟩=>hQ _ _ _ _ ⟨cx,hcx,h1⟩ h2
 | .scope c,hN,K,Q,s,a,w,hQ,h,hl=>by
  refine zjW (zb5 hF hm c hN (K:=fun e s'=>match e with
   | .goto _=>False
   |e=>K e s') (fun e s a w hR hk=>?_) h hl)
  cases e with
  |goto l=>exact hk.elim
  | _=>exact hQ _ _ _ _ hR hk
 | .goto l,hN,K,Q,s,a,w,hQ,h,hl=>by
  have hl':CodeOb E.dr E.it P (.goto l) s K:=hl
  simp only[zdi]at hl'
  obtain⟨cx,hcx,h⟩:=h
  exact wpIn_mono (hl' cx F n a w (hD cx hcx) (hIt cx hcx) (hF cx hcx) (by rw[hNf cx hcx];exact hN) h) fun e a w ⟨s',h1,h2⟩=>hQ _ _ _ _ ⟨cx,hcx,h1⟩ h2
 | .refuse _,_,_,_,_,_,_,_,_,hl=>hl.elim
end
def okEnd(cx:Cx)(w:World)(b:Nat):Prop:=cx.okA b\/(cx.O b/\b<w.heap.size)
def cx0(d:Bool)(w:World)(ok:Nat->Prop)(N:Nat):Cx:=⟨w,ok,N,fun _=>False,fun _ _=>False,0,d,none,false⟩
theorem bel0{d:Bool}{w w':World}{ok:Nat->Prop}{N:Nat}(h:Bel (cx0 d w ok N) w'):Below w.heap.size w w':=⟨h.os,h.tape,h.output,h.size,fun k hk=>h.block k hk id⟩
theorem ztW{d:Bool}{w w':World}{ok:Nat->Prop}{N b:Nat}(h:okEnd (cx0 d w ok N) w' b):ok b\/(w.heap.size<=b/\b<w'.heap.size):=h.imp id fun⟨h1,h2⟩=>⟨h1.elim id False.elim,h2⟩
theorem RG.defs{cx:Cx}{γ:Nat->Value}{s:St}{a:Act}{w:World}(h:RG cx γ s a w){ds:List Deferred}(hd:Marks cx w ds):RG cx γ s { a with defers:=ds } w:=
 ⟨hd,h.size,h.okA,h.lent,h.below,h.hold,h.least,h.objs,h.refs,h.sep,h.slots,h.srefs,h.gho,h.ng⟩
theorem zgP:∀{l m:List Nat},l.map mark=m.map mark->l=m
 | [],[],_=>rfl
 |x::l,y::m,h=>by
  simp only[kY,jas]at h
  have:x=y:=by have:=h.1;simp only[mark,Deferred.mk.injEq,Target.collected.injEq,and_true]at this;exact this
  rw[this,zgP h.2]
 | [],_::_,h=>by simp at h
 | _::_,[],h=>by simp at h
theorem R.take{cx:Cx}{s:St}{a:Act}{w:World}(hh:∀k o,¬cx.hold k o){D:Nat}{ms:List Nat}(h:R cx s { a with defers:=mark D::ms.map mark } w):
  w.heap[D]?=some (.deferred (some []))/\R cx s { a with defers:=ms.map mark } (w.putObj D (.deferred none)):=by
 obtain⟨γ,h⟩:=h
 obtain⟨h0,ms',h1,h2,h3⟩:=h.defers
 have h1':(D::ms).map mark=ms'.map mark:=h1
 obtain rfl:=zgP h1'
 have hD:=h3 D (by simp)
 refine⟨hD.2,γ,?_⟩
 have h4:RG cx γ s { a with defers:=ms.map mark } w:=RG.defs (a:={ a with defers:=mark D::ms.map mark }) h ⟨(fun e=>by cases h0 e),ms,rfl,(wI.1 h2).2,fun E hE=>h3 E (by simp[hE])⟩
 refine h4.other (grownBy_putObj' w D _) (fun _=>jE _) hD.2 rfl (fun _ _ e=>by cases e) (fun hm=>?_) (fun p=>hh D p) hD.1
 obtain⟨E,hE,he⟩:=kJ.1 hm
 have:E=D:=by simp only[mark,Deferred.mk.injEq,Target.collected.injEq,and_true]at he;exact he
 subst this
 exact(wI.1 h2).1 hE
theorem zgR{cx:Cx}{s:St}{a:Act}{P:Program}{fn:Func}{F:Fence}{n:Nat}{Rp:Ending->World->Prop}(hh:∀k o,¬cx.hold k o)
  (hQ:∀w',R cx s { a with defers:=[] } w'->∃v,(results fn a.tmps).run P w'= .ok v w'/\Rp (.returned v) w'):∀(ms:List Nat) (w:World),R cx s { a with defers:=ms.map mark } w->LeavesInM F n P fn a.tmps Rp (ms.map mark) .returning w
 | [],w,h=>hQ w h
 |D::ms,w,h=>by
  obtain⟨h1,h2⟩:=R.take hh h
  exact⟨by simp,.inl ⟨D,_,rfl,run_takeDeferred h1,zgR hh hQ ms _ h2⟩⟩
theorem zjh{cx:Cx}{s:St}{a:Act}{w:World}{P:Program}{fn:Func}{F:Fence}{n:Nat}{Rp:Ending->World->Prop}(hh:∀k o,¬cx.hold k o)(h:R cx s a w)
  (hQ:∀w',R cx s { a with defers:=[] } w'->∃v,(results fn a.tmps).run P w'= .ok v w'/\Rp (.returned v) w'):LeavesInM F n P fn a.tmps Rp a.defers .returning w:=by
 obtain⟨γ,h'⟩:=id h
 obtain⟨_,ms,h1,_⟩:=h'.defers
 rw[h1]
 refine zgR hh hQ ms w ?_
 rw[<- h1];exact h
theorem zfR{cx:Cx}{s:St}{γ:Nat->Value}{w:World}{b:Nat}(h:okOf cx s γ w b):okEnd cx w b:=h.imp id fun h=>⟨h.1,h.2.1⟩
theorem zbC(x:V1):(avOf x).refs=[]:=by
 cases x with
 |d y=>cases y<;>rfl
 |agg xs=>rfl
theorem zd9{w:World}{ok:Nat->Prop}{γ:Nat->Value}{x:V1}{v:Value}:M w ok γ (avOf x) v↔Rep1 w ok x v:=by
 cases x with
 |d y=>cases y<;>exact jbH
 |agg xs=>exact jbH
theorem zcF{w:World}{ok ok':Nat->Prop}{x:V1}{v:Value}(hk:∀b,ok b->ok' b)(h:Rep1 w ok x v):Rep1 w ok' x v:=by
 cases x with
 |d x=>exact Rep.keep (fun b hb=>⟨hk b hb,rfl⟩) h
 |agg xs=>obtain⟨vs,h1,h2⟩:=h;exact⟨vs,h1,h2.imp fun _ _ _=>Rep.keep fun b hb=>⟨hk b hb,rfl⟩⟩
def avRes:V1->AV
 | .d x=>.d x
 | .agg xs=>.agg xs
theorem zkw(x:V1):(avRes x).refs=[]:=by cases x<;>rfl
theorem zrM{w:World}{ok:Nat->Prop}{γ:Nat->Value}{x:V1}{v:Value}:M w ok γ (avRes x) v↔Rep1 w ok x v:=by cases x<;>exact jbH
theorem zim{s:St}{v:AV}{x:V1}(h:RetAV s v x):AVle s (fun _=>none) v (avRes x):=by
 cases x with
 |agg ys=>cases v<;>first|exact h|exact h.elim
 |d y=>cases v<;>cases y<;>first|exact h|exact h.elim|exact⟨rfl,h⟩
theorem zq5{cx:Cx}{s:St}{a:Act}{w:World}(h:R cx s a w){t:Nat}{x:V1}(hr:RetAV s (s.sl t) x):Rep1 w (okEnd cx w) x (a.tmps.getD t undef):=by
 obtain⟨γ,h⟩:=h
 obtain⟨γ',h'⟩:=h.weak (s':=⟨upd (fun _=>.any) t (avRes x),fun _=>none⟩) (fun u=>by
   show AVle s _ (s.sl u) (upd (fun _=>AV.any) t (avRes x) u)
   rw[zat]
   by_cases hu:u=t
   ·subst hu;rw[kH rfl];exact zim hr
   ·rw[kG hu];cases s.sl u<;>exact trivial) (fun i o h=>by cases h) (fun u j hj=>by
   rw[show(St.sl ⟨upd (fun _=>AV.any) t (avRes x),fun _=>none⟩ u)=upd (fun _=>AV.any) t (avRes x) u from rfl,zat]at hj
   by_cases hu:u=t
   ·rw[kH hu,zkw]at hj;cases hj
   rw[kG hu]at hj;cases hj) (fun i cs h=>by cases h)
 have:=h'.slots t
 rw[show(St.sl ⟨upd (fun _=>AV.any) t (avRes x),fun _=>none⟩ t)=upd (fun _=>AV.any) t (avRes x) t from rfl,zat,kH rfl]at this
 exact zcF (fun _=>zfR) (zrM.1 this)
theorem znW{cx:Cx}{s:St}{a:Act}{w:World}{P:Program}{T:TT}(hT:∀t i,T t=some i->TI.of P t=some i)(h:R cx s a w){t u:Nat}{x:V1}(hr:RetCell T s t (s.sl u) x):
  ∃v,(do loadVar t (← asAddr (a.tmps.getD u undef))).run P w= .ok v w/\Rep1 w (okEnd cx w) x v:=by
 obtain⟨γ,h⟩:=h
 unfold RetCell at hr
 cases hv:s.sl u with
 |box i off=>
  cases off with
  |succ n=>simp[hv]at hr
  |zero=>
  cases ht:T t with
  |none=>simp[hv,ht]at hr
  |some ti=>
   cases ho:s.ob i with
   |none=>simp[hv,ht,ho]at hr
   |some o=>
    cases o with
    |row e k n f=>simp[hv,ht,ho]at hr
    |mp m ks f=>simp[hv,ht,ho]at hr
    |box cs=>
     simp only[hv,ht,ho]at hr
     obtain⟨h1,h2,h3⟩:=hr
     have h1:=jA h1
     have hm:=h.slots u
     rw[hv]at hm
     have hld:∀K,loadE s ti (.box i 0) K->Yd P cx γ s w (Instr.loadAt t (a.tmps.getD u undef)) K:=fun K hk=>zct h (hT t ti ht) hm hk
     have key:∀(y:AV),loadE s ti (.box i 0) (fun z=>z=y)->(∀v,M w (okOf cx s γ w) γ y v->Rep1 w (okEnd cx w) x v)->∃v,(do loadVar t (← asAddr (a.tmps.getD u undef))).run P w= .ok v w/\Rep1 w (okEnd cx w) x v:=fun y hk hrep=>by
      obtain⟨z,v,g1,g2,_,rfl⟩:=hld _ hk
      obtain⟨b,hb,hx⟩:=id hm
      refine⟨v,?_,hrep v g2⟩
      rw[hx]at g1⊢
      have g3:(loadVar t ⟨b,0,none⟩).run P w= .ok v w:=by simpa [Instr.loadAt,Instr.sureAddr]using g1
      simpa [asAddr]using g3
     cases ha:ti.agg with
     |true=>
      cases x with
      |d y=>simp[ha]at h2
      |agg ys=>
       have h3':match allD cs with|some xs=>eqvs xs ys|none=>False:=by
        rcases cs with _|⟨c,_|⟨c',r⟩⟩<;>first|exact h3|(cases c<;>exact h3)
       cases hal:allD cs with
       |none=>simp[hal]at h3'
       |some xs=>
        simp only[hal]at h3'
        have hlen:xs.length=ti.size:=by rw[zjV hal,h1]
        refine key (.agg xs) ?_ fun v ⟨vs,e1,e2⟩=>⟨vs,e1,zb1 h3' (e2.imp fun _ _ _=>Rep.keep fun b hb=>⟨zfR hb,rfl⟩)⟩
        simp only[loadE,AV.asPtr,loadP,ho,ha,List.drop_zero]
        rw[<- h1,jZ]
        simp only[hal]
        rw[hlen,<- h1];simp
     |false=>
      cases x with
      |agg ys=>simp[ha]at h2
      |d y=>
       match cs,h3 with
       | [.d q],h3=>
        refine key (.d q) ?_ fun v hr=>(Rep.keep (fun b hb=>⟨zfR hb,rfl⟩) hr).eqv h3
        simp[loadE,AV.asPtr,loadP,ho,ha,nth]
 | _=>simp[hv]at hr
theorem zhF{cx:Cx}{s:St}{a:Act}{w:World}{P:Program}{T:TT}(hT:∀t i,T t=some i->TI.of P t=some i)(h:R cx s a w):∀{rs:List ResultVar}{res:List V1},RetAll T s rs res->
  ∃vs:List Value,(rs.mapM (m:=Sem) fun| .tmp t=>pure (a.tmps.getD t undef)| .cell x t=>do loadVar t (← asAddr (a.tmps.getD x undef))).run P w= .ok vs w/\All2 (Rep1 w (okEnd cx w)) res vs
 | [],[],_=>⟨[],by simp,.nil⟩
 | .tmp t::r,x::xs,hr=>by
  obtain⟨vs,h1,h2⟩:=zhF (P:=P) hT h hr.2
  refine⟨a.tmps.getD t undef::vs,?_,.cons (zq5 h hr.1) h2⟩
  rw[jbC]
  simp only[pure_bind,Sem.run_bind,h1,Result.andThen_ok,Sem.run_pure]
 | .cell u t::r,x::xs,hr=>by
  obtain⟨vs,h1,h2⟩:=zhF (P:=P) hT h hr.2
  obtain⟨v,h3,h4⟩:=znW (P:=P) hT h hr.1
  refine⟨v::vs,?_,.cons h4 h2⟩
  rw[jbC]
  simp only[Sem.run_bind]at h3⊢
  rw[h3]
  simp only[h1,Result.andThen_ok,Sem.run_pure]
 | .tmp _::_,[],hr=>by simp[RetAll]at hr
 | .cell .. ::_,[],hr=>by simp[RetAll]at hr
 | [],_::_,hr=>by simp[RetAll]at hr
def packR:List Value->Value
 | [x]=>x
 |l=>.tuple l.toArray
theorem zaQ{P:Program}{fn:Func}{a:Act}{w:World}{vs:List Value}
  (h:(fn.results.toList.mapM (m:=Sem) fun| .tmp t=>pure (a.tmps.getD t undef)| .cell x t=>do loadVar t (← asAddr (a.tmps.getD x undef))).run P w= .ok vs w):
  (results fn a.tmps).run P w= .ok (packR vs) w:=by
 unfold results
 rw[jbD]
 simp only[Sem.run_bind,map_eq_pure_bind,Sem.run_pure]
 refine(jI (fun r=>(Result.andThen r _).andThen _) h).trans ?_
 rcases vs with _|⟨x,_|⟨y,r⟩⟩<;>simp[packR]
theorem zeW{cx:Cx}{s:St}{a:Act}{w:World}{P:Program}{T:TT}(hT:∀t i,T t=some i->TI.of P t=some i){fn:Func}{res:List V1}(h:R cx s a w)(hr:RetAll T s fn.results.toList res):
  ∃v,(results fn a.tmps).run P w= .ok v w/\ResRep w (okEnd cx w) res v:=by
 obtain⟨vs,h1,h2⟩:=zhF (P:=P) hT h hr
 refine⟨_,zaQ h1,?_⟩
 match res,vs,h2 with
 | [],[],_=>exact⟨[],rfl,.nil⟩
 | [x],[v],.cons h _=>exact h
 |x::y::r,v::u::q,h2=>exact⟨_,rfl,h2⟩
theorem zaM{w:World}{ok:Nat->Prop}:∀(args:List V1) (vs:List Value) (i t:Nat),All2 (Rep1 w ok) args vs->∀x,look (argSlots i args) t=some x->∃j u y,t=i+j/\vs[j]?=some u/\x=avOf y/\Rep1 w ok y u:=by
 intro args
 induction args with
 |nil=>intro vs i t _ x hx;cases hx
 |cons y r ih=>
 intro vs i t h2 x hx
 cases h2 with
 |cons h1 h2=>
 simp only[argSlots,look]at hx
 cases hb:Nat.beq t i with
 |true=>rw[hb]at hx;cases hx;exact⟨0,_,_,by simpa using jA hb,rfl,rfl,h1⟩
 |false=>
 rw[hb]at hx
 obtain⟨j,u,z,g1,g2,g3,g4⟩:=ih _ (i+1) t h2 x hx
 exact⟨j+1,u,z,by omega,by simpa using g2,g3,g4⟩
theorem zbp{vs:List Value}{N j:Nat}{u:Value}(h:vs[j]?=some u):(vs.toArray++Array.replicate (N-vs.toArray.size) undef).getD j undef=u:=by
 have:j<vs.length:=(kC.1 h).1
 rw[qP,jaN (by simp;omega)]
 simp[h]
theorem zfC{d:Bool}{args:List V1}{vs:List Value}{w:World}{ok:Nat->Prop}{N:Nat}(hok:∀b,ok b->b<w.heap.size)(h:All2 (Rep1 w ok) args vs)(hsz:args.length<=N)(hng:N<=G):
    R (cx0 d w ok N) (St.of (argSlots 0 args) []) { tmps:=vs.toArray++Array.replicate (N-vs.toArray.size) undef,defers:=[] } w:=by
  refine⟨fun _=>undef,?_⟩
  have hl:=h.length
  exact { defers:=⟨fun _=>rfl,[],rfl,jaf,fun D hD=>by cases hD⟩
          size:=by simp [cx0];omega
          okA:=fun b hb=>⟨hok b hb,id⟩
          lent:=fun b hb=>hb.elim
          below:=⟨rfl,rfl,rfl,fun _=>jE _,jE _,fun _ _ _=>rfl⟩
          hold:=fun k o hk=>hk.elim
          least:=jF _
          objs:=fun i o hi=>by cases hi
          refs:=fun i cs hi=>by cases hi
          sep:=fun i j o o' hi=>by cases hi
          slots:=fun t=>by
            show M w _ _ ((look (argSlots 0 args) t).getD .any) _
            cases hx:look (argSlots 0 args) t with
            |none=>exact trivial
            |some x=>
             obtain⟨j,u,y,g1,g2,g3,g4⟩:=zaM args vs 0 t h x hx
             obtain rfl:t=j:=by omega
             rw [zbp g2]
             subst g3
             exact zd9.2 (zcF (fun b hb=> .inl hb) g4)
          ng:=hng
          gho:=fun m hm=>by
            have hm':(look (argSlots 0 args) G).getD .any= .gho m:=hm
            cases hx:look (argSlots 0 args) G with
            |none=>rw [hx]at hm';cases hm'
            |some x=>
             obtain⟨_,u,y,g1,g2,g3,g4⟩:=zaM args vs 0 G h x hx
             rw [hx]at hm'
             subst g3
             cases y with
             |d z=>cases z<;>cases hm'
             |agg z=>cases hm'
          srefs:=fun t j hj=>by
            have hj':j∈((look (argSlots 0 args) t).getD .any).refs:=hj
            cases hx:look (argSlots 0 args) t with
            |none=>rw [hx]at hj';cases hj'
            |some x=>
             obtain⟨_,u,y,g1,g2,g3,g4⟩:=zaM args vs 0 t h x hx
             rw [hx]at hj'
             subst g3
             rw [show(Option.some (avOf y)).getD .any=avOf y from rfl,zbC]at hj'
             cases hj' }
theorem zhG{w:World}{ok ok':Nat->Prop}{res:List V1}{v:Value}(hk:∀b,ok b->ok' b)(h:ResRep w ok res v):ResRep w ok' res v:=by
 have:∀{l:List V1}{vs:List Value},All2 (Rep1 w ok) l vs->All2 (Rep1 w ok') l vs:=fun h=>h.imp fun _ _ _=>zcF hk
 match res,h with
 | [],⟨vs,h1,h2⟩=>exact⟨vs,h1,this h2⟩
 | [x],h=>exact zcF hk h
 |x::y::r,⟨vs,h1,h2⟩=>exact⟨vs,h1,this h2⟩
section
variable {P:Program}{T:TT}{E:Env}
theorem zh6(hT:∀t i,T t=some i->TI.of P t=some i)(hE:∀t,E.eq t=true->EqFact P t)(hm:P.follows .mixedOrders=true)
    {f:FuncId}{fn:Func}{c:Code}(hf:P.funcs[f]?=some fn)(hb:fn.body=some c)(hN:codeN fn.ntmps c=true)
    {vs:List Value}{w:World}{cx:Cx}(hD:cx.dr=true->E.dr=true)(hcx:cx.N=fn.ntmps)(hgn:cx.gn=none)(hnod:cx.nod=false)(hh:∀k o,¬cx.hold k o){s0:St}(h0:R cx s0 { tmps:=vs.toArray++Array.replicate (fn.ntmps-vs.toArray.size) undef,defers:=[] } w){K:KK}(h:awp P T E c s0 K)
    {Rp:Ending->World->Prop}(hK:∀x,x≠ .normal->x≠ .ret->∀s,¬K x s)
    (hQ:∀x s a w',(x= .normal\/x= .ret)->K x s->R cx s a w'->a.defers=[]->∃v,(results fn a.tmps).run P w'= .ok v w'/\Rp (.returned v) w'):Calls P f vs.toArray w Rp:=by
  refine callsIn_wide.1 (callsIn_of_wp_marks (F:=Fence.wide) (n:=0) hf hb trivial ?_)
  refine zb5 (Fm:=(· =cx)) (N:=cx.N) hT hE (fun c hc=>by rw [hc]) (fun c hc=>by rw [hc];exact hD) (YLaw.none hgn) (.inl rfl) (fun c hc h=>by rw [hc,hnod]at h;cases h) (fun c hc=> .inl rfl) hm c (by rw [hcx];exact hN) (fun x s a w' hR hk=> ?_) ⟨cx,rfl,h0⟩ h
  obtain⟨_,rfl,hR⟩:=hR
  cases x with
  |normal=>exact zjh hh hR fun w' h'=>hQ .normal s { a with defers:=[] } w' (.inl rfl) hk h' rfl
  |ret=>exact zjh hh hR fun w' h'=>hQ .ret s { a with defers:=[] } w' (.inr rfl) hk h' rfl
  |exit id=>exact absurd hk (hK _ (by simp) (by simp) s)
  |goto l=>exact absurd hk (hK _ (by simp) (by simp) s)
  |panic ch=>exact absurd hk (hK _ (by simp) (by simp) s)
  |outgrown=>exact absurd hk (hK _ (by simp) (by simp) s)
theorem zlb{rs:List ResultVar}{res:List V1}:∀x,x≠ .normal->x≠ .ret->∀s,¬retK T rs res x s:=fun x h1 h2 s h=>by
 cases x<;>first|exact h1 rfl|exact h2 rfl|exact h
theorem znX{rs:List ResultVar}{res:List V1}{x:Exit}{s:St}(hx:x= .normal\/x= .ret)(h:retK T rs res x s):RetAll T s rs res:=by
 rcases hx with rfl|rfl<;>exact h
theorem zfv(hT:∀t i,T t=some i->TI.of P t=some i)(hE:∀t,E.eq t=true->EqFact P t)(hm:P.follows .mixedOrders=true)
  {f:FuncId}{fn:Func}{c:Code}(hf:P.funcs[f]?=some fn)(hb:fn.body=some c)(hn:(fn.name== "runtime.NumGoroutine")=false)(hN:codeN fn.ntmps c=true)
  {args res:List V1}(hsz:args.length<=fn.ntmps)(hng:fn.ntmps<=G)(h:awp P T E c (St.of (argSlots 0 args) []) (retK T fn.results.toList res)):SpecG E.dr P f args res:=
 ⟨⟨fn,hf,hn,by rw [hb];rfl⟩,fun w ok vs hok hr=>zh6 hT hE hm hf hb hN (cx:=cx0 E.dr w ok fn.ntmps) id rfl rfl rfl (fun _ _=>id) (zfC hok hr hsz hng) h zlb fun x s a w' hx hk hR _=>by
  obtain⟨v,h1,h2⟩:=zeW (P:=P) hT (fn:=fn) hR (znX hx hk)
  obtain⟨γ,hg⟩:=hR
  exact⟨v,h1,v,rfl,⟨bel0 hg.below,hg.below.drawn⟩,zhG (fun b=>ztW) h2⟩⟩
theorem zeV{rs:List ResultVar}{e k n:Nat}{g:Nat->Nat->D}:∀x,x≠ .normal->x≠ .ret->∀s,¬retKO rs e k n g x s:=fun x h1 h2 s h=>by
 cases x<;>first|exact h1 rfl|exact h2 rfl|exact h
theorem ziO{rs:List ResultVar}{e k n:Nat}{g:Nat->Nat->D}{x:Exit}{s:St}(hx:x= .normal\/x= .ret)(h:retKO rs e k n g x s):
  ∃t i f,rs=[.tmp t]/\s.sl t= .own i/\s.ob i=some (.row e k n f)/\∀i,i<n->∀j,j<k->D.eqv (f i j) (g i j):=by
 have hk:retKO rs e k n g .ret s:=by rcases hx with rfl|rfl<;>exact h
 unfold retKO at hk
 match hrs:rs,hk with
 | [.tmp t],hk=>
  simp only at hk
  cases hv:s.sl t with
  |own i=>
   simp only[hv]at hk
   cases ho:s.ob i with
   |none=>simp[ho]at hk
   |some o=>
    cases o with
    |box cs=>simp[ho]at hk
    |mp m ks f=>simp[ho]at hk
    |row e' k' n' f'=>
     simp only[ho]at hk
     obtain⟨rfl,rfl,rfl,hq⟩:=hk
     exact⟨t,i,f',rfl,hv,ho,hq⟩
  | _=>simp[hv]at hk
 | [],hk=>simp at hk
 | .cell .. ::_,hk=>simp at hk
 | _::_::_,hk=>simp at hk
theorem znJ(hT:∀t i,T t=some i->TI.of P t=some i)(hE:∀t,E.eq t=true->EqFact P t)(hm:P.follows .mixedOrders=true)
  {f:FuncId}{fn:Func}{c:Code}(hf:P.funcs[f]?=some fn)(hb:fn.body=some c)(hn:(fn.name== "runtime.NumGoroutine")=false)(hN:codeN fn.ntmps c=true)
  {args:List V1}{e k n:Nat}{g:Nat->Nat->D}(hsz:args.length<=fn.ntmps)(hng:fn.ntmps<=G)(h:awp P T E c (St.of (argSlots 0 args) []) (retKO fn.results.toList e k n g)):SpecOG E.dr P f args e k n g:=
 ⟨⟨fn,hf,hn,by rw [hb];rfl⟩,fun w ok vs hok hr=>zh6 hT hE hm hf hb hN (cx:=cx0 E.dr w ok fn.ntmps) id rfl rfl rfl (fun _ _=>id) (zfC hok hr hsz hng) h zeV fun x s a w' hx hk hR _=>by
  obtain⟨γ,hg⟩:=hR
  obtain⟨t,i,f',hrs,hv,ho,hq⟩:=ziO hx hk
  obtain⟨xs,h1,h0,h2,h3⟩:=hg.objs i _ ho
  have hsl:=hg.slots t
  rw [hv]at hsl
  have hval:a.tmps.getD t undef=γ i:=hsl
  have hrun:=zaQ (P:=P) (fn:=fn) (a:=a) (w:=w') (vs:=[γ i]) (by rw [hrs];simp [<- hval])
  have h1':w'.ownsRow w.heap.size e k (γ i) n xs:=⟨h1.1,by
   rcases h1.2 with h4|⟨g',cap,cur,h4,h5,h6⟩
   ·exact .inl h4
   exact .inr ⟨g',cap,cur,h4,(h0 g' (by rw [h4];rfl)).elim id False.elim,h6⟩⟩
  refine⟨γ i,hrun,γ i,rfl,⟨bel0 hg.below,hg.below.drawn⟩,xs,h1',h2,fun m hm j hj=> ?_⟩
  obtain⟨u,hu,hr⟩:=h3 m hm j hj
  exact⟨u,hu,(Rep.keep (fun b hb=>⟨hb.imp id fun hb=>⟨hb.1.elim id False.elim,hb.2.1,hb.2.2 i _ ho⟩,rfl⟩) hr).eqv (hq m hm j hj)⟩⟩
end
end Go.Pg
