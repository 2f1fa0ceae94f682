/- Lemmas, joined by program. -/
import Derived.Test.YtcmghlfakcppkaaGreatJ7
import Derived.KernelRfl
import Derived.Shelf.SlSortCmp.NoneTotal
import Derived.Test.YtcmghlfakcppkaaGreatChecked
import Derived.MapFrom
set_option maxHeartbeats 4000000
set_option linter.all false
set_option maxRecDepth 100000
namespace Go.Pg
open Go.Proofs Go.RowKit
theorem sA{f:FuncId}{fn:Func}{c:Code}(hf:PP.funcs[f]?=some fn){args res:List V1}(h:awp PP TTab EN c (St.of (argSlots 0 args) []) (retK TTab fn.results.toList res))
  (hb:fn.body=some c:=by rfl)(hq:((fn.name== "runtime.NumGoroutine")|| !(codeN fn.ntmps c&&Nat.ble fn.ntmps 4294967296))=false:=by kernel_rfl)(hs:Nat.ble args.length fn.ntmps=true:=by rfl):Spec PP f args res:=zqW hf hb hq hs h
theorem oL{p q:List Nat->Prop}(l:List Nat)(hq:q l)(hp:p l:=by kernel_rfl):∃l,p l/\q l:=⟨l,hp,hq⟩
theorem oN{ops:Array Oper}{s:St}{K:List Nat->St->Prop}(n:Nat)(h:K (List.range n) s)(hp:drawB ops (List.range n)=true:=by kernel_rfl):∃ord,drawB ops ord=true/\FzOb s (K ord):=⟨_,hp,fNo h⟩
theorem msr{n i:Nat}(h:i<n):n-(i+1)<n-i:=by omega
theorem z0L{n:Nat}{p:Nat->Prop}:0<=n/\∀j,j<0->p j:=⟨jF _,fun j hj=>absurd hj (qJ _)⟩
def slv(s:St):List (Nat×AV)->List AV
 | []=>[]
 |(t,_)::r=>s.sl t::slv s r
def vls:List (Nat×AV)->List AV
 | []=>[]
 |(_,v)::r=>v::vls r
theorem wq{s:St}{ob:Nat->Option Ob}:∀{l:List (Nat×AV)},slv s l=vls l->wkS s ob l
 | [],_=>trivial
 |(t,v)::r,h=>by
  simp only[slv,vls,jas]at h
  refine⟨?_,wq h.2⟩
  show AVle s ob (s.sl t) v
  rw[h.1];exact za3 s ob v
theorem Split.yes{b:Bool}{K:Bool->Prop}(hb:b=true)(h:K true):Split b K:=by subst hb;exact .of h
theorem Split.no{b:Bool}{K:Bool->Prop}(hb:b=false)(h:K false):Split b K:=by subst hb;exact .of h
theorem LoopOb.of{body:St->KK->Prop}{s:St}{K:KK}{σ:Type}(S:σ->List (Nat×AV)×List (Nat×Ob))(Inv:σ->Prop)(μ:σ->Nat)(x0:σ)(hw:Weak s (S x0).1 (S x0).2)(hi:Inv x0)
  (hr:∀x,Inv x->body (St.of (S x).1 (S x).2) fun e s'=>match e with
   | .normal=>∃x',Weak s' (S x').1 (S x').2/\Inv x'/\μ x'<μ x
   |e=>K e s'):LoopOb body s K:=by rw[zfj];exact⟨σ,S,Inv,μ,x0,hw,hi,hr⟩
section
variable {s:St}{ob:Nat->Option Ob}{v:AV}
theorem avI{k:IntKind}{a b:Int}(h:v= .d (.int k a))(e:a=b):AVle s ob v (.d (.int k b)):=by subst h;exact⟨rfl,e⟩
theorem avE{x y:D}(h:v= .d x)(e:D.eqv x y):AVle s ob v (.d y):=by subst h;exact e
theorem avR(x:D)(h:v= .d x):AVle s ob v (.d x):=by subst h;exact dE x
theorem zkv(xs:List D):avles s ob (xs.map AV.d) (xs.map AV.d):=by
 induction xs with
 |nil=>trivial
 |cons x r ih=>exact⟨dE x,ih⟩
theorem obD(xs:List D){o:Option Ob}(h:o=some (.box (xs.map AV.d))):Oble s ob o (.box (xs.map AV.d)):=by subst h;exact zkv xs
theorem obR{e k n n':Nat}{f f':Nat->Nat->D}{o:Option Ob}(h:o=some (.row e k n f))(hq:D.eqv (.slc k n f) (.slc k n' f')):Oble s ob o (.row e k n' f'):=by subst h;exact⟨rfl,hq,rfl⟩
theorem rtI{k:IntKind}{a b:Int}(h:v= .d (.int k a))(e:a=b):RetAV s v (.d (.int k b)):=by subst h;exact⟨rfl,e⟩
theorem rtB{a b:Bool}(h:v= .d (.bool a))(e:a=b):RetAV s v (.d (.bool b)):=by subst h;exact e
end
section
variable {T:TT}{s:St}{t:Nat}
theorem r1B{a b:Bool}(h:s.sl t= .d (.bool a))(e:a=b):RetAll T s [.tmp t] [.d (.bool b)]:=⟨rtB h e,trivial⟩
theorem r1I{k:IntKind}{a b:Int}(h:s.sl t= .d (.int k a))(e:a=b):RetAll T s [.tmp t] [.d (.int k b)]:=⟨rtI h e,trivial⟩
end
theorem rtC{T:TT}{s:St}{a t i:Nat}{ti:TI}{cs:List AV}{xs ys:List D}{v:AV}(h1:v= .box i 0)(h2:T t=some ti)(h3:s.ob i=some (.box cs))(h4:Nat.beq cs.length ti.size=true)(h5:ti.agg=true)(h6:allD cs=some xs)(he:eqvs xs ys):
  RetCell T s t v (.agg ys):=by
 subst h1
 unfold RetCell
 simp only[h2,h3,h4,h5,true_and]
 have:RetBox cs (.agg ys)↔(match allD cs with|some xs=>eqvs xs ys|none=>False):=by
  rcases cs with _|⟨c,_|⟨c',r⟩⟩<;>first|exact jbH|(cases c<;>exact jbH)
 rw[this,h6]
 exact he
section
variable {T:TT}{s:St}{a t i u:Nat}{ti:TI}{cs:List AV}{xs ys:List D}
theorem r1C(h1:s.sl a= .box i 0)(h2:T t=some ti)(h3:s.ob i=some (.box cs))(h4:Nat.beq cs.length ti.size=true)(h5:ti.agg=true)(h6:allD cs=some xs)(he:eqvs xs ys):
  RetAll T s [.cell a t] [.agg ys]:=⟨rtC (a:=a) h1 h2 h3 h4 h5 h6 he,trivial⟩
theorem r2CI(h1:s.sl a= .box i 0)(h2:T t=some ti)(h3:s.ob i=some (.box cs))(h4:Nat.beq cs.length ti.size=true)(h5:ti.agg=true)(h6:allD cs=some xs){k:IntKind}{m n:Int}(h7:s.sl u= .d (.int k m))(he:eqvs xs ys)(e:m=n):
  RetAll T s [.cell a t,.tmp u] [.agg ys,.d (.int k n)]:=⟨rtC (a:=a) h1 h2 h3 h4 h5 h6 he,rtI h7 e,trivial⟩
theorem r2II{t u:Nat}{k k':IntKind}{m n m' n':Int}(h:s.sl t= .d (.int k m))(h':s.sl u= .d (.int k' m'))(e:m=n)(e':m'=n'):
  RetAll T s [.tmp t,.tmp u] [.d (.int k n),.d (.int k' n')]:=⟨rtI h e,rtI h' e',trivial⟩
end
theorem dT{p:Prop}[Decidable p](h:decide p=true):p:=kU h
theorem dF{p:Prop}[Decidable p](h:decide p=false):¬p:=jab h
theorem zbR{k k':IntKind}{a b a' b':Int}(h1:a=a')(h2:b=b'):eqvs [.int k a,.int k' b] [.int k a',.int k' b']:=⟨⟨rfl,h1⟩,⟨rfl,h2⟩,trivial⟩
theorem i6{n:Int}(h:-9223372036854775808<=n/\n<=9223372036854775807:=by omega):inR .i64 n:=h
theorem zaZ{n:Int}(h1:-9223372036854775808<=n)(h2:n<=9223372036854775807):inR .i64 n:=⟨h1,h2⟩
theorem gd1{α:Type}{l:List α}{i:Nat}(h:i<l.length)(d:α):l.getD i d∈l:=by
 rw[hZ,kF h];exact kR h
theorem zav{α:Type}{l:List α}{i:Nat}(h:i<l.length)(d:α):l.take (i+1)=l.take i++[l.getD i d]:=by
 rw[List.take_succ_eq_append_getElem h,hZ,kF h];rfl
@[irreducible] def within(n lo hi:Int):Bool:=decide (lo<=n)&&decide (n<=hi)
@[irreducible] def slope(a b:Int):Bool:=within a (-1000) 1000&&within b (-1000) 1000
def gcdL(l:List Int):Nat:=l.foldl (fun g n=>Nat.gcd g n.natAbs) 0
@[irreducible] def fit(h:Half):Bool:=slope h.A h.B&&(h.A != 0||h.B != 0)&&within h.C (-262144) 262144
def checkL(l:List Half):Int:=if 40<l.length then 2 else if l.all fit then 0 else 1
theorem zab{n lo hi:Int}:within n lo hi=true↔lo<=n/\n<=hi:=by unfold within;simp
@[irreducible] def valid(p:Corner):Bool:=within p.Den 1 2097152&&within p.X (-1073741824) 1073741824&&within p.Y (-1073741824) 1073741824&&((gcdL [p.X,p.Y,p.Den]:Int)==1)
@[irreducible] def on(p:Place):Bool:=within p.X 0 48&&within p.Y 0 48
theorem mulB{a b x y:Int}(ha:-x<=a/\a<=x)(hb:-y<=b/\b<=y):-(x*y)<=a*b/\a*b<=x*y:=by
 have h:(a*b).natAbs<=x.natAbs*y.natAbs:=by rw[Int.natAbs_mul];exact jbj (by omega) (by omega)
 have e:((x.natAbs*y.natAbs:Nat):Int)=x*y:=by rw[Int.natCast_mul,Int.natAbs_of_nonneg (by omega),Int.natAbs_of_nonneg (by omega)]
 omega
structure okH(h:Half):Prop where
  a:-1000<=h.A/\h.A<=1000
  b:-1000<=h.B/\h.B<=1000
  c:-262144<=h.C/\h.C<=262144
structure okC(p:Corner):Prop where
  x:-1073741824<=p.X/\p.X<=1073741824
  y:-1073741824<=p.Y/\p.Y<=1073741824
  d:1<=p.Den/\p.Den<=2097152
theorem ztV{h:Half}(hf:fit h=true):okH h:=by
 unfold fit slope at hf
 simp only[jP,zab]at hf
 exact⟨hf.1.1.1,hf.1.1.2,hf.2⟩
theorem zlO{p:Corner}(hf:valid p=true):okC p:=by
 unfold valid at hf
 simp only[jP,zab]at hf
 exact⟨hf.1.1.2,hf.1.2,hf.1.1.1⟩
@[irreducible] def ord(a b:Int):Int:=if a<b then -1 else if b<a then 1 else 0
theorem zsm(a:Int):SpecD PP 220 [N a] [B false]:=by
 refine zbG Tryz.func220 rfl (by kernel_rfl) rfl ?_
 refine r1B rfl ?_
 simp
theorem zuE(a b:Int):SpecD PP 153 [N a,N b] [N (ord a b)]:=by
 refine zbG Tryz.func153 rfl (by kernel_rfl) rfl ?_
 repeat' first
  |refine sT ?_
  |refine sF ?_
  |refine bY (fun _=>?_) (fun _=>?_)
  |refine cP (zsm _) rfl rfl ?_
  |refine r1I rfl ?_
 all_goals (unfold ord;simp_all)
 all_goals omega
theorem hEN:∀t,EN.eq t=true->EqFact PP t:=hE
theorem znI{f:FuncId}{fn:Func}{c:Code}(hf:PP.funcs[f]?=some fn)(hb:fn.body=some c)(hq:((fn.name== "runtime.NumGoroutine")|| !(codeN fn.ntmps c&&Nat.ble fn.ntmps 4294967296))=false)
  {pre post:List V1}{e k n n':Nat}{g g':Nat->Nat->D}(hfl:∀i,i<n'->∀j,j<k->(g' i j).flat=true)(hsz:Nat.ble (pre.length+1+post.length) fn.ntmps=true)
  (h:∀v,awp PP TTab EN c (St.of (rowSlots pre post v) [(pre.length,.row e k n g)]) (retKO fn.results.toList e k n' g')):SpecT PP f pre post e k n g n' g':=by
 simp only [qN,qQ,jP]at hq
 exact znH hT hEN hM hf hb hq.1 hq.2.1 hfl (jD hsz) (jD hq.2.2) h
def EY{τ:Type}(xs:List τ)(enc:τ->List V1)(l:Nat):Env:=⟨ET,false,l,fun n vs=>∃x,xs[n]?=some x/\vs=enc x,true,fun _=>false⟩
theorem zfA{f:FuncId}{fn:Func}{c:Code}(hf:PP.funcs[f]?=some fn)(hb:fn.body=some c)(hq:((fn.name== "runtime.NumGoroutine")|| !(codeN fn.ntmps c&&Nat.ble fn.ntmps 4294967296))=false)(hres:fn.results.toList=[])
  {m:Nat}{cap:Nat->D}(hsz:Nat.ble (m+1) fn.ntmps=true){τ:Type}(enc:τ->List V1)(xs:List τ)
  (h:∀l,awp PP TTab (EY xs enc l) c (St.of ((G,.gho (some 0))::(0,.yl l)::argSlots 1 ((List.range m).map fun j=> .d (cap j))) []) (retY xs.length)):SeqC PP f m cap enc xs:=by
 simp only [qN,qQ,jP]at hq
 exact zqZ hT (eq:=ET) hE hM hf hb hq.1 hq.2.1 hres (jD hq.2.2) (jD hsz) enc xs _ h
theorem CodeOb.rangeAt{K:KK}{s:St}{fo:Operand}{ps:Array Tmp}{asg body:Code}{g m:Nat}{cap:Nat->D}{τ:Type}{enc:τ->List V1}{xs:List τ}(hseq:SeqC PP g m cap enc xs)(hc:callee (ev s fo)=some (g,(List.range m).map fun j=>AV.d (cap j)))
  (hps:∀x,(enc x).length=ps.size)(hnd:ps.toList.Nodup)
  (sl:List (Nat×AV))(rc:List (Nat×Nat))(ob:List τ->List (Nat×Ob))(hsl:okSl sl=true)(hob:∀pre,okOb sl rc (ob pre)=true)(hw:Weak s sl (ob []))
  {Iv:List τ->Prop}(hI0:Iv [])
  (hbody:∀(v:Nat->Value) pre x,pre++[x]<+:xs->Iv pre->awp PP TTab EN asg (St.of (psl ps.toList (enc x)++pinS v sl) (ob pre)) (Ka PP TTab EN K sl rc v ob Iv body pre x))
  (hend:Iv xs->K .normal (St.of sl (ob xs))):CodeOb EN.dr EN.it PP (.rangeFunc fo ps asg body) s K:=
 CodeOb.range hT hEN hM hseq hc hps hnd sl rc ob hsl hob hw hI0 hbody hend
section
variable {s:St}{o:Oper}{fo:Operand}{f:FuncId}{K:St->Prop}{args:List Operand}
theorem CallSt.ydM{τ:Type}{xs:List τ}{enc:τ->List V1}{l:Nat}{d n:Nat}{x:τ}(sl:List (Nat×AV))(ob:List (Nat×Ob))(hd:o.dst=some d)(hf:ev s fo= .yl l)(hg:s.sl G= .gho (some n))(hG:look sl G=none)(hw:Weak s sl ob)(hx:xs[n]?=some x)(hv:toV1s s (args.map (ev s))=some (enc x))
  (hno:(args.map (ev s)).all (fun v=>!v.isOwn)=true)(k1:K ((St.of ((G,.gho (some (n+1)))::sl) ob).put d (.d (.bool true))))(k2:K ((St.of ((G,.gho none)::stillS sl) []).put d (.d (.bool false)))):CallSt (EY xs enc l) PP s o fo args K:=by
 rw[zag]
 exact .inr (.inr (.inr (.inl ⟨⟨n,d,sl,ob,_,hd,hf,hg,hG,hw,hv,hno,⟨x,hx,rfl⟩,k1,k2⟩⟩)))
theorem CallSt.yd{τ:Type}{xs:List τ}{enc:τ->List V1}{l:Nat}{d n:Nat}{x:τ}(sl:List (Nat×AV))(hd:o.dst=some d)(hf:ev s fo= .yl l)(hg:s.sl G= .gho (some n))(hG:look sl G=none)(hw:Weak s sl [])(hx:xs[n]?=some x)(hv:toV1s s (args.map (ev s))=some (enc x))
  (hno:(args.map (ev s)).all (fun v=>!v.isOwn)=true)(k1:K ((St.of ((G,.gho (some (n+1)))::sl) []).put d (.d (.bool true))))(k2:K ((St.of ((G,.gho none)::stillS sl) []).put d (.d (.bool false)))):CallSt (EY xs enc l) PP s o fo args K:=CallSt.ydM sl [] hd hf hg hG hw hx hv hno k1 k2
theorem CallSt.rw'{args:Array Operand}{at':Array TypeId}(hop:o.op= .call { callee:=.value fo,args,argTypes:=at' }){pre post res:List V1}{i e k n:Nat}{g g':Nat->Nat->D}(h:SpecR PP f pre post e k n g g' res)
  (ha:RowArgs s fo args.toList f pre i post)(hi:s.ob i=some (.row e k n g))(hk:K ((s.setOb i (some (.row e k n g'))).putO o.dst (resAV res))):CallSt EN PP s o fo args.toList K:=CallSt.row rfl hop h ha hi hk
end
section
variable {s:St}{ob:Nat->Option Ob}{v:AV}
theorem avQ{x:AV}(h:v=x):AVle s ob v x:=by subst h;exact za3 s ob v
theorem avG{m m':Nat}(h:v= .gho (some m))(e:m=m'):AVle s ob v (.gho (some m')):=by subst h;subst e;exact za3 s ob _
theorem avBx{i m:Nat}{h:Nat->D}{cs:List AV}{xs:List D}(e:v= .box i 0)(h1:s.ob i=some (.box cs))(h2:allD cs=some xs)(h3:ob i=none)(q:D.eqv (.ptr (xs.length-0) fun j=>getD' xs (0+j)) (.ptr m h)):AVle s ob v (.roe m h):=by
 subst e;exact⟨h3,cs,xs,h1,h2,q⟩
theorem avOw{i e k n:Nat}{f:Nat->Nat->D}{y:D}(h0:v= .own i)(h1:s.ob i=some (.row e k n f))(h2:ob i=none)(q:D.eqv (.slc k n f) y):AVle s ob v (.d y):=by subst h0;cases y<;>first|exact⟨h2,e,k,n,f,h1,q⟩|cases q
end
end Go.Pg
namespace Go.Pg
open Go.RowKit Go.Proofs Go.Shelf Go.Sort Go.Lib
def SpecW(P:Program)(f:FuncId)(pre post:List V1)(e k n:Nat)(g g':Nat->Nat->D)(res:List V1):Prop:=
 Ent P f/\∀(w:World) (ok:Nat->Prop) (vs us:List Value) (v:Value) (xs:List Value),(∀b,ok b->b<w.heap.size)->All2 (Rep1 w ok) pre vs->All2 (Rep1 w ok) post us->RowAt w ok e k n g v xs->
  Calls P f (vs++v::us).toArray w fun en w'=>∃r,en= .returned r/\w.grownBy w' (blk v)/\ResRep w' (fun _=>False) res r/\
   ∃xs',w'.ownsRow 0 e k v n xs'/\(∀u∈xs',u.oneCell'=true)/\∀m,m<n->∀j,j<k->∃u,xs'[m*k+j]?=some u/\Rep w' ok (g' m j) u
section
variable {s:St}{o:Oper}{fo:Operand}{f:FuncId}{K:St->Prop}
theorem CallSt.rwW{E:Env}(hdr:E.dr=false){args:Array Operand}{at':Array TypeId}(hop:o.op= .call { callee:=.value fo,args,argTypes:=at' }){pre post res:List V1}{i e k n:Nat}{g g':Nat->Nat->D}(h:SpecW PP f pre post e k n g g' res)
  (ha:RowArgs s fo args.toList f pre i post)(hi:s.ob i=some (.row e k n g))(hk:K ((s.setOb i (some (.row e k n g'))).putO o.dst (resAV res))):CallSt E PP s o fo args.toList K:=by
 rw[zag]
 refine .inr (.inr (.inl ⟨_,⟨fun cx a w hD hd hR=>?_⟩,hk⟩))
 obtain⟨γ,hg⟩:=hR
 obtain⟨caps,vs,us,xs,h1,h2,h3,h4,h5⟩:=zcE hg ha hi
 refine .enter (zaD hop h1 h.1) ?_
 rw[h2]
 refine(h.2 w _ vs us _ xs (fun b hb=>zal hg hb) h3 h4 h5).mono fun en w' ⟨r,he,hgr,hres,ys,y1,y2,y3⟩=>⟨r,he,γ,?_⟩
 refine(hg.change (i:=i) (o':=.row e k n g') hi hgr (fun e=>by have:=hD e;rw[hdr]at this;cases this) (fun ok hok=>⟨ys,y1,fun b hb=>(zax hg hi hb).1,y2,fun m hm j hj=>?_⟩) (fun cs e=>by cases e)).putO hd (zaX (.inl fun b hb=>hb.elim) hres) (fun j hj=>by rw[zaB]at hj;cases hj)
 obtain⟨u,hu,hr⟩:=y3 m hm j hj
 exact⟨u,hu,Rep.keep0 (w:=w') (fun b hb=>⟨(hok b hb).1,zea rfl⟩) hr⟩
end
theorem SpecW.congr{P:Program}{f:FuncId}{pre post res:List V1}{e k n:Nat}{g0 g g1 g':Nat->Nat->D}(h:SpecW P f pre post e k n g0 g1 res)(he:∀m,m<n->∀j,j<k->g m j=g0 m j)(he':∀m,m<n->∀j,j<k->g' m j=g1 m j):SpecW P f pre post e k n g g' res:=
 ⟨h.1,fun w ok vs us v xs h1 h2 h3 hr=>(h.2 w ok vs us v xs h1 h2 h3 ⟨hr.own,hr.one,fun m hm j hj=>by rw[<- he m hm j hj];exact hr.rep m hm j hj,hr.sep⟩).mono fun en w' ⟨r,e1,e2,e3,xs',e4,e5,e6⟩=>⟨r,e1,e2,e3,xs',e4,e5,fun m hm j hj=>by rw[he' m hm j hj];exact e6 m hm j hj⟩⟩
section
variable {α:Type}[Inhabited α]{k:Nat}(enc:α->List Value)(hl:∀x,(enc x).length=k)(h1:∀x,∀v∈enc x,v.oneCell'=true)
include hl in
theorem zpF(d:Array α){t:Nat}(h:t<d.size*k):(enc d[t/k]!)[t%k]?=some (flatK enc k d)[t]!:=by
 have hk:0<k:=by
  rcases jaq k with h0|h0
  ·subst h0;simp at h
  exact h0
 rw[get_flatK _ _ _ _ h]
 have:t%k<(enc d[t/k]!).length:=by rw[hl];exact jau t hk
 rw[List.getElem!_eq_getElem?_getD,kF this];rfl
include hl in
theorem zqE{w:World}{e g:Nat}{cur:Array Value}{l:List α}{xs:List Value}(hh:w.heap[g]?=some (.cells cur e (0,0)))(ht:cur.toList.take (l.length*k)=xs)
  (hr:∀m,m<l.length->∀j,j<k->xs[m*k+j]?=(enc (l.getD m default))[j]?):HoldsK enc k w g 0 l.toArray:=by
 intro t ht'
 rw[size_flatK]at ht'
 have ht2:=ht'
 simp only[jaT]at ht'
 have hk:0<k:=by
  rcases jaq k with h0|h0
  ·subst h0;simp at ht'
  exact h0
 have hm:t/k<l.length:=jaR (by rwa [qM]at ht')
 have hu:=hr (t/k) hm (t%k) (jau t hk)
 have e1:t/k*k+t%k=t:=by rw[qM];exact ja0 t k
 have hf:=zpF enc hl l.toArray ht2
 rw[zbE l hm]at hf
 rw[e1,<- ht,jS,kH ht',hf]at hu
 rw[qB]
 refine⟨?_,?_⟩
 ·simp only[World.cell?,hh,id_eq]
  have:cur[t]?=some (flatK enc k l.toArray)[t]!:=by simpa using hu
  simp[this]
 simp[World.frozen?,hh]
include hl h1 in
theorem zsT{w:World}{e g cap:Nat}{cur:Array Value}(m:Nat)(l:List α)(os:Array Obj)(hh:w.heap[g]?=some (.cells cur e (0,0)))(hlc:l.length<=cap)(hcap:cap<=maxLen)(hcs:cur.size=cap*k):
  w.grownBy (sortWorldK enc k w g 0 m l.toArray os) (some g)/\∃xs',(sortWorldK enc k w g 0 m l.toArray os).ownsRow 0 e k (.slice (some ⟨g,0,none⟩) l.length cap) l.length xs'/\(∀u∈xs',u.oneCell'=true)/\
   ∀m',m'<l.length->∀j,j<k->xs'[m'*k+j]?=(enc (l.getD m' default))[j]?:=by
 have hg:g<w.heap.size:=(jB.1 hh).1
 have hheap:∀i,i<w.heap.size->(sortWorldK enc k w g 0 m l.toArray os).heap[i]?=if i=g then some (.cells (putCells id 0 (flatK enc k l.toArray) cur) e (0,0))else w.heap[i]?:=fun i hi=>by
  simp only[sortWorldK,grow,putRowK,putRow,mapBlock,ahead]
  rw[jaN (by simpa using hi),jbm]
  by_cases e':g=i
  ·subst e';simp[hh,onCells]
  rw[kG e',kG (fun e''=>e' e''.symm)];rfl
 refine⟨⟨rfl,rfl,rfl,by simp[sortWorldK,grow,putRowK,putRow,mapBlock,ahead],fun i hi hne=>?_⟩,?_⟩
 ·rw[hheap i hi,kG fun e'=>hne (by rw[e'])]
 have hF:=size_flatK enc k l.toArray
 simp only[jaT]at hF
 have hle:l.length*k<=cap*k:=jW k hlc
 have hget:∀t,t<l.length*k->(putCells id 0 (flatK enc k l.toArray) cur).toList[t]?=(enc (l.getD (t/k) default))[t%k]?:=fun t ht=>by
  have hk:0<k:=by
   rcases jaq k with h0|h0
   ·subst h0;simp at ht
   exact h0
  have hm:t/k<l.length:=jaR (by rwa [qM]at ht)
  have hlt:t<cur.size:=by omega
  rw[ja2,putCells,Array.getElem?_mapIdx,wL hlt]
  simp only[qL,jF,true_and,qB,hF,kH ht,Nat.sub_zero,id_eq]
  rw[<- zpF enc hl l.toArray (by simpa using ht),zbE l hm]
 have hsz:(putCells id 0 (flatK enc k l.toArray) cur).size=cap*k:=by simp[putCells,hcs]
 have hsz':(putCells id 0 (flatK enc k l.toArray) cur).toList.length=cap*k:=(kB).trans hsz
 refine⟨(putCells id 0 (flatK enc k l.toArray) cur).toList.take (l.length*k),⟨by rw[jQ,hsz'];exact Nat.min_eq_left hle,.inr ⟨g,cap,_,rfl,jF _,by rw[hheap g hg,kH rfl],hlc,hcap,hsz,rfl⟩⟩,fun u hu=>?_,fun m' hm' j hj=>?_⟩
 ·obtain⟨t,ht⟩:=jaK hu
  rw[jS]at ht
  split at ht
  ·rename_i hlt;rw[hget t hlt]at ht;exact h1 _ _ (kZ ht)
  cases ht
 have hlt:m'*k+j<l.length*k:=by
  have:(m'+1)*k<=l.length*k:=jW k hm'
  rw[qG]at this;omega
 rw[jS,kH hlt,hget _ hlt]
 have e1:(m'*k+j)/k=m':=by rw[qM,Nat.mul_add_div (by omega),jbn hj];simp
 have e2:(m'*k+j)%k=j:=by rw[qM,jbd,jaI hj]
 rw[e1,e2]
end
structure Dats(α:Type)(k:Nat) where
  lst:α->List D
  len:∀x,(lst x).length=k
  at_:α->Nat->D
  hat:∀x j,j<k->(lst x)[j]?=some (at_ x j)
def Dats.row{α:Type}[Inhabited α]{k:Nat}(A:Dats α k)(l:List α):Nat->Nat->D:=fun i=>A.at_ (l.getD i default)
theorem zeQ{P:Program}{ρ:Ren}(S:SlLaysF0.n6 P ρ)(hent:Ent P (ρ.f 6)){k:Nat}(aE:∀w,(isAgg (ρ.t 24)).run P w= .ok true w)(zE:∀w,(Go.sizeOf (ρ.t 24)).run P w= .ok k w)
  {α:Type}[Inhabited α](A:Dats α k)(L:List α)(cf:α->α->Int)(hO:SWO (ltOf cf))(hT:∀i j,i<L.length->j<L.length->ltOf cf (L.getD i default) (L.getD j default)=false->ltOf cf (L.getD j default) (L.getD i default)=false->i=j)
  (g:FuncId)(hc:∀x∈L,∀y∈L,SpecD P g [.agg (A.lst x),.agg (A.lst y)] [.d (.int .i64 (cf x y))])(e:TypeId)(hn:L.length<=1000000):
  SpecW P (ρ.f 6) [] [.d (.fn g)] e k L.length (A.row L) (A.row (L.mergeSort fun x y=>!(ltOf cf) y x)) []:=by
 refine⟨hent,fun w ok vs us v xs hok h1 h2 hr=>?_⟩
 cases h1
 cases h2 with
 |cons h2 h3=>
 cases h3
 rename_i fv
 have hfv:fv= .func (.func g) #[] #[]:=h2
 subst hfv
 by_cases h0:L=[]
 ·subst h0
  obtain⟨p,cap,rfl⟩:∃p cap,v= .slice p 0 cap:=by
   rcases hr.own.2 with⟨h3,_⟩|⟨q,cap,cur,h3,_⟩
   ·exact⟨_,_,h3⟩
   exact⟨_,_,h3⟩
  refine(AnyF.slices_SortFunc_none S p cap _ w).mono ?_
  rintro en w' ⟨rfl,rfl⟩
  exact⟨_,rfl,⟨rfl,rfl,rfl,jE _,fun _ _ _=>rfl⟩,⟨[],rfl,.nil⟩,xs,hr.own,hr.one,fun m hm=>absurd hm (qJ _)⟩
 have hpos:0<L.length:=jaX.2 h0
 haveI:Inhabited (Fin L.length):=⟨⟨0,hpos⟩⟩
 rcases hr.own.2 with⟨_,h4⟩|⟨q,cap,cur,rfl,_,hh,hnc,hcap,hcs,htk⟩
 ·exact absurd (jbF.1 h4) h0
 have hxl:xs.length=L.length*k:=hr.own.1
 let enc:Fin L.length->List Value:=fun i=>(xs.drop (i.1*k)).take k
 have enc_get:∀(i:Fin L.length) j,j<k->(enc i)[j]?=xs[i.1*k+j]?:=fun i j hj=>by
  show((xs.drop (i.1*k)).take k)[j]?=_
  rw[jS,kH hj,wC]
 have enc_len:∀i,(enc i).length=k:=fun i=>by
  show((xs.drop (i.1*k)).take k).length=k
  rw[jQ,jag,hxl]
  have:(i.1+1)*k<=L.length*k:=jW k i.2
  rw[qG]at this;omega
 have enc_one:∀i,∀v∈enc i,v.oneCell'=true:=fun i v hv=>hr.one v (ja7 (qY hv))
 have fr:∀m,∀hm:m<L.length,(List.finRange L.length).getD m default=⟨m,hm⟩:=fun m hm=>by
  rw[hZ,kF (by simpa using hm)];simp
 have hH:HoldsK enc k w q 0 (List.finRange L.length).toArray:=zqE enc enc_len (xs:=xs) hh (by rw[jbq];exact htk) fun m hm j hj=>by
  rw[jbq]at hm
  rw[fr m hm,enc_get _ j hj]
 have hq:q<w.heap.size:=(jB.1 hh).1
 let cf':Fin L.length->Fin L.length->Int:=fun i j=>cf (L.getD i.1 default) (L.getD j.1 default)
 have hmem:∀i:Fin L.length,L.getD i.1 default∈L:=fun i=>by
  rw[hZ,kF i.2];exact kR i.2
 have hlt:∀i j,ltOf cf' i j=ltOf cf (L.getD i.1 default) (L.getD j.1 default):=fun _ _=>rfl
 have hent':∀args w,(callFunc g args).run P w= .ok (.enter g args) w:=fun args w=>zaF (hc _ (hmem ⟨0,hpos⟩) _ (hmem ⟨0,hpos⟩)).1 args w
 have hcmp:CmpLays P g #[] enc k cf' q 0 (List.finRange L.length).toArray.size w:=fun m os dk hdk x y=>by
  have hdl:dk.toList.length=L.length:=by rw[kB,hdk];simp
  have hgr:w.grownBy (sortWorldK enc k w q 0 m dk os) (some q):=by
   have:=(zsT enc enc_len enc_one (cap:=cap) m dk.toList os hh (by rw[hdl];exact hnc) hcap hcs).1
   simpa using this
  refine((hc _ (hmem x) _ (hmem y)).2 _ ok [.agg (enc x).toArray,.agg (enc y).toArray] (fun b hb=>jN (hok b hb) hgr.size) ?_).mono ?_
  ·have one:∀z:Fin L.length,Rep1 (sortWorldK enc k w q 0 m dk os) ok (.agg (A.lst (L.getD z.1 default))) (.agg (enc z).toArray):=fun z=>by
    refine⟨enc z,rfl,All2.of_get (by rw[A.len,enc_len]) fun j a b ha hb=>?_⟩
    have hj:j<k:=by rw[<- enc_len z];exact(kC.1 hb).1
    rw[A.hat _ j hj]at ha
    cases ha
    rw[enc_get z j hj]at hb
    obtain⟨u,hu,hrep⟩:=hr.rep z.1 z.2 j hj
    rw[hb]at hu;cases hu
    exact Rep.keep0 (fun b hb=>⟨hb,zea (hgr.block b (hok b hb) fun e=>hr.sep b e.symm hb)⟩) hrep
   exact .cons (one x) (.cons (one y) .nil)
  rintro en w' ⟨v,rfl,⟨hb,hd⟩,hres⟩
  have hv:v= .int .i64 (cf' x y):=hres
  exact⟨by rw[hv],zcO hb (hd rfl)⟩
 have hrun:=AnyQ.slices_SortFunc_total S k aE zE enc enc_len enc_one cf' ⟨fun i=>hO.1 _,fun i j l=>hO.2 _ _ _,fun i j l=>hO.3 _ _ _⟩ g #[] q 0 cap (List.finRange L.length).toArray w hent' hcmp hH hq (by simp;omega) (fun i j a b=>Fin.ext (hT i.1 j.1 i.2 j.2 a b))
 simp only[jaT,jbq]at hrun
 refine hrun.mono ?_
 rintro en w' ⟨rfl,m,os,rfl⟩
 have hlen:((List.finRange L.length).mergeSort fun x y=>!(ltOf cf') y x).length=L.length:=by rw[qX,jbq]
 obtain⟨p1,xs',p2,p3,p4⟩:=zsT enc enc_len enc_one (cap:=cap) m ((List.finRange L.length).mergeSort fun x y=>!(ltOf cf') y x) os hh (by rw[hlen];exact hnc) hcap hcs
 rw[hlen]at p2 p4
 have hmap:((List.finRange L.length).mergeSort fun x y=>!(ltOf cf') y x).map (fun i=>L.getD i.1 default)=L.mergeSort fun x y=>!(ltOf cf) y x:=by
  rw[List.map_mergeSort (f:=fun i:Fin L.length=>L.getD i.1 default) (r:=fun x y=>!(ltOf cf') y x) (s:=fun x y=>!(ltOf cf) y x) (fun a _ b _=>rfl)]
  congr 1
  apply List.ext_getElem?
  intro i
  by_cases hi:i<L.length
  ·rw[jU,kF (by simpa using hi),kF hi]
   simp[hZ,hi]
  rw[jad (by simpa using hi),jad (by omega)]
 refine⟨_,rfl,p1,⟨[],rfl,.nil⟩,xs',p2,p3,fun m' hm' j hj=>?_⟩
 have hx:(L.mergeSort fun x y=>!(ltOf cf) y x).getD m' default=L.getD (((List.finRange L.length).mergeSort fun x y=>!(ltOf cf') y x).getD m' default).1 default:=by
  rw[<- hmap,hZ,jU,kF (by rw[hlen];exact hm'),hZ (l:=List.mergeSort _ _),kF (by rw[hlen];exact hm')]
  rfl
 have q4:=p4 m' hm' j hj
 generalize ((List.finRange L.length).mergeSort fun x y=>!(ltOf cf') y x).getD m' default=i at hx q4
 obtain⟨u,hu,hrep⟩:=hr.rep i.1 i.2 j hj
 refine⟨u,by rw[q4,enc_get i j hj,hu],?_⟩
 show Rep _ ok (A.at_ ((L.mergeSort fun x y=>!(ltOf cf) y x).getD m' default) j) u
 rw[hx]
 exact Rep.keep0 (fun b hb=>⟨hb,zea (p1.block b (hok b hb) fun e=>hr.sep b e.symm hb)⟩) hrep
end Go.Pg
namespace Go.Proofs
open Go.Shelf Go.RowKit Go.Lib Go.Sort
def Tryz.sortFt_ren:Go.Shelf.Ren:=⟨fun|6=>63|15=>103|14=>102|28=>151|29=>152|20=>143|21=>144|22=>145|23=>146|24=>147|25=>148|26=>149|27=>150|46=>215|47=>216|48=>217|49=>218|50=>219|57=>257|n=>n,fun|22=>83|24=>130|25=>140|3=>3|39=>182|0=>0|53=>226|55=>207|4=>4|46=>220|45=>219|50=>53|5=>5|9=>9|66=>290|70=>294|76=>332|77=>333|n=>n,fun|n=>n⟩
theorem Tryz.sortFt:Go.Proofs.SlLaysF0.n6 Tryz.prog Tryz.sortFt_ren:={
  mixed:=by kernel_rfl,
  f6:=⟨Tryz.f63.name,by decide,Tryz.func63.trans (jI some (by kernel_rfl))⟩,
  f14:=⟨Tryz.f102.name,by decide,Tryz.func102.trans (jI some (by kernel_rfl))⟩,
  f15:=Tryz.func103.trans (jI some (by kernel_rfl)),
  f20:=⟨Tryz.f143.name,by decide,Tryz.func143.trans (jI some (by kernel_rfl))⟩,
  f21:=⟨Tryz.f144.name,by decide,Tryz.func144.trans (jI some (by kernel_rfl))⟩,
  f22:=⟨Tryz.f145.name,by decide,Tryz.func145.trans (jI some (by kernel_rfl))⟩,
  f23:=⟨Tryz.f146.name,by decide,Tryz.func146.trans (jI some (by kernel_rfl))⟩,
  f24:=⟨Tryz.f147.name,by decide,Tryz.func147.trans (jI some (by kernel_rfl))⟩,
  f25:=⟨Tryz.f148.name,by decide,Tryz.func148.trans (jI some (by kernel_rfl))⟩,
  f26:=⟨Tryz.f149.name,by decide,Tryz.func149.trans (jI some (by kernel_rfl))⟩,
  f27:=⟨Tryz.f150.name,by decide,Tryz.func150.trans (jI some (by kernel_rfl))⟩,
  f28:=Tryz.func151.trans (jI some (by kernel_rfl)),
  f29:=Tryz.func152.trans (jI some (by kernel_rfl)),
  f46:=⟨Tryz.f215.name,by decide,Tryz.func215.trans (jI some (by kernel_rfl))⟩,
  f47:=Tryz.func216.trans (jI some (by kernel_rfl)),
  f48:=Tryz.func217.trans (jI some (by kernel_rfl)),
  f49:=⟨Tryz.f218.name,by decide,Tryz.func218.trans (jI some (by kernel_rfl))⟩,
  f50:=⟨Tryz.f219.name,by decide,Tryz.func219.trans (jI some (by kernel_rfl))⟩,
  f57:=⟨Tryz.f257.name,by decide,Tryz.func257.trans (jI some (by kernel_rfl))⟩,
  t0:=Tryz.underlying0,
  a0:=Tryz.isAgg0,
  z0:=Tryz.sizeOf0,
  v0:=Tryz.zeroValue0,
  t3:=Tryz.underlying3,
  a3:=Tryz.isAgg3,
  z3:=Tryz.sizeOf3,
  v3:=Tryz.zeroValue3,
  t4:=Tryz.underlying4,
  a4:=Tryz.isAgg4,
  z4:=Tryz.sizeOf4,
  v4:=Tryz.zeroValue4,
  t5:=Tryz.underlying5,
  a5:=Tryz.isAgg5,
  z5:=Tryz.sizeOf5,
  v5:=Tryz.zeroValue5,
  t9:=Tryz.underlying9,
  a9:=Tryz.isAgg9,
  z9:=Tryz.sizeOf9,
  v9:=Tryz.zeroValue9,
  t22:=Tryz.underlying83,
  a22:=Tryz.isAgg83,
  z22:=Tryz.sizeOf83,
  v22:=Tryz.zeroValue83,
  t25:=Tryz.underlying140,
  a25:=Tryz.isAgg140,
  z25:=Tryz.sizeOf140,
  v25:=Tryz.zeroValue140,
  t39:=Tryz.underlying182,
  a39:=Tryz.isAgg182,
  z39:=Tryz.sizeOf182,
  v39:=Tryz.zeroValue182,
  t45:=Tryz.underlying219,
  a45:=Tryz.isAgg219,
  z45:=Tryz.sizeOf219,
  v45:=Tryz.zeroValue219,
  t46:=Tryz.underlying220,
  a46:=Tryz.isAgg220,
  z46:=Tryz.sizeOf220,
  v46:=Tryz.zeroValue220,
  t50:=Tryz.underlying53,
  a50:=Tryz.isAgg53,
  z50:=Tryz.sizeOf53,
  v50:=Tryz.zeroValue53,
  t53:=Tryz.underlying226,
  a53:=Tryz.isAgg226,
  z53:=Tryz.sizeOf226,
  v53:=Tryz.zeroValue226,
  t55:=Tryz.underlying207,
  a55:=Tryz.isAgg207,
  z55:=Tryz.sizeOf207,
  v55:=Tryz.zeroValue207,
  t66:=Tryz.underlying290,
  a66:=Tryz.isAgg290,
  z66:=Tryz.sizeOf290,
  v66:=Tryz.zeroValue290,
  t70:=Tryz.underlying294,
  a70:=Tryz.isAgg294,
  z70:=Tryz.sizeOf294,
  v70:=Tryz.zeroValue294,
  t76:=Tryz.underlying332,
  a76:=Tryz.isAgg332,
  z76:=Tryz.sizeOf332,
  v76:=Tryz.zeroValue332,
  t77:=Tryz.underlying333,
  a77:=Tryz.isAgg333,
  z77:=Tryz.sizeOf333,
  v77:=Tryz.zeroValue333 }
def Tryz.sortMf_ren:Go.Shelf.Ren:=⟨fun|6=>66|15=>103|14=>105|28=>151|29=>152|20=>154|21=>155|22=>156|23=>157|24=>158|25=>159|26=>160|27=>161|46=>221|47=>216|48=>217|49=>222|50=>223|57=>258|n=>n,fun|22=>84|24=>132|25=>142|3=>3|39=>182|0=>0|53=>226|55=>207|4=>4|46=>220|45=>219|50=>53|5=>5|9=>9|66=>290|70=>294|76=>332|77=>333|n=>n,fun|n=>n⟩
theorem Tryz.sortMf:Go.Proofs.SlLaysF0.n6 Tryz.prog Tryz.sortMf_ren:={
  mixed:=by kernel_rfl,
  f6:=⟨Tryz.f66.name,by decide,Tryz.func66.trans (jI some (by kernel_rfl))⟩,
  f14:=⟨Tryz.f105.name,by decide,Tryz.func105.trans (jI some (by kernel_rfl))⟩,
  f15:=Tryz.func103.trans (jI some (by kernel_rfl)),
  f20:=⟨Tryz.f154.name,by decide,Tryz.func154.trans (jI some (by kernel_rfl))⟩,
  f21:=⟨Tryz.f155.name,by decide,Tryz.func155.trans (jI some (by kernel_rfl))⟩,
  f22:=⟨Tryz.f156.name,by decide,Tryz.func156.trans (jI some (by kernel_rfl))⟩,
  f23:=⟨Tryz.f157.name,by decide,Tryz.func157.trans (jI some (by kernel_rfl))⟩,
  f24:=⟨Tryz.f158.name,by decide,Tryz.func158.trans (jI some (by kernel_rfl))⟩,
  f25:=⟨Tryz.f159.name,by decide,Tryz.func159.trans (jI some (by kernel_rfl))⟩,
  f26:=⟨Tryz.f160.name,by decide,Tryz.func160.trans (jI some (by kernel_rfl))⟩,
  f27:=⟨Tryz.f161.name,by decide,Tryz.func161.trans (jI some (by kernel_rfl))⟩,
  f28:=Tryz.func151.trans (jI some (by kernel_rfl)),
  f29:=Tryz.func152.trans (jI some (by kernel_rfl)),
  f46:=⟨Tryz.f221.name,by decide,Tryz.func221.trans (jI some (by kernel_rfl))⟩,
  f47:=Tryz.func216.trans (jI some (by kernel_rfl)),
  f48:=Tryz.func217.trans (jI some (by kernel_rfl)),
  f49:=⟨Tryz.f222.name,by decide,Tryz.func222.trans (jI some (by kernel_rfl))⟩,
  f50:=⟨Tryz.f223.name,by decide,Tryz.func223.trans (jI some (by kernel_rfl))⟩,
  f57:=⟨Tryz.f258.name,by decide,Tryz.func258.trans (jI some (by kernel_rfl))⟩,
  t0:=Tryz.underlying0,
  a0:=Tryz.isAgg0,
  z0:=Tryz.sizeOf0,
  v0:=Tryz.zeroValue0,
  t3:=Tryz.underlying3,
  a3:=Tryz.isAgg3,
  z3:=Tryz.sizeOf3,
  v3:=Tryz.zeroValue3,
  t4:=Tryz.underlying4,
  a4:=Tryz.isAgg4,
  z4:=Tryz.sizeOf4,
  v4:=Tryz.zeroValue4,
  t5:=Tryz.underlying5,
  a5:=Tryz.isAgg5,
  z5:=Tryz.sizeOf5,
  v5:=Tryz.zeroValue5,
  t9:=Tryz.underlying9,
  a9:=Tryz.isAgg9,
  z9:=Tryz.sizeOf9,
  v9:=Tryz.zeroValue9,
  t22:=Tryz.underlying84,
  a22:=Tryz.isAgg84,
  z22:=Tryz.sizeOf84,
  v22:=Tryz.zeroValue84,
  t25:=Tryz.underlying142,
  a25:=Tryz.isAgg142,
  z25:=Tryz.sizeOf142,
  v25:=Tryz.zeroValue142,
  t39:=Tryz.underlying182,
  a39:=Tryz.isAgg182,
  z39:=Tryz.sizeOf182,
  v39:=Tryz.zeroValue182,
  t45:=Tryz.underlying219,
  a45:=Tryz.isAgg219,
  z45:=Tryz.sizeOf219,
  v45:=Tryz.zeroValue219,
  t46:=Tryz.underlying220,
  a46:=Tryz.isAgg220,
  z46:=Tryz.sizeOf220,
  v46:=Tryz.zeroValue220,
  t50:=Tryz.underlying53,
  a50:=Tryz.isAgg53,
  z50:=Tryz.sizeOf53,
  v50:=Tryz.zeroValue53,
  t53:=Tryz.underlying226,
  a53:=Tryz.isAgg226,
  z53:=Tryz.sizeOf226,
  v53:=Tryz.zeroValue226,
  t55:=Tryz.underlying207,
  a55:=Tryz.isAgg207,
  z55:=Tryz.sizeOf207,
  v55:=Tryz.zeroValue207,
  t66:=Tryz.underlying290,
  a66:=Tryz.isAgg290,
  z66:=Tryz.sizeOf290,
  v66:=Tryz.zeroValue290,
  t70:=Tryz.underlying294,
  a70:=Tryz.isAgg294,
  z70:=Tryz.sizeOf294,
  v70:=Tryz.zeroValue294,
  t76:=Tryz.underlying332,
  a76:=Tryz.isAgg332,
  z76:=Tryz.sizeOf332,
  v76:=Tryz.zeroValue332,
  t77:=Tryz.underlying333,
  a77:=Tryz.isAgg333,
  z77:=Tryz.sizeOf333,
  v77:=Tryz.zeroValue333 }
end Go.Proofs
namespace Go.Pg
open Go.Proofs Go.RowKit Go.MapKept
theorem zen(n:Int):∀(es:List MapEntry) (ks:List (List Int)) (i:Nat),(es.map fun e=>e.key)=ks.map kv->(∀k∈ks,k.length=1)->Instr.findNow (.int .i64) (.int .i64 n) es i=some ((es[ks.idxOf [n]]?).map fun e=>(i+ks.idxOf [n],e.val))
 | [],[],i,_,_=>rfl
 |e::es,[m]::ks,i,h,hl=>by
  simp only[kY,jas]at h
  have hk:e.key= .int .i64 m:=h.1
  by_cases e1:n=m
  ·subst e1
   have:List.idxOf [n] ([n]::ks)=0:=by simp[List.idxOf_cons]
   rw[this]
   simp[Instr.findNow,hk,Instr.sameNow]
  ·have:List.idxOf [n] ([m]::ks)=List.idxOf [n] ks+1:=by
    rw[List.idxOf_cons]
    have:([m]==[n])=false:=by simp;exact fun e=>e1 e.symm
    rw[this];rfl
   rw[this]
   have hs:Instr.sameNow (.int .i64) (.int .i64 n) e.key=some false:=by simp[Instr.sameNow,hk,e1]
   simp only[Instr.findNow,hs]
   rw[zen n es ks (i+1) h.2 fun k hk=>hl k (jav _ hk)]
   simp only[wG]
   congr 2
   funext e'
   rw[show i+1+List.idxOf [n] ks=i+(List.idxOf [n] ks+1)by omega]
 |e::es,[]::ks,i,h,hl=>by have:=hl [] (jar ..);cases this
 |e::es,(_::_::_)::ks,i,h,hl=>by have:=hl _ (jar ..);simp at this
 | [],_::_,i,h,_=>by simp at h
 | _::_,[],i,h,_=>by simp at h
theorem zoI{P:Program}{kt:Nat}(hu:P.underlying kt=some (.int .i64)):KeyF P kt 1:=fun key hk=>by
 obtain⟨n,rfl⟩:∃n,key=[n]:=by
  match key,hk with
  | [n],_=>exact⟨n,rfl⟩
 have hK:IsKey (.int .i64) (Value.int .i64 n):=by simp[IsKey]
 refine⟨fun b w=>run_checkKey hu hK b 9999,fun w=>run_keyThatStays hK,fun w es ks h hl=>?_⟩
 have:=run_findKey (P:=P) (w:=w) hu (zen n es ks 0 h hl)
 simp only[qB]at this
 exact this
theorem kInt:KeyF PP 3 1:=zoI (by kernel_rfl)
theorem zh3(l:List Int)(k:Int):(l.map fun x=>[x]).idxOf [k]<(l.map fun x=>[x]).length↔l.contains k=true:=by
 rw[jbc,kJ,kD]
 constructor
 ·rintro⟨x,hx,e⟩;cases e;exact hx
 intro h;exact⟨k,h,rfl⟩
theorem zt6(l:List Int)(k:Int):lkD (l.map fun x=>[x]) (fun _=>.bool true) [k] (.bool false)= .bool (l.contains k):=by
 unfold lkD
 by_cases h:l.contains k=true
 ·rw[kH ((zh3 l k).2 h),h]
 rw[kG fun e=>h ((zh3 l k).1 e),qW.2 h]
theorem zro{l:List Int}{k:Int}(h:l.contains k=false):D.eqv (.mp 1 (putK (l.map fun x=>[x]) [k]) (putF (l.map fun x=>[x]) (fun _=>.bool true) [k] (.bool true))) (.mp 1 ((l++[k]).map fun x=>[x]) fun _=>.bool true):=by
 refine⟨rfl,?_,fun j _=>?_⟩
 ·unfold putK
  rw[kG fun e=>(by rw[(zh3 l k).1 e]at h;cases h),jT];rfl
 unfold putF;split<;>exact dE _
theorem obMp{s:St}{ob:Nat->Option Ob}{m m':Nat}{ks ks':List (List Int)}{f f':Nat->D}{o:Option Ob}(h:o=some (.mp m ks f))(e:D.eqv (.mp m ks f) (.mp m' ks' f')):Oble s ob o (.mp m' ks' f'):=by subst h;exact e
def SpecSx(P:Program)(f:FuncId)(post:List V1)(cs cs':List D)(res:List V1):Prop:=
 Ent P f/\∀(w:World) (ok:Nat->Prop) (us:List Value) (b:Nat) (vs:List Value) (T:TypeId),(∀b,ok b->b<w.heap.size)->All2 (Rep1 w ok) post us->w.heap[b]?=some (.cells vs.toArray T (0,0))->All2 (Rep w ok) cs vs->¬ok b->
  Calls P f (Value.pointer (some ⟨b,0,none⟩)::us).toArray w fun en w'=>∃r,en= .returned r/\w.grownBy w' (some b)/\ResRep w' (fun _=>False) res r/\
   ∃(vs':List Value) (T':TypeId),w'.heap[b]?=some (.cells vs'.toArray T' (0,0))/\All2 (Rep w' (fun _=>False)) cs' vs'
def boxSlots(post:List V1)(b:Nat):List (Nat×AV):=(0,.pbox 0 (.pointer (some ⟨b,0,none⟩)))::argSlots 1 post
theorem ziu{w:World}{ok ok':Nat->Prop}{γ:Nat->Value}(hk:∀b,ok b->ok' b):∀{cs:List D}{vs:List Value},All2 (Rep w ok) cs vs->All2 (fun c v=>M w ok' γ c v/\v.oneCell'=true) (cs.map AV.d) vs
 | [],[],.nil=>.nil
 | _::_,_::_,.cons h1 h2=>.cons ⟨Rep.keep0 (fun b hb=>⟨hk b hb,⟨fun _ _ _ h=>h,fun _ _ h=>h⟩⟩) h1,Rep.one h1⟩ (ziu hk h2)
theorem zn0{post:List V1}{us:List Value}{w:World}{ok:Nat->Prop}{N b:Nat}{cs:List D}{vs:List Value}{T:TypeId}(hok:∀b,ok b->b<w.heap.size)(h2:All2 (Rep1 w ok) post us)(hb:w.heap[b]?=some (.cells vs.toArray T (0,0)))
    (hr:All2 (Rep w ok) cs vs)(hsep:¬ok b)(hsz:1+post.length<=N)(hng:N<=G):
    R (cxR w ok N (.pointer (some ⟨b,0,none⟩))) (St.of (boxSlots post b) [(0,.box (cs.map AV.d))]) { tmps:=(Value.pointer (some ⟨b,0,none⟩)::us).toArray++Array.replicate (N-(Value.pointer (some ⟨b,0,none⟩)::us).toArray.size) undef,defers:=[] } w:=by
  have l2:=h2.length
  have hlt:b<w.heap.size:=(jB.1 hb).1
  have slot:∀t x,look (boxSlots post b) t=some x->M w ok (fun _=>Value.pointer (some ⟨b,0,none⟩)) x ((((Value.pointer (some ⟨b,0,none⟩)::us).toArray++Array.replicate (N-(Value.pointer (some ⟨b,0,none⟩)::us).toArray.size) undef)).getD t undef)/\(x.refs=[]\/x.refs=[0]):=fun t x hx=>by
    unfold boxSlots at hx
    simp only [look]at hx
    cases ht:Nat.beq t 0 with
    |true=>
     rw [ht]at hx;cases hx
     have:=jA ht
     subst this
     rw [zbp (u:= .pointer (some ⟨b,0,none⟩)) (by simp)]
     exact⟨⟨⟨b,rfl,rfl⟩,rfl⟩,.inr rfl⟩
    |false=>
     rw [ht]at hx
     obtain⟨j,u,z,g1,g2,g3,g4⟩:=zaM post us 1 t h2 x hx
     rw [zbp (u:=u) (by
       rw [show t=j+1 by omega,wG];exact g2),g3]
     exact⟨zd9.2 g4,.inl (zbC z)⟩
  refine⟨fun _=> .pointer (some ⟨b,0,none⟩),?_⟩
  have hob:∀i o,look [(0,Ob.box (cs.map AV.d))] i=some o->i=0/\o= .box (cs.map AV.d):=fun i o ho=>by
    simp only [look]at ho
    cases hb:Nat.beq i 0 with
    |true=>rw [hb]at ho;cases ho;exact⟨jA hb,rfl⟩
    |false=>rw [hb]at ho;cases ho
  exact { defers:=⟨fun _=>rfl,[],rfl,jaf,fun D hD=>by cases hD⟩
          size:=by simp [cxR];omega
          okA:=fun c hc=>⟨hok c hc,fun e=>by simp only [cxR,blk,jO]at e;subst e;exact hsep hc⟩
          lent:=fun c hc=>by simp only [cxR,blk,jO]at hc;subst hc;exact hlt
          below:=⟨rfl,rfl,rfl,fun _=>jE _,jE _,fun _ _ _=>rfl⟩
          hold:=fun k o hk=>hk.elim
          least:=jF _
          objs:=fun i o hi=>by
            obtain⟨rfl,rfl⟩:=hob i o hi
            exact⟨b,vs,T,rfl,.inr rfl,hb,ziu (fun b hb=> .inl hb) hr⟩
          refs:=fun i cs' hi c hc j hj=>by
            obtain⟨_,h3⟩:=hob i _ hi;cases h3
            obtain⟨x,_,rfl⟩:=kJ.1 hc
            cases hj
          sep:=fun i j o o' hi hj hne=>absurd ((hob i o hi).1.trans (hob j o' hj).1.symm) hne
          slots:=fun t=>by
            show M w _ _ ((look (boxSlots post b) t).getD .any) _
            cases hx:look (boxSlots post b) t with
            |none=>exact trivial
            |some x=>exact(slot t x hx).1.keep (fun b hb=>⟨.inl hb,rfl⟩) fun _ _=>rfl
          ng:=hng
          gho:=fun m hm=>by
            have hm':(look (boxSlots post b) G).getD .any= .gho m:=hm
            cases hx:look (boxSlots post b) G with
            |none=>rw [hx]at hm';cases hm'
            |some x=>
             rw [hx]at hm'
             have hno:∀y:V1,avOf y≠ .gho m:=fun y=>by
               cases y with
               |d z=>cases z<;>simp [avOf]
               |agg z=>simp [avOf]
             unfold boxSlots at hx
             simp only [look]at hx
             have hx':look (argSlots 1 post) G=some x:=hx
             obtain⟨j,u,z,g1,g2,g3,g4⟩:=zaM post us 1 G h2 x hx'
             exact absurd (g3.symm.trans hm') (hno z)
          srefs:=fun t j hj=>by
            have hj':j∈((look (boxSlots post b) t).getD .any).refs:=hj
            cases hx:look (boxSlots post b) t with
            |none=>rw [hx]at hj';cases hj'
            |some x=>
             rw [hx]at hj'
             rcases(slot t x hx).2 with h3|h3
             · rw [show(Option.some x).getD .any=x from rfl,h3]at hj';cases hj'
             rw [show(Option.some x).getD .any=x from rfl,h3]at hj'
             simp only [kI]at hj'
             subst hj'
             rfl }
def retX(T:TT)(rs:List ResultVar)(b:Nat)(cs':List D)(res:List V1):KK:=fun x s=>
 let fin:Prop:=RetAll T s rs res/\s.sl 0= .pbox 0 (.pointer (some ⟨b,0,none⟩))/\∃cz:List AV,s.ob 0=some (.box cz)/\∃xs,allD cz=some xs/\eqvs xs cs'
 match x with
 | .normal=>fin
 | .ret=>fin
 | _=>False
theorem zeA{w:World}{ok:Nat->Prop}{γ:Nat->Value}:∀{cz:List AV}{xs:List D}{vs:List Value},allD cz=some xs->All2 (fun c v=>M w ok γ c v/\v.oneCell'=true) cz vs->All2 (Rep w ok) xs vs
 | [],xs,[],h,.nil=>by simp only[allD,jO]at h;subst h;exact .nil
 |c::r,xs,v::vs,h,.cons h1 h2=>by
  simp only[allD]at h
  cases hc:avD c with
  |none=>simp[hc]at h
  |some x=>
  cases hr:allD r with
  |none=>simp[hc,hr]at h
  |some ys=>
  simp only[hc,hr,jO]at h;subst h
  exact .cons (zcw hc h1.1).1 (zeA hr h2)
theorem znF{P:Program}{T:TT}{E:Env}(hT:∀t i,T t=some i->TI.of P t=some i)(hE:∀t,E.eq t=true->EqFact P t)(hm:P.follows .mixedOrders=true)
  {f:FuncId}{fn:Func}{c:Code}(hf:P.funcs[f]?=some fn)(hb:fn.body=some c)(hn:(fn.name== "runtime.NumGoroutine")=false)(hN:codeN fn.ntmps c=true)
  {post res:List V1}{cs cs':List D}(hfl:cs'.all D.flat=true)(hrf:res.all V1.flat=true)(hsz:1+post.length<=fn.ntmps)(hng:fn.ntmps<=G)
  (h:∀b,awp P T E c (St.of (boxSlots post b) [(0,.box (cs.map AV.d))]) (retX T fn.results.toList b cs' res)):SpecSx P f post cs cs' res:=
 ⟨⟨fn,hf,hn,by rw [hb];rfl⟩,fun w ok us b vs T' hok h2 hcell hr hsep=>zh6 hT hE hm hf hb hN (cx:=cxR w ok fn.ntmps (.pointer (some ⟨b,0,none⟩))) (fun e=>by cases e) rfl rfl rfl (fun _ _=>id) (zn0 hok h2 hcell hr hsep hsz hng) (h b)
  (fun x h1 h2 s h=>by cases x<;>first|exact h1 rfl|exact h2 rfl|exact h) fun x s a w' hx hk hR _=>by
  have hk':RetAll T s fn.results.toList res/\s.sl 0= .pbox 0 (.pointer (some ⟨b,0,none⟩))/\∃cz:List AV,s.ob 0=some (.box cz)/\∃xs,allD cz=some xs/\eqvs xs cs':=by rcases hx with rfl|rfl<;>exact hk
  obtain⟨k1,k2,cz,k3,xs,k4,k5⟩:=hk'
  obtain⟨r,r1,r2⟩:=zeW (P:=P) hT (fn:=fn) hR k1
  obtain⟨γ,hg⟩:=hR
  obtain⟨b',vs',T2,o1,o0,o2,o3⟩:=hg.objs _ _ k3
  have hsl:=hg.slots 0
  rw [k2]at hsl
  obtain⟨⟨b2,e1,e2⟩,e3⟩:=hsl
  rw [e1]at o1
  obtain rfl:b2=b':=by simpa using o1
  rw [e2]at e3
  obtain rfl:b2=b:=by simpa using e3
  refine⟨r,r1,r,rfl,zdo hg.below,zdW hrf r2,vs',T2,o2,?_⟩
  have q:=zb1 k5 (zeA k4 o3)
  have hall:=jC.1 hfl
  exact q.imp fun x u hx hr=>Rep.flat (hall x hx) hr⟩
theorem znG{f:FuncId}{fn:Func}{c:Code}(hf:PP.funcs[f]?=some fn)(hb:fn.body=some c)(hq:((fn.name== "runtime.NumGoroutine")|| !(codeN fn.ntmps c&&Nat.ble fn.ntmps 4294967296))=false)
  {post res:List V1}{cs cs':List D}(hfl:cs'.all D.flat=true)(hrf:res.all V1.flat=true)(hsz:Nat.ble (1+post.length) fn.ntmps=true)(h:∀b,awp PP TTab EN c (St.of (boxSlots post b) [(0,.box (cs.map AV.d))]) (retX TTab fn.results.toList b cs' res)):SpecSx PP f post cs cs' res:=by
 simp only [qN,qQ,jP]at hq
 exact znF (E:=EN) hT hE hM hf hb hq.1 hq.2.1 hfl hrf (jD hsz) (jD hq.2.2) h
end Go.Pg
namespace Go.Pg
open Go
def ofB(f:Nat->Bool):Nat->Nat
 |0=>0
 |n+1=>2^n*(if f n=true then 1 else 0)+ofB f n
theorem zlQ(f:Nat->Bool):∀n:Nat,ofB f n<2^n
 |0=>by simp[ofB]
 |n+1=>by
  have:=zlQ f n
  rw[Nat.pow_succ]
  unfold ofB
  split<;>omega
theorem zlR(f:Nat->Bool):∀(n j:Nat),(ofB f n).testBit j=(decide (j<n)&&f j)
 |0,j=>by simp[ofB]
 |n+1,j=>by
  have hl:=zlQ f n
  unfold ofB
  rw[Nat.testBit_two_pow_mul_add _ hl,zlR f n j]
  by_cases h:j<n
  ·rw[kH h,jG h,jG (show j<n+1 by omega)]
  rw[kG h]
  by_cases e:j=n
  ·subst e
   rw[kE,jG (show j<j+1 by omega)]
   cases hf:f j<;>simp
  rw[jH (show ¬j<n+1 by omega)]
  have:∀b:Bool,((if b=true then 1 else 0:Nat)).testBit (j-n)=false:=fun b=>by
   obtain⟨d,hd⟩:∃d,j-n=d+1:=⟨j-n-1,by omega⟩
   rw[hd,Nat.testBit_succ]
   cases b<;>simp
  rw[this];rfl
def wd(P:Nat->Bool)(i:Nat):Nat:=ofB (fun j=>P (64*i+j)) 64
theorem zhu(P:Nat->Bool)(i:Nat):wd P i<18446744073709551616:=zlQ _ 64
theorem zeN(P:Nat->Bool)(i j:Nat)(hj:j<64):(wd P i).testBit j=P (64*i+j):=by
 unfold wd;rw[zlR];simp[hj]
theorem zgq{n:Nat}{P:Nat->Bool}{i:Nat}(hn:n<18446744073709551616)(h:∀j,j<64->n.testBit j=P (64*i+j)):n=wd P i:=by
 refine ja6 fun j=>?_
 by_cases hj:j<64
 ·rw[h j hj,zeN P i j hj]
 have hp:(18446744073709551616:Nat)<=2^j:=by
  have:2^64<=2^j:=jah (by omega) (by omega)
  omega
 rw[jaZ (by omega),jaZ (by have:=zhu P i;omega)]
theorem znr{P Q:Nat->Bool}{i:Nat}(h:∀j,j<64->P (64*i+j)=Q (64*i+j)):wd P i=wd Q i:=
 zgq (zhu P i) fun j hj=>by rw[zeN P i j hj];exact h j hj
theorem zoo(x:Nat)(hx:x<18446744073709551616):(BitVec.ofInt 64 (x:Int)).toNat=x:=by
 rw[BitVec.ofInt_natCast,BitVec.toNat_ofNat];exact jaI hx
theorem zqz(x:Nat)(hx:x<18446744073709551616):IntKind.wrap .u64 (x:Int)=(x:Int):=by
 unfold IntKind.wrap
 show(if(false&&_)=true then _ else(x:Int)%(2^64:Int))=_
 rw[kG (by simp)]
 exact Int.emod_eq_of_lt (by omega) (by omega)
theorem andU(x y:Nat)(hx:x<18446744073709551616)(hy:y<18446744073709551616):IntKind.wrap .u64 ((BitVec.ofInt 64 (x:Int)&&&BitVec.ofInt 64 (y:Int)).toNat:Int)=((x&&&y:Nat):Int):=by
 rw[BitVec.toNat_and,zoo x hx,zoo y hy,zqz _ (Nat.lt_of_le_of_lt Nat.and_le_left hx)]
theorem orU(x y:Nat)(hx:x<18446744073709551616)(hy:y<18446744073709551616):IntKind.wrap .u64 ((BitVec.ofInt 64 (x:Int)|||BitVec.ofInt 64 (y:Int)).toNat:Int)=((x|||y:Nat):Int):=by
 rw[BitVec.toNat_or,zoo x hx,zoo y hy,zqz _ (Nat.or_lt_two_pow (n:=64) hx hy)]
theorem divN(n:Nat):(n:Int).tdiv 64=((n/64:Nat):Int):=by
 rw[ja5 (by omega)];rfl
theorem modN(n:Nat):(n:Int).tmod 64=((n%64:Nat):Int):=by
 rw[wE (by omega)];rfl
theorem shrU(x j:Nat)(hj:j<64):(x:Int).fdiv (2^(min (j:Int).toNat 64))=((x/2^j:Nat):Int):=by
 have e:min (j:Int).toNat 64=j:=by omega
 rw[e,Int.fdiv_eq_ediv_of_nonneg _ (by exact jaF (Int.pow_pos (by omega)))]
 have:(2^j:Int)=((2^j:Nat):Int):=by simp
 rw[this];rfl
theorem shlU(j:Nat)(hj:j<64):IntKind.wrap .u64 (1*2^(min (j:Int).toNat 64))=((2^j:Nat):Int):=by
 have e:min (j:Int).toNat 64=j:=by omega
 have h:(2^j:Nat)<18446744073709551616:=Nat.pow_lt_pow_right (a:=2) (n:=64) (by omega) hj
 have:(1*2^j:Int)=((2^j:Nat):Int):=by simp
 rw[e,this,zqz _ h]
attribute [irreducible] wd
theorem zr4(P:Nat->Bool)(n:Nat):((IntKind.wrap .u64 ((BitVec.ofInt 64 (((wd P (n/64):Nat):Int).fdiv (2^(min ((n:Int).tmod 64).toNat 64)))&&&BitVec.ofInt 64 1).toNat:Int))==1)=P n:=by
 have hj:n%64<64:=jau _ (by omega)
 have hw:=zhu P (n/64)
 rw[modN,shrU _ _ hj]
 have h1:wd P (n/64)/2^(n%64)<18446744073709551616:=Nat.lt_of_le_of_lt (Nat.div_le_self _ _) hw
 have:=andU (wd P (n/64)/2^(n%64)) 1 h1 (by omega)
 rw[show((1:Nat):Int)=1 from rfl]at this
 rw[this,Nat.and_one_is_mod]
 have hb:=zeN P (n/64) (n%64) hj
 rw[ja0,Nat.testBit_eq_decide_div_mod_eq]at hb
 rw[<- hb,kQ]
 simp only[jai,kA]
 omega
def addP(P:Nat->Bool)(n:Nat):Nat->Bool:=fun k=>P k||k==n
theorem or_lt{x y:Nat}(hx:x<18446744073709551616)(hy:y<18446744073709551616):x|||y<18446744073709551616:=Nat.or_lt_two_pow (n:=64) hx hy
theorem zrn(P:Nat->Bool)(n:Nat):IntKind.wrap .u64 ((BitVec.ofInt 64 ((wd P (n/64):Nat):Int)|||BitVec.ofInt 64 (IntKind.wrap .u64 (1*2^(min ((n:Int).tmod 64).toNat 64)))).toNat:Int)=((wd (addP P n) (n/64):Nat):Int):=by
 have hj:n%64<64:=jau _ (by omega)
 have hw:=zhu P (n/64)
 have h:2^(n%64)<18446744073709551616:=Nat.pow_lt_pow_right (a:=2) (n:=64) (by omega) hj
 rw[modN,shlU _ hj,orU _ _ hw h]
 refine jI (fun m:Nat=>(m:Int)) (zgq (or_lt hw h) fun j hj'=>?_)
 rw[Nat.testBit_or,zeN P _ _ hj',Nat.testBit_two_pow]
 unfold addP
 refine jI (P _|| ·) ?_
 rw[kQ]
 simp only[jai,kA]
 omega
theorem zlt(P:Nat->Bool)(n i:Nat)(h:i≠n/64):wd (addP P n) i=wd P i:=znr fun j hj=>by
 unfold addP
 have:(64*i+j==n)=false:=by
  rw[jax];omega
 rw[this,qZ]
theorem zsL(P Q:Nat->Bool)(i:Nat):IntKind.wrap .u64 ((BitVec.ofInt 64 ((wd P i:Nat):Int)&&&BitVec.ofInt 64 ((wd Q i:Nat):Int)).toNat:Int)=((wd (fun k=>P k&&Q k) i:Nat):Int):=by
 rw[andU _ _ (zhu P i) (zhu Q i)]
 refine jI (fun m:Nat=>(m:Int)) (zgq (Nat.lt_of_le_of_lt Nat.and_le_left (zhu P i)) fun j hj=>?_)
 rw[jbt,zeN P _ _ hj,zeN Q _ _ hj]
theorem zsR(i:Nat):wd (fun _=>true) i=18446744073709551615:=by
 refine(zgq (by omega) fun j hj=>?_).symm
 have:=Nat.testBit_two_pow_sub_one 64 j
 rw[show(2^64-1:Nat)=18446744073709551615 from rfl]at this
 rw[this];exact jG hj
theorem zqB(i:Nat):wd (fun _=>false) i=0:=by
 refine(zgq (by omega) fun j hj=>?_).symm
 exact Nat.zero_testBit j
end Go.Pg
namespace Go.Pg
open Go.Proofs Go.RowKit
theorem zhp{s:St}{ob:Nat->Option Ob}:∀cs:List AV,avles s ob cs cs
 | []=>trivial
 |c::cs=>⟨za3 s ob c,zhp cs⟩
theorem obX{s:St}{ob:Nat->Option Ob}{cs:List AV}{o:Option Ob}(h:o=some (.box cs)):Oble s ob o (.box cs):=by subst h;exact zhp cs
abbrev U(n:Nat):D:=.int .u64 n
abbrev bD(P:Nat->Bool):List D:=(List.range 38).map fun j=>U (wd P j)
theorem i38{i:Nat}(h:i<38):i=0\/i=1\/i=2\/i=3\/i=4\/i=5\/i=6\/i=7\/i=8\/i=9\/i=10\/i=11\/i=12\/i=13\/i=14\/i=15\/i=16\/i=17\/i=18\/i=19\/i=20\/i=21\/i=22\/i=23\/i=24\/i=25\/i=26\/i=27\/i=28\/i=29\/i=30\/i=31\/i=32\/i=33\/i=34\/i=35\/i=36\/i=37:=by omega
abbrev bV(f:Nat->Nat)(i:Nat)(v:Int):List AV:=(List.range 38).map fun j=>AV.d (.int .u64 (if j=i then v else f j))
theorem zuN{f g:Nat->Nat}{i:Nat}{v:Int}(h1:((g i:Nat):Int)=v)(h2:∀j,j<38->j≠i->g j=f j):((List.range 38).map fun j=>U (g j)).map AV.d=bV f i v:=by
 rw[jbb]
 refine qH fun j hj=>?_
 have hj:=kK.1 hj
 show AV.d (U (g j))=_
 by_cases e:j=i
 ·subst e;rw[kH rfl,<- h1]
 rw[kG e,h2 j hj e]
theorem zrO(P:Nat->Bool)(n:Nat)(hn:n<2432):Spec PP 142 [.agg (bD P),N n] [B (P n)]:=by
 have hq:=divN n
 have hv:=zr4 P n
 have hm:=modN n
 obtain⟨i,hi⟩:∃i,n/64=i:=⟨_,rfl⟩
 rw[hi]at hq hv
 have hi2:i<38:=by omega
 refine sA Tryz.func142 ?_
 refine⟨⟨by decide,zaZ (by rw[hq];omega) (by rw[hq];omega)⟩,?_⟩
 rw[hq]
 refine⟨⟨by omega,by omega⟩,?_⟩
 rcases i38 hi2 with rfl|rfl|rfl|rfl|rfl|rfl|rfl|rfl|rfl|rfl|rfl|rfl|rfl|rfl|rfl|rfl|rfl|rfl|rfl|rfl|rfl|rfl|rfl|rfl|rfl|rfl|rfl|rfl|rfl|rfl|rfl|rfl|rfl|rfl|rfl|rfl|rfl|rfl<;>
 ·refine⟨by decide,⟨by rw[hm];omega,?_⟩⟩
  exact r1B rfl hv
section
variable {s:St}{o:Oper}{fo:Operand}{f:FuncId}{K:St->Prop}{E:Env}
structure BoxArgsP(s:St)(fo:Operand)(args:List Operand)(f:FuncId)(i:Nat)(post:List V1):Prop where
  out:∃a0 a2 ex,args=a0::a2/\callee (ev s fo)=some (f,ex)/\(ev s a0).asPtr= .box i 0/\toV1s s (a2.map (ev s)++ex)=some post/\(a2.map (ev s)++ex).all (fun v=>!v.isOwn)=true
theorem CallSt.bxP(hdr:E.dr=false){args:Array Operand}{at':Array TypeId}(hop:o.op= .call { callee:=.value fo,args,argTypes:=at' }){post res:List V1}{i:Nat}{cs cs':List D}(h:SpecSx PP f post cs cs' res)
  (ha:BoxArgsP s fo args.toList f i post)(hi:s.ob i=some (.box (cs.map AV.d)))(hk:K ((s.setOb i (some (.box (cs'.map AV.d)))).putO o.dst (resAV res))):CallSt E PP s o fo args.toList K:=by
 rw[zag]
 refine .inr (.inr (.inl ⟨_,⟨fun cx a w hD hd hR=>?_⟩,hk⟩))
 obtain⟨γ,hg⟩:=hR
 obtain⟨a0,a2,ex,h1,h2,h3,h4,h6⟩:=ha.out
 obtain⟨caps,hf,hc⟩:=za1 h2 (ev_m hg fo).1
 have h0:=zgm (ev_m hg a0).1
 rw[h3]at h0
 obtain⟨b,e1,e2⟩:=h0
 have m2:=(zbw hg h4 ((zbN hg a2).append hc)).2 h6
 obtain⟨b',vs,T,o1,o0,o2,o3⟩:=hg.objs i _ hi
 rw[e1]at o1
 obtain rfl:b=b':=by simpa using o1
 have hrep:All2 (Rep w (okOf cx s γ w)) cs vs:=by
  have:allD (cs.map AV.d)=some cs:=by
   have:∀cs:List D,allD (cs.map AV.d)=some cs:=fun cs=>by
    induction cs with
    |nil=>rfl
    |cons x r ih=>simp only[kY,allD,avD,ih]
   exact this cs
  exact zeA this o3
 refine .enter (zaD hop hf h.1) ?_
 rw[h1]
 simp only[kY,List.cons_append,e2]
 refine(h.2 w _ _ b vs T (fun b hb=>zal hg hb) m2 o2 hrep (fun hb=>zck hg hb hi (by rw[e1];rfl))).mono fun en w' ⟨r,he,hgr,hres,ys,T2,y1,y2⟩=>⟨r,he,γ,?_⟩
 refine(hg.change (i:=i) (o':=.box (cs'.map AV.d)) hi (by rw[e1];exact hgr) (fun e=>by have:=hD e;rw[hdr]at this;cases this) (fun ok hok=>⟨b,ys,T2,e1,o0,y1,ziu (fun b hb=>hb.elim) y2⟩) (fun cs2 e c hc j hj=>?_)).putO hd (zaX (.inl fun b hb=>hb.elim) hres) (fun j hj=>by rw[zaB]at hj;cases hj)
 cases e
 obtain⟨x,_,rfl⟩:=kJ.1 hc
 cases hj
end
theorem bX_eq{f g:Nat->Nat}{i:Nat}{v:Int}(h1:((g i:Nat):Int)=v)(h2:∀j,j<38->j≠i->g j=f j):((List.range 38).map fun j=>U (g j))=(List.range 38).map fun j=>D.int .u64 (if j=i then v else f j):=by
 refine qH fun j hj=>?_
 have hj:=kK.1 hj
 by_cases e:j=i
 ·subst e;rw[kH rfl,<- h1]
 rw[kG e,h2 j hj e]
theorem zsH(P:Nat->Bool):(bD P).all D.flat=true:=by
 rw[jC]
 intro x hx
 obtain⟨j,_,rfl⟩:=kJ.1 hx
 rfl
theorem l_put(P:Nat->Bool)(n:Nat)(hn:n<2432):SpecSx PP 214 [N n] (bD P) (bD (addP P n)) []:=by
 have hq:=divN n
 have hv:=zrn P n
 have ho:=zlt P n
 have hm:=modN n
 obtain⟨i,hi⟩:∃i,n/64=i:=⟨_,rfl⟩
 rw[hi]at hq hv ho
 have hi2:i<38:=by omega
 have fl:=zsH (addP P n)
 have e:bD (addP P n)=(List.range 38).map fun j=>D.int .u64 (if j=i then _ else wd P j):=bX_eq (f:=wd P) (g:=wd (addP P n)) (i:=i) hv.symm fun j _ hj=>ho j hj
 rw[e]at fl⊢
 refine znG Tryz.func214 rfl (by kernel_rfl) fl rfl rfl fun b=>?_
 refine oN 13 ?_
 refine⟨⟨by decide,zaZ (by rw[hq];omega) (by rw[hq];omega)⟩,?_⟩
 rw[hq]
 refine⟨⟨by omega,by omega⟩,?_⟩
 rcases i38 hi2 with rfl|rfl|rfl|rfl|rfl|rfl|rfl|rfl|rfl|rfl|rfl|rfl|rfl|rfl|rfl|rfl|rfl|rfl|rfl|rfl|rfl|rfl|rfl|rfl|rfl|rfl|rfl|rfl|rfl|rfl|rfl|rfl|rfl|rfl|rfl|rfl|rfl|rfl<;>
 ·refine⟨by decide,⟨by rw[hm];omega,⟨⟨by decide,by decide⟩,?_⟩⟩⟩
  exact⟨trivial,rfl,_,rfl,_,rfl,zaa _⟩
def vecP(d:Int):Place:=
 if 3150<=d then⟨450,d-3600⟩else if 2250<=d then⟨d-2700,-450⟩else if 1350<=d then⟨-450,1800-d⟩else if 450<=d then⟨900-d,450⟩else⟨450,d⟩
def Sg(c m d:Int):Prop:=(0<=m/\m<3600*d)/\(0<c↔0<m/\m<1800*d)/\(c<0↔1800*d<m)
theorem zqX{s x y:Int}(hs:0<=s/\s<3600)(hx:0<x)(hy:-x<=y/\y<=x):∃j:Int,Sg ((vecP s).X*y-(vecP s).Y*x) (450*y-s*x+3600*x*j) x:=by
 unfold Sg vecP
 by_cases h4:3150<=s
 ·rw[kH h4]
  have a:=wK (show 0<=s-3150 by omega) (jaF hx)
  have b:=jbh (show 0<3600-s by omega) hx
  rw[jaQ]at a b
  have e:(450:Int)*y-(s-3600)*x=450*y-s*x+3600*x:=by rw[jaQ];omega
  by_cases z:0<=450*y-s*x+3600*x
  ·exact⟨1,(show(0<=450*y-s*x+3600*x*1/\_)/\(0<450*y-(s-3600)*x↔_)/\(450*y-(s-3600)*x<0↔_)by rw[e];omega)⟩
  exact⟨2,(show(0<=450*y-s*x+3600*x*2/\_)/\(0<450*y-(s-3600)*x↔_)/\(450*y-(s-3600)*x<0↔_)by rw[e];omega)⟩
 rw[kG h4]
 by_cases h3:2250<=s
 ·rw[kH h3]
  have a:=wK (show 0<=s-2250 by omega) (jaF hx)
  have b:=jbh (show 0<3150-s by omega) hx
  rw[jaQ]at a b
  refine⟨1,(show(0<=450*y-s*x+3600*x*1/\450*y-s*x+3600*x*1<3600*x)/\(0<(s-2700)*y- -450*x↔0<450*y-s*x+3600*x*1/\450*y-s*x+3600*x*1<1800*x)/\((s-2700)*y- -450*x<0↔1800*x<450*y-s*x+3600*x*1)from ?_)⟩
  have e1:(s-2700)*y- -450*x=450*(x+y)+(3150-s)*(-y):=by grind
  have e2:(s-2700)*y- -450*x=450*(x-y)+(s-2250)*y:=by grind
  have k3:450*y-s*x+3600*x*1=1800*x->(s-2700)*y- -450*x=0:=fun h=>by
   have yx:y=x:=by omega
   subst yx
   rw[jaQ];omega
  have k:0<=(s-2700)*y- -450*x/\((s-2700)*y- -450*x=0->450*y-s*x+3600*x*1=0\/450*y-s*x+3600*x*1=1800*x):=by
   rcases jby y 0 with g|g
   ·have:=jbh (show 0<3150-s by omega) (show 0< -y by omega)
    exact⟨by omega,fun h=>by omega⟩
   have:=wK (show 0<=s-2250 by omega) g
   refine⟨by omega,fun h=>?_⟩
   have z:(s-2250)*y=0:=by omega
   have yx:y=x:=by omega
   rcases Int.mul_eq_zero.1 z with q|q
   ·have:s=2250:=by omega
    subst this;right;omega
   omega
  obtain⟨k1,k2⟩:=k
  generalize (s-2700)*y- -450*x=c at*
  omega
 rw[kG h3]
 by_cases h2:1350<=s
 ·rw[kH h2]
  have a:=wK (show 0<=s-1350 by omega) (jaF hx)
  have b:=jbh (show 0<2250-s by omega) hx
  rw[jaQ]at a b
  have e:-450*y-(1800-s)*x= -(450*y-s*x+1800*x):=by rw[jaQ];omega
  exact⟨1,(show(0<=450*y-s*x+3600*x*1/\_)/\(0< -450*y-(1800-s)*x↔_)/\(-450*y-(1800-s)*x<0↔_)by rw[e];omega)⟩
 rw[kG h2]
 by_cases h1:450<=s
 ·rw[kH h1]
  have a:=wK (show 0<=s-450 by omega) (jaF hx)
  have b:=jbh (show 0<1350-s by omega) hx
  rw[jaQ]at a b
  have e1:(900-s)*y-450*x= -(450*(x+y)+(1350-s)*(-y)):=by grind
  have e2:(900-s)*y-450*x= -(450*(x-y)+(s-450)*y):=by grind
  have k:(900-s)*y-450*x<=0/\((900-s)*y-450*x=0->450*y-s*x=0)/\(450*y-s*x=0->(900-s)*y-450*x=0):=by
   rcases jby y 0 with g|g
   ·have:=jbh (show 0<1350-s by omega) (show 0< -y by omega)
    exact⟨by omega,fun h=>by omega,fun h=>by omega⟩
   have:=wK (show 0<=s-450 by omega) g
   refine⟨by omega,fun h=>?_,fun h=>?_⟩
   ·have z:(s-450)*y=0:=by omega
    have yx:y=x:=by omega
    rcases Int.mul_eq_zero.1 z with q|q
    ·have:s=450:=by omega
     subst this;omega
    omega
   have yx:y=x:=by omega
   subst yx
   have:(s-450)*y=0:=by rw[jaQ];omega
   omega
  obtain⟨k1,k2,k3⟩:=k
  by_cases z:450*y-s*x=0
  ·exact⟨0,(show(0<=450*y-s*x+3600*x*0/\_)/\(0<(900-s)*y-450*x↔_)/\((900-s)*y-450*x<0↔_)by have:=k3 z;omega)⟩
  refine⟨1,(show(0<=450*y-s*x+3600*x*1/\_)/\(0<(900-s)*y-450*x↔_)/\((900-s)*y-450*x<0↔_)from ?_)⟩
  have:(900-s)*y-450*x≠0:=fun h=>z (k2 h)
  generalize (900-s)*y-450*x=c at*
  omega
 rw[kG h1]
 have a:=wK hs.1 (jaF hx)
 have b:=jbh (show 0<450-s by omega) hx
 rw[jaQ]at b
 by_cases z:0<=450*y-s*x
 ·exact⟨0,(show(0<=450*y-s*x+3600*x*0/\_)/\(0<450*y-s*x↔_)/\(450*y-s*x<0↔_)by omega)⟩
 exact⟨1,(show(0<=450*y-s*x+3600*x*1/\_)/\(0<450*y-s*x↔_)/\(450*y-s*x<0↔_)by omega)⟩
theorem zqC{s:Int}(hs:0<=s/\s<3600):∃t:Int,(0<=t/\t<3600)/\(s=t+900\/s=t-2700)/\(vecP s).X= -(vecP t).Y/\(vecP s).Y=(vecP t).X:=by
 by_cases h:900<=s
 ·refine⟨s-900,by omega,.inl (by omega),?_⟩
  unfold vecP
  repeat' split
  all_goals first|(exfalso;omega)|(constructor<;>first|rfl|(dsimp only;omega))
 refine⟨s+2700,by omega,.inr (by omega),?_⟩
 unfold vecP
 repeat' split
 all_goals first|(exfalso;omega)|(constructor<;>first|rfl|(dsimp only;omega))
def Side(x y n d:Int):Prop:=∀s:Int,0<=s->s<3600->∃j:Int,Sg ((vecP s).X*y-(vecP s).Y*x) (n-s*d+3600*d*j) d
theorem zfy{x y n d:Int}(h:Side x y n d):Side (-y) x (n+900*d) d:=fun s h1 h2=>by
 obtain⟨t,ht,hst,eX,eY⟩:=zqC ⟨h1,h2⟩
 obtain⟨j,hj⟩:=h t ht.1 ht.2
 have ec:(vecP s).X*x-(vecP s).Y* -y=(vecP t).X*y-(vecP t).Y*x:=by rw[eX,eY];grind
 rw[ec]
 rcases hst with e|e
 ·refine⟨j,?_⟩
  have:n+900*d-s*d+3600*d*j=n-t*d+3600*d*j:=by rw[e];grind
  rw[this];exact hj
 refine⟨j-1,?_⟩
 have:n+900*d-s*d+3600*d*(j-1)=n-t*d+3600*d*j:=by rw[e];grind
 rw[this];exact hj
theorem zgB{x y:Int}(hx:0<x)(hy:-x<=y/\y<=x):Side x y (450*y) x:=fun s h1 h2=>zqX ⟨h1,h2⟩ hx hy
theorem zeS{x y:Int}(hy:0<y)(hx:-y<=x/\x<=y):Side x y (900*y-450*x) y:=by
 have:=zfy (zgB (x:=y) (y:=-x) hy (by omega))
 rw[Int.neg_neg]at this
 rwa [show 450* -x+900*y=900*y-450*x by omega]at this
theorem zgA{x y:Int}(hx:x<0)(hy:x<=y/\y<= -x):Side x y (1800* -x-450*y) (-x):=by
 have:=zfy (zeS (x:=y) (y:=-x) (by omega) (by omega))
 rw[Int.neg_neg]at this
 rwa [show 900* -x-450*y+900* -x=1800* -x-450*y by omega]at this
theorem zj3{x y:Int}(hy:y<0)(hx:y<=x/\x<= -y):Side x y (2700* -y+450*x) (-y):=by
 have:=zfy (zgA (x:=y) (y:=-x) hy (by omega))
 rw[Int.neg_neg]at this
 rwa [show 1800* -y-450* -x+900* -y=2700* -y+450*x by omega]at this
theorem za2(n lo hi:Int):Spec PP 225 [N n,N lo,N hi] [B (within n lo hi)]:=by
 refine sA Tryz.func225 ?_
 repeat' first
  |refine sT ?_
  |refine sF ?_
  |refine bY (fun _=>?_) (fun _=>?_)
  |refine r1B rfl ?_
 all_goals (unfold within;simp_all<;>omega)
theorem zci(d:Int):Spec PP 228 [N d] [B (within d 0 3599)]:=by
 refine sA Tryz.func228 ?_
 refine cP (za2 d 0 3599) rfl rfl ?_
 exact r1B rfl rfl
theorem zcR(n p:Int)(hp:0<p/\p<=1000000)(hn:-1000000000000<=n/\n<=1000000000000):Spec PP 262 [N n,N p] [N (n%(3600*p))]:=by
 have h1:=wD n (show 0<3600*p by omega)
 have h2:=wD (-n) (show 0<3600*p by omega)
 rw[jbx]at h2
 refine sA Tryz.func262 ?_
 refine⟨i6,?_⟩
 refine⟨by omega,⟨i6,⟨by omega,?_⟩⟩⟩
 refine r1I rfl ?_
 rw[wE (by omega),jbA]
 rw[Int.tmod_def,jbv]
structure Wdg where
  F:Int
  T:Int
  deriving DecidableEq,Inhabited
abbrev Wdg.v(w:Wdg):V1:=.agg [I w.F,I w.T]
@[irreducible] def openW(w:Wdg):Int:=if within w.F 0 3599=true/\within w.T 0 3599=true then(w.T-w.F)%3600 else -1
theorem zhk(w:Wdg):Spec PP 272 [w.v] [N (openW w)]:=by
 refine sA Tryz.func272 ?_
 refine cP (zci w.F) rfl rfl ?_
 apply bY<;>intro h1
 ·have h1:within w.F 0 3599=false:=by simpa using h1
  repeat first|apply sT|apply sF
  refine r1I rfl ?_
  unfold openW;rw[kG fun h=>by rw[h.1]at h1;cases h1]
 have h1:within w.F 0 3599=true:=by simpa using h1
 repeat first|apply sT|apply sF
 refine cP (zci w.T) rfl rfl ?_
 repeat first|apply sT|apply sF
 apply bY<;>intro h2
 ·have h2:within w.T 0 3599=false:=by simpa using h2
  repeat first|apply sT|apply sF
  refine r1I rfl ?_
  unfold openW;rw[kG fun h=>by rw[h.2]at h2;cases h2]
 have h2:within w.T 0 3599=true:=by simpa using h2
 have b1:=zab.1 h1
 have b2:=zab.1 h2
 repeat first|apply sT|apply sF
 refine⟨i6,?_⟩
 refine cP (zcR (w.T-w.F) 1 (by omega) (by omega)) rfl rfl ?_
 refine r1I rfl ?_
 unfold openW;rw[kH ⟨h1,h2⟩];rfl
@[irreducible] def validW(w:Wdg):Bool:=within (openW w) 0 900
theorem zsv(w:Wdg):Spec PP 270 [w.v] [B (validW w)]:=by
 refine sA Tryz.func270 ?_
 refine cP (zhk w) rfl rfl ?_
 refine cP (za2 (openW w) 0 900) rfl rfl ?_
 refine r1B rfl ?_
 unfold validW;rfl
theorem c_on(l:List Place)(hn:l.length<=1000000):Spec PP 226 [slP l] [B (l.all on)]:=by
 refine sA Tryz.func226 ?_
 refine LoopOb.of (σ:=Nat) (fun i=>([(5,avOf (slP l)),(6,.d (I l.length)),(7,.d (I i))],[])) (fun i=>i<=l.length/\(l.take i).all on=true) (fun i=>l.length-i) 0 ⟨rfl,trivial,wq rfl⟩ ⟨jF _,rfl⟩ fun i hi=>?_
 obtain⟨hi,ha⟩:=hi
 apply bY<;>intro h1
 ·have h1:i<l.length:=by have:=dT h1;omega
  have hx:(l.getD i default)∈l:=gd1 h1 default
  refine⟨⟨rfl,by omega,by omega⟩,?_⟩
  refine cP (za2 (l.getD i default).X 0 48) rfl rfl ?_
  apply bY<;>intro h2
  ·have h2:within (l.getD i default).X 0 48=false:=by simpa using h2
   refine sT ?_
   refine sT ?_
   refine r1B rfl ?_
   have h3:on (l.getD i default)=false:=by unfold on;rw[h2];rfl
   exact(List.all_eq_false.2 ⟨_,hx,by rw[h3];decide⟩).symm
  have h2:within (l.getD i default).X 0 48=true:=by simpa using h2
  refine cP (za2 (l.getD i default).Y 0 48) rfl rfl ?_
  refine sF ?_
  apply bY<;>intro h3
  ·have h3:within (l.getD i default).Y 0 48=false:=by simpa using h3
   refine r1B rfl ?_
   have h3:on (l.getD i default)=false:=by unfold on;rw[h2,h3];rfl
   exact(List.all_eq_false.2 ⟨_,hx,by rw[h3];decide⟩).symm
  have h3:within (l.getD i default).Y 0 48=true:=by simpa using h3
  have h4:on (l.getD i default)=true:=by unfold on;rw[h2,h3];rfl
  refine⟨i6,?_⟩
  refine⟨i+1,⟨rfl,trivial,wq rfl⟩,⟨h1,?_⟩,(msr (by omega))⟩
  rw[zav h1 default,List.all_append,ha];simp only[jaA,h4];rfl
 have h1:i=l.length:=by have:=dF h1;omega
 refine r1B rfl ?_
 rw[h1,jZ]at ha
 exact ha.symm
def bearP(x y:Int):Int×Int:=
 if 0<x/\max y (-y)<=x then(450*y,x)else if 0<y/\max x (-x)<=y then(900*y-450*x,y)else if x<0/\max y (-y)<= -x then(1800* -x-450*y,-x)else(2700* -y+450*x,-y)
theorem zew{x y:Int}(h:x≠0\/y≠0):Side x y (bearP x y).1 (bearP x y).2/\0<(bearP x y).2:=by
 unfold bearP
 by_cases h1:0<x/\max y (-y)<=x
 ·rw[kH h1];exact⟨zgB h1.1 (by omega),h1.1⟩
 rw[kG h1]
 by_cases h2:0<y/\max x (-x)<=y
 ·rw[kH h2];exact⟨zeS h2.1 (by omega),h2.1⟩
 rw[kG h2]
 by_cases h3:x<0/\max y (-y)<= -x
 ·rw[kH h3];exact⟨zgA h3.1 (by omega),(show 0< -x by omega)⟩
 rw[kG h3]
 have hy:y<0:=by omega
 exact⟨zj3 hy (by omega),(show 0< -y by omega)⟩
theorem zni{x y:Int}(hx:-48<=x/\x<=48)(hy:-48<=y/\y<=48):(-1000000<=(bearP x y).1/\(bearP x y).1<=1000000)/\(bearP x y).2<=48:=by
 unfold bearP
 repeat' split
 all_goals (dsimp only;omega)
def bear(a b:Place):Int×Int:=((bearP (b.X-a.X) (b.Y-a.Y)).1%(3600*(bearP (b.X-a.X) (b.Y-a.Y)).2),(bearP (b.X-a.X) (b.Y-a.Y)).2)
theorem zbk{p:Place}:on p=true↔(0<=p.X/\p.X<=48)/\(0<=p.Y/\p.Y<=48):=by
 unfold on;rw[jP,zab,zab]
theorem zfK{a b:Place}(h:a≠b):b.X-a.X≠0\/b.Y-a.Y≠0:=by
 rcases a with⟨ax,ay⟩;rcases b with⟨bx,by'⟩
 by_cases h1:bx-ax=0
 ·refine .inr fun h2=>h ?_
  dsimp only at h1 h2
  rw[Place.mk.injEq];omega
 exact .inl h1
theorem zhj(a b:Place)(ha:on a=true)(hb:on b=true)(hne:a≠b):Spec PP 271 [a.v,b.v] [N (bear a b).1,N (bear a b).2]:=by
 obtain⟨a1,a2⟩:=zbk.1 ha
 obtain⟨b1,b2⟩:=zbk.1 hb
 have hs:=zew (zfK hne)
 have hbd:=zni (x:=b.X-a.X) (y:=b.Y-a.Y) (by omega) (by omega)
 refine sA Tryz.func271 ?_
 refine oN 12 ?_
 refine⟨i6,⟨i6,?_⟩⟩
 unfold bear
 have hx:-48<=b.X-a.X/\b.X-a.X<=48:=by omega
 have hy:-48<=b.Y-a.Y/\b.Y-a.Y<=48:=by omega
 generalize b.X-a.X=x at*
 generalize b.Y-a.Y=y at*
 have fin:∀{n d:Int},bearP x y=(n,d)->Spec PP 262 [N n,N d] [N ((bearP x y).1%(3600*(bearP x y).2))]:=fun e=>by
  rw[e]at hs hbd⊢
  exact zcR _ _ (by have:=hs.2;have:=hbd.2;dsimp only at*;omega) (by have:=hbd.1;dsimp only at*;omega)
 apply bY<;>intro h1
 ·have h1:0<x:=dT h1
  refine⟨i6,?_⟩
  refine sT ?_
  apply bY<;>intro h2
  ·have h2:max y (-y)<=x:=dT h2
   have e:bearP x y=(450*y,x):=by unfold bearP;rw[kH ⟨h1,h2⟩]
   refine⟨i6,?_⟩
   refine cP (fin e) rfl rfl ?_
   exact r2II rfl rfl rfl (by rw[e])
  have h2:¬max y (-y)<=x:=dF h2
  apply bY<;>intro h3
  ·have h3:0<y:=dT h3
   refine⟨i6,?_⟩
   refine sT ?_
   apply bY<;>intro h4
   ·have h4:max x (-x)<=y:=dT h4
    have e:bearP x y=(900*y-450*x,y):=by unfold bearP;rw[kG (fun h=>h2 h.2),kH ⟨h3,h4⟩]
    refine⟨zaZ (by decide) (by decide),⟨i6,⟨i6,⟨i6,?_⟩⟩⟩⟩
    refine cP (fin e) rfl rfl ?_
    exact r2II rfl rfl rfl (by rw[e])
   have h4:¬max x (-x)<=y:=dF h4
   omega
  have h3:¬0<y:=dF h3
  refine sF ?_
  refine sF ?_
  refine Split.no (jH (by omega)) ?_
  refine sF ?_
  refine sF ?_
  have e:bearP x y=(2700* -y+450*x,-y):=by unfold bearP;rw[kG (fun h=>h2 h.2),kG (fun h=>h3 h.1),kG (by omega)]
  refine⟨zaZ (by decide) (by decide),⟨i6,⟨i6,⟨i6,⟨i6,⟨i6,?_⟩⟩⟩⟩⟩⟩
  refine cP (fin e) rfl rfl ?_
  exact r2II rfl rfl rfl (by rw[e])
 have h1:¬0<x:=dF h1
 refine sF ?_
 refine sF ?_
 apply bY<;>intro h3
 ·have h3:0<y:=dT h3
  refine⟨i6,?_⟩
  refine sT ?_
  apply bY<;>intro h4
  ·have h4:max x (-x)<=y:=dT h4
   have e:bearP x y=(900*y-450*x,y):=by unfold bearP;rw[kG (fun h=>h1 h.1),kH ⟨h3,h4⟩]
   refine⟨zaZ (by decide) (by decide),⟨i6,⟨i6,⟨i6,?_⟩⟩⟩⟩
   refine cP (fin e) rfl rfl ?_
   exact r2II rfl rfl rfl (by rw[e])
  have h4:¬max x (-x)<=y:=dF h4
  apply bY<;>intro h5
  ·have h5:x<0:=dT h5
   refine⟨i6,⟨i6,?_⟩⟩
   refine sT ?_
   apply bY<;>intro h6
   ·have h6:max y (-y)<= -x:=dT h6
    have e:bearP x y=(1800* -x-450*y,-x):=by unfold bearP;rw[kG (fun h=>h1 h.1),kG (fun h=>h4 h.2),kH ⟨h5,h6⟩]
    refine⟨zaZ (by decide) (by decide),⟨i6,⟨i6,⟨i6,⟨i6,⟨i6,?_⟩⟩⟩⟩⟩⟩
    refine cP (fin e) rfl rfl ?_
    exact r2II rfl rfl rfl (by rw[e])
   have h6:¬max y (-y)<= -x:=dF h6
   omega
  have h5:¬x<0:=dF h5
  omega
 have h3:¬0<y:=dF h3
 refine sF ?_
 refine sF ?_
 apply bY<;>intro h5
 ·have h5:x<0:=dT h5
  refine⟨i6,⟨i6,?_⟩⟩
  refine sT ?_
  apply bY<;>intro h6
  ·have h6:max y (-y)<= -x:=dT h6
   have e:bearP x y=(1800* -x-450*y,-x):=by unfold bearP;rw[kG (fun h=>h1 h.1),kG (fun h=>h3 h.1),kH ⟨h5,h6⟩]
   refine⟨zaZ (by decide) (by decide),⟨i6,⟨i6,⟨i6,⟨i6,⟨i6,?_⟩⟩⟩⟩⟩⟩
   refine cP (fin e) rfl rfl ?_
   exact r2II rfl rfl rfl (by rw[e])
  have h6:¬max y (-y)<= -x:=dF h6
  have e:bearP x y=(2700* -y+450*x,-y):=by unfold bearP;rw[kG (fun h=>h1 h.1),kG (fun h=>h3 h.1),kG (fun h=>h6 h.2)]
  refine⟨zaZ (by decide) (by decide),⟨i6,⟨i6,⟨i6,⟨i6,⟨i6,?_⟩⟩⟩⟩⟩⟩
  refine cP (fin e) rfl rfl ?_
  exact r2II rfl rfl rfl (by rw[e])
 have h5:¬x<0:=dF h5
 refine sF ?_
 refine sF ?_
 have e:bearP x y=(2700* -y+450*x,-y):=by unfold bearP;rw[kG (fun h=>h1 h.1),kG (fun h=>h3 h.1),kG (fun h=>h5 h.1)]
 refine⟨zaZ (by decide) (by decide),⟨i6,⟨i6,⟨i6,⟨i6,⟨i6,?_⟩⟩⟩⟩⟩⟩
 refine cP (fin e) rfl rfl ?_
 exact r2II rfl rfl rfl (by rw[e])
@[irreducible] def liesW(w:Wdg)(a p:Place):Bool:=validW w&&(on a&&on p)&& !decide (a=p)&&decide (((bear a p).1-w.F*(bear a p).2)%(3600*(bear a p).2)<=openW w*(bear a p).2)
theorem zo8{f:Nat->Nat->D}{a b:Place}(h0:∀j,j<2->D.eqv (f 0 j) (a.at j))(h1:∀j,j<2->D.eqv (f 1 j) (b.at j)):eqV1s [.d (.slc 2 2 f)] [slP [a,b]]:=by
 refine⟨⟨rfl,.inr ⟨rfl,fun i hi j hj=>?_⟩⟩,trivial⟩
 match i,hi with
 |0,_=>exact h0 j hj
 |1,_=>exact h1 j hj
theorem zjC{f:Nat->Nat->D}{a:Place}(h0:∀j,j<2->D.eqv (f 0 j) (a.at j)):eqV1s [.d (.slc 2 1 f)] [slP [a]]:=by
 refine⟨⟨rfl,.inr ⟨rfl,fun i hi j hj=>?_⟩⟩,trivial⟩
 match i,hi with
 |0,_=>exact h0 j hj
theorem at2{f:Nat->D}{p:Place}(h0:f 0=I p.X)(h1:f 1=I p.Y):∀j,j<2->D.eqv (f j) (p.at j)
 |0,_=>by rw[h0];exact⟨rfl,rfl⟩
 |1,_=>by rw[h1];exact⟨rfl,rfl⟩
theorem eqPW(p q:Place):(p.X==q.X&&(p.Y==q.Y&&true))=decide (p=q):=by
 rw[kQ]
 simp only[jP,jai,and_true,kX]
 cases p;cases q;simp
theorem zjY{w:Wdg}(h:validW w=true):(0<=w.F/\w.F<3600)/\(0<=w.T/\w.T<3600)/\openW w=(w.T-w.F)%3600/\openW w<=900:=by
 unfold validW at h
 have h1:=zab.1 h
 unfold openW at h1⊢
 split at h1
 ·rename_i h2
  have h3:=zab.1 h2.1
  have h4:=zab.1 h2.2
  rw[kH h2];omega
 omega
theorem zgl{a p:Place}(ha:on a=true)(hp:on p=true)(hne:a≠p):(0<(bear a p).2/\(bear a p).2<=48)/\0<=(bear a p).1/\(bear a p).1<3600*(bear a p).2:=by
 obtain⟨a1,a2⟩:=zbk.1 ha
 obtain⟨b1,b2⟩:=zbk.1 hp
 have hs:=zew (zfK hne)
 have hbd:=zni (x:=p.X-a.X) (y:=p.Y-a.Y) (by omega) (by omega)
 unfold bear
 have:=Int.emod_nonneg (bearP (p.X-a.X) (p.Y-a.Y)).1 (show 3600*(bearP (p.X-a.X) (p.Y-a.Y)).2≠0 by omega)
 have:=jbz (bearP (p.X-a.X) (p.Y-a.Y)).1 (show 0<3600*(bearP (p.X-a.X) (p.Y-a.Y)).2 by omega)
 dsimp only
 omega
theorem zqr(w:Wdg)(a p:Place):Spec PP 256 [w.v,a.v,p.v] [B (liesW w a p)]:=by
 refine sA Tryz.func256 ?_
 have e:liesW w a p=(validW w&&(on a&&on p)&& !decide (a=p)&&decide (((bear a p).1-w.F*(bear a p).2)%(3600*(bear a p).2)<=openW w*(bear a p).2)):=by unfold liesW;rfl
 refine cP (zsv w) rfl rfl ?_
 apply bY<;>intro h1
 ·have h1:validW w=false:=by simpa using h1
  refine sT ?_
  refine sT ?_
  refine sT ?_
  refine sT ?_
  refine r1B rfl ?_
  rw[e,h1];rfl
 have h1:validW w=true:=by simpa using h1
 refine pEq (c_on [a,p] (jD rfl)) rfl (zo8 (at2 rfl rfl) (at2 rfl rfl)) rfl ?_
 refine sF ?_
 apply bY<;>intro h2
 ·have h2:(on a&&on p)=false:=by simp only[jaA,jbk,jac,jY]at h2;exact h2
  refine sT ?_
  refine sT ?_
  refine r1B rfl ?_
  rw[e,h2,h1];rfl
 have h2:on a=true/\on p=true:=by simpa using h2
 refine sF ?_
 apply bY<;>intro h3
 ·have h3:a=p:=kU ((eqPW a p).symm.trans h3)
  refine r1B rfl ?_
  rw[e,jG h3];simp
 have h3:a≠p:=jab ((eqPW a p).symm.trans h3)
 have hb:=zgl h2.1 h2.2 h3
 obtain⟨v1,v2,v3,v4⟩:=zjY h1
 have g1:=mulB (a:=w.F) (b:=(bear a p).2) (x:=3600) (y:=48) (by omega) (by omega)
 have g2:=mulB (a:=openW w) (b:=(bear a p).2) (x:=3600) (y:=48) (by omega) (by omega)
 refine cP (zhj a p h2.1 h2.2 h3) rfl rfl ?_
 refine oN 14 ?_
 refine⟨i6,⟨i6,?_⟩⟩
 refine oP (zcR ((bear a p).1-w.F*(bear a p).2) (bear a p).2 (by omega) (by omega)) rfl rfl ?_
 refine oP (zhk w) rfl rfl ?_
 refine⟨i6,?_⟩
 refine r1B rfl ?_
 rw[e,h1,h2.1,h2.2,jH h3];rfl
theorem zhb{a b c d e f a' b' c' d' e' f':Int}(h1:a=a')(h2:b=b')(h3:c=c')(h4:d=d')(h5:e=e')(h6:f=f'):eqvs [I a,I b,I c,I d,I e,I f] [I a',I b',I c',I d',I e',I f']:=⟨⟨rfl,h1⟩,⟨rfl,h2⟩,⟨rfl,h3⟩,⟨rfl,h4⟩,⟨rfl,h5⟩,⟨rfl,h6⟩,trivial⟩
def err1(f:Nat->Int):Nat->Int
 |0=>0
 |n+1=>if err1 f n≠0 then err1 f n else f n
theorem zaJ{f:Nat->Int}:∀{n:Nat},(∀j,j<n->f j=0)->err1 f n=0
 |0,_=>rfl
 |n+1,h=>by
  have h1:=zaJ (f:=f) (n:=n) fun j hj=>h j (by omega)
  simp only[err1,h1]
  simpa using h n (by omega)
theorem zan{f:Nat->Int}{i:Nat}(h:∀j,j<i->f j=0)(h1:f i≠0):∀{n:Nat},i<n->err1 f n=f i
 |0,hi=>absurd hi (qJ _)
 |n+1,hi=>by
  by_cases e:i=n
  ·subst e
   simp only[err1,zaJ h];simp
  have h2:=zan h h1 (n:=n) (by omega)
  simp only[err1,h2];rw[kH h1]
theorem zbr{f:Nat->Int}:∀{n:Nat},err1 f n=0->∀j,j<n->f j=0
 |0,_,j,hj=>absurd hj (qJ _)
 |n+1,h,j,hj=>by
  simp only[err1]at h
  by_cases e:err1 f n=0
  ·rw[kG (by simpa using e)]at h
   by_cases ej:j=n
   ·subst ej;exact h
   exact zbr e j (by omega)
  rw[kH e]at h;exact absurd h e
def idxA{α:Type}(p:α->Bool):List α->Nat->Int
 | [],_=>-1
 |x::r,k=>if p x=true then k else idxA p r (k+1)
def idxL{α:Type}(p:α->Bool)(l:List α):Int:=idxA p l 0
theorem zgY{α:Type}(p:α->Bool):∀(l:List α) (k i:Nat) (x:α),l[i]?=some x->p x=true->(∀j y,j<i->l[j]?=some y->p y=false)->idxA p l k=((k+i:Nat):Int)
 | [],k,i,x,h,_,_=>by simp at h
 |y::r,k,0,x,h,hp,_=>by
  simp only[List.getElem?_cons_zero,jO]at h;subst h
  simp[idxA,hp]
 |y::r,k,i+1,x,h,hp,hn=>by
  have h0:=hn 0 y (by omega) rfl
  simp only[idxA,h0]
  rw[kG (by decide),zgY p r (k+1) i x (by simpa using h) hp fun j z hj hz=>hn (j+1) z (by omega) (by simpa using hz)]
  congr 1;omega
theorem zgZ{α:Type}(p:α->Bool):∀(l:List α) (k:Nat),(∀x∈l,p x=false)->idxA p l k= -1
 | [],_,_=>rfl
 |y::r,k,h=>by
  simp only[idxA,h y (by simp)]
  rw[kG (by decide)]
  exact zgZ p r (k+1) fun x hx=>h x (by simp[hx])
theorem gdS{α:Type}{l:List α}{i:Nat}(h:i<l.length)(d:α):l[i]?=some (l.getD i d):=by
 rw[hZ,kF h];rfl
theorem zaj{α:Type}{p:α->Bool}{l:List α}{i:Nat}(d:α)(hi:i<l.length)(hp:p (l.getD i d)=true)(hn:∀j,j<i->p (l.getD j d)=false):idxL p l=(i:Int):=by
 have:=zgY p l 0 i _ (gdS hi d) hp fun j y hj hy=>by
  have hj':j<l.length:=by omega
  rw[gdS hj' d]at hy;cases hy
  exact hn j hj
 simpa [idxL]using this
theorem za4{α:Type}{l:List α}{x:α}(d:α)(h:x∈l):∃j,j<l.length/\x=l.getD j d:=by
 obtain⟨j,hj,rfl⟩:=kP h
 exact⟨j,hj,by rw[hZ,kF hj];rfl⟩
theorem zam{α:Type}{p:α->Bool}{l:List α}(d:α)(hn:∀j,j<l.length->p (l.getD j d)=false):idxL p l= -1:=
 zgZ p l 0 fun x hx=>by obtain⟨j,hj,rfl⟩:=za4 d hx;exact hn j hj
theorem idxL_cases{α:Type}(p:α->Bool)(l:List α)(d:α):(idxL p l= -1/\∀j,j<l.length->p (l.getD j d)=false)\/∃i,i<l.length/\idxL p l=(i:Int)/\p (l.getD i d)=true/\∀j,j<i->p (l.getD j d)=false:=by
 by_cases h:∃j,j<l.length/\p (l.getD j d)=true
 ·have:∃i,i<l.length/\p (l.getD i d)=true/\∀j,j<i->p (l.getD j d)=false:=by
   obtain⟨j,hj⟩:=h
   induction j using Nat.strongRecOn with
   |ind j ih=>
   by_cases e:∃k,k<j/\p (l.getD k d)=true
   ·obtain⟨k,hk,hp⟩:=e
    exact ih k hk ⟨by omega,hp⟩
   exact⟨j,hj.1,hj.2,fun k hk=>by
    cases hp:p (l.getD k d)with
    |false=>rfl
    |true=>exact absurd ⟨k,hk,hp⟩ e⟩
  obtain⟨i,hi,hp,hn⟩:=this
  exact .inr ⟨i,hi,zaj d hi hp hn,hp,hn⟩
 have hn:∀j,j<l.length->p (l.getD j d)=false:=fun j hj=>by
  cases hp:p (l.getD j d)with
  |false=>rfl
  |true=>exact absurd ⟨j,hj,hp⟩ h
 exact .inl ⟨zam d hn,hn⟩
theorem zuT{α:Type}{p:α->Bool}{l:List α}{i:Nat}(d:α)(hi:i<l.length)(hp:p (l.getD i d)=true):l.any p=true:=kM.2 ⟨_,gd1 hi d,hp⟩
theorem zqt{α:Type}{p:α->Bool}{l:List α}(d:α)(hn:∀j,j<l.length->p (l.getD j d)=false):l.any p=false:=by
 rw[jay]
 intro x hx
 obtain⟨j,hj,rfl⟩:=za4 d hx
 rw[hn j hj];decide
theorem zbm{α:Type}(p:α->Bool)(l:List α)(d:α):(0<=idxL p l)↔l.any p=true:=by
 rcases idxL_cases p l d with⟨h1,h2⟩|⟨i,h1,h2,h3,h4⟩
 ·rw[h1,zqt d h2];simp
 rw[h2,zuT d h1 h3];simp
structure Twr where
  ID:Int
  At:Place
  H:Int
  deriving DecidableEq,Inhabited
structure Hz where
  From:Int
  To:Int
  Far:Int
  deriving DecidableEq,Inhabited
structure Mp where
  W:Int
  H:Int
  G:List Int
  deriving Inhabited
structure Ctry where
  M:Mp
  T:List Twr
  Z:List Hz
  deriving Inhabited
def Twr.at(x:Twr):Nat->D
 |0=>I x.ID
 |1=>I x.At.X
 |2=>I x.At.Y
 | _=>I x.H
def Hz.at(x:Hz):Nat->D
 |0=>I x.From
 |1=>I x.To
 | _=>I x.Far
abbrev Twr.v(x:Twr):V1:=.agg [I x.ID,I x.At.X,I x.At.Y,I x.H]
abbrev Hz.v(x:Hz):V1:=.agg [I x.From,I x.To,I x.Far]
abbrev lI(l:List Int):D:=.slc 1 l.length fun i _=>I (l.getD i 0)
abbrev lT(l:List Twr):D:=.slc 4 l.length fun i=>(l.getD i default).at
abbrev lZ(l:List Hz):D:=.slc 3 l.length fun i=>(l.getD i default).at
abbrev Mp.ds(m:Mp):List D:=[I m.W,I m.H,lI m.G]
abbrev Mp.v(m:Mp):V1:=.agg [I m.W,I m.H,lI m.G]
abbrev Ctry.v(c:Ctry):V1:=.agg [I c.M.W,I c.M.H,lI c.M.G,lT c.T,lZ c.Z]
structure Cir where
  ID:Int
  At:Place
  From:Int
  To:Int
  Lo:Int
  Hi:Int
  Drift:Int
  deriving DecidableEq,Inhabited
structure Chk where
  ID:Int
  C:Int
  Tick:Int
  Mark:Place
  Shown:Int
  Slack:Int
  deriving DecidableEq,Inhabited
structure Cirs where
  C:List Cir
  K:List Chk
  deriving Inhabited
structure Spn where
  Lo:Int
  Hi:Int
  deriving DecidableEq,Inhabited
structure Rdg where
  C:Int
  Tick:Int
  Shown:Int
  Slack:Int
  deriving DecidableEq,Inhabited
structure Thg where
  k:Chk
  s:Spn
  deriving DecidableEq,Inhabited
def Cir.at(x:Cir):Nat->D
 |0=>I x.ID
 |1=>I x.At.X
 |2=>I x.At.Y
 |3=>I x.From
 |4=>I x.To
 |5=>I x.Lo
 |6=>I x.Hi
 | _=>I x.Drift
def Chk.at(x:Chk):Nat->D
 |0=>I x.ID
 |1=>I x.C
 |2=>I x.Tick
 |3=>I x.Mark.X
 |4=>I x.Mark.Y
 |5=>I x.Shown
 | _=>I x.Slack
def Thg.at(x:Thg):Nat->D
 |0=>I x.k.ID
 |1=>I x.k.C
 |2=>I x.k.Tick
 |3=>I x.k.Mark.X
 |4=>I x.k.Mark.Y
 |5=>I x.k.Shown
 |6=>I x.k.Slack
 |7=>I x.s.Lo
 | _=>I x.s.Hi
abbrev Cir.v(x:Cir):V1:=.agg [I x.ID,I x.At.X,I x.At.Y,I x.From,I x.To,I x.Lo,I x.Hi,I x.Drift]
abbrev Chk.v(x:Chk):V1:=.agg [I x.ID,I x.C,I x.Tick,I x.Mark.X,I x.Mark.Y,I x.Shown,I x.Slack]
abbrev Thg.v(x:Thg):V1:=.agg [I x.k.ID,I x.k.C,I x.k.Tick,I x.k.Mark.X,I x.k.Mark.Y,I x.k.Shown,I x.k.Slack,I x.s.Lo,I x.s.Hi]
abbrev Spn.v(x:Spn):V1:=.agg [I x.Lo,I x.Hi]
abbrev Rdg.v(x:Rdg):V1:=.agg [I x.C,I x.Tick,I x.Shown,I x.Slack]
abbrev lC(l:List Cir):D:=.slc 8 l.length fun i=>(l.getD i default).at
abbrev lK(l:List Chk):D:=.slc 7 l.length fun i=>(l.getD i default).at
abbrev lTh(l:List Thg):D:=.slc 9 l.length fun i=>(l.getD i default).at
abbrev Cirs.v(c:Cirs):V1:=.agg [lC c.C,lK c.K]
structure Svc where
  c:Ctry
  k:Cirs
  deriving Inhabited
structure Rpt where
  ID:Int
  Kind:Int
  Tower:Int
  C:Int
  Tick:Int
  From:Int
  To:Int
  Slack:Int
  deriving DecidableEq,Inhabited
structure Brn where
  From:Int
  To:Int
  Rise:Int
  deriving DecidableEq,Inhabited
structure Rsn where
  At:Place
  R:Int
  deriving DecidableEq,Inhabited
structure Lk where
  Tower:Int
  C:Int
  Tick:Int
  From:Int
  To:Int
  Slack:Int
  deriving DecidableEq,Inhabited
def Rpt.at(x:Rpt):Nat->D
 |0=>I x.ID
 |1=>I x.Kind
 |2=>I x.Tower
 |3=>I x.C
 |4=>I x.Tick
 |5=>I x.From
 |6=>I x.To
 | _=>I x.Slack
def Rsn.at(x:Rsn):Nat->D
 |0=>I x.At.X
 |1=>I x.At.Y
 | _=>I x.R
def Lk.at(x:Lk):Nat->D
 |0=>I x.Tower
 |1=>I x.C
 |2=>I x.Tick
 |3=>I x.From
 |4=>I x.To
 | _=>I x.Slack
abbrev Svc.v(s:Svc):V1:=.agg [I s.c.M.W,I s.c.M.H,lI s.c.M.G,lT s.c.T,lZ s.c.Z,lC s.k.C,lK s.k.K]
abbrev Rpt.v(x:Rpt):V1:=.agg [I x.ID,I x.Kind,I x.Tower,I x.C,I x.Tick,I x.From,I x.To,I x.Slack]
abbrev Brn.v(x:Brn):V1:=.agg [I x.From,I x.To,I x.Rise]
abbrev Rsn.v(x:Rsn):V1:=.agg [I x.At.X,I x.At.Y,I x.R]
abbrev Lk.v(x:Lk):V1:=.agg [I x.Tower,I x.C,I x.Tick,I x.From,I x.To,I x.Slack]
abbrev lR(l:List Rpt):D:=.slc 8 l.length fun i=>(l.getD i default).at
abbrev lRs(l:List Rsn):D:=.slc 3 l.length fun i=>(l.getD i default).at
abbrev capB(xs:List D):D:=.ptr xs.length (getD' xs)
abbrev cloB(g:FuncId)(cs:List D):D:=.clo g cs.length (getD' cs)
theorem zk3(l:List Twr)(g:FuncId)(c0:D)(p:Twr->Bool)(hn:l.length<=1000000)(hp:∀i,i<l.length->Spec PP g [(l.getD i default).v,.d c0] [B (p (l.getD i default))]):Spec PP 170 [.d (lT l),.d (cloB g [c0])] [N (idxL p l)]:=by
 refine sA Tryz.func170 ?_
 refine LoopOb.of (σ:=Nat) (fun i=>([(0,.d (lT l)),(1,.d (cloB g [c0])),(6,.d (lT l)),(7,.d (I l.length)),(8,.d (I i))],[])) (fun i=>i<=l.length/\∀j,j<i->p (l.getD j default)=false) (fun i=>l.length-i) 0
  ⟨rfl,trivial,wq rfl⟩ z0L fun i hi=>?_
 obtain⟨hi,ha⟩:=hi
 apply bY<;>intro h1
 ·have h1:i<l.length:=by have:=dT h1;omega
  refine⟨⟨rfl,by omega,by omega⟩,?_⟩
  refine cP (hp i h1) rfl rfl ?_
  apply bY<;>intro h2
  ·refine r1I rfl ?_
   exact(zaj default h1 h2 ha).symm
  refine⟨i6,?_⟩
  refine⟨i+1,⟨rfl,trivial,wq rfl⟩,⟨h1,fun j hj=>?_⟩,(msr (by omega))⟩
  by_cases e:j=i
  ·subst e;exact h2
  exact ha j (by omega)
 have h1:i=l.length:=by have:=dF h1;omega
 subst h1
 refine r1I rfl ?_
 exact(zam default ha).symm
theorem zpO(l:List Twr)(g:FuncId)(c0:D)(p:Twr->Bool)(hn:l.length<=1000000)(hp:∀i,i<l.length->Spec PP g [(l.getD i default).v,.d c0] [B (p (l.getD i default))]):Spec PP 108 [.d (lT l),.d (cloB g [c0])] [B (l.any p)]:=by
 refine sA Tryz.func108 ?_
 refine cP (zk3 l g c0 p hn hp) rfl rfl ?_
 refine r1B rfl ?_
 rw[kQ,kX]
 exact zbm p l default
theorem zpN(l:List Cir)(g:FuncId)(c0:D)(p:Cir->Bool)(hn:l.length<=1000000)(hp:∀i,i<l.length->Spec PP g [(l.getD i default).v,.d c0] [B (p (l.getD i default))]):Spec PP 173 [.d (lC l),.d (cloB g [c0])] [N (idxL p l)]:=by
 refine sA Tryz.func173 ?_
 refine LoopOb.of (σ:=Nat) (fun i=>([(0,.d (lC l)),(1,.d (cloB g [c0])),(6,.d (lC l)),(7,.d (I l.length)),(8,.d (I i))],[])) (fun i=>i<=l.length/\∀j,j<i->p (l.getD j default)=false) (fun i=>l.length-i) 0
  ⟨rfl,trivial,wq rfl⟩ z0L fun i hi=>?_
 obtain⟨hi,ha⟩:=hi
 apply bY<;>intro h1
 ·have h1:i<l.length:=by have:=dT h1;omega
  refine⟨⟨rfl,by omega,by omega⟩,?_⟩
  refine cP (hp i h1) rfl rfl ?_
  apply bY<;>intro h2
  ·refine r1I rfl ?_
   exact(zaj default h1 h2 ha).symm
  refine⟨i6,?_⟩
  refine⟨i+1,⟨rfl,trivial,wq rfl⟩,⟨h1,fun j hj=>?_⟩,(msr (by omega))⟩
  by_cases e:j=i
  ·subst e;exact h2
  exact ha j (by omega)
 have h1:i=l.length:=by have:=dF h1;omega
 subst h1
 refine r1I rfl ?_
 exact(zam default ha).symm
theorem ztg(l:List Chk)(g:FuncId)(c0:D)(p:Chk->Bool)(hn:l.length<=1000000)(hp:∀i,i<l.length->Spec PP g [(l.getD i default).v,.d c0] [B (p (l.getD i default))]):Spec PP 229 [.d (lK l),.d (cloB g [c0])] [N (idxL p l)]:=by
 refine sA Tryz.func229 ?_
 refine LoopOb.of (σ:=Nat) (fun i=>([(0,.d (lK l)),(1,.d (cloB g [c0])),(6,.d (lK l)),(7,.d (I l.length)),(8,.d (I i))],[])) (fun i=>i<=l.length/\∀j,j<i->p (l.getD j default)=false) (fun i=>l.length-i) 0
  ⟨rfl,trivial,wq rfl⟩ z0L fun i hi=>?_
 obtain⟨hi,ha⟩:=hi
 apply bY<;>intro h1
 ·have h1:i<l.length:=by have:=dT h1;omega
  refine⟨⟨rfl,by omega,by omega⟩,?_⟩
  refine cP (hp i h1) rfl rfl ?_
  apply bY<;>intro h2
  ·refine r1I rfl ?_
   exact(zaj default h1 h2 ha).symm
  refine⟨i6,?_⟩
  refine⟨i+1,⟨rfl,trivial,wq rfl⟩,⟨h1,fun j hj=>?_⟩,(msr (by omega))⟩
  by_cases e:j=i
  ·subst e;exact h2
  exact ha j (by omega)
 have h1:i=l.length:=by have:=dF h1;omega
 subst h1
 refine r1I rfl ?_
 exact(zam default ha).symm
theorem zth(l:List Int)(g:FuncId)(p:Int->Bool)(hn:l.length<=1000000)(hp:∀i,i<l.length->Spec PP g [N (l.getD i default)] [B (p (l.getD i default))]):Spec PP 189 [.d (lI l),.d (.fn g)] [N (idxL p l)]:=by
 refine sA Tryz.func189 ?_
 refine LoopOb.of (σ:=Nat) (fun i=>([(0,.d (lI l)),(1,.d (.fn g)),(6,.d (lI l)),(7,.d (I l.length)),(8,.d (I i))],[])) (fun i=>i<=l.length/\∀j,j<i->p (l.getD j default)=false) (fun i=>l.length-i) 0
  ⟨rfl,trivial,wq rfl⟩ z0L fun i hi=>?_
 obtain⟨hi,ha⟩:=hi
 apply bY<;>intro h1
 ·have h1:i<l.length:=by have:=dT h1;omega
  refine⟨⟨rfl,by omega,by omega⟩,?_⟩
  refine cP (hp i h1) rfl rfl ?_
  apply bY<;>intro h2
  ·refine r1I rfl ?_
   exact(zaj default h1 h2 ha).symm
  refine⟨i6,?_⟩
  refine⟨i+1,⟨rfl,trivial,wq rfl⟩,⟨h1,fun j hj=>?_⟩,(msr (by omega))⟩
  by_cases e:j=i
  ·subst e;exact h2
  exact ha j (by omega)
 have h1:i=l.length:=by have:=dF h1;omega
 subst h1
 refine r1I rfl ?_
 exact(zam default ha).symm
theorem ztj(l:List Int)(g:FuncId)(p:Int->Bool)(hn:l.length<=1000000)(hp:∀i,i<l.length->Spec PP g [N (l.getD i default)] [B (p (l.getD i default))]):Spec PP 116 [.d (lI l),.d (.fn g)] [B (l.any p)]:=by
 refine sA Tryz.func116 ?_
 refine cP (zth l g p hn hp) rfl rfl ?_
 refine r1B rfl ?_
 rw[kQ,kX]
 exact zbm p l default
theorem za0(n lo hi:Int):Spec PP 163 [N n,N lo,N hi] [B (within n lo hi)]:=by
 refine sA Tryz.func163 ?_
 unfold within
 apply bY<;>intro h1
 ·refine sT ?_
  exact r1B rfl (by rw[h1,qE])
 refine sF ?_
 exact r1B rfl (by rw[h1,qK])
@[irreducible] def validM(m:Mp):Bool:=within m.W 1 49&&within m.H 1 49&&((m.G.length:Int)==m.W*m.H)&& !(m.G.any fun h=>!within h 0 4000)
@[irreducible] def onM(m:Mp)(p:Place):Bool:=within p.X 0 (m.W-1)&&within p.Y 0 (m.H-1)
def grd(m:Mp)(p:Place):Int:=m.G.getD (p.Y*m.W+p.X).toNat 0
theorem zaf{m:Mp}(h:validM m=true):(1<=m.W/\m.W<=49)/\(1<=m.H/\m.H<=49)/\(m.G.length:Int)=m.W*m.H/\∀x∈m.G,0<=x/\x<=4000:=by
 unfold validM at h
 simp only[jP,zab,jai,jY,jay,Bool.not_eq_true,qQ]at h
 exact⟨h.1.1.1,h.1.1.2,h.1.2,fun x hx=>zab.1 (by simpa using h.2 x hx)⟩
theorem zad{m:Mp}{p:Place}:onM m p=true↔(0<=p.X/\p.X<m.W)/\(0<=p.Y/\p.Y<m.H):=by
 unfold onM;rw[jP,zab,zab];omega
theorem zaV{m:Mp}{p:Place}(hv:validM m=true)(hp:onM m p=true):(0<=p.Y*m.W+p.X/\p.Y*m.W+p.X<m.G.length)/\(0<=grd m p/\grd m p<=4000):=by
 obtain⟨w,h,e,g⟩:=zaf hv
 obtain⟨p1,p2⟩:=zad.1 hp
 have h1:p.Y*m.W+p.X<m.G.length:=by
  rw[e]
  have h2:=jV (show p.Y<=m.H-1 by omega) (show 0<=m.W by omega)
  have h3:(m.H-1)*m.W=m.W*m.H-m.W:=by grind
  omega
 have h0:0<=p.Y*m.W:=wK p2.1 (by omega)
 have h2:0<=p.Y*m.W+p.X:=by omega
 refine⟨⟨h2,h1⟩,?_⟩
 unfold grd
 exact g _ (gd1 (by omega) 0)
theorem zoZ(h:Int):Spec PP 224 [N h] [B (!within h 0 4000)]:=by
 refine sA Tryz.func224 ?_
 refine cP (za0 h 0 4000) rfl rfl ?_
 exact r1B rfl rfl
theorem zr8(m:Mp):Spec PP 162 [m.v] [B (validM m)]:=by
 have e:validM m=(within m.W 1 49&&within m.H 1 49&&((m.G.length:Int)==m.W*m.H)&& !(m.G.any fun h=>!within h 0 4000)):=by unfold validM;rfl
 refine sA Tryz.func162 ?_
 refine cP (za0 m.W 1 49) rfl rfl ?_
 apply bY<;>intro h1
 ·refine cP (za0 m.H 1 49) rfl rfl ?_
  refine sT ?_
  apply bY<;>intro h2
  ·have b1:=zab.1 h1
   have b2:=zab.1 h2
   have b3:=mulB (a:=m.W) (b:=m.H) (x:=49) (y:=49) (by omega) (by omega)
   refine⟨i6,?_⟩
   refine sT ?_
   apply bY<;>intro h3
   ·have h4:(m.G.length:Int)=m.W*m.H:=by simpa using h3
    refine cP (ztj m.G 224 (fun h=>!within h 0 4000) (by omega) (fun i hi=>zoZ _)) rfl rfl ?_
    refine sT ?_
    refine r1B rfl ?_
    rw[e,h1,h2,h3];rfl
   refine sF ?_
   refine r1B rfl ?_
   rw[e,h1,h2,h3];rfl
  refine sF ?_
  refine sF ?_
  refine sF ?_
  refine r1B rfl ?_
  rw[e,h1,h2];rfl
 refine sF ?_
 refine sF ?_
 refine sF ?_
 refine sF ?_
 refine sF ?_
 refine r1B rfl ?_
 rw[e,h1];rfl
theorem g_On(m:Mp)(p:Place)(hv:validM m=true):Spec PP 164 [m.v,p.v] [B (onM m p)]:=by
 obtain⟨w,h,-,-⟩:=zaf hv
 have e:onM m p=(within p.X 0 (m.W-1)&&within p.Y 0 (m.H-1)):=by unfold onM;rfl
 refine sA Tryz.func164 ?_
 refine⟨i6,?_⟩
 refine cP (za0 p.X 0 (m.W-1)) rfl rfl ?_
 apply bY<;>intro h1
 ·refine⟨i6,?_⟩
  refine cP (za0 p.Y 0 (m.H-1)) rfl rfl ?_
  refine sT ?_
  refine r1B rfl ?_
  rw[e,h1];rfl
 refine sF ?_
 refine r1B rfl ?_
 rw[e,h1];rfl
theorem zce(m:Mp)(p:Place)(hv:validM m=true)(hp:onM m p=true):Spec PP 298 [m.v,p.v] [N (grd m p)]:=by
 obtain⟨⟨g1,g2⟩,-⟩:=zaV hv hp
 obtain⟨w,h,e,-⟩:=zaf hv
 obtain⟨p1,p2⟩:=zad.1 hp
 have b3:=mulB (a:=p.Y) (b:=m.W) (x:=49) (y:=49) (by omega) (by omega)
 refine sA Tryz.func298 ?_
 refine⟨i6,⟨i6,?_⟩⟩
 refine⟨⟨rfl,by omega,by omega⟩,?_⟩
 exact r1I rfl rfl
theorem zju(n:Int)(h:-9223372036854775807<=n/\n<=9223372036854775807):Spec PP 296 [N n] [N (n.natAbs:Int)]:=by
 refine sA Tryz.func296 ?_
 refine⟨i6,?_⟩
 refine r1I rfl ?_
 show max n (-n)=_
 omega
def nearB(a b:Place)(d:Int):Bool:=decide ((a.X-b.X)*(a.X-b.X)+(a.Y-b.Y)*(a.Y-b.Y)<=d*d)
theorem zuq(a b:Place)(d:Int)(ha:on a=true)(hb:on b=true)(hd:0<=d/\d<=100):Spec PP 278 [a.v,b.v,N d] [B (nearB a b d)]:=by
 obtain⟨a1,a2⟩:=zbk.1 ha
 obtain⟨b1,b2⟩:=zbk.1 hb
 have m1:=mulB (a:=a.X-b.X) (b:=a.X-b.X) (x:=48) (y:=48) (by omega) (by omega)
 have m2:=mulB (a:=a.Y-b.Y) (b:=a.Y-b.Y) (x:=48) (y:=48) (by omega) (by omega)
 have m3:=mulB (a:=d) (b:=d) (x:=100) (y:=100) (by omega) (by omega)
 refine sA Tryz.func278 ?_
 refine⟨i6,⟨i6,⟨i6,⟨i6,⟨i6,⟨i6,⟨i6,⟨i6,?_⟩⟩⟩⟩⟩⟩⟩⟩
 exact r1B rfl rfl
def farZ(t:Int):List Hz->Int
 | []=>100
 |h::r=>if h.From<=t/\t<=h.To then h.Far else farZ t r
theorem zg9{t:Int}{l:List Hz}{i:Nat}(hi:i<l.length):farZ t (l.drop i)=if(l.getD i default).From<=t/\t<=(l.getD i default).To then(l.getD i default).Far else farZ t (l.drop (i+1)):=by
 rw[qO hi,hZ,kF hi];rfl
abbrev bxCt(c:Ctry):Ob:=.box [.d (I c.M.W),.d (I c.M.H),.d (lI c.M.G),.d (lT c.T),.d (lZ c.Z)]
theorem obCt{s:St}{ob:Nat->Option Ob}{c:Ctry}{o:Option Ob}(g:o=some (bxCt c)):Oble s ob o (bxCt c):=obD [I c.M.W,I c.M.H,lI c.M.G,lT c.T,lZ c.Z] g
theorem g_far(c:Ctry)(t:Int)(hn:c.Z.length<=1000000):Spec PP 269 [c.v,N t] [N (farZ t c.Z)]:=by
 refine sA Tryz.func269 ?_
 refine LoopOb.of (σ:=Nat) (fun i=>([(1,.d (I t)),(8,.d (lZ c.Z)),(9,.d (I c.Z.length)),(10,.d (I i))],[])) (fun i=>i<=c.Z.length/\farZ t (c.Z.drop i)=farZ t c.Z) (fun i=>c.Z.length-i) 0
  ⟨rfl,trivial,wq rfl⟩ ⟨jF _,rfl⟩ fun i hi=>?_
 obtain⟨hi,ha⟩:=hi
 apply bY<;>intro h1
 ·have h1:i<c.Z.length:=by have:=dT h1;omega
  have hd:=zg9 (t:=t) h1
  rw[ha]at hd
  refine⟨⟨rfl,by omega,by omega⟩,?_⟩
  apply bY<;>intro h2
  ·have h2:(c.Z.getD i default).From<=t:=dT h2
   refine sT ?_
   apply bY<;>intro h3
   ·have h3:t<=(c.Z.getD i default).To:=dT h3
    refine r1I rfl ?_
    rw[hd,kH ⟨h2,h3⟩];rfl
   have h3:¬t<=(c.Z.getD i default).To:=dF h3
   rw[kG fun h=>h3 h.2]at hd
   refine⟨i6,?_⟩
   exact⟨i+1,⟨rfl,trivial,wq rfl⟩,⟨h1,hd.symm⟩,(msr (by omega))⟩
  have h2:¬(c.Z.getD i default).From<=t:=dF h2
  rw[kG fun h=>h2 h.1]at hd
  refine sF ?_
  refine sF ?_
  refine⟨i6,?_⟩
  exact⟨i+1,⟨rfl,trivial,wq rfl⟩,⟨h1,hd.symm⟩,(msr (by omega))⟩
 have h1:i=c.Z.length:=by have:=dF h1;omega
 subst h1
 refine r1I rfl ?_
 rw[<- ha,ja9];rfl
def towI(T:List Twr)(id:Int):Int:=idxL (fun t=>t.ID==id) T
def towG(T:List Twr)(id:Int):Twr×Bool:=if towI T id<0 then(default,false)else(T.getD (towI T id).toNat default,true)
theorem zdQ{T:List Twr}{id:Int}(h:¬towI T id<0):(towI T id).toNat<T.length/\towI T id=((towI T id).toNat:Int):=by
 rcases idxL_cases (fun t:Twr=>t.ID==id) T default with⟨h1,_⟩|⟨i,h1,h2,_⟩
 ·exact absurd (show towI T id<0 by unfold towI;rw[h1];decide) h
 unfold towI;rw[h2];simp;exact h1
theorem zo0(t:Twr)(id:Int):Spec PP 277 [t.v,.d (capB [I id])] [B (t.ID==id)]:=by
 refine sA Tryz.func277 ?_
 exact r1B rfl rfl
theorem zr9(c:Ctry)(id:Int)(hn:c.T.length<=1000000):Spec PP 267 [c.v,N id] [(towG c.T id).1.v,B (towG c.T id).2]:=by
 refine sA Tryz.func267 ?_
 refine CallSt.fz [3] (zk3 c.T 277 (capB [I id]) (fun t=>t.ID==id) hn (fun i hi=>zo0 _ id)) rfl rfl ?_
 apply bY<;>intro h1
 ·have h1:towI c.T id<0:=dT h1
  have e:towG c.T id=(default,false):=by unfold towG;rw[kH h1]
  rw[e]
  exact⟨rtC (a:=4) rfl rfl rfl rfl rfl rfl (zaa _),rtB rfl rfl,trivial⟩
 have h1:¬towI c.T id<0:=dF h1
 obtain⟨h2,h3⟩:=zdQ h1
 have e:towG c.T id=(c.T.getD (towI c.T id).toNat default,true):=by unfold towG;rw[kG h1]
 rw[e]
 refine⟨⟨rfl,by show 0<=towI c.T id;omega,by show towI c.T id<c.T.length;omega⟩,?_⟩
 exact⟨rtC (a:=4) rfl rfl rfl rfl rfl rfl (zaa _),rtB rfl rfl,trivial⟩
abbrev Mp.w(m:Mp):Nat:=m.W.toNat
abbrev Mp.h(m:Mp):Nat:=m.H.toNat
def spL(m:Mp):List (Nat×Nat):=(List.range (m.w*m.h)).map fun n=>(n/m.w,n%m.w)
theorem zcZ(m:Mp):(spL m).length=m.w*m.h:=by unfold spL;simp
theorem zs8{m:Mp}{y x:Nat}(hy:y<m.h)(hx:x<m.w):(spL m)[y*m.w+x]?=some (y,x):=by
 have h1:y*m.w+x<m.w*m.h:=by
  have:(y+1)*m.w<=m.h*m.w:=jW _ hy
  rw[qG]at this
  rw[qM m.w m.h]
  omega
 have h2:(y*m.w+x)/m.w=y:=by rw[qM,Nat.mul_add_div (by omega),jbn hx];rfl
 have h3:(y*m.w+x)%m.w=x:=by rw[qM,jbd,jaI hx]
 unfold spL
 rw[jU,wF h1]
 simp only[qL,h2,h3]
def spEnc(m:Mp)(p:Nat×Nat):List V1:=[.d (I (p.1*m.W+p.2)),.agg [I p.2,I p.1]]
abbrev spClo(m:Mp):D:=.clo 139 1 (fun _=>capB m.ds)
theorem zfZ(m:Mp):Spec PP 97 [m.v] [.d (spClo m)]:=by
 refine sA Tryz.func97 ?_
 refine⟨⟨rfl,rfl,fun j hj=>?_⟩,trivial⟩
 match j,hj with
 |0,_=>exact⟨_,rfl,rfl,_,_,rfl,rfl,rfl,fun j hj=>dE _⟩
theorem zdJ(m:Mp)(hv:validM m=true):SeqC PP 139 1 (fun _=>capB m.ds) (spEnc m) (spL m):=by
 obtain⟨bw,bh,-,-⟩:=zaf hv
 have hw:((m.w:Nat):Int)=m.W:=by show((m.W.toNat:Nat):Int)=m.W;omega
 have hh:((m.h:Nat):Int)=m.H:=by show((m.H.toNat:Nat):Int)=m.H;omega
 refine zfA Tryz.func139 rfl (by kernel_rfl) rfl rfl (spEnc m) _ fun l=>?_
 refine LoopOb.of (σ:=Nat) (fun y=>([(G,.gho (some (y*m.w))),(0,.yl l),(1,avOf (.d (capB m.ds))),(6,.d (I m.H)),(7,.d (I y))],[])) (fun y=>y<=m.h) (fun y=>m.h-y) 0 ⟨rfl,trivial,avG rfl (by simp),wq rfl⟩ (jF _) fun y hy=>?_
 apply bY<;>intro h1
 ·have h1:y<m.h:=by have:=dT h1;omega
  refine LoopOb.of (σ:=Nat) (fun x=>([(G,.gho (some (y*m.w+x))),(0,.yl l),(1,avOf (.d (capB m.ds))),(3,.d (I y)),(6,.d (I m.H)),(7,.d (I y)),(11,.d (I m.W)),(12,.d (I x))],[])) (fun x=>x<=m.w) (fun x=>m.w-x) 0 ⟨rfl,trivial,avG rfl (by simp),wq rfl⟩ (jF _) fun x hx=>?_
  apply bY<;>intro h2
  ·have h2:x<m.w:=by have:=dT h2;omega
   have m1:=mulB (a:=(y:Int)) (b:=m.W) (x:=49) (y:=49) (by omega) (by omega)
   refine⟨i6,⟨i6,?_⟩⟩
   refine CallSt.yd (d:=25) [(0,.yl l),(1,avOf (.d (capB m.ds))),(3,.d (I y)),(6,.d (I m.H)),(7,.d (I y)),(11,.d (I m.W)),(12,.d (I x))] rfl rfl rfl rfl ⟨rfl,trivial,wq rfl⟩ (zs8 h1 h2) rfl rfl ?_ ?_
   ·refine sF ?_
    refine⟨i6,?_⟩
    refine⟨x+1,⟨rfl,trivial,avG rfl rfl,wq rfl⟩,h2,(msr (by omega))⟩
   refine sT ?_
   exact .inr rfl
  have h2:x=m.w:=by have:=dF h2;omega
  subst h2
  refine⟨i6,?_⟩
  refine⟨y+1,⟨rfl,trivial,avG rfl (by rw[qG,Nat.one_mul]),wq rfl⟩,h1,(msr (by omega))⟩
 have h1:y=m.h:=by have:=dF h1;omega
 subst h1
 exact .inl (show AV.gho (some (m.h*m.w))= .gho (some (spL m).length)by rw[zcZ,qM])
def plc(m:Mp)(n:Nat):Place:=⟨((n%m.w:Nat):Int),((n/m.w:Nat):Int)⟩
theorem ziH{m:Mp}{pre:List (Nat×Nat)}{x:Nat×Nat}(h:pre++[x]<+:spL m):x=(pre.length/m.w,pre.length%m.w)/\pre.length<m.w*m.h:=by
 have h1:(spL m)[pre.length]?=some x:=by
  obtain⟨t,e⟩:=h
  rw[<- e];simp
 have h2:pre.length<m.w*m.h:=by
  have:=(kC.1 h1).1
  rwa [zcZ]at this
 unfold spL at h1
 rw[jU,wF h2]at h1
 simp only[qL,jO]at h1
 exact⟨h1.symm,h2⟩
theorem zp2{m:Mp}{n:Nat}(hv:validM m=true)(h:n<m.w*m.h):onM m (plc m n)=true:=by
 obtain⟨bw,bh,-,-⟩:=zaf hv
 refine zad.2 ?_
 have hw:0<m.w:=by show 0<m.W.toNat;omega
 have h1:=jau n hw
 have h2:n/m.w<m.h:=jaR h
 generalize hq:n/m.w=q at h2
 generalize hr:n%m.w=r at h1
 show(0<=((n%m.w:Nat):Int)/\((n%m.w:Nat):Int)<m.W)/\(0<=((n/m.w:Nat):Int)/\((n/m.w:Nat):Int)<m.H)
 have e1:((m.w:Nat):Int)=m.W:=by show((m.W.toNat:Nat):Int)=m.W;omega
 have e2:((m.h:Nat):Int)=m.H:=by show((m.H.toNat:Nat):Int)=m.H;omega
 rw[hq,hr]
 omega
def crsX(f0 t0 k:Int):Int:=f0+(k*(t0-f0)).tdiv ((t0-f0).natAbs:Int)
def crsY(f0 f1 t0 t1 k:Int):Int:=f1*((t0-f0).natAbs:Int)+k*(t1-f1)
def crsH(g:Int->Int->Int)(f0 f1 t0 t1 k:Int):Int:=
 if 0<(crsY f0 f1 t0 t1 k).tmod ((t0-f0).natAbs:Int)then
  (((t0-f0).natAbs:Int)-(crsY f0 f1 t0 t1 k).tmod ((t0-f0).natAbs:Int))*g (crsX f0 t0 k) ((crsY f0 f1 t0 t1 k).tdiv ((t0-f0).natAbs:Int))+(crsY f0 f1 t0 t1 k).tmod ((t0-f0).natAbs:Int)*g (crsX f0 t0 k) ((crsY f0 f1 t0 t1 k).tdiv ((t0-f0).natAbs:Int)+1)
 else(((t0-f0).natAbs:Int)-(crsY f0 f1 t0 t1 k).tmod ((t0-f0).natAbs:Int))*g (crsX f0 t0 k) ((crsY f0 f1 t0 t1 k).tdiv ((t0-f0).natAbs:Int))
structure Pnt where
  ax:Int
  k:Int
  n:Int
  hi:Int
  deriving DecidableEq,Inhabited
abbrev Pnt.v(p:Pnt):V1:=.agg [I p.ax,I p.k,I p.k,I p.n,I p.hi]
def crs0(m:Mp)(a b:Place)(k:Int):Pnt:=⟨0,k,((b.X-a.X).natAbs:Int),crsH (fun x y=>grd m ⟨x,y⟩) a.X a.Y b.X b.Y k⟩
def crs1(m:Mp)(a b:Place)(k:Int):Pnt:=⟨1,k,((b.Y-a.Y).natAbs:Int),crsH (fun y x=>grd m ⟨x,y⟩) a.Y a.X b.Y b.X k⟩
theorem zid{f0 t0 k:Int}(h:t0≠f0):crsX f0 t0 k=if f0<t0 then f0+k else f0-k:=by
 unfold crsX
 by_cases e:f0<t0
 ·rw[kH e,show((t0-f0).natAbs:Int)=t0-f0 by omega,Int.mul_tdiv_cancel _ (by omega)]
 rw[kG e,show((t0-f0).natAbs:Int)= -(t0-f0)by omega,Int.tdiv_neg,Int.mul_tdiv_cancel _ (by omega)];omega
structure CrsIn(f0 f1 t0 t1 k:Int)(lo hi:Int):Prop where
  x:crsX f0 t0 k≠f0/\((f0<=crsX f0 t0 k/\crsX f0 t0 k<=t0)\/(t0<=crsX f0 t0 k/\crsX f0 t0 k<=f0))
  w:lo<=(crsY f0 f1 t0 t1 k).tdiv ((t0-f0).natAbs:Int)/\(crsY f0 f1 t0 t1 k).tdiv ((t0-f0).natAbs:Int)<=hi
  r:0<=(crsY f0 f1 t0 t1 k).tmod ((t0-f0).natAbs:Int)/\(crsY f0 f1 t0 t1 k).tmod ((t0-f0).natAbs:Int)<((t0-f0).natAbs:Int)
  u:0<(crsY f0 f1 t0 t1 k).tmod ((t0-f0).natAbs:Int)->(crsY f0 f1 t0 t1 k).tdiv ((t0-f0).natAbs:Int)+1<=hi
theorem zfd{f0 f1 t0 t1 k lo hi:Int}(h0:0<=lo)(h1:lo<=f1/\f1<=hi)(h2:lo<=t1/\t1<=hi)(hk:1<=k/\k<((t0-f0).natAbs:Int)):CrsIn f0 f1 t0 t1 k lo hi:=by
 have hx:=zid (f0:=f0) (t0:=t0) (k:=k) (by omega)
 generalize hn:((t0-f0).natAbs:Int)=n at*
 have ey:crsY f0 f1 t0 t1 k=f1*(n-k)+t1*k:=by unfold crsY;rw[hn];grind
 have l1:=jV h1.1 (show 0<=n-k by omega)
 have l2:=jV h2.1 (show 0<=k by omega)
 have u1:=jV h1.2 (show 0<=n-k by omega)
 have u2:=jV h2.2 (show 0<=k by omega)
 have e1:lo*(n-k)+lo*k=lo*n:=by grind
 have e2:hi*(n-k)+hi*k=hi*n:=by grind
 have yl:lo*n<=crsY f0 f1 t0 t1 k:=by omega
 have yh:crsY f0 f1 t0 t1 k<=hi*n:=by omega
 have y0:0<=crsY f0 f1 t0 t1 k:=by have:=wK h0 (show 0<=n by omega);omega
 have hnp:0<n:=by omega
 have td:(crsY f0 f1 t0 t1 k).tdiv n=crsY f0 f1 t0 t1 k/n:=ja5 y0
 have tm:(crsY f0 f1 t0 t1 k).tmod n=crsY f0 f1 t0 t1 k%n:=wE y0
 have q1:lo<=crsY f0 f1 t0 t1 k/n:=(jaM hnp).2 yl
 have q2:crsY f0 f1 t0 t1 k/n<=hi:=jbl hnp (by rw[jae]at yh;rw[jae];exact yh)
 have hm:=Int.emod_nonneg (crsY f0 f1 t0 t1 k) (show n≠0 by omega)
 have hml:=jbz (crsY f0 f1 t0 t1 k) hnp
 have hd:=Int.emod_add_mul_ediv (crsY f0 f1 t0 t1 k) n
 refine⟨?_,?_,?_,?_⟩
 ·rw[hx];split<;>omega
 ·rw[hn,td];exact⟨q1,q2⟩
 ·rw[hn,tm];exact⟨hm,hml⟩
 rw[hn,tm,td]
 intro hr
 rcases jby (crsY f0 f1 t0 t1 k/n) hi with h|h
 ·omega
 have e:crsY f0 f1 t0 t1 k/n=hi:=by omega
 rw[e,jae]at hd
 omega
theorem zjv(p:Place):Spec PP 310 [p.v] [.agg [I p.X,I p.Y]]:=by
 refine sA Tryz.func310 ?_
 exact r1C rfl rfl rfl rfl rfl rfl (zbR rfl rfl)
theorem zf8(x y:Int):Spec PP 311 [.agg [I x,I y]] [(Place.mk x y).v]:=by
 refine sA Tryz.func311 ?_
 refine⟨by decide,⟨by decide,?_⟩⟩
 exact r1C rfl rfl rfl rfl rfl rfl (zbR rfl rfl)
theorem zo7{a b c d e a' b' c' d' e':Int}(h1:a=a')(h2:b=b')(h3:c=c')(h4:d=d')(h5:e=e'):eqvs [I a,I b,I c,I d,I e] [I a',I b',I c',I d',I e']:=⟨⟨rfl,h1⟩,⟨rfl,h2⟩,⟨rfl,h3⟩,⟨rfl,h4⟩,⟨rfl,h5⟩,trivial⟩
theorem zek(m:Mp)(a b:Place)(k:Int)(hv:validM m=true)(ha:onM m a=true)(hb:onM m b=true)(hk:1<=k/\k<((b.X-a.X).natAbs:Int)):Spec PP 297 [m.v,a.v,b.v,N 0,N k] [(crs0 m a b k).v]:=by
 obtain⟨w,h,-,-⟩:=zaf hv
 obtain⟨a1,a2⟩:=zad.1 ha
 obtain⟨b1,b2⟩:=zad.1 hb
 have C:=zfd (f0:=a.X) (f1:=a.Y) (t0:=b.X) (t1:=b.Y) (k:=k) (lo:=0) (hi:=m.H-1) (by omega) (by omega) (by omega) hk
 have m1:=mulB (a:=k) (b:=b.X-a.X) (x:=48) (y:=48) (by omega) (by omega)
 have m2:=mulB (a:=k) (b:=b.Y-a.Y) (x:=48) (y:=48) (by omega) (by omega)
 have m3:=mulB (a:=a.Y) (b:=((b.X-a.X).natAbs:Int)) (x:=48) (y:=48) (by omega) (by omega)
 have hx:=C.x
 have hw:=C.w
 have hr:=C.r
 have hu:=C.u
 have eX:(k*(b.X-a.X)).tdiv ((b.X-a.X).natAbs:Int)=crsX a.X b.X k-a.X:=by unfold crsX;omega
 have eY:a.Y*((b.X-a.X).natAbs:Int)+k*(b.Y-a.Y)=crsY a.X a.Y b.X b.Y k:=rfl
 have o1:onM m ⟨(crsX a.X b.X k),((crsY a.X a.Y b.X b.Y k).tdiv ((b.X-a.X).natAbs:Int))⟩=true:=zad.2 (by dsimp only;omega)
 have d1:=(zaV hv o1).2
 have m4:=mulB (a:=((b.X-a.X).natAbs:Int)-(crsY a.X a.Y b.X b.Y k).tmod ((b.X-a.X).natAbs:Int)) (x:=48) (y:=4000) (by omega) (b:=grd m ⟨(crsX a.X b.X k),((crsY a.X a.Y b.X b.Y k).tdiv ((b.X-a.X).natAbs:Int))⟩) (by omega)
 refine sA Tryz.func297 ?_
 refine Exists.intro [0,1,2,3,2004,2005,6,7] (And.intro (by kernel_rfl) (fNo ?_))
 refine oP (zjv a) rfl rfl ?_
 refine oP (zjv b) rfl rfl ?_
 refine⟨rfl,⟨rfl,?_⟩⟩
 refine oN 9 ?_
 refine⟨by decide,⟨by decide,⟨i6,?_⟩⟩⟩
 refine oP (zju (b.X-a.X) (by omega)) rfl rfl ?_
 refine⟨zaZ (by decide) (by decide),?_⟩
 refine oN 17 ?_
 refine⟨by decide,⟨by decide,⟨by decide,⟨i6,⟨i6,⟨⟨by omega,i6⟩,⟨i6,⟨by decide,?_⟩⟩⟩⟩⟩⟩⟩⟩
 refine oN 16 ?_
 refine⟨by decide,⟨i6,⟨by decide,⟨by decide,⟨i6,⟨i6,⟨i6,?_⟩⟩⟩⟩⟩⟩⟩
 refine⟨⟨by omega,zaZ (by rw[eY];omega) (by rw[eY];omega)⟩,⟨by decide,?_⟩⟩
 refine⟨by omega,?_⟩
 refine oN 9 ?_
 refine⟨zaZ (by rw[eY];omega) (by rw[eY];omega),?_⟩
 refine oP (zf8 (crsX a.X b.X k) ((crsY a.X a.Y b.X b.Y k).tdiv ((b.X-a.X).natAbs:Int))) rfl rfl ?_
 refine oP (zce m ⟨(crsX a.X b.X k),((crsY a.X a.Y b.X b.Y k).tdiv ((b.X-a.X).natAbs:Int))⟩ hv o1) rfl rfl ?_
 refine⟨zaZ (by rw[eY];omega) (by rw[eY];omega),?_⟩
 apply bY<;>intro h1
 ·have h1:0<(crsY a.X a.Y b.X b.Y k).tmod ((b.X-a.X).natAbs:Int):=dT h1
  have hu1:=hu h1
  have o2:onM m ⟨(crsX a.X b.X k),(((crsY a.X a.Y b.X b.Y k).tdiv ((b.X-a.X).natAbs:Int))+1)⟩=true:=zad.2 (by dsimp only;omega)
  have d2:=(zaV hv o2).2
  have m5:=mulB (a:=(crsY a.X a.Y b.X b.Y k).tmod ((b.X-a.X).natAbs:Int)) (x:=48) (y:=4000) (by omega) (b:=grd m ⟨(crsX a.X b.X k),(((crsY a.X a.Y b.X b.Y k).tdiv ((b.X-a.X).natAbs:Int))+1)⟩) (by omega)
  refine⟨by decide,⟨zaZ (by rw[eY];omega) (by rw[eY];omega),⟨by decide,?_⟩⟩⟩
  refine oN 9 ?_
  refine oP (zf8 (crsX a.X b.X k) (((crsY a.X a.Y b.X b.Y k).tdiv ((b.X-a.X).natAbs:Int))+1)) rfl rfl ?_
  refine oP (zce m ⟨(crsX a.X b.X k),(((crsY a.X a.Y b.X b.Y k).tdiv ((b.X-a.X).natAbs:Int))+1)⟩ hv o2) rfl rfl ?_
  refine⟨zaZ (by rw[eY];omega) (by rw[eY];omega),⟨zaZ (by rw[eY];omega) (by rw[eY];omega),?_⟩⟩
  refine r1C rfl rfl rfl rfl rfl rfl (zo7 rfl rfl rfl rfl ?_)
  unfold crs0 crsH
  rw[kH h1];rfl
 have h1:¬0<(crsY a.X a.Y b.X b.Y k).tmod ((b.X-a.X).natAbs:Int):=dF h1
 refine r1C rfl rfl rfl rfl rfl rfl (zo7 rfl rfl rfl rfl ?_)
 unfold crs0 crsH
 rw[kG h1];rfl
theorem zej(m:Mp)(a b:Place)(k:Int)(hv:validM m=true)(ha:onM m a=true)(hb:onM m b=true)(hk:1<=k/\k<((b.Y-a.Y).natAbs:Int)):Spec PP 297 [m.v,a.v,b.v,N 1,N k] [(crs1 m a b k).v]:=by
 obtain⟨w,h,-,-⟩:=zaf hv
 obtain⟨a1,a2⟩:=zad.1 ha
 obtain⟨b1,b2⟩:=zad.1 hb
 have C:=zfd (f0:=a.Y) (f1:=a.X) (t0:=b.Y) (t1:=b.X) (k:=k) (lo:=0) (hi:=m.W-1) (by omega) (by omega) (by omega) hk
 have m1:=mulB (a:=k) (b:=b.Y-a.Y) (x:=48) (y:=48) (by omega) (by omega)
 have m2:=mulB (a:=k) (b:=b.X-a.X) (x:=48) (y:=48) (by omega) (by omega)
 have m3:=mulB (a:=a.X) (b:=((b.Y-a.Y).natAbs:Int)) (x:=48) (y:=48) (by omega) (by omega)
 have hx:=C.x
 have hw:=C.w
 have hr:=C.r
 have hu:=C.u
 have eX:(k*(b.Y-a.Y)).tdiv ((b.Y-a.Y).natAbs:Int)=crsX a.Y b.Y k-a.Y:=by unfold crsX;omega
 have eY:a.X*((b.Y-a.Y).natAbs:Int)+k*(b.X-a.X)=crsY a.Y a.X b.Y b.X k:=rfl
 have o1:onM m ⟨((crsY a.Y a.X b.Y b.X k).tdiv ((b.Y-a.Y).natAbs:Int)),(crsX a.Y b.Y k)⟩=true:=zad.2 (by dsimp only;omega)
 have d1:=(zaV hv o1).2
 have m4:=mulB (a:=((b.Y-a.Y).natAbs:Int)-(crsY a.Y a.X b.Y b.X k).tmod ((b.Y-a.Y).natAbs:Int)) (x:=48) (y:=4000) (by omega) (b:=grd m ⟨((crsY a.Y a.X b.Y b.X k).tdiv ((b.Y-a.Y).natAbs:Int)),(crsX a.Y b.Y k)⟩) (by omega)
 refine sA Tryz.func297 ?_
 refine Exists.intro [0,1,2,3,2004,2005,6,7] (And.intro (by kernel_rfl) (fNo ?_))
 refine oP (zjv a) rfl rfl ?_
 refine oP (zjv b) rfl rfl ?_
 refine⟨rfl,⟨rfl,?_⟩⟩
 refine oN 9 ?_
 refine⟨by decide,⟨by decide,⟨i6,?_⟩⟩⟩
 refine oP (zju (b.Y-a.Y) (by omega)) rfl rfl ?_
 refine⟨zaZ (by decide) (by decide),?_⟩
 refine oN 17 ?_
 refine⟨by decide,⟨by decide,⟨by decide,⟨i6,⟨i6,⟨⟨by omega,i6⟩,⟨i6,⟨by decide,?_⟩⟩⟩⟩⟩⟩⟩⟩
 refine oN 16 ?_
 refine⟨by decide,⟨i6,⟨by decide,⟨by decide,⟨i6,⟨i6,⟨i6,?_⟩⟩⟩⟩⟩⟩⟩
 refine⟨⟨by omega,zaZ (by rw[eY];omega) (by rw[eY];omega)⟩,⟨by decide,?_⟩⟩
 refine⟨by omega,?_⟩
 refine oN 9 ?_
 refine⟨zaZ (by rw[eY];omega) (by rw[eY];omega),?_⟩
 refine oP (zf8 ((crsY a.Y a.X b.Y b.X k).tdiv ((b.Y-a.Y).natAbs:Int)) (crsX a.Y b.Y k)) rfl rfl ?_
 refine oP (zce m ⟨((crsY a.Y a.X b.Y b.X k).tdiv ((b.Y-a.Y).natAbs:Int)),(crsX a.Y b.Y k)⟩ hv o1) rfl rfl ?_
 refine⟨zaZ (by rw[eY];omega) (by rw[eY];omega),?_⟩
 apply bY<;>intro h1
 ·have h1:0<(crsY a.Y a.X b.Y b.X k).tmod ((b.Y-a.Y).natAbs:Int):=dT h1
  have hu1:=hu h1
  have o2:onM m ⟨(((crsY a.Y a.X b.Y b.X k).tdiv ((b.Y-a.Y).natAbs:Int))+1),(crsX a.Y b.Y k)⟩=true:=zad.2 (by dsimp only;omega)
  have d2:=(zaV hv o2).2
  have m5:=mulB (a:=(crsY a.Y a.X b.Y b.X k).tmod ((b.Y-a.Y).natAbs:Int)) (x:=48) (y:=4000) (by omega) (b:=grd m ⟨(((crsY a.Y a.X b.Y b.X k).tdiv ((b.Y-a.Y).natAbs:Int))+1),(crsX a.Y b.Y k)⟩) (by omega)
  refine⟨by decide,⟨zaZ (by rw[eY];omega) (by rw[eY];omega),⟨by decide,?_⟩⟩⟩
  refine oN 9 ?_
  refine oP (zf8 (((crsY a.Y a.X b.Y b.X k).tdiv ((b.Y-a.Y).natAbs:Int))+1) (crsX a.Y b.Y k)) rfl rfl ?_
  refine oP (zce m ⟨(((crsY a.Y a.X b.Y b.X k).tdiv ((b.Y-a.Y).natAbs:Int))+1),(crsX a.Y b.Y k)⟩ hv o2) rfl rfl ?_
  refine⟨zaZ (by rw[eY];omega) (by rw[eY];omega),⟨zaZ (by rw[eY];omega) (by rw[eY];omega),?_⟩⟩
  refine r1C rfl rfl rfl rfl rfl rfl (zo7 rfl rfl rfl rfl ?_)
  unfold crs1 crsH
  rw[kH h1];rfl
 have h1:¬0<(crsY a.Y a.X b.Y b.X k).tmod ((b.Y-a.Y).natAbs:Int):=dF h1
 refine r1C rfl rfl rfl rfl rfl rfl (zo7 rfl rfl rfl rfl ?_)
 unfold crs1 crsH
 rw[kG h1];rfl
def dX(a b:Place):Int:=((b.X-a.X).natAbs:Int)
def dY(a b:Place):Int:=((b.Y-a.Y).natAbs:Int)
def ptsF(m:Mp)(a b:Place):Nat->Int->Int->List Pnt
 |0,_,_=>[]
 |f+1,k0,k1=>
  if k0<dX a b\/k1<dY a b then
   if dX a b<=k0\/(k1<dY a b/\k1*dX a b<k0*dY a b)then crs1 m a b k1::ptsF m a b f k0 (k1+1)
   else crs0 m a b k0::ptsF m a b f (k0+1) k1
  else []
def ptsN(a b:Place)(k0 k1:Int):Nat:=(dX a b-k0).toNat+(dY a b-k1).toNat
def ptsL(m:Mp)(a b:Place):List Pnt:=ptsF m a b (ptsN a b 1 1) 1 1
theorem ziY{a b:Place}{k0 k1:Int}(h:k0<dX a b):ptsN a b k0 k1=ptsN a b (k0+1) k1+1:=by unfold ptsN;omega
theorem ziX{a b:Place}{k0 k1:Int}(h:k1<dY a b):ptsN a b k0 k1=ptsN a b k0 (k1+1)+1:=by unfold ptsN;omega
theorem zrr{m:Mp}{a b:Place}{k0 k1:Int}(h0:dX a b<=k0)(h1:dY a b<=k1):ptsF m a b (ptsN a b k0 k1) k0 k1=[]:=by
 have:ptsN a b k0 k1=0:=by unfold ptsN;omega
 rw[this];rfl
theorem ztA{m:Mp}{a b:Place}{k0 k1:Int}(h:k1<dY a b)(hc:dX a b<=k0\/(k1<dY a b/\k1*dX a b<k0*dY a b)):ptsF m a b (ptsN a b k0 k1) k0 k1=crs1 m a b k1::ptsF m a b (ptsN a b k0 (k1+1)) k0 (k1+1):=by
 rw[ziX h]
 show(if _ then _ else _)=_
 rw[kH (.inr h),kH hc]
theorem ztB{m:Mp}{a b:Place}{k0 k1:Int}(h:k0<dX a b)(hc:¬(dX a b<=k0\/(k1<dY a b/\k1*dX a b<k0*dY a b))):ptsF m a b (ptsN a b k0 k1) k0 k1=crs0 m a b k0::ptsF m a b (ptsN a b (k0+1) k1) (k0+1) k1:=by
 rw[ziY h]
 show(if _ then _ else _)=_
 rw[kH (.inl h),kG hc]
def pntEnc(p:Pnt):List V1:=[p.v]
theorem eqv2{m:Nat}{x0 x1:D}{h:Nat->D}(hm:m=2)(h0:D.eqv x0 (h 0))(h1:D.eqv x1 (h 1)):D.eqv (.ptr ([x0,x1].length-0) fun j=>getD' [x0,x1] (0+j)) (.ptr m h):=by
 subst hm
 refine⟨rfl,fun j hj=>?_⟩
 match j,hj with
 |0,_=>exact h0
 |1,_=>exact h1
abbrev capP(p:Place):D:=capB [I p.X,I p.Y]
def ptsCap(m:Mp)(a b:Place)(j:Nat):D:=getD' [capP a,capP b,capB m.ds] j
theorem zlL{m:Mp}{a b:Place}(hv:validM m=true)(ha:onM m a=true)(hb:onM m b=true):(-48<=b.X-a.X/\b.X-a.X<=48)/\(-48<=b.Y-a.Y/\b.Y-a.Y<=48)/\(0<=dX a b/\dX a b<=48)/\(0<=dY a b/\dY a b<=48):=by
 obtain⟨w,h,-,-⟩:=zaf hv
 obtain⟨a1,a2⟩:=zad.1 ha
 obtain⟨b1,b2⟩:=zad.1 hb
 unfold dX dY
 omega
theorem zmF(m:Mp)(a b:Place)(hv:validM m=true)(ha:onM m a=true)(hb:onM m b=true):SeqC PP 295 3 (ptsCap m a b) pntEnc (ptsL m a b):=by
 obtain⟨e1,e2,e3,e4⟩:=zlL hv ha hb
 refine zfA Tryz.func295 rfl (by kernel_rfl) rfl rfl pntEnc _ fun y=>?_
 refine oN 15 ?_
 refine⟨i6,?_⟩
 refine oP (zju (a.X-b.X) (by omega)) rfl rfl ?_
 refine⟨i6,?_⟩
 refine oP (zju (a.Y-b.Y) (by omega)) rfl rfl ?_
 refine LoopOb.of (σ:=Int×Int×Nat) (fun x=>([(G,.gho (some x.2.2)),(0,.yl y),(1,avOf (.d (capP a))),(2,avOf (.d (capP b))),(3,avOf (.d (capB m.ds))),(5,.roe 2 (getD' [I (dX a b),I (dY a b)])),(6,.box 6 0)],[(6,.box [.d (I x.1),.d (I x.2.1)])]))
  (fun x=>(1<=x.1/\x.1<=49/\1<=x.2.1/\x.2.1<=49)/\x.2.2<=(ptsL m a b).length/\(ptsL m a b).drop x.2.2=ptsF m a b (ptsN a b x.1 x.2.1) x.1 x.2.1) (fun x=>ptsN a b x.1 x.2.1) (1,1,0)
  ⟨rfl,⟨obD [I 1,I 1] rfl,trivial⟩,avQ rfl,avQ rfl,avQ rfl,avQ rfl,avQ rfl,avBx rfl rfl rfl rfl (eqv2 rfl ⟨rfl,by unfold dX;omega⟩ ⟨rfl,by unfold dY;omega⟩),avQ rfl,trivial⟩ ⟨by decide,jF _,rfl⟩ fun⟨k0,k1,i⟩ ⟨hk,hi,hd⟩=>?_
 dsimp only at hk hi hd⊢
 refine⟨by decide,⟨by decide,?_⟩⟩
 apply bY<;>intro c0
 ·have c0:k0<dX a b:=dT c0
  have q0:¬dX a b<=k0:=by omega
  refine sT ?_
  refine⟨by decide,⟨by decide,?_⟩⟩
  refine Split.no (jH (by omega)) ?_
  refine⟨by decide,⟨by decide,?_⟩⟩
  apply bY<;>intro c1
  ·have c1:k1<dY a b:=dT c1
   have m1:=mulB (a:=k1) (b:=dX a b) (x:=48) (y:=48) (by omega) (by omega)
   have m2:=mulB (a:=k0) (b:=dY a b) (x:=48) (y:=48) (by omega) (by omega)
   refine⟨by decide,⟨by decide,⟨i6,⟨by decide,⟨by decide,⟨i6,?_⟩⟩⟩⟩⟩⟩
   refine sT (sF ?_)
   apply bY<;>intro c2
   ·have c2:k1*dX a b<k0*dY a b:=dT c2
    have hp:=ztA (m:=m) c1 (.inr ⟨c1,c2⟩)
    have hx:(ptsL m a b)[i]?=some (crs1 m a b k1):=by
     have:=jI List.head? hd
     rwa [hp,List.head?_drop]at this
    have hd':(ptsL m a b).drop (i+1)=ptsF m a b (ptsN a b (k0) (k1+1)) (k0) (k1+1):=by
     rw[<- List.tail_drop,hd,hp];rfl
    have hi':i<(ptsL m a b).length:=(kC.1 hx).1
    have hm:=ziX (k0:=k0) c1
    refine Exists.intro [0,1,2,3,4,5,6,7,8,3009,10] (And.intro (by kernel_rfl) (fNo ?_))
    refine⟨by decide,?_⟩
    refine oP (zej m a b k1 hv ha hb ⟨hk.2.2.1,c1⟩) rfl rfl ?_
    refine CallSt.ydM (d:=68) [(0,.yl y),(1,avOf (.d (capP a))),(2,avOf (.d (capP b))),(3,avOf (.d (capB m.ds))),(5,.roe 2 (getD' [I (dX a b),I (dY a b)])),(6,.box 6 0),(7,.d (I 1))] [(6,.box [.d (I k0),.d (I k1)])] rfl rfl rfl rfl ⟨rfl,⟨obD [I k0,I k1] rfl,trivial⟩,wq rfl⟩ hx rfl rfl ?_ ?_
    ·refine sF ?_
     refine⟨by decide,⟨i6,⟨by decide,?_⟩⟩⟩
     refine⟨(k0,k1+1,i+1),⟨rfl,⟨obD [I (k0),I (k1+1)] rfl,trivial⟩,avG rfl rfl,wq rfl⟩,⟨by dsimp only;omega,hi',hd'⟩,by dsimp only;omega⟩
    refine sT ?_
    exact .inr rfl
   have c2:¬k1*dX a b<k0*dY a b:=dF c2
   have hp:=ztB (m:=m) c0 (fun h=>h.elim q0 fun h=>c2 h.2)
   have hx:(ptsL m a b)[i]?=some (crs0 m a b k0):=by
    have:=jI List.head? hd
    rwa [hp,List.head?_drop]at this
   have hd':(ptsL m a b).drop (i+1)=ptsF m a b (ptsN a b (k0+1) (k1)) (k0+1) (k1):=by
    rw[<- List.tail_drop,hd,hp];rfl
   have hi':i<(ptsL m a b).length:=(kC.1 hx).1
   have hm:=ziY (k1:=k1) c0
   refine Exists.intro [0,1,2,3,4,5,6,7,8,3009,10] (And.intro (by kernel_rfl) (fNo ?_))
   refine⟨by decide,?_⟩
   refine oP (zek m a b k0 hv ha hb ⟨hk.1,c0⟩) rfl rfl ?_
   refine CallSt.ydM (d:=68) [(0,.yl y),(1,avOf (.d (capP a))),(2,avOf (.d (capP b))),(3,avOf (.d (capB m.ds))),(5,.roe 2 (getD' [I (dX a b),I (dY a b)])),(6,.box 6 0),(7,.d (I 0))] [(6,.box [.d (I k0),.d (I k1)])] rfl rfl rfl rfl ⟨rfl,⟨obD [I k0,I k1] rfl,trivial⟩,wq rfl⟩ hx rfl rfl ?_ ?_
   ·refine sF ?_
    refine⟨by decide,⟨i6,⟨by decide,?_⟩⟩⟩
    refine⟨(k0+1,k1,i+1),⟨rfl,⟨obD [I (k0+1),I (k1)] rfl,trivial⟩,avG rfl rfl,wq rfl⟩,⟨by dsimp only;omega,hi',hd'⟩,by dsimp only;omega⟩
   refine sT ?_
   exact .inr rfl
  have c1:¬k1<dY a b:=dF c1
  refine sF (sF (sF ?_))
  have hp:=ztB (m:=m) c0 (fun h=>h.elim q0 fun h=>c1 h.1)
  have hx:(ptsL m a b)[i]?=some (crs0 m a b k0):=by
   have:=jI List.head? hd
   rwa [hp,List.head?_drop]at this
  have hd':(ptsL m a b).drop (i+1)=ptsF m a b (ptsN a b (k0+1) (k1)) (k0+1) (k1):=by
   rw[<- List.tail_drop,hd,hp];rfl
  have hi':i<(ptsL m a b).length:=(kC.1 hx).1
  have hm:=ziY (k1:=k1) c0
  refine Exists.intro [0,1,2,3,4,5,6,7,8,3009,10] (And.intro (by kernel_rfl) (fNo ?_))
  refine⟨by decide,?_⟩
  refine oP (zek m a b k0 hv ha hb ⟨hk.1,c0⟩) rfl rfl ?_
  refine CallSt.ydM (d:=68) [(0,.yl y),(1,avOf (.d (capP a))),(2,avOf (.d (capP b))),(3,avOf (.d (capB m.ds))),(5,.roe 2 (getD' [I (dX a b),I (dY a b)])),(6,.box 6 0),(7,.d (I 0))] [(6,.box [.d (I k0),.d (I k1)])] rfl rfl rfl rfl ⟨rfl,⟨obD [I k0,I k1] rfl,trivial⟩,wq rfl⟩ hx rfl rfl ?_ ?_
  ·refine sF ?_
   refine⟨by decide,⟨i6,⟨by decide,?_⟩⟩⟩
   refine⟨(k0+1,k1,i+1),⟨rfl,⟨obD [I (k0+1),I (k1)] rfl,trivial⟩,avG rfl rfl,wq rfl⟩,⟨by dsimp only;omega,hi',hd'⟩,by dsimp only;omega⟩
  refine sT ?_
  exact .inr rfl
 have c0:¬k0<dX a b:=dF c0
 refine⟨by decide,⟨by decide,?_⟩⟩
 refine sF ?_
 apply bY<;>intro c1
 ·have c1:k1<dY a b:=dT c1
  have q0:dX a b<=k0:=by omega
  refine⟨by decide,⟨by decide,?_⟩⟩
  refine Split.yes (jG (by omega)) ?_
  refine sT (sT ?_)
  have hp:=ztA (m:=m) c1 (.inl q0)
  have hx:(ptsL m a b)[i]?=some (crs1 m a b k1):=by
   have:=jI List.head? hd
   rwa [hp,List.head?_drop]at this
  have hd':(ptsL m a b).drop (i+1)=ptsF m a b (ptsN a b (k0) (k1+1)) (k0) (k1+1):=by
   rw[<- List.tail_drop,hd,hp];rfl
  have hi':i<(ptsL m a b).length:=(kC.1 hx).1
  have hm:=ziX (k0:=k0) c1
  refine Exists.intro [0,1,2,3,4,5,6,7,8,3009,10] (And.intro (by kernel_rfl) (fNo ?_))
  refine⟨by decide,?_⟩
  refine oP (zej m a b k1 hv ha hb ⟨hk.2.2.1,c1⟩) rfl rfl ?_
  refine CallSt.ydM (d:=68) [(0,.yl y),(1,avOf (.d (capP a))),(2,avOf (.d (capP b))),(3,avOf (.d (capB m.ds))),(5,.roe 2 (getD' [I (dX a b),I (dY a b)])),(6,.box 6 0),(7,.d (I 1))] [(6,.box [.d (I k0),.d (I k1)])] rfl rfl rfl rfl ⟨rfl,⟨obD [I k0,I k1] rfl,trivial⟩,wq rfl⟩ hx rfl rfl ?_ ?_
  ·refine sF ?_
   refine⟨by decide,⟨i6,⟨by decide,?_⟩⟩⟩
   refine⟨(k0,k1+1,i+1),⟨rfl,⟨obD [I (k0),I (k1+1)] rfl,trivial⟩,avG rfl rfl,wq rfl⟩,⟨by dsimp only;omega,hi',hd'⟩,by dsimp only;omega⟩
  refine sT ?_
  exact .inr rfl
 have c1:¬k1<dY a b:=dF c1
 have he:i=(ptsL m a b).length:=by
  rw[zrr (by omega) (by omega)]at hd
  have:=List.drop_eq_nil_iff.1 hd
  omega
 subst he
 exact .inl rfl
end Go.Pg
namespace Go.Pg
def lOf:=@LoopOb.of
def sYe:=@Split.yes
def sNo:=@Split.no
end Go.Pg
