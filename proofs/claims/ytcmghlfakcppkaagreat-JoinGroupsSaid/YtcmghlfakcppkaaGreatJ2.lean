/- Lemmas, joined by program. -/
import Derived.Test.YtcmghlfakcppkaaGreatJ1
import Derived.Laws.Entries
import Derived.Laws.Cells
import Derived.Laws.StructEq
set_option maxHeartbeats 4000000
set_option linter.all false
namespace Go.Pg
open Go.RowKit
def OpOK(P:Program)(o:Oper)(a:Act)(w:World)(Post:Act->World->Prop):Prop:=
 match(execOp a.eval o).run P w with
 | .ok (.value v) w'=>Post (a.put o.dst v) w'
 | .ok .skip w'=>Post (a.put o.dst undef) w'
 | .ok (.enter f args) w'=>Calls P f args w' fun e w''=>∃v,e= .returned v/\Post (a.put o.dst v) w''
 | .ok (.round l fn tmps asg body) w'=>RoundIn Fence.wide 0 P l fn tmps asg body w' fun e w''=>∃v,e= .returned v/\Post (a.put o.dst v) w''
 | _=>False
structure Custom(d:Bool)(P:Program)(s:St)(o:Oper)(s':St):Prop where
  out:
    ∀cx a w,(cx.dr=true->d=true)->(∀d,o.dst=some d->d<cx.N)->R cx s a w->OpOK P o a w fun a' w'=>R cx s' a' w'
theorem zfk(d:Bool)(P:Program)(s:St)(o:Oper)(s':St):Custom d P s o s'↔(
 ∀cx a w,(cx.dr=true->d=true)->(∀d,o.dst=some d->d<cx.N)->R cx s a w->OpOK P o a w fun a' w'=>R cx s' a' w'):=⟨fun h=>h.out,fun h=>⟨h⟩⟩
def mk(s:St)(d:Nat)(o:Ob)(v:AV):St:=
 match s.ob d with
 |none=>(s.setOb d (some o)).put d v
 |some _=>((s.drop d).setOb d (some o)).put d v
def remk(s:St)(i:Nat)(o:Ob)(t:Option Nat):St:=((s.drop i).setOb i (some o)).putO t (.own i)
inductive Fz where
  |row (x:D)
  |box (xs:List D)
def fzCap(i:Nat)(xs:List D):Cap->Cap
 | .own j=>bif Nat.beq j i then .dat (.ptr xs.length (getD' xs))else .own j
 |c=>c
def fz(i:Nat)(z:Fz)(v:AV):AV:=match z,v with
 | .row x,.own j=>bif Nat.beq j i then .d x else v
 | .box xs,.box j o=>bif Nat.beq j i then .roe (xs.length-o) (fun q=>getD' xs (o+q))else v
 | .box xs,.clo f caps=>.clo f (caps.map (fzCap i xs))
 | _,v=>v.purge i
def fzO(i:Nat)(z:Fz):Ob->Ob
 | .box cs=>.box (cs.map (fz i z))
 |o=>o
def fzAll(s:St)(i:Nat)(z:Fz):St:=⟨fun t=>fz i z (s.sl t),upd (fun j=>(s.ob j).map (fzO i z)) i none⟩
def St.freeze(s:St)(i:Nat):St:=match s.ob i with
 |some (.row _ k n f)=>fzAll s i (.row (.slc k n f))
 |some (.box cs)=>match allD cs with
  |some xs=>fzAll s i (.box xs)
  |none=>s
 |none=>s
 |some (.mp m ks f)=>fzAll s i (.row (.mp m ks f))
def St.freezes(s:St):List Nat->St
 | []=>s
 |i::r=>(s.freeze i).freezes r
def ownIds:List AV->List Nat
 | []=>[]
 | .own i::r=>i::ownIds r
 | _::r=>ownIds r
def AV.still:AV->AV
 | .d x=>match x.flat with|true=>.d x|false=>.any
 | .agg xs=>match xs.all D.flat with|true=>.agg xs|false=>.any
 | .undef=>.undef
 | _=>.any
def stillS:List (Nat×AV)->List (Nat×AV)
 | []=>[]
 |(t,v)::r=>(t,v.still)::stillS r
structure YieldOb(E:Env)(s:St)(o:Oper)(fo:Operand)(args:List Operand)(K:St->Prop):Prop where
  out:∃n d sl ob vs,o.dst=some d/\ev s fo= .yl E.l/\s.sl G= .gho (some n)/\look sl G=none/\Weak s sl ob/\toV1s s (args.map (ev s))=some vs/\(args.map (ev s)).all (fun v=>!v.isOwn)=true/\E.yd n vs/\
    K ((St.of ((G,.gho (some (n+1)))::sl) ob).put d (.d (.bool true)))/\K ((St.of ((G,.gho none)::stillS sl) []).put d (.d (.bool false)))
def calleeM:AV->Option (FuncId×List AV)
 | .clo f caps=>some (f,caps.map capA)
 |v=>callee v
def closM(obs:List (Nat×Ob)):Bool:=obs.all fun p=>match p.2 with| .box cs=>cs.all fun c=>c.refs.all fun j=>(look obs j).isSome| _=>true
structure CallY(E:Env)(P:Program)(s:St)(o:Oper)(fo:Operand)(args:List Operand)(K:St->Prop):Prop where
  out:∃ys n m f ex xs sl rest obs obs' pins res resF,(∀k vs,E.yd k vs↔ys[k]?=some vs)/\SpecY P f ys n m xs obs obs' pins res resF/\s.sl G= .gho (some n)/\look sl G=none/\Weak s sl (obs E.l++rest)/\
    calleeM (ev (St.of sl (obs E.l++rest)) fo)=some (f,ex)/\(args.map (ev (St.of sl (obs E.l++rest)))++ex).map (fixA (obs E.l))=xs E.l/\closM (obs E.l)=true/\goodM sl (obs E.l) (obs' E.l) rest pins=true/\
    K ((St.of ((G,.gho (some (n+m)))::sl) (obs' E.l++rest)).putO o.dst (resAV res))/\K ((St.of ((G,.gho none)::stillS sl) []).putO o.dst (resAV resF))
structure CallSt(E:Env)(P:Program)(s:St)(o:Oper)(fo:Operand)(args:List Operand)(K:St->Prop):Prop where
  out:
    (∃ids f ex,callee (ev (s.freezes ids) fo)=some (f,ex)/\CallOb E.dr P (s.freezes ids) f (args.map (ev (s.freezes ids))++ex) fun v=>K ((s.freezes ids).putO o.dst v))\/
    (∃ids f ex d,callee (ev (s.freezes ids) fo)=some (f,ex)/\o.dst=some d/\CallOwn E.dr P (s.freezes ids) f (args.map (ev (s.freezes ids))++ex) fun ob r=>K (mk (s.freezes ids) d ob (ownAV d r)))\/
    (∃s',Custom E.dr P s o s'/\K s')\/YieldOb E s o fo args K\/CallY E P s o fo args K
theorem zag(E:Env)(P:Program)(s:St)(o:Oper)(fo:Operand)(args:List Operand)(K:St->Prop):CallSt E P s o fo args K↔(
 (∃ids f ex,callee (ev (s.freezes ids) fo)=some (f,ex)/\CallOb E.dr P (s.freezes ids) f (args.map (ev (s.freezes ids))++ex) fun v=>K ((s.freezes ids).putO o.dst v))\/
 (∃ids f ex d,callee (ev (s.freezes ids) fo)=some (f,ex)/\o.dst=some d/\CallOwn E.dr P (s.freezes ids) f (args.map (ev (s.freezes ids))++ex) fun ob r=>K (mk (s.freezes ids) d ob (ownAV d r)))\/
 (∃s',Custom E.dr P s o s'/\K s')\/YieldOb E s o fo args K\/CallY E P s o fo args K):=⟨fun h=>h.out,fun h=>⟨h⟩⟩
def storeRow(f:Nat->Nat->D)(n c:Nat)(ys:List D):Nat->Nat->D:=
 fun m j=>if m=n/\c<=j/\j<c+ys.length then getD' ys (j-c)else f m j
def storeE(T:TT)(s:St)(t:Nat)(a x:AV)(K:St->Prop):Prop:=
 match T t,a with
 |some ti,.box i off=>
  match s.ob i,cellsA x with
  |some (.box cs),some ys=>bif Nat.beq ys.length ti.size then(match setRange cs off ys with|some cs'=>K (s.setOb i (some (.box cs')))|none=>False)else False
  | _,_=>False
 |some ti,.elt i k n c=>
  match s.ob i,cellsD x with
  |some (.row e k' N f),some ys=>bif Nat.beq k k'&&Nat.beq ys.length ti.size&&Nat.ble (c+ti.size) k then n<N/\K (s.setOb i (some (.row e k' N (storeRow f n c ys))))else False
  | _,_=>False
 | _,_=>False
def appRow(n:Nat)(f g:Nat->Nat->D):Nat->Nat->D:=fun i j=>if i<n then f i j else g (i-n) j
def srcE(s:St)(x:AV)(K:Nat->Nat->(Nat->Nat->D)->Prop):Prop:=
 match x with
 | .d (.slc k m g)=>K k m g
 | .nilsl=>K 0 0 fun _ _=>dflt
 | .d .nil=>K 0 0 fun _ _=>dflt
 | .own j=>match s.ob j with
  |some (.row _ k m g)=>K k m g
  | _=>False
 | _=>False
def frzR(s:St)(i d e k n:Nat)(f:Nat->Nat->D):St:=(((s.drop i).setOb i (some (.row e k 0 fun _ _=>dflt))).put d (.d (.slc k n f)))
def frzN:Nat:=2000000000
def frB(E:Env):Option Nat->Bool
 |some d=>E.cut (frzN+d)
 |none=>false
def appendE(fr:Bool)(T:TT)(s:St)(dst:Option Nat)(t:Nat)(a x:AV)(K:St->Prop):Prop:=
 match T t,dst with
 |some { kind:=.slice e,.. },some d=>
  match T e with
  |some ei=>
   srcE s x fun k m g=>
   match a with
   | .own i=>match s.ob i with
    |some (.row e' k' n f)=>bif Nat.beq e e'&&Nat.beq k' ei.size&&Nat.ble 1 ei.size&&Nat.beq ei.zero.length ei.size then((m=0\/k=ei.size)/\n+m<=maxLen/\(n+m)*ei.bytes<=140737488355328)/\K (match fr with|true=>frzR s i d e k' (n+m) (appRow n f g)|false=>remk s i (.row e k' (n+m) (appRow n f g)) dst)else False
    | _=>False
   | .nilsl=>bif Nat.ble 1 ei.size&&Nat.beq ei.zero.length ei.size then((m=0\/k=ei.size)/\m<=maxLen/\m*ei.bytes<=140737488355328)/\K (mk s d (.row e ei.size m g) (.own d))else False
   | .d .nil=>bif Nat.ble 1 ei.size&&Nat.beq ei.zero.length ei.size then((m=0\/k=ei.size)/\m<=maxLen/\m*ei.bytes<=140737488355328)/\K (mk s d (.row e ei.size m g) (.own d))else False
   | _=>False
  |none=>False
 | _,_=>False
def cutRow(f:Nat->Nat->D)(m lo:Nat):Nat->Nat->D:=appRow m f fun q=>f (lo+q)
def delE(T:TT)(s:St)(dst:Option Nat)(t:Nat)(i m i' k' lo n':Nat)(K:St->Prop):Prop:=
 match T t,dst with
 |some { kind:=.slice e,.. },some _=>
  match T e,s.ob i with
  |some ei,some (.row e' k N f)=>bif Nat.beq e e'&&Nat.beq k ei.size&&Nat.beq k' k&&Nat.beq i i'&&Nat.ble 1 ei.size&&Nat.beq ei.zero.length ei.size then((m<=lo/\lo+n'=N)/\(m+n'<=maxLen/\(m+n')*ei.bytes<=140737488355328))/\K (remk s i (.row e k (m+n') (cutRow f m lo)) dst)else False
  | _,_=>False
 | _,_=>False
def appE(fr:Bool)(T:TT)(s:St)(dst:Option Nat)(t:Nat)(a x:AV)(K:St->Prop):Prop:=
 match a,x with
 | .pre i m,.sub i' k' lo n'=>delE T s dst t i m i' k' lo n' K
 |v,u=>appendE fr T s dst t v u K
theorem appE_cases(a x:AV):(∃i m i' k' lo n',a= .pre i m/\x= .sub i' k' lo n')\/∀fr T s dst t K,appE fr T s dst t a x K=appendE fr T s dst t a x K:=by
 cases a with
 |pre i m=>
  cases x with
  |sub i' k' lo n'=>exact .inl ⟨_,_,_,_,_,_,rfl,rfl⟩
  | _=>exact .inr fun _ _ _ _ _ _=>rfl
 | _=>exact .inr fun _ _ _ _ _ _=>rfl
def isNil:Value->Bool
 | .slice none l c=>Nat.beq l 0&&Nat.beq c 0
 | _=>false
def isNilOp:Operand->Bool
 | .const v=>isNil v
 | _=>false
def hasEl(T:TT)(t:Nat):Bool:=match T t with|some { kind:=.slice e,.. }=>(match T e with|some _=>true|none=>false)| _=>false
def clrRow(f:Nat->Nat->D)(lo n:Nat)(zs:List D):Nat->Nat->D:=fun m j=>if lo<=m/\m<lo+n then getD' zs j else f m j
def clearE(T:TT)(s:St)(t:Nat)(v:AV)(K:St->Prop):Prop:=
 match T t,v with
 |some { kind:=.slice e,.. },.sub i k lo n=>
  match T e,s.ob i with
  |some ei,some (.row e' k' N f)=>match cds ei.zero with
   |some zs=>bif Nat.beq k k'&&Nat.beq ei.size k&&Nat.beq ei.zero.length k&&Nat.ble 1 k then lo+n<=N/\K (s.setOb i (some (.row e' k' N (clrRow f lo n zs))))else False
   |none=>False
  | _,_=>False
 | _,_=>False
def nilQ(T:TT)(op:BinOp)(t:Nat)(x y:AV):Option (Bool×Nat):=
 match isSl T t,op,x,y with
 |true,.eql,.d (.slc _ n _),.nilsl=>some (true,n)
 |true,.neq,.d (.slc _ n _),.nilsl=>some (false,n)
 | _,_,_,_=>none
def makeE(T:TT)(t:Nat)(l c:AV)(K:Nat->Nat->TI->(Nat->Nat->D)->Prop):Prop:=
 match T t,l,c with
 |some { kind:=.slice e,.. },.d (.int _ n),.d (.int _ m)=>
  match T e with
  |some ei=>match cds ei.zero with
   |some zs=>bif Nat.ble 1 ei.size&&Nat.beq ei.zero.length ei.size then(0<=n/\m=n/\n.toNat*ei.size<=16777216/\n.toNat*ei.bytes<=140737488355328)/\K e n.toNat ei (fun _ j=>getD' zs j)else False
   |none=>False
  |none=>False
 | _,_,_=>False
def intsD:List D->Option (List Int)
 | []=>some []
 | .int .i64 n::r=>match intsD r with|some l=>some (n::l)|none=>none
 | _=>none
def keyD:AV->Option (List Int)
 | .d (.int .i64 n)=>some [n]
 | .agg xs=>match intsD xs with
  |some [_]=>none
  |r=>r
 | _=>none
def KeyF(P:Program)(kt m:Nat):Prop:=∀key:List Int,key.length=m->
 (∀b w,(Instr.checkKey b 10000 kt (kv key)).run P w= .ok () w)/\(∀w,(Instr.keyThatStays (kv key) (kv key)).run P w= .ok (kv key) w)/\
 ∀(w:World) (es:List MapEntry) (ks:List (List Int)),(es.map fun e=>e.key)=ks.map kv->(∀k∈ks,k.length=m)->(Instr.findKey kt (kv key) es).run P w= .ok ((es[ks.idxOf key]?).map fun e=>(ks.idxOf key,e.val)) w
def lkD(ks:List (List Int))(f:Nat->D)(k:List Int)(z:D):D:=if ks.idxOf k<ks.length then f (ks.idxOf k)else z
def putK(ks:List (List Int))(k:List Int):List (List Int):=if ks.idxOf k<ks.length then ks else ks++[k]
def putF(ks:List (List Int))(f:Nat->D)(k:List Int)(x:D):Nat->D:=fun i=>if i=ks.idxOf k then x else f i
def mapD(s:St):AV->Option (Nat×List (List Int)×(Nat->D))
 | .own i=>match s.ob i with
  |some (.mp m ks f)=>some (m,ks,f)
  | _=>none
 | .d (.mp m ks f)=>some (m,ks,f)
 | _=>none
def zD(T:TT)(t:Nat):Option D:=match T t with
 |some { zero:=[z],kind:=k,.. }=>(match k.one with|true=>cd z|false=>none)
 | _=>none
def lookE(P:Program)(T:TT)(s:St)(t:Nat)(x i:AV)(ok:Bool)(K:AV->Prop):Prop:=
 match T t with
 |some { kind:=.map kt et,.. }=>
  match mapD s x,keyD i,zD T et with
  |some (m,ks,f),some k,some z=>(KeyF P kt m/\k.length=m)/\∃x,D.eqv (lkD ks f k z) x/\K (match ok with|true=>.tup [.d x,.d (.bool (decide (ks.idxOf k<ks.length)))]|false=>.d x)
  | _,_,_=>False
 | _=>False
def updE(P:Program)(T:TT)(s:St)(t:Nat)(x i v:AV)(K:St->Prop):Prop:=
 match T t,x,keyD i,avD v with
 |some { kind:=.map kt _,.. },.own id,some k,some y=>
  match s.ob id with
  |some (.mp m ks f)=>(KeyF P kt m/\k.length=m)/\K (s.setOb id (some (.mp m (putK ks k) (putF ks f k y))))
  | _=>False
 | _,_,_,_=>False
def mapN(T:TT)(t:Nat):Option Nat:=match T t with
 |some { kind:=.map kt _,.. }=>(match T kt with|some i=>some i.size|none=>none)
 | _=>none
def stE(P:Program)(T:TT)(E:Env)(s:St)(o:Oper)(K:St->Prop):Prop:=
 match o.op with
 | .alloc t=>match o.dst,T t with
  |some d,some ti=>bif ti.zero.all (·.oneCell')then K (mk s d (.box (ti.zero.map cv)) (.box d 0))else False
  | _,_=>False
 | .box t x=>match o.dst,T t,cellsA (ev s x)with
  |some d,some ti,some cs=>bif Nat.beq cs.length ti.size&&cs.all (fun c=>c.refs.isEmpty)then K (mk s d (.box cs) (.box d 0))else False
  | _,_,_=>False
 | .store t a x=>match o.dst with
  |none=>storeE T s t (ev s a) (ev s x) K
  |some _=>False
 | .buildSlice t len parts=>match o.dst with
  |some d=>(match E.cut (frzN+d)&& !Nat.beq len 0 with
   |false=>buildSliceE T s t len parts.toList fun e ei f=>K (mk s d (.row e ei.size len f) (.own d))
   |true=>buildSliceE T s t len parts.toList fun _ ei f=>K (s.put d (.d (.slc ei.size len f))))
  |none=>False
 | .makeSlice t l c=>match o.dst with
  |some d=>makeE T t (ev s l) (ev s c) fun e n ei f=>K (mk s d (.row e ei.size n f) (.own d))
  |none=>False
 | .makeMap t none=>match o.dst,mapN T t with
  |some d,some m=>K (mk s d (.mp m [] fun _=>dflt) (.own d))
  | _,_=>False
 | .lookup t x i ok=>lookE P T s t (ev s x) (ev s i) ok fun v=>K (s.putO o.dst v)
 | .mapUpdate t m k v=>match o.dst with
  |none=>updE P T s t (ev s m) (ev s k) (ev s v) K
  |some _=>False
 | .assign x=>match isNilOp x,o.dst,isSl T o.type with
  |true,some d,true=>match T o.type with
   |some { kind:=.slice e,.. }=>match T e with
    |some ei=>K (mk s d (.row e ei.size 0 fun _ _=>dflt) (.own d))
    |none=>False
   | _=>False
  | _,_,_=>K (s.putO o.dst (ev s x))
 | .slice t x none (some h) none=>match ev s x,ev s h with
  | .own i,.d (.int _ h)=>match s.ob i,hasEl T t with
   |some (.row e k n f),true=>(0<=h/\h<=n)/\K (remk s i (.row e k h.toNat f) o.dst)
   | _,_=>False
  | _,_=>opE P T E s o.op fun v=>K (s.putO o.dst v)
 | .build t parts=>match mapIn s parts.toList with
  |true=>buildC T s t parts.toList fun v=>K (s.putO o.dst v)
  |false=>opE P T E (s.freezes (ownIds (parts.toList.map fun p=>ev s p.2))) o.op fun v=>K ((s.freezes (ownIds (parts.toList.map fun p=>ev s p.2))).putO o.dst v)
 | .call { callee:=.builtin .append,args,argTypes }=>match args.toList,argTypes.toList with
  | [a,x],[t,t']=>bif Nat.beq t t' then appE (frB E o.dst) T s o.dst t (ev s a) (ev s x) K else False
  | _,_=>False
 | .call { callee:=.value f,args,.. }=>CallSt E P s o f args.toList K
 | .call { callee:=.builtin .len,.. }=>opE P T E s o.op fun v=>K (s.putO o.dst v)
 | .call { callee:=.builtin .max,.. }=>opE P T E s o.op fun v=>K (s.putO o.dst v)
 | .call { callee:=.builtin .min,.. }=>opE P T E s o.op fun v=>K (s.putO o.dst v)
 | .call { callee:=.builtin .clear,args,argTypes }=>match args.toList,argTypes.toList,o.dst with
  | [x],[t],none=>clearE T s t (ev s x) K
  | _,_,_=>False
 | .call { callee:=.invoke ..,.. }=>opE P T E s o.op fun v=>K (s.putO o.dst v)
 | .call _=>∃s',Custom E.dr P s o s'/\K s'
 | .binOp op t x y _=>match nilQ T op t (ev s x) (ev s y)with
  |some (u,n)=>∀b:Bool,(b=u->n=0)->K (s.putO o.dst (.d (.bool b)))
  |none=>opE P T E s o.op fun v=>K (s.putO o.dst v)
 | _=>opE P T E s o.op fun v=>K (s.putO o.dst v)
def dstOf(ops:List Oper)(j:Nat):Option Nat:=match nth ops j with|some o=>o.dst|none=>none
def guardUsed(ops:List Oper)(i:Nat):Bool:=ops.any fun o=>match o.guard with|some (j,_)=>Nat.beq j i|none=>false
def gval(s:St)(ops:List Oper)(j:Nat):AV:=match dstOf ops j with|some t=>s.sl t|none=>.any
def splitAt(ops:List Oper)(i:Nat)(d:Option Nat)(s:St)(K:St->Prop):Prop:=
 match guardUsed ops i,d with
 |true,some t=>match s.sl t with
  | .d (.bool b)=>Split b fun b=>K (s.put t (.d (.bool b)))
  | _=>K s
 | _,_=>K s
def D.force(x:D)(K:D->Prop):Prop:=match x with
 | .int k n=>K (.int k n)
 | .bool b=>K (.bool b)
 | .str s=>K (.str s)
 | .fn f=>K (.fn f)
 | .slc k n f=>K (.slc k n f)
 | .nil=>K .nil
 | .ptr m h=>K (.ptr m h)
 | .clo f m g=>K (.clo f m g)
 | .val v=>K (.val v)
 | .ifc u m g=>K (.ifc u m g)
 | .bnd u m g=>K (.bnd u m g)
 | .mp m ks f=>K (.mp m ks f)
def forceDs:List D->(List D->Prop)->Prop
 | [],K=>K []
 |x::r,K=>x.force fun x=>forceDs r fun r=>K (x::r)
def V1.force(x:V1)(K:V1->Prop):Prop:=match x with
 | .d x=>x.force fun x=>K (.d x)
 | .agg xs=>forceDs xs fun xs=>K (.agg xs)
def forceVs:List V1->(List V1->Prop)->Prop
 | [],K=>K []
 |x::r,K=>x.force fun x=>forceVs r fun r=>K (x::r)
def AV.force(v:AV)(K:AV->Prop):Prop:=match v with
 | .d x=>x.force fun x=>K (.d x)
 | .agg xs=>forceDs xs fun xs=>K (.agg xs)
 | .tup l=>forceVs l fun l=>K (.tup l)
 | .tupo i l=>forceVs l fun l=>K (.tupo i l)
 | .tupr i l=>forceVs l fun l=>K (.tupr i l)
 | .box i o=>K (.box i o)
 | .own i=>K (.own i)
 | .elt i k n c=>K (.elt i k n c)
 | .sub i k lo n=>K (.sub i k lo n)
 | .pre i n=>K (.pre i n)
 | .roe m h=>K (.roe m h)
 | .clo f l=>K (.clo f l)
 | .any=>K .any
 | .nilsl=>K .nilsl
 | .undef=>K .undef
 | .pin i u=>K (.pin i u)
 | .pbox i u=>K (.pbox i u)
 | .gho m=>K (.gho m)
 | .yl l=>K (.yl l)
 | .aggc cs=>K (.aggc cs)
 | .bsl i n c=>K (.bsl i n c)
def forceAs:List AV->(List AV->Prop)->Prop
 | [],K=>K []
 |x::r,K=>x.force fun x=>forceAs r fun r=>K (x::r)
def forceSlot(t:Nat)(s:St)(K:St->Prop):Prop:=(s.sl t).force fun v=>K (s.put t v)
def forceBox(i:Nat)(s:St)(K:St->Prop):Prop:=match s.ob i with
 |some (.box cs)=>forceAs cs fun cs=>K (s.setOb i (some (.box cs)))
 | _=>K s
def touched(s:St)(o:Oper):Option Nat:=match o.op with
 | .box ..=>o.dst
 | .store _ a _=>match ev s a with
  | .box i _=>some i
  | _=>none
 | _=>none
def fin(o:Oper)(s:St)(K:St->Prop):Prop:=
 match o.dst,touched s o with
 |some t,some i=>forceSlot t s fun s=>forceBox i s K
 |some t,none=>forceSlot t s K
 |none,some i=>forceBox i s K
 |none,none=>K s
theorem D.force_eq(x:D)(K:D->Prop):x.force K=K x:=by cases x<;>rfl
theorem zc8:∀(l:List D) (K:List D->Prop),forceDs l K=K l
 | [],K=>rfl
 |x::r,K=>by simp only[forceDs,D.force_eq,zc8 r]
theorem V1.force_eq(x:V1)(K:V1->Prop):x.force K=K x:=by cases x<;>simp[V1.force,D.force_eq,zc8]
theorem zfb:∀(l:List V1) (K:List V1->Prop),forceVs l K=K l
 | [],K=>rfl
 |x::r,K=>by simp only[forceVs,V1.force_eq,zfb r]
theorem AV.force_eq(x:AV)(K:AV->Prop):x.force K=K x:=by cases x<;>simp[AV.force,D.force_eq,zc8,zfb]
theorem zcf:∀(l:List AV) (K:List AV->Prop),forceAs l K=K l
 | [],K=>rfl
 |x::r,K=>by simp only[forceAs,AV.force_eq,zcf r]
theorem ziV(s:St)(t:Nat):s.put t (s.sl t)=s:=by
 cases s with
 |mk sl ob=>
 unfold St.put
 congr 1
 funext u
 rw[zat];split
 ·rename_i e;rw[e]
 rfl
theorem zeT{s:St}{i:Nat}{o:Option Ob}(h:s.ob i=o):s.setOb i o=s:=by
 cases s with
 |mk sl ob=>
 unfold St.setOb
 congr 1
 funext u
 rw[zat];split
 ·rename_i e;rw[e];exact h.symm
 rfl
theorem zdp(t:Nat)(s:St)(K:St->Prop):forceSlot t s K=K s:=by
 unfold forceSlot;rw[AV.force_eq,ziV]
theorem zem(i:Nat)(s:St)(K:St->Prop):forceBox i s K=K s:=by
 unfold forceBox
 split
 ·rename_i cs h;rw[zcf,zeT h]
 rfl
theorem zuB(o:Oper)(s:St)(K:St->Prop):fin o s K=K s:=by
 unfold fin
 split
 ·rw[zdp,zem]
 ·rw[zdp]
 ·rw[zem]
 rfl
theorem zga(o:Oper)(K:St->Prop):(fun s=>fin o s K)=K:=funext fun s=>zuB o s K
def storeF(T:TT)(s:St)(t:Nat)(a x:AV)(K:St->Prop):Prop:=
 match T t,a with
 |some ti,.box i off=>
  match s.ob i,cellsA x with
  |some (.box cs),some ys=>bif Nat.beq ys.length ti.size then(match setRange cs off ys with|some cs'=>forceAs cs' fun cs'=>K (s.setOb i (some (.box cs')))|none=>False)else False
  | _,_=>False
 |some ti,.elt i k n c=>
  match s.ob i,cellsD x with
  |some (.row e k' N f),some ys=>bif Nat.beq k k'&&Nat.beq ys.length ti.size&&Nat.ble (c+ti.size) k then n<N/\K (s.setOb i (some (.row e k' N (storeRow f n c ys))))else False
  | _,_=>False
 | _,_=>False
theorem zkV(T:TT)(s:St)(t:Nat)(a x:AV)(K:St->Prop):storeF T s t a x K=storeE T s t a x K:=by
 unfold storeF storeE
 simp only[zcf]
def opF(P:Program)(T:TT)(E:Env)(s:St)(o:Oper)(K:St->Prop):Prop:=opE P T E s o.op fun v=>v.force fun v=>K (s.putO o.dst v)
theorem ze4(P:Program)(T:TT)(E:Env)(s:St)(o:Oper)(K:St->Prop):opF P T E s o K=opE P T E s o.op fun v=>K (s.putO o.dst v):=by
 unfold opF;simp only[AV.force_eq]
def stF(P:Program)(T:TT)(E:Env)(s:St)(o:Oper)(K:St->Prop):Prop:=
 match o.op with
 | .move _=>opF P T E s o K
 | .pick ..=>opF P T E s o K
 | .load ..=>opF P T E s o K
 | .fieldAddr ..=>opF P T E s o K
 | .indexAddr ..=>opF P T E s o K
 | .field ..=>opF P T E s o K
 | .index ..=>opF P T E s o K
 | .unOp ..=>opF P T E s o K
 | .convert ..=>opF P T E s o K
 | .extract ..=>opF P T E s o K
 | .makeFunc ..=>opF P T E s o K
 | .binOp op t x y _=>match nilQ T op t (ev s x) (ev s y)with
  |some (u,n)=>∀b:Bool,(b=u->n=0)->K (s.putO o.dst (.d (.bool b)))
  |none=>opF P T E s o K
 | .assign x=>match isNilOp x,o.dst,isSl T o.type with
  |true,some d,true=>match T o.type with
   |some { kind:=.slice e,.. }=>match T e with
    |some ei=>K (mk s d (.row e ei.size 0 fun _ _=>dflt) (.own d))
    |none=>False
   | _=>False
  | _,_,_=>(ev s x).force fun v=>K (s.putO o.dst v)
 | .store t a x=>match o.dst with
  |none=>storeF T s t (ev s a) (ev s x) K
  |some _=>False
 | .build t parts=>match ownIds (parts.toList.map fun p=>ev s p.2)with
  | []=>opF P T E s o K
  | _=>stE P T E s o fun s'=>fin o s' K
 | .call { callee:=.builtin .len,.. }=>opF P T E s o K
 | .call { callee:=.builtin .max,.. }=>opF P T E s o K
 | .call { callee:=.builtin .min,.. }=>opF P T E s o K
 | _=>stE P T E s o fun s'=>fin o s' K
theorem zgQ{s:St}:∀{l:List (Nat×Operand)},ownIds (l.map fun p=>ev s p.2)=[]->mapIn s l=false
 | [],_=>rfl
 |p::r,h=>by
  rw[kY]at h
  show((match ev s p.2 with| .own i=>(match s.ob i with|some (.mp ..)=>true| _=>false)| _=>false)||mapIn s r)=false
  cases hv:ev s p.2<;>rw[hv]at h<;>first
   |exact zgQ (l:=r) h
   |(cases h;done)
theorem zdR{P:Program}{T:TT}{E:Env}{s:St}{o:Oper}{K:St->Prop}(h:stF P T E s o K):stE P T E s o K:=by
 obtain⟨dst,op,type,pos,after,guard⟩:=o
 cases op with
 |call c=>
  obtain⟨callee,args,argTypes⟩:=c
  cases callee with
  |builtin b=>
   cases b
   case len=>simp only[stF,ze4]at h;exact h
   case max=>simp only[stF,ze4]at h;exact h
   case min=>simp only[stF,ze4]at h;exact h
   all_goals (simp only[stF,zga]at h;exact h)
  | _=>simp only[stF,zga]at h;exact h
 |build t parts=>
  simp only[stF,zga,ze4]at h
  split at h
  ·rename_i h0
   simp only[stE,h0,zgQ h0]
   exact h
  ·exact h
 |store t a x=>simp only[stF,zkV]at h;exact h
 |assign x=>simp only[stF,AV.force_eq]at h;exact h
 |binOp op t x y yt=>simp only[stF,ze4]at h;exact h
 | _=>simp only[stF,ze4,zga]at h;exact h
def cusN:Nat:=3000000000
def cusB(E:Env):Option Nat->Bool
 |some d=>E.cut (cusN+d)
 |none=>false
structure CusOb(d:Bool)(P:Program)(s:St)(o:Oper)(K:St->Prop):Prop where
  out:∃Q:St->Prop,(∀cx a w,(cx.dr=true->d=true)->(∀d,o.dst=some d->d<cx.N)->R cx s a w->OpOK P o a w fun a' w'=>∃s',R cx s' a' w'/\Q s')/\∀s',Q s'->K s'
theorem znp(d:Bool)(P:Program)(s:St)(o:Oper)(K:St->Prop):CusOb d P s o K↔
 ∃Q:St->Prop,(∀cx a w,(cx.dr=true->d=true)->(∀d,o.dst=some d->d<cx.N)->R cx s a w->OpOK P o a w fun a' w'=>∃s',R cx s' a' w'/\Q s')/\∀s',Q s'->K s':=⟨fun h=>h.out,fun h=>⟨h⟩⟩
def stU(P:Program)(T:TT)(E:Env)(s:St)(o:Oper)(K:St->Prop):Prop:=match cusB E o.dst with
 |true=>CusOb E.dr P s o K
 |false=>stF P T E s o K
noncomputable def runOps(P:Program)(T:TT)(E:Env)(ops:List Oper)(i:Nat)(l:List Oper)(s:St)(K:St->Prop):Prop:=
 @List.rec Oper (fun _=>Nat->St->(St->Prop)->Prop)
  (fun _ s K=>K s)
  (fun o _ ih i s K=>
   match o.guard with
   |none=>stU P T E s o fun s'=>splitAt ops i o.dst s' fun s'=>ih (i+1) s' K
   |some (j,want)=>
    match gval s ops j with
    | .d (.bool b)=>
     match b==want with
     |true=>stU P T E s o fun s'=>splitAt ops i o.dst s' fun s'=>ih (i+1) s' K
     |false=>ih (i+1) (s.putO o.dst .undef) K
    | .undef=>ih (i+1) (s.putO o.dst .undef) K
    | _=>False) l i s K
section
variable {P:Program}{T:TT}{E:Env}{ops:List Oper}{i:Nat}{o:Oper}{r:List Oper}{s:St}{K:St->Prop}
theorem zhC:runOps P T E ops i (o::r) s K=match o.guard with
  |none=>stU P T E s o fun s'=>splitAt ops i o.dst s' fun s'=>runOps P T E ops (i+1) r s' K
  |some (j,want)=>
   match gval s ops j with
   | .d (.bool b)=>
    match b==want with
    |true=>stU P T E s o fun s'=>splitAt ops i o.dst s' fun s'=>runOps P T E ops (i+1) r s' K
    |false=>runOps P T E ops (i+1) r (s.putO o.dst .undef) K
   | .undef=>runOps P T E ops (i+1) r (s.putO o.dst .undef) K
   | _=>False:=rfl
end
def isB:Op->Bool
 | .assign _=>true
 | .move _=>true
 | .pick ..=>true
 | .load ..=>true
 | .fieldAddr ..=>true
 | .field ..=>true
 | .indexAddr ..=>true
 | .index ..=>true
 | .binOp ..=>true
 | .unOp ..=>true
 | .convert ..=>true
 | .build ..=>true
 | .buildSlice _ n _=>!Nat.beq n 0
 | .slice ..=>true
 | .extract ..=>true
 | .makeFunc ..=>true
 | .call { callee:=.builtin .len,.. }=>true
 | .call { callee:=.builtin .max,.. }=>true
 | .call { callee:=.builtin .min,.. }=>true
 | .call { callee:=.value _,.. }=>true
 | .call { callee:=.invoke ..,.. }=>true
 | .nilCheck _=>true
 | .makeInterface ..=>true
 | .typeAssert _ _ _ true=>true
 | .lookup ..=>true
 | _=>false
def isAl:Op->Bool
 | .alloc _=>true
 | .makeMap _ none=>true
 | .buildSlice _ n _=>Nat.beq n 0
 | _=>false
def isAp:Op->Bool
 | .call { callee:=.builtin .append,.. }=>true
 | _=>false
def isPl:Op->Bool
 | .move _=>true
 | .nilCheck _=>true
 | .fieldAddr ..=>true
 | .load ..=>true
 | .slice ..=>true
 | .buildSlice _ n _=>!Nat.beq n 0
 | .binOp ..=>true
 | _=>false
def isPu:Op->Bool
 | .move _=>true
 | .pick ..=>true
 | .fieldAddr ..=>true
 | .field ..=>true
 | .index ..=>true
 | .binOp ..=>true
 | .unOp ..=>true
 | .convert ..=>true
 | .extract ..=>true
 | .nilCheck _=>true
 | .call { callee:=.builtin .max,.. }=>true
 | .call { callee:=.builtin .min,.. }=>true
 | _=>false
def isSt:Op->Bool
 | .store ..=>true
 | _=>false
def isOid:AV->Bool
 | .own _=>true
 | _=>false
def valD(P:Program)(T:TT)(E:Env)(s:St)(op:Op)(K:AV->Prop):Prop:=
 match op with
 | .buildSlice t len parts=>buildSliceE T s t len parts.toList fun _ ei f=>K (.d (.slc ei.size len f))
 | .lookup t x i ok=>lookE P T s t (ev s x) (ev s i) ok K
 | .build t parts=>(match parts.toList.any fun p=>isOid (ev s p.2)with
  |true=>buildC T s t parts.toList K
  |false=>opE P T E s (.build t parts) K)
 |op=>opE P T E s op K
def stD(P:Program)(T:TT)(E:Env)(s:St)(o:Oper)(K:St->Prop):Prop:=
 match isB o.op with
 |true=>valD P T E s o.op fun v=>K (s.putO o.dst v)
 |false=>match isAl o.op,o.dst with
  |true,some d=>match s.ob d with
   |none=>stE P T E s o K
   |some _=>False
  | _,_=>stE P T E s o K
def stDF(P:Program)(T:TT)(E:Env)(s:St)(o:Oper)(K:St->Prop):Prop:=
 match isB o.op with
 |true=>valD P T E s o.op fun v=>v.force fun v=>K (s.putO o.dst v)
 |false=>match isAl o.op,o.dst with
  |true,some d=>match s.ob d with
   |none=>stF P T E s o K
   |some _=>False
  | _,_=>stF P T E s o K
theorem zb8{P:Program}{T:TT}{E:Env}{s:St}{o:Oper}{K:St->Prop}(h:stDF P T E s o K):stD P T E s o K:=by
 unfold stDF at h
 unfold stD
 cases hb:isB o.op with
 |true=>simp only[hb,AV.force_eq]at h;exact h
 |false=>
 simp only[hb]at h
 dsimp only
 split at h
 ·split at h
  ·exact zdR h
  exact h.elim
 exact zdR h
def plainV(s:St)(ops:List Oper)(v:AV):Bool:=match v.refs with
 | []=>true
 | [b]=>(ops.all fun o=>match o.dst with|some d=>!Nat.beq d b|none=>true)&&(match s.ob b with|some (.box cs)=>cs.all (fun c=>c.refs.isEmpty)| _=>false)
 | _=>false
def isMv:Op->Bool
 | .move _=>true
 | _=>false
def isFa:Op->Bool
 | .fieldAddr ..=>true
 | _=>false
def plainB(s:St)(ops:List Oper)(o:Oper):Bool:=o.guard.isNone&&(isMv o.op||o.op.operands.toList.all fun x=>plainV s ops (ev s x))
def resB(s:St)(o:Oper):Bool:=isMv o.op||isFa o.op||match o.dst with|some d=>(s.sl d).refs.isEmpty|none=>false
def lnB(s:St)(ops:List Oper)(b:Nat):Bool:=(ops.all fun o=>match o.dst with|some d=>!Nat.beq d b|none=>true)&&match s.ob b with|some (.box _)=>true| _=>false
def ldB(T:TT)(s:St)(ops:List Oper)(o:Oper):Bool:=o.guard.isNone&&match o.op with
 | .load t x=>(match T t,ev s x with|some ti,.box b _=>!ti.agg&&lnB s ops b| _,_=>false)
 | .nilCheck x=>(match ev s x with| .box b _=>lnB s ops b| _=>false)
 | .fieldAddr _ x _=>(match ev s x with| .box b _=>lnB s ops b| _=>false)
 | _=>false
def noRefB(s:St)(ops:List Oper)(o:Oper):Bool:=match o.dst with
 |some d=>ops.all fun p=>p.op.operands.toList.all fun x=>(match x with| .tmp t=>Nat.beq t d| _=>false)|| !(ev s x).hasRef d
 |none=>false
def noRefsB(s:St)(o:Oper):Bool:=o.guard.isNone&&o.op.operands.toList.all fun x=>(ev s x).refs.isEmpty
structure FzOb(s:St)(K:St->Prop):Prop where
  out:∃ids,K (s.freezes ids)
theorem FzOb.no{s:St}{K:St->Prop}(h:K s):FzOb s K:=⟨[],h⟩
theorem FzOb.fz(ids:List Nat){s:St}{K:St->Prop}(h:K (s.freezes ids)):FzOb s K:=⟨ids,h⟩
structure OwnD(E:Env)(P:Program)(s:St)(o:Oper)(K:St->Prop):Prop where
  out:∃(fo:Operand) (args:Array Operand) (at':Array TypeId) (f:FuncId) (ex:List AV) (d:Nat),o.op= .call { callee:=.value fo,args,argTypes:=at' }/\o.dst=some d/\s.ob d=none/\callee (ev s fo)=some (f,ex)/\
    CallOwn E.dr P s f (args.toList.map (ev s)++ex) fun ob r=>K (mk s d ob (ownAV d r))
noncomputable def runD(P:Program)(T:TT)(E:Env)(ops:List Oper)(l:List Nat)(s:St)(K:St->Prop):Prop:=
 @List.rec Nat (fun _=>St->(St->Prop)->Prop)
  (fun s K=>K s)
  (fun i _ ih s K=>
   match Nat.ble 1000 i with
   |true=>(match Nat.ble 2000 i with
    |true=>(match Nat.ble 3000 i with
     |true=>(match Nat.ble 4000 i with
      |true=>(match Nat.ble 5000 i with
       |true=>(match Nat.ble 6000 i with
        |true=>(match nth ops (i-6000)with
         |none=>False
         |some o=>OwnD E P s o fun s'=>splitAt ops (i-6000) o.dst s' fun s'=>ih s' K)
        |false=>(match nth ops (i-5000)with
        |none=>False
        |some o=>FzOb s fun s=>stF P T E s o fun s'=>splitAt ops (i-5000) o.dst s' fun s'=>ih s' K))
       |false=>(match nth ops (i-4000)with
       |none=>False
       |some o=>noRefsB s o=true/\stDF P T E s o fun s'=>ih s' K))
      |false=>(match nth ops (i-3000)with
      |none=>False
      |some o=>stF P T E s o fun s'=>splitAt ops (i-3000) o.dst s' fun s'=>ih s' K))
     |false=>(match nth ops (i-2000)with
     |none=>False
     |some o=>noRefB s ops o=true/\stDF P T E s o fun s'=>ih s' K))
    |false=>(match nth ops (i-1000)with
     |none=>False
     |some o=>(plainB s ops o||ldB T s ops o)=true/\stDF P T E s o fun s'=>(ldB T s ops o||resB s' o)=true/\ih s' K))
   |false=>
   match nth ops i with
   |none=>False
   |some o=>
   match o.guard with
   |none=>stDF P T E s o fun s'=>splitAt ops i o.dst s' fun s'=>ih s' K
   |some (j,want)=>
    match gval s ops j with
    | .d (.bool b)=>
     match b==want with
     |true=>stDF P T E s o fun s'=>splitAt ops i o.dst s' fun s'=>ih s' K
     |false=>ih (s.putO o.dst .undef) K
    | .undef=>ih (s.putO o.dst .undef) K
    | _=>False) l s K
theorem zk8{P:Program}{T:TT}{E:Env}{ops:List Oper}{i:Nat}{r:List Nat}{s:St}{K:St->Prop}:runD P T E ops (i::r) s K=match Nat.ble 1000 i with
  |true=>(match Nat.ble 2000 i with
   |true=>(match Nat.ble 3000 i with
    |true=>(match Nat.ble 4000 i with
     |true=>(match Nat.ble 5000 i with
      |true=>(match Nat.ble 6000 i with
       |true=>(match nth ops (i-6000)with
        |none=>False
        |some o=>OwnD E P s o fun s'=>splitAt ops (i-6000) o.dst s' fun s'=>runD P T E ops r s' K)
       |false=>(match nth ops (i-5000)with
       |none=>False
       |some o=>FzOb s fun s=>stF P T E s o fun s'=>splitAt ops (i-5000) o.dst s' fun s'=>runD P T E ops r s' K))
      |false=>(match nth ops (i-4000)with
      |none=>False
      |some o=>noRefsB s o=true/\stDF P T E s o fun s'=>runD P T E ops r s' K))
     |false=>(match nth ops (i-3000)with
     |none=>False
     |some o=>stF P T E s o fun s'=>splitAt ops (i-3000) o.dst s' fun s'=>runD P T E ops r s' K))
    |false=>(match nth ops (i-2000)with
    |none=>False
    |some o=>noRefB s ops o=true/\stDF P T E s o fun s'=>runD P T E ops r s' K))
   |false=>(match nth ops (i-1000)with
    |none=>False
    |some o=>(plainB s ops o||ldB T s ops o)=true/\stDF P T E s o fun s'=>(ldB T s ops o||resB s' o)=true/\runD P T E ops r s' K))
  |false=>
  match nth ops i with
  |none=>False
  |some o=>
  match o.guard with
  |none=>stDF P T E s o fun s'=>splitAt ops i o.dst s' fun s'=>runD P T E ops r s' K
  |some (j,want)=>
   match gval s ops j with
   | .d (.bool b)=>
    match b==want with
    |true=>stDF P T E s o fun s'=>splitAt ops i o.dst s' fun s'=>runD P T E ops r s' K
    |false=>runD P T E ops r (s.putO o.dst .undef) K
   | .undef=>runD P T E ops r (s.putO o.dst .undef) K
   | _=>False:=rfl
def behs(i:Nat):List Oper->List Bool->List Bool
 | [],acc=>acc
 |o::r,acc=>behs i r (acc++[o.after.any fun e=>Region.binds .any e&&(e.on==i||acc.getD e.on false)])
def okNow(ops:Array Oper)(listed:Array Bool)(i:Nat):Bool:=
  match ops[i]? with
  |none=>false
  |some oi=>
   (Region.ready .any ops listed).contains i&&
   ((isB oi.op&&(List.range ops.size).all fun j=>Nat.beq j i||listed.getD j true||match ops[j]? with
     |some oj=>(oj.after.any (fun e=>Region.binds .any e&&e.on==i)||(oi.apart ops oj&&(isB oj.op||isAl oj.op||(isPu oi.op&&isSt oj.op))))||(behs i ops.toList []).getD j false
     |none=>true)||
    (Region.ready .any ops listed).all fun j=>Nat.beq j i)
def okPl(ops:Array Oper)(listed:Array Bool)(i:Nat):Bool:=
 match ops[i]? with
 |none=>false
 |some oi=>
  (Region.ready .any ops listed).contains i&&
  (isPl oi.op&&(List.range ops.size).all fun j=>Nat.beq j i||listed.getD j true||match ops[j]? with
   |some oj=>(oi.apart ops oj&&(isB oj.op||isAl oj.op||(isAp oj.op&&oj.guard.isNone&&oj.dst.isSome)))||(behs i ops.toList []).getD j false
   |none=>true)
def isAo:Op->Bool
 | .alloc _=>true
 | .makeMap _ none=>true
 | .buildSlice _ n ps=>Nat.beq n 0&&ps.toList.isEmpty
 | _=>false
def okAl(ops:Array Oper)(listed:Array Bool)(i:Nat):Bool:=
 match ops[i]? with
 |none=>false
 |some oi=>
  (Region.ready .any ops listed).contains i&&oi.guard.isNone&&
  (isAo oi.op&&(List.range ops.size).all fun j=>Nat.beq j i||listed.getD j true||match ops[j]? with
   |some oj=>(oi.apart ops oj&&(isAo oj.op||(isSt oj.op&&oj.dst.isNone)||isAp oj.op)&&oj.guard.isNone)||(behs i ops.toList []).getD j false
   |none=>true)
def okAp2(ops:Array Oper)(listed:Array Bool)(i:Nat):Bool:=
 match ops[i]? with
 |none=>false
 |some oi=>
  (Region.ready .any ops listed).contains i&&oi.guard.isNone&&
  (isAp oi.op&&(List.range ops.size).all fun j=>Nat.beq j i||listed.getD j true||match ops[j]? with
   |some oj=>(oi.apart ops oj&&isAo oj.op&&oj.guard.isNone)||(behs i ops.toList []).getD j false
   |none=>true)
def cmpB(ops:Array Oper)(i:Nat):Bool:=(List.range ops.size).all fun j=>Nat.beq j i||(behs i ops.toList []).getD j false||(behs j ops.toList []).getD i false
def okPs(ops:Array Oper)(listed:Array Bool)(i:Nat):Bool:=
 match ops[i]? with
 |none=>false
 |some oi=>
  (Region.ready .any ops listed).contains i&&
  (isPl oi.op&&(List.range ops.size).all fun j=>Nat.beq j i||listed.getD j true||match ops[j]? with
   |some oj=>(oi.apart ops oj&&(isB oj.op||isAl oj.op||isSt oj.op))||(behs i ops.toList []).getD j false
   |none=>true)
def okY(ops:Array Oper)(listed:Array Bool)(i:Nat):Bool:=
 match ops[i]? with
 |none=>false
 |some o=>(Region.ready .any ops listed).contains i&&((Region.ready .any ops listed).all fun j=>Nat.beq j i)&&o.guard.isNone&&cmpB ops i
def okW(ops:Array Oper)(listed:Array Bool)(i:Nat):Bool:=
 match ops[i]? with
 |none=>false
 |some o=>(Region.ready .any ops listed).contains i&&((Region.ready .any ops listed).all fun j=>Nat.beq j i)&&o.guard.isNone
def drawFrom(ow:Bool)(ops:Array Oper):List Nat->Array Bool->Bool
 | [],listed=>(Region.ready .any ops listed).isEmpty
 |k::r,listed=>match Nat.ble 1000 k with
  |true=>(match Nat.ble 2000 k with
   |true=>(match Nat.ble 3000 k with
    |true=>(match Nat.ble 4000 k with
     |true=>(match Nat.ble 5000 k with
      |true=>(match Nat.ble 6000 k with
       |true=>ow&&(okW ops listed (k-6000)&&drawFrom ow ops r (listed.setIfInBounds (k-6000) true))
       |false=>okY ops listed (k-5000)&&drawFrom ow ops r (listed.setIfInBounds (k-5000) true))
      |false=>!ow&&(okPs ops listed (k-4000)&&drawFrom ow ops r (listed.setIfInBounds (k-4000) true)))
     |false=>okY ops listed (k-3000)&&drawFrom ow ops r (listed.setIfInBounds (k-3000) true))
    |false=>!ow&&((okAl ops listed (k-2000)||okAp2 ops listed (k-2000))&&drawFrom ow ops r (listed.setIfInBounds (k-2000) true)))
   |false=>okPl ops listed (k-1000)&&drawFrom ow ops r (listed.setIfInBounds (k-1000) true))
  |false=>okNow ops listed k&&drawFrom ow ops r (listed.setIfInBounds k true)
def drawB(ops:Array Oper)(ord:List Nat):Bool:=Nat.beq ord.length ops.size&&drawFrom (ord.any (Nat.ble 6000)) ops ord (Array.replicate ops.size false)
def KK:Type:=Exit->St->Prop
structure LoopOb(body:St->KK->Prop)(s:St)(K:KK):Prop where
  out:
    ∃(σ:Type) (S:σ->List (Nat×AV)×List (Nat×Ob)) (Inv:σ->Prop) (μ:σ->Nat) (x0:σ),Weak s (S x0).1 (S x0).2/\Inv x0/\
     ∀x,Inv x->body (St.of (S x).1 (S x).2) fun e s'=>match e with
      | .normal=>∃x',Weak s' (S x').1 (S x').2/\Inv x'/\μ x'<μ x
      |e=>K e s'
theorem zfj(body:St->KK->Prop)(s:St)(K:KK):LoopOb body s K↔(
 ∃(σ:Type) (S:σ->List (Nat×AV)×List (Nat×Ob)) (Inv:σ->Prop) (μ:σ->Nat) (x0:σ),Weak s (S x0).1 (S x0).2/\Inv x0/\
  ∀x,Inv x->body (St.of (S x).1 (S x).2) fun e s'=>match e with
   | .normal=>∃x',Weak s' (S x').1 (S x').2/\Inv x'/\μ x'<μ x
   |e=>K e s'):=⟨fun h=>h.out,fun h=>⟨h⟩⟩
def dstsOK(N:Nat)(ops:List Oper):Bool:=ops.all fun o=>match o.dst with|some d=>Nat.blt d N|none=>true
def codeN(N:Nat):Code->Bool
 | .region _ ops _=>dstsOK N ops.toList
 | .seq a b=>codeN N a&&codeN N b
 | .cond _ x y=>codeN N x&&codeN N y
 | .block _ c=>codeN N c
 | .loop c=>codeN N c
 | .rangeFunc _ ps as body=>ps.toList.all (fun d=>Nat.blt d N)&&(codeN N as&&codeN N body)
 | .scope c=>codeN N c
 | _=>true
def FWc(cx:Cx)(F:Fence):Prop:=F=Fence.wide\/∃l r,F=Fence.wide.inRound l/\cx.hold l (.loop r)
structure CodeOb(d it:Bool)(P:Program)(c:Code)(s:St)(K:KK):Prop where
  out:
    ∀cx (F:Fence) (n:Nat) a w,(cx.dr=true->d=true)->(cx.nod=true->it=true)->FWc cx F->codeN cx.N c=true->R cx s a w->c.wpIn F n P (fun e a' w'=>∃s',R cx s' a' w'/\K e s') a w
theorem zdi(d it:Bool)(P:Program)(c:Code)(s:St)(K:KK):CodeOb d it P c s K↔(
 ∀cx (F:Fence) (n:Nat) a w,(cx.dr=true->d=true)->(cx.nod=true->it=true)->FWc cx F->codeN cx.N c=true->R cx s a w->c.wpIn F n P (fun e a' w'=>∃s',R cx s' a' w'/\K e s') a w):=⟨fun h=>h.out,fun h=>⟨h⟩⟩
structure CutOb(s:St)(K:St->Prop):Prop where
  out:∃sl ob,Weak s sl ob/\K (St.of sl ob)
theorem CutOb.at(sl:List (Nat×AV))(ob:List (Nat×Ob)){s:St}{K:St->Prop}(hw:Weak s sl ob)(hk:K (St.of sl ob)):CutOb s K:=⟨sl,ob,hw,hk⟩
noncomputable def awp(P:Program)(T:TT)(E:Env)(c:Code)(s:St)(K:KK):Prop:=
 @Code.rec (fun _=>St->KK->Prop)
  (fun s K=>K .normal s)
  (fun id ops draw s K=>match E.cut id with
   |false=>(match draw with
    |false=>runOps P T E ops.toList 0 ops.toList s (K .normal)
    |true=>∃ord,drawB ops ord=true/\FzOb s fun s=>runD P T E ops.toList ord s (K .normal))
   |true=>CutOb s fun s=>(match draw with
    |false=>runOps P T E ops.toList 0 ops.toList s (K .normal)
    |true=>∃ord,drawB ops ord=true/\FzOb s fun s=>runD P T E ops.toList ord s (K .normal)))
  (fun _ _ a b s K=>a s fun e s'=>match e with
   | .normal=>b s' K
   |e=>K e s')
  (fun c _ _ x y s K=>match ev s c with
   | .d (.bool b)=>Split b fun b=>match b with
    |true=>x s K
    |false=>y s K
   | _=>False)
  (fun id _ c s K=>c s fun e s'=>match e with
   | .exit j=>match Nat.beq j id with
    |true=>K .normal s'
    |false=>K (.exit j) s'
   |e=>K e s')
  (fun _ c s K=>LoopOb (fun s K=>c s K) s K)
  (fun f ps as body _ _ s K=>CodeOb E.dr E.it P (.rangeFunc f ps as body) s K)
  (fun id s K=>K (.exit id) s)
  (fun _ c s K=>c s fun e s'=>match e with
   | .goto _=>False
   |e=>K e s')
  (fun _ s K=>K .normal s)
  (fun l s K=>CodeOb E.dr E.it P (.goto l) s K)
  (fun s K=>K .ret s)
  (fun _ _ _=>False) c s K
theorem zku{P:Program}{T:TT}{E:Env}{id:Nat}{ops:Array Oper}{draw:Bool}{s:St}{K:KK}:awp P T E (.region id ops draw) s K=match E.cut id with
      |false=>(match draw with
       |false=>runOps P T E ops.toList 0 ops.toList s (K .normal)
       |true=>∃ord,drawB ops ord=true/\FzOb s fun s=>runD P T E ops.toList ord s (K .normal))
      |true=>CutOb s fun s=>(match draw with
       |false=>runOps P T E ops.toList 0 ops.toList s (K .normal)
       |true=>∃ord,drawB ops ord=true/\FzOb s fun s=>runD P T E ops.toList ord s (K .normal)):=rfl
theorem zps{P:Program}{T:TT}{E:Env}{c:Operand}{x y:Code}{s:St}{K:KK}:awp P T E (.cond c x y) s K=match ev s c with
  | .d (.bool b)=>Split b fun b=>match b with
   |true=>awp P T E x s K
   |false=>awp P T E y s K
  | _=>False:=rfl
def avOf:V1->AV
 | .d (.ptr m h)=>.roe m h
 | .d x=>.d x
 | .agg xs=>.agg xs
def argSlots:Nat->List V1->List (Nat×AV)
 | _,[]=>[]
 |i,v::r=>(i,avOf v)::argSlots (i+1) r
def RetAV(s:St):AV->V1->Prop
 | .d x,.d y=>D.eqv x y
 | .agg xs,.agg ys=>eqvs xs ys
 | .nilsl,.d (.slc _ n _)=>n=0
 | .nilsl,.d .nil=>True
 | .own i,.d (.mp m ks f)=>∃m' ks' f',s.ob i=some (.mp m' ks' f')/\D.eqv (.mp m' ks' f') (.mp m ks f)
 | .own i,.d y=>∃e k n f,s.ob i=some (.row e k n f)/\D.eqv (.slc k n f) y
 | .roe m h,.d y=>D.eqv (.ptr m h) y
 | .clo f l,.d (.clo f' m g)=>f=f'/\l.length=m/\∀j,j<m->∃c,l[j]?=some c/\caple s (fun _=>none) c (.dat (g j))
 | _,_=>False
def RetBox:List AV->V1->Prop
 | [.d x],.d y=>D.eqv x y
 |cs,.agg ys=>(match allD cs with|some xs=>eqvs xs ys|none=>False)
 | _,_=>False
def RetCell(T:TT)(s:St)(t:Nat)(v:AV)(x:V1):Prop:=
 match v,T t with
 | .box i 0,some ti=>match s.ob i with
  |some (.box cs)=>Nat.beq cs.length ti.size=true/\(match ti.agg,x with|true,.agg _=>True|false,.d _=>True| _,_=>False)/\RetBox cs x
  | _=>False
 | _,_=>False
def RetAll(T:TT)(s:St):List ResultVar->List V1->Prop
 | [],[]=>True
 | .tmp t::r,x::xs=>RetAV s (s.sl t) x/\RetAll T s r xs
 | .cell a t::r,x::xs=>RetCell T s t (s.sl a) x/\RetAll T s r xs
 | _,_=>False
def retK(T:TT)(rs:List ResultVar)(res:List V1):KK:=fun e s=>match e with
 | .normal=>RetAll T s rs res
 | .ret=>RetAll T s rs res
 | _=>False
def retKO(rs:List ResultVar)(e k n:Nat)(g:Nat->Nat->D):KK:=fun x s=>
 let fin:Prop:=match rs with
  | [.tmp t]=>match s.sl t with
   | .own i=>match s.ob i with
    |some (.row e' k' n' f)=>e'=e/\k'=k/\n'=n/\∀i,i<n->∀j,j<k->D.eqv (f i j) (g i j)
    | _=>False
   | _=>False
  | _=>False
 match x with
 | .normal=>fin
 | .ret=>fin
 | _=>False
theorem zah{P:Program}{t:TypeId}{ti:TI}(h:TI.of P t=some ti):
  ∃info d z,P.info? t=some info/\P.underlying t=some d/\info.zero=some z/\info.size=ti.size/\info.bytes=ti.bytes/\TK.isAgg d=ti.agg/\z.cells.toList=ti.zero/\TK.of d=ti.kind:=by
 unfold TI.of at h
 cases hi:P.info? t with
 |none=>simp[hi]at h
 |some info=>
 cases hd:P.underlying t with
 |none=>simp[hi,hd]at h
 |some d=>
 simp only[hi,hd]at h
 cases hz:info.zero with
 |none=>simp[hz]at h
 |some z=>
 simp only[hz]at h
 cases ho:TK.okz (TK.of d) z with
 |false=>simp[ho]at h
 |true=>
 simp only[ho,kT,jO]at h
 subst h
 exact⟨info,d,z,rfl,rfl,hz,rfl,rfl,rfl,rfl,rfl⟩
theorem zsZ{P:Program}{t:TypeId}{ti:TI}(h:TI.of P t=some ti)(hk:ti.kind.one=true):∃info z,P.info? t=some info/\info.zero=some z/\ti.zero=[z]:=by
 unfold TI.of at h
 cases hi:P.info? t with
 |none=>simp[hi]at h
 |some info=>
 cases hd:P.underlying t with
 |none=>simp[hi,hd]at h
 |some d=>
 simp only[hi,hd]at h
 cases hz:info.zero with
 |none=>simp[hz]at h
 |some z=>
 simp only[hz]at h
 cases ho:TK.okz (TK.of d) z with
 |false=>simp[ho]at h
 |true=>
 simp only[ho,kT,jO]at h
 subst h
 have hk:(TK.of d).one=true:=hk
 refine⟨info,z,rfl,hz,?_⟩
 generalize TK.of d=k at hk ho
 show z.cells.toList=[z]
 cases k<;>first|(cases hk;done)|(cases z<;>first|rfl|cases ho)
theorem zae{P:Program}{t:TypeId}{ti:TI}(h:TI.of P t=some ti)(w:World):(sizeOf t).run P w= .ok ti.size w:=by
 obtain⟨info,d,z,h1,h2,h3,h4,_⟩:=zah h
 simp[sizeOf,typeInfo,h1,h4]
theorem zaL{P:Program}{t:TypeId}{ti:TI}(h:TI.of P t=some ti)(w:World):(isAgg t).run P w= .ok ti.agg w:=by
 obtain⟨info,d,z,h1,h2,h3,h4,h5,h6,_⟩:=zah h
 rw[<- h6]
 cases d<;>simp[isAgg,underlying,h2,TK.isAgg]
theorem Rep.one{w:World}{ok:Nat->Prop}{x:D}{v:Value}(h:Rep w ok x v):v.oneCell'=true:=by
 cases x with
 |slc k n f=>rcases h with⟨rfl,_⟩|⟨a,cap,rfl,_⟩<;>rfl
 |ptr m g=>obtain⟨a,rfl,_⟩:=h;rfl
 |clo f m g=>obtain⟨vs,rfl,_⟩:=h;rfl
 |ifc f m g|bnd f m g=>obtain⟨vs,rfl,_⟩:=h;rfl
 |val u=>obtain⟨rfl,h⟩:=h;exact h
 |mp m ks f=>obtain⟨b,es,c,rfl,_⟩:=h;rfl
 | _=>simp only[Rep]at h;subst h;rfl
section
variable {P:Program}{T:TT}{E:Env}{cx:Cx}{γ:Nat->Value}{s:St}{a:Act}{w:World}
theorem zqo{ok:Nat->Prop}:∀{v:Value}{x:D},cd v=some x->Rep w ok x v:=by
 intro v x h
 cases v with
 |slice a l c=>
  cases a with
  |none=>
   simp only[cd]at h
   cases hb:(Nat.beq l 0&&Nat.beq c 0)with
   |false=>rw[hb]at h;cases h
   |true=>
    rw[hb]at h
    simp only[jP]at hb
    have h1:=jA hb.1
    have h2:=jA hb.2
    cases h
    show Value.slice none l c= .slice none 0 0
    rw[h1,h2]
  |some a=>simp[cd]at h
 |nilFunc=>simp[cd]at h;subst h;exact⟨rfl,rfl⟩
 |nilIface=>simp[cd]at h;subst h;exact⟨rfl,rfl⟩
 |pointer a=>
  cases a with
  |none=>simp[cd]at h;subst h;exact⟨rfl,rfl⟩
  |some a=>simp[cd]at h
 |map p=>
  cases p with
  |none=>simp[cd]at h;subst h;exact⟨rfl,rfl⟩
  |some a=>simp[cd]at h
 | _=>simp[cd]at h<;>(subst h;rfl)
theorem zbQ{ok:Nat->Prop}:∀{vs:List Value}{xs:List D},cds vs=some xs->All2 (Rep w ok) xs vs
 | [],xs,h=>by simp[cds]at h;subst h;exact .nil
 |v::r,xs,h=>by
  simp only[cds]at h
  cases h1:cd v with
  |none=>simp[h1]at h
  |some x=>
  cases h2:cds r with
  |none=>simp[h1,h2]at h
  |some ys=>
  simp only[h1,h2,jO]at h
  subst h
  exact .cons (zqo h1) (zbQ h2)
theorem cv_m{ok:Nat->Prop}{γ:Nat->Value}(v:Value):M w ok γ (cv v) v/\(cv v).refs=[]:=by
 cases v with
 |slice a l c=>
  cases a with
  |none=>
   simp only[cv]
   cases hb:(Nat.beq l 0&&Nat.beq c 0)with
   |false=>exact⟨trivial,rfl⟩
   |true=>
    simp only[jP]at hb
    have h1:=jA hb.1
    have h2:=jA hb.2
    exact⟨by rw[h1,h2];rfl,rfl⟩
  |some a=>exact⟨trivial,rfl⟩
 |agg cs=>
  simp only[cv]
  cases h:cds cs.toList with
  |none=>exact⟨trivial,rfl⟩
  |some xs=>exact⟨⟨cs.toList,by simp,zbQ h⟩,rfl⟩
 |int k n=>exact⟨rfl,rfl⟩
 |bool b=>exact⟨rfl,rfl⟩
 |string b=>exact⟨rfl,rfl⟩
 |nilFunc=>exact⟨⟨rfl,rfl⟩,rfl⟩
 |nilIface=>exact⟨⟨rfl,rfl⟩,rfl⟩
 |pointer a=>
  cases a with
  |none=>exact⟨⟨rfl,rfl⟩,rfl⟩
  |some a=>exact⟨trivial,rfl⟩
 |map a=>
  cases a with
  |none=>exact⟨⟨rfl,rfl⟩,rfl⟩
  |some a=>exact⟨trivial,rfl⟩
 | _=>exact⟨trivial,rfl⟩
theorem ev_m(h:RG cx γ s a w)(x:Operand):M w (okOf cx s γ w) γ (ev s x) (a.eval x)/\∀j∈(ev s x).refs,(s.ob j).isSome=true:=by
 cases x with
 |tmp t=>
  have h1:=h.slots t
  have h2:=h.srefs t
  show M w _ γ (s.sl t).unpin _/\∀j∈(s.sl t).unpin.refs,_
  cases hv:s.sl t with
  |pin i v=>rw[hv]at h1 h2;exact⟨h1.1,h2⟩
  |pbox i v=>rw[hv]at h1 h2;exact⟨h1.1,h2⟩
  | _=>rw[hv]at h1 h2;exact⟨h1,h2⟩
 |const v=>have:=cv_m (w:=w) (ok:=okOf cx s γ w) (γ:=γ) v;exact⟨this.1,fun j hj=>by rw[show ev s (.const v)=cv v from rfl,this.2]at hj;cases hj⟩
 |global g=>exact⟨trivial,fun j hj=>by simp[ev,AV.refs]at hj⟩
 |func f=>exact⟨rfl,fun j hj=>by simp[ev,AV.refs]at hj⟩
theorem zgm{ok:Nat->Prop}{v:AV}{x:Value}(h:M w ok γ v x):M w ok γ v.asPtr x:=by
 cases v with
 |d p=>cases p<;>exact h
 | _=>exact h
theorem zdg(v:AV):v.asPtr.refs=v.refs:=by
 cases v with
 |d p=>cases p<;>rfl
 | _=>rfl
def Yd(P:Program)(cx:Cx)(γ:Nat->Value)(s:St)(w:World)(e:Sem Value)(K:AV->Prop):Prop:=
 ∃v x,e.run P w= .ok x w/\M w (okOf cx s γ w) γ v x/\(∀j∈v.refs,(s.ob j).isSome=true)/\K v
theorem Yd.of{e:Sem Value}{K:AV->Prop}{v:AV}{x:Value}(h:e.run P w= .ok x w)(hm:M w (okOf cx s γ w) γ v x)(hr:∀j∈v.refs,(s.ob j).isSome=true)(hk:K v):Yd P cx γ s w e K:=⟨v,x,h,hm,hr,hk⟩
theorem zhZ{a b:IntKind}(h:kbeq a b=true):a=b:=by cases a<;>cases b<;>first|rfl|cases h
theorem zcz{k:IntKind}{n:Int}(h:inR k n):k.wrap n=n:=by
 obtain⟨h1,h2⟩:=h
 cases k<;>simp[IntKind.wrap,IntKind.min,IntKind.max,IntKind.bits,IntKind.signed]at* <;>omega
theorem zeZ{ok:Nat->Prop}{m:Nat}{g:Nat->D}{f:Nat->Value}(h:∀j,j<m->Rep w ok (g j) (f j)):All2 (Rep w ok) (rangeD m g) ((List.range m).map f):=by
 refine All2.of_get (by simp[rangeD]) fun j x y hx hy=>?_
 simp only[rangeD,jU]at hx hy
 by_cases hj:j<m
 ·rw[wF hj]at hx hy
  simp at hx hy;subst hx;subst hy;exact h j hj
 rw[jad (by simpa using hj)]at hx;cases hx
theorem All2.drop{α β:Type}{r:α->β->Prop}{xs:List α}{ys:List β}(h:All2 r xs ys)(n:Nat):All2 r (xs.drop n) (ys.drop n):=by
 refine All2.of_get (by simp[h.length]) fun j x y hx hy=>?_
 rw[wC]at hx hy
 obtain⟨y',h1,h2⟩:=h.get _ _ hx
 rw[hy]at h1;cases h1;exact h2
theorem All2.take{α β:Type}{r:α->β->Prop}{xs:List α}{ys:List β}(h:All2 r xs ys)(n:Nat):All2 r (xs.take n) (ys.take n):=by
 refine All2.of_get (by simp[h.length]) fun j x y hx hy=>?_
 rw[jS]at hx hy
 split at hx
 ·rename_i hj
  rw[kH hj]at hy
  obtain⟨y',h1,h2⟩:=h.get _ _ hx
  rw[hy]at h1;cases h1;exact h2
 cases hx
theorem zjP{cs:List AV}{i b:Nat}{vs:List Value}{T':TypeId}(h3:w.heap[b]?=some (.cells vs.toArray T' (0,0)))(off:Nat):w.cell? ⟨b,off,none⟩=vs[off]?:=by
 simp[World.cell?,h3]
theorem zss{ok:Nat->Prop}{cs:List AV}{l:List Cap}{vs:List Value}(h:capsC cs=some l)(hm:All2 (fun c v=>M w ok γ c v/\v.oneCell'=true) cs vs):All2 (CapM w ok γ) l vs/\∀j∈capRefs l,∃c∈cs,j∈c.refs:=by
 induction hm generalizing l with
 |nil=>simp[capsC]at h;subst h;exact⟨.nil,fun j hj=>by cases hj⟩
 | @cons c v cs vs h1 _ ih=>
 simp only[capsC]at h
 cases hc:capC c with
 |none=>simp[hc]at h
 |some q=>
 cases hr:capsC cs with
 |none=>simp[hc,hr]at h
 |some l'=>
 simp only[hc,hr,jO]at h;subst h
 obtain⟨g1,g2⟩:=ih hr
 have g2':∀j∈capRefs l',∃d∈c::cs,j∈d.refs:=fun j hj=>by obtain⟨d,hd,hj⟩:=g2 j hj;exact⟨d,jav _ hd,hj⟩
 have plain:∀x,avD c=some x->q= .dat x->All2 (CapM w ok γ) (q::l') (v::vs)/\∀j∈capRefs (q::l'),∃d∈c::cs,j∈d.refs:=fun x hx e=>by subst e;exact⟨.cons (zcw hx h1.1).1 g1,g2'⟩
 cases c with
 |own i=>
  simp only[capC,jO]at hc;subst hc
  refine⟨.cons h1.1 g1,fun j hj=>?_⟩
  simp only[capRefs,qC]at hj
  rcases hj with rfl|hj
  ·exact⟨_,jar ..,by simp[AV.refs]⟩
  ·exact g2' j hj
 | _=>
 simp only[capC]at hc
 split at hc
 ·rename_i x hx;exact plain x hx (jak hc).symm
 cases hc
theorem zhW(h:RG cx γ s a w){t:TypeId}{ti:TI}(ht:TI.of P t=some ti){v:AV}{x:Value}(hm:M w (okOf cx s γ w) γ v x){K:AV->Prop}(hl:loadP s ti v K):
  Yd P cx γ s w (Instr.loadAt t x) K:=by
 cases v with
 |box i off=>
  obtain⟨b,hb,rfl⟩:=hm
  simp only[loadP]at hl
  cases ho:s.ob i with
  |none=>simp[ho]at hl
  |some o=>
   cases o with
   |row e k n f=>simp[ho]at hl
   |mp m ks f=>simp[ho]at hl
   |box cs=>
    obtain⟨b',vs,T',h1,h2,h3,h4⟩:=h.objs i _ ho
    rw[hb]at h1;simp at h1;subst h1
    simp only[ho]at hl
    cases ha:ti.agg with
    |true=>
     simp only[ha]at hl
     have hvl0:((vs.drop off).take ti.size).length=((cs.drop off).take ti.size).length:=((h4.drop off).take ti.size).length.symm
     have hrun:=run_loadCells_list (P:=P) w ⟨b,off,none⟩ ((vs.drop off).take ti.size) (fun j u hj=>by
      rw[zaw,zjP (cs:=cs) (i:=i) h3,<- wC]
      rw[jS]at hj
      split at hj
      ·exact hj
      cases hj)
     cases hd:allD ((cs.drop off).take ti.size)with
     |none=>
      simp only[hd]at hl
      cases hq:capsC ((cs.drop off).take ti.size)with
      |none=>simp[hq]at hl
      |some l=>
       simp only[hq]at hl
       cases hbq:Nat.beq l.length ti.size with
       |false=>simp[hbq]at hl
       |true=>
        simp only[hbq]at hl
        have hlen:=jA hbq
        obtain⟨hr,hrf⟩:=zss hq ((h4.drop off).take ti.size)
        rw[<- hr.length,hlen]at hrun
        refine .of (v:=.aggc l) (x:=.agg ((vs.drop off).take ti.size).toArray) ?_ ⟨_,rfl,hr⟩ (fun j hj=>?_) hl
        ·simp[Instr.loadAt,Instr.sureAddr,loadVar,zaL ht,ha,zae ht,hrun]
        ·obtain⟨c,hc,hj⟩:=hrf j hj
         exact h.refs i cs ho c (ja7 (qY hc)) j hj
     |some xs=>
      simp only[hd]at hl
      cases hbq:Nat.beq xs.length ti.size with
      |false=>simp[hbq]at hl
      |true=>
       simp only[hbq]at hl
       have hlen:=jA hbq
       have hr:=zgo hd ((h4.drop off).take ti.size)
       have hvl:((vs.drop off).take ti.size).length=ti.size:=by rw[<- hr.length];exact hlen
       rw[hvl]at hrun
       refine .of (v:=.agg xs) (x:=.agg ((vs.drop off).take ti.size).toArray) ?_ ⟨_,rfl,hr⟩ (fun j hj=>by simp[AV.refs]at hj) hl
       simp[Instr.loadAt,Instr.sureAddr,loadVar,zaL ht,ha,zae ht,hrun]
    |false=>
     simp only[ha,zau]at hl
     cases hc:cs[off]? with
     |none=>simp[hc]at hl
     |some c=>
      simp only[hc]at hl
      obtain⟨y,hy,hm',_⟩:=h4.get off c hc
      have hcell:w.cell? ⟨b,off,none⟩=some y:=(zjP (cs:=cs) (i:=i) h3 off).trans hy
      refine .of (v:=c) (x:=y) ?_ hm' (h.refs i cs ho c (kZ hc)) hl
      simp[Instr.loadAt,Instr.sureAddr,loadVar,zaL ht,ha,hcell]
 |roe m g=>
  obtain⟨ad,rfl,hcell⟩:=hm
  simp only[loadP]at hl
  cases ha:ti.agg with
  |true=>
   simp only[ha]at hl
   cases hb:Nat.ble ti.size m with
   |false=>simp[hb]at hl
   |true=>
    simp only[hb]at hl
    have hle:=jD hb
    have hex:∀j,∃u,j<ti.size->w.cell? (ad.add j)=some u/\Rep w (okOf cx s γ w) (g j) u:=fun j=>by
     by_cases hj:j<ti.size
     ·obtain⟨_,u,h1,h2⟩:=hcell j (by omega);exact⟨u,fun _=>⟨h1,h2⟩⟩
     exact⟨Go.undef,fun h=>absurd h hj⟩
    obtain⟨f,hf⟩:=jbJ hex
    have hrun:=run_loadCells (P:=P) w ad ti.size f fun j hj=>(hf j hj).1
    refine .of (v:=.agg (rangeD ti.size g)) (x:=.agg ((List.range ti.size).map f).toArray) ?_ ⟨_,rfl,zeZ fun j hj=>(hf j hj).2⟩ (fun j hj=>by simp[AV.refs]at hj) hl
    simp[Instr.loadAt,Instr.sureAddr,loadVar,zaL ht,ha,zae ht,hrun]
  |false=>
   simp only[ha]at hl
   cases hb:Nat.ble 1 m with
   |false=>simp[hb]at hl
   |true=>
    simp only[hb]at hl
    obtain⟨_,u,h1,h2⟩:=hcell 0 (by have:=jD hb;omega)
    have h0:ad.add 0=ad:=by simp[Addr.add]
    rw[h0]at h1
    refine .of (v:=.d (g 0)) (x:=u) ?_ h2 (fun j hj=>by simp[AV.refs]at hj) hl
    simp[Instr.loadAt,Instr.sureAddr,loadVar,zaL ht,ha,h1]
 |elt i k n c=>
  obtain⟨g,len,cap,hg,rfl⟩:=hm
  simp only[loadP]at hl
  cases ho:s.ob i with
  |none=>simp[ho]at hl
  |some o=>
   cases o with
   |box cs=>simp[ho]at hl
   |mp m ks f=>simp[ho]at hl
   |row e k' N f=>
    obtain⟨xs,h1,_,h2,h3⟩:=h.objs i _ ho
    simp only[ho]at hl
    have hcells:=h1.cells (g:=g) (by rw[hg];rfl)
    have cell:n<N->∀j,c+j<k'->k=k'->∃u,w.cell? ⟨g,n*k+c+j,none⟩=some u/\Rep w (okOf cx s γ w) (f n (c+j)) u:=fun hn j hj hk=>by
     obtain⟨u,hu,hr⟩:=h3 n hn (c+j) hj
     refine⟨u,?_,hr⟩
     have:=hcells _ _ hu
     rw[zaw]at this
     rw[<- this];congr 2;rw[hk];omega
    cases ha:ti.agg with
    |true=>
     simp only[ha]at hl
     cases hb:(Nat.beq k k'&&Nat.ble (c+ti.size) k)with
     |false=>simp[hb]at hl
     |true=>
      simp only[hb]at hl
      simp only[jP]at hb
      have hk:=jA hb.1
      have hle:=jD hb.2
      have hex:∀j,∃u,j<ti.size->w.cell? ((⟨g,n*k+c,none⟩:Addr).add j)=some u/\Rep w (okOf cx s γ w) (f n (c+j)) u:=fun j=>by
       by_cases hj:j<ti.size
       ·obtain⟨u,h4,h5⟩:=cell hl.1 j (by omega) hk;exact⟨u,fun _=>⟨by rw[zaw];exact h4,h5⟩⟩
       exact⟨Go.undef,fun h=>absurd h hj⟩
      obtain⟨q,hq⟩:=jbJ hex
      have hrun:=run_loadCells (P:=P) w ⟨g,n*k+c,none⟩ ti.size q fun j hj=>(hq j hj).1
      refine .of (v:=.agg (rangeD ti.size fun j=>f n (c+j))) (x:=.agg ((List.range ti.size).map q).toArray) ?_ ⟨_,rfl,zeZ fun j hj=>(hq j hj).2⟩ (fun j hj=>by simp[AV.refs]at hj) hl.2
      simp[Instr.loadAt,Instr.sureAddr,loadVar,zaL ht,ha,zae ht,hrun]
    |false=>
     simp only[ha]at hl
     cases hb:(Nat.beq k k'&&Nat.ble (c+1) k)with
     |false=>simp[hb]at hl
     |true=>
      simp only[hb]at hl
      simp only[jP]at hb
      have hk:=jA hb.1
      have hle:=jD hb.2
      obtain⟨u,h4,h5⟩:=cell hl.1 0 (by omega) hk
      refine .of (v:=.d (f n c)) (x:=u) ?_ h5 (fun j hj=>by simp[AV.refs]at hj) hl.2
      simp at h4
      simp[Instr.loadAt,Instr.sureAddr,loadVar,zaL ht,ha,h4]
 | _=>simp[loadP]at hl
theorem zct(h:RG cx γ s a w){t:TypeId}{ti:TI}(ht:TI.of P t=some ti){v:AV}{x:Value}(hm:M w (okOf cx s γ w) γ v x){K:AV->Prop}(hl:loadE s ti v K):
  Yd P cx γ s w (Instr.loadAt t x) K:=zhW h ht (zgm hm) hl
end
section
variable {P:Program}{T:TT}{E:Env}{cx:Cx}{γ:Nat->Value}{s:St}{a:Act}{w:World}
theorem zno{ok:Nat->Prop}{γ:Nat->Value}{off:Nat}{v v':AV}{x:Value}(h:addOffP off v=some v')(hm:M w ok γ v x):∃ad:Addr,x= .pointer (some ad)/\M w ok γ v' (.pointer (some (ad.add off)))/\v'.refs=v.refs:=by
 cases v with
 |box i o=>
  simp only[addOffP,jO]at h;subst h
  obtain⟨b,h1,rfl⟩:=hm
  exact⟨_,rfl,⟨b,h1,by rw[zaw]⟩,rfl⟩
 |roe m g=>
  simp only[addOffP]at h
  cases hb:Nat.ble off m with
  |false=>simp[hb]at h
  |true=>
   simp only[hb,kT,jO]at h;subst h
   have hle:=jD hb
   obtain⟨ad,rfl,hc⟩:=hm
   refine⟨ad,rfl,⟨_,rfl,fun j hj=>?_⟩,rfl⟩
   obtain⟨h1,u,h2,h3⟩:=hc (off+j) (by omega)
   exact⟨by rw[zaK];exact h1,u,by rw[zcV];exact h2,h3⟩
 |elt i k n c=>
  simp only[addOffP,jO]at h;subst h
  obtain⟨g,len,cap,h1,rfl⟩:=hm
  exact⟨_,rfl,⟨g,len,cap,h1,by rw[zaw,jaz]⟩,rfl⟩
 | _=>simp[addOffP]at h
theorem zpC{ok:Nat->Prop}{γ:Nat->Value}{off:Nat}{v v':AV}{x:Value}(h:addOff off v=some v')(hm:M w ok γ v x):∃ad:Addr,x= .pointer (some ad)/\M w ok γ v' (.pointer (some (ad.add off)))/\v'.refs=v.refs:=by
 rw[<- zdg v];exact zno h (zgm hm)
theorem TK.of_struct{d:TypeDesc}{fs:List (Nat×Nat)}(h:TK.of d= .struct fs):∃F,d= .struct F/\fs=F.toList.map fun f=>(f.offset,f.type):=by
 cases d<;>simp[TK.of]at h
 exact⟨_,rfl,h.symm⟩
theorem TK.of_slice{d:TypeDesc}{e:Nat}(h:TK.of d= .slice e):d= .slice e:=by cases d<;>simp[TK.of]at h;subst h;rfl
theorem TK.of_array{d:TypeDesc}{n e:Nat}(h:TK.of d= .array n e):d= .array n e:=by cases d<;>simp[TK.of]at h;obtain⟨rfl,rfl⟩:=h;rfl
theorem TK.of_bool{d:TypeDesc}(h:TK.of d= .bool):d= .bool:=by cases d<;>simp[TK.of]at h;rfl
theorem TK.of_ptr{d:TypeDesc}(h:TK.of d= .ptr):∃e,d= .pointer e:=by cases d<;>simp[TK.of]at h;exact⟨_,rfl⟩
theorem TK.of_map{d:TypeDesc}{k e:Nat}(h:TK.of d= .map k e):d= .map k e:=by cases d<;>simp[TK.of]at h;obtain⟨rfl,rfl⟩:=h;rfl
theorem TK.of_int{d:TypeDesc}{k:IntKind}(h:TK.of d= .int k):d= .int k:=by cases d<;>simp[TK.of]at h;subst h;rfl
variable (hT:∀t i,T t=some i->TI.of P t=some i)
include hT
theorem zdv(h:RG cx γ s a w){st fld:Nat}{v:AV}{x:Value}(hm:M w (okOf cx s γ w) γ v x)(hr:∀j∈v.refs,(s.ob j).isSome=true){K:AV->Prop}(hl:fieldAddrE T st fld v K):
  Yd P cx γ s w (Instr.fieldAt st x fld) K:=by
 unfold fieldAddrE at hl
 cases hst:T st with
 |none=>simp[hst]at hl
 |some ti=>
 obtain⟨size,ag,bytes,zero,kind⟩:=ti
 cases kind with
 |struct fs=>
  simp only[hst]at hl
  obtain⟨info,d,z,_,hd,_,_,_,_,_,hk⟩:=zah (hT st _ hst)
  obtain⟨F,rfl,hF⟩:=TK.of_struct hk
  cases hn:nth fs fld with
  |none=>simp[hn]at hl
  |some p=>
   obtain⟨off,ft⟩:=p
   simp only[hn]at hl
   cases hf:T ft with
   |none=>simp[hf]at hl
   |some fi=>
    cases ho:addOff off v with
    |none=>simp[hf,ho]at hl
    |some v'=>
     simp only[hf,ho]at hl
     cases hb:Nat.beq fi.size 0 with
     |true=>simp[hb]at hl
     |false=>
      simp only[hb]at hl
      obtain⟨ad,rfl,hm',hrr⟩:=zpC ho hm
      rw[zau,hF,jU]at hn
      cases hq:F.toList[fld]? with
      |none=>simp[hq]at hn
      |some f=>
       simp only[hq,qL,jO,Prod.mk.injEq]at hn
       obtain⟨rfl,rfl⟩:=hn
       have hq':F[fld]?=some f:=by simpa using hq
       have hne:fi.size≠0:=fun e=>by rw[e]at hb;simp[Nat.beq]at hb
       refine .of (v:=v') (x:=.pointer (some (ad.add f.offset))) ?_ hm' (by rw[hrr];exact hr) hl
       simp[Instr.fieldAt,underlying,hd,hq',Instr.sureAddr,fieldPlace,zae (hT _ _ hf),hne]
 | _=>simp[hst]at hl
theorem zdt(h:RG cx γ s a w){t:Nat}{v iv:AV}{x ix:Value}(hm:M w (okOf cx s γ w) γ v x)(hr:∀j∈v.refs,(s.ob j).isSome=true)(hi:M w (okOf cx s γ w) γ iv ix){K:AV->Prop}(hl:indexAddrP T s t v iv K):
  Yd P cx γ s w (Instr.indexAt t x ix) K:=by
 unfold indexAddrP at hl
 cases ht:T t with
 |none=>simp[ht]at hl
 |some ti=>
 obtain⟨size,ag,bytes,zero,kind⟩:=ti
 obtain⟨info,d,z,_,hd,_,_,_,_,_,hk⟩:=zah (hT t _ ht)
 cases kind with
 |slice e=>
  have hds:=TK.of_slice hk
  subst hds
  cases iv with
  |d y=>
   cases y with
   |int k i=>
    simp only[ht]at hl
    have hix:ix= .int k i:=hi
    subst hix
    cases hE:T e with
    |none=>simp[hE]at hl
    |some ei=>
     cases v with
     |d y=>
      cases y with
      |slc k' n f=>
       simp only[hE]at hl
       obtain⟨⟨h1,h2,h3⟩,hK⟩:=hl
       rcases hm with⟨_,h0⟩|⟨ad,cap,rfl,h4,h5,h6⟩
       ·omega
       ·refine .of (v:=.roe ei.size (f i.toNat)) (x:=.pointer (some (ad.add (i.toNat*ei.size)))) ?_ ⟨_,rfl,fun j hj=>?_⟩ (fun j hj=>by simp[AV.refs]at hj) hK
        ·simp[Instr.indexAt,asIntOf,underlying,hd,h2,h3,zae (hT _ _ hE)]
        ·obtain⟨h7,u,h8,h9⟩:=h6 i.toNat (by omega) j (by omega)
         exact⟨by rw[zaK];exact h7,u,by rw[zcV,h1];exact h8,h9⟩
      | _=>simp[hE]at hl
     |own id=>
      simp only[hE]at hl
      cases ho:s.ob id with
      |none=>simp[ho]at hl
      |some o=>
       cases o with
       |box cs=>simp[ho]at hl
       |mp m ks f=>simp[ho]at hl
       |row e' k' n f=>
        simp only[ho]at hl
        obtain⟨⟨h2,h3⟩,hK⟩:=hl
        cases hb:Nat.beq ei.size k' with
        |false=>simp[hb]at hK
        |true=>
         simp only[hb]at hK
         have hek:=jA hb
         obtain⟨xs,h4,_,_⟩:=h.objs id _ ho
         rcases h4.2 with⟨_,h0⟩|⟨g,cap,cur,hg,h5,_⟩
         ·omega
         ·have hxv:x=γ id:=hm
          rw[hg]at hxv;subst hxv
          refine .of (v:=.elt id k' i.toNat 0) (x:=.pointer (some ⟨g,i.toNat*k'+0,none⟩)) ?_ ⟨g,n,cap,hg,rfl⟩ (fun j hj=>by simp[AV.refs]at hj;subst hj;rw[ho];rfl) hK
          simp[Instr.indexAt,asIntOf,underlying,hd,h2,h3,zae (hT _ _ hE),zaw,hek]
     |bsl id n cc=>
      simp only[hE]at hl
      obtain⟨⟨h2,h3⟩,hK⟩:=hl
      cases hb:Nat.beq ei.size 1 with
      |false=>simp[hb]at hK
      |true=>
       simp only[hb]at hK
       have hek:=jA hb
       obtain⟨b,hg,rfl,_⟩:=hm
       refine .of (v:=.box id i.toNat) (x:=.pointer (some ⟨b,i.toNat,none⟩)) ?_ ⟨b,hg,rfl⟩ (fun j hj=>by simp[AV.refs]at hj;subst hj;exact hr _ (by simp[AV.refs])) hK
       simp[Instr.indexAt,asIntOf,underlying,hd,h2,h3,zae (hT _ _ hE),zaw,hek]
     |sub id k' lo n=>
      simp only[hE]at hl
      obtain⟨⟨h2,h3⟩,hK⟩:=hl
      cases hb:Nat.beq ei.size k' with
      |false=>simp[hb]at hK
      |true=>
       simp only[hb]at hK
       have hek:=jA hb
       rcases hm with⟨h0,_⟩|⟨g,len,cap,cap',hg,rfl⟩
       ·omega
       ·refine .of (v:=.elt id k' (lo+i.toNat) 0) (x:=.pointer (some ⟨g,lo*k'+i.toNat*k',none⟩)) ?_ ⟨g,len,cap,hg,by rw[qG];rfl⟩ (fun j hj=>by simp[AV.refs]at hj;subst hj;exact hr _ (by simp[AV.refs])) hK
        simp[Instr.indexAt,asIntOf,underlying,hd,h2,h3,zae (hT _ _ hE),zaw,hek]
     | _=>simp[hE]at hl
   | _=>simp[ht]at hl
  | _=>simp[ht]at hl
 |array len e=>
  have hds:=TK.of_array hk
  subst hds
  cases iv with
  |d y=>
   cases y with
   |int k i=>
    simp only[ht]at hl
    have hix:ix= .int k i:=hi
    subst hix
    cases hE:T e with
    |none=>simp[hE]at hl
    |some ei=>
     cases v with
     |box id off=>
      simp only[hE]at hl
      obtain⟨⟨h2,h3⟩,hK⟩:=hl
      obtain⟨b,hb,rfl⟩:=hm
      refine .of (v:=.box id (off+i.toNat*ei.size)) (x:=.pointer (some ⟨b,off+i.toNat*ei.size,none⟩)) ?_ ⟨b,hb,rfl⟩ (by simpa [AV.refs]using hr) hK
      simp[Instr.indexAt,asIntOf,underlying,hd,Instr.sureAddr,h2,h3,zae (hT _ _ hE),zaw]
     |roe m g=>
      simp only[hE]at hl
      obtain⟨⟨h2,h3⟩,hK⟩:=hl
      cases hb:Nat.ble (len*ei.size) m with
      |false=>simp[hb]at hK
      |true=>
       simp only[hb]at hK
       have hle:=jD hb
       obtain⟨ad,rfl,hc⟩:=hm
       refine .of (v:=.roe ei.size fun j=>g (i.toNat*ei.size+j)) (x:=.pointer (some (ad.add (i.toNat*ei.size)))) ?_ ⟨_,rfl,fun j hj=>?_⟩ (fun j hj=>by simp[AV.refs]at hj) hK
       ·simp[Instr.indexAt,asIntOf,underlying,hd,Instr.sureAddr,h2,h3,zae (hT _ _ hE)]
       ·have hlt:i.toNat*ei.size+j<m:=by
         have h5:(i.toNat+1)*ei.size<=len*ei.size:=jW _ (by omega)
         rw[qG]at h5
         omega
        obtain⟨h7,u,h8,h9⟩:=hc _ hlt
        exact⟨by rw[zaK];exact h7,u,by rw[zcV];exact h8,h9⟩
     | _=>simp[hE]at hl
   | _=>simp[ht]at hl
  | _=>simp[ht]at hl
 | _=>simp[ht]at hl
theorem zdu(h:RG cx γ s a w){t:Nat}{v iv:AV}{x ix:Value}(hm:M w (okOf cx s γ w) γ v x)(hr:∀j∈v.refs,(s.ob j).isSome=true)(hi:M w (okOf cx s γ w) γ iv ix){K:AV->Prop}(hl:indexAddrE T s t v iv K):
  Yd P cx γ s w (Instr.indexAt t x ix) K:=zdt hT h (zgm hm) (by rw[zdg];exact hr) hi hl
theorem zd3{ti:TI}{t:TypeId}(ht:TI.of P t=some ti){xs:List D}{vs:List Value}{off:Nat}(hm:All2 (Rep w (okOf cx s γ w)) xs vs){K:AV->Prop}(hl:partE ti xs off K):Yd P cx γ s w (part t vs.toArray off) K:=by
 unfold partE at hl
 cases ha:ti.agg with
 |true=>
  simp only[ha]at hl
  cases hb:Nat.ble (off+ti.size) xs.length with
  |false=>simp[hb]at hl
  |true=>
   simp only[hb]at hl
   refine .of (v:=.agg ((xs.drop off).take ti.size)) (x:=.agg ((vs.drop off).take ti.size).toArray) ?_ ⟨_,rfl,(hm.drop off).take ti.size⟩ (fun j hj=>by simp[AV.refs]at hj) hl
   simp[part,zaL ht,ha,zae ht]
 |false=>
 simp only[ha,zau]at hl
 cases hx:xs[off]? with
 |none=>simp[hx]at hl
 |some y=>
 simp only[hx]at hl
 obtain⟨u,hu,hr⟩:=hm.get off y hx
 refine .of (v:=.d y) (x:=u) ?_ hr (fun j hj=>by simp[AV.refs]at hj) hl
 simp[part,zaL ht,ha,hu]
theorem zg8{st fld:Nat}{v:AV}{x:Value}(hm:M w (okOf cx s γ w) γ v x){K:AV->Prop}(hl:fieldE T st fld v K):Yd P cx γ s w (Instr.field st x fld) K:=by
 unfold fieldE at hl
 cases hst:T st with
 |none=>simp[hst]at hl
 |some ti=>
 obtain⟨size,ag,bytes,zero,kind⟩:=ti
 cases kind with
 |struct fs=>
  cases v with
  |agg xs=>
   simp only[hst]at hl
   obtain⟨info,d,z,_,hd,_,_,_,_,_,hk⟩:=zah (hT st _ hst)
   obtain⟨F,rfl,hF⟩:=TK.of_struct hk
   cases hn:nth fs fld with
   |none=>simp[hn]at hl
   |some p=>
    obtain⟨off,ft⟩:=p
    simp only[hn]at hl
    cases hf:T ft with
    |none=>simp[hf]at hl
    |some fi=>
     simp only[hf]at hl
     rw[zau,hF,jU]at hn
     cases hq:F.toList[fld]? with
     |none=>simp[hq]at hn
     |some f=>
      simp only[hq,qL,jO,Prod.mk.injEq]at hn
      obtain⟨rfl,rfl⟩:=hn
      have hq':F[fld]?=some f:=by simpa using hq
      obtain⟨vs,rfl,hvs⟩:=hm
      obtain⟨v,x,h1,h2,h3,h4⟩:=zd3 hT (hT _ _ hf) hvs hl
      exact⟨v,x,by simpa [Instr.field,underlying,hd,hq',asAgg]using h1,h2,h3,h4⟩
  | _=>simp[hst]at hl
 | _=>simp[hst]at hl
theorem zgX{t:Nat}{v iv:AV}{x ix:Value}(hm:M w (okOf cx s γ w) γ v x)(hi:M w (okOf cx s γ w) γ iv ix){K:AV->Prop}(hl:indexE T t v iv K):Yd P cx γ s w (Instr.index t x ix) K:=by
 unfold indexE at hl
 cases hst:T t with
 |none=>simp[hst]at hl
 |some ti=>
 obtain⟨size,ag,bytes,zero,kind⟩:=ti
 cases kind with
 |array len e=>
  cases v with
  |agg xs=>
   cases iv with
   |d y=>
    cases y with
    |int k i=>
     simp only[hst]at hl
     have hix:ix= .int k i:=hi
     subst hix
     obtain⟨info,d,z,_,hd,_,_,_,_,_,hk⟩:=zah (hT t _ hst)
     have hds:=TK.of_array hk
     subst hds
     cases hE:T e with
     |none=>simp[hE]at hl
     |some ei=>
      simp only[hE]at hl
      obtain⟨⟨h2,h3⟩,hl⟩:=hl
      obtain⟨vs,rfl,hvs⟩:=hm
      obtain⟨v,x,h4,h5,h6,h7⟩:=zd3 hT (hT _ _ hE) hvs hl
      exact⟨v,x,by simpa [Instr.index,asIntOf,underlying,hd,h2,h3,zae (hT _ _ hE)]using h4,h5,h6,h7⟩
    | _=>simp[hst]at hl
   | _=>simp[hst]at hl
  | _=>simp[hst]at hl
 | _=>simp[hst]at hl
theorem zao(k:IntKind)(i:Int)(y:Nat)(c:BoundsCode)(h:0<=i/\i<=y)(w:World):(Instr.sliceBound (.int k i) y c).run P w= .ok i.toNat w:=by
 simp[Instr.sliceBound,asIntOf,h]
theorem zfw(h:RG cx γ s a w){t:Nat}{v:AV}{x:Value}{lo hi:Option AV}{mv:AV}{xlo xhi:Option Value}{xm:Value}(hm:M w (okOf cx s γ w) γ v x)(h1':lo=none->xlo=none)
  (h2:∀u,hi=some u->∃y,xhi=some y/\M w (okOf cx s γ w) γ u y)(h3:M w (okOf cx s γ w) γ mv xm){K:AV->Prop}(hl:slice3E T t v lo hi mv K):Yd P cx γ s w (Instr.sliceAt t x xlo xhi (some xm)) K:=by
 unfold slice3E at hl
 cases hst:T t with
 |none=>simp[hst]at hl
 |some ti=>
 obtain⟨size,ag,bytes,zero,kind⟩:=ti
 cases kind with
 |slice e=>
  cases v with
  |d y=>
   cases y with
   |slc k n f=>
    cases lo with
    |some lv=>simp[hst]at hl
    |none=>
     have hxl:=h1' rfl;subst hxl
     cases hi with
     |none=>simp[hst]at hl
     |some hv=>
      obtain⟨yh,rfl,hyh⟩:=h2 hv rfl
      cases hv with
      |d q=>
       cases q with
       |int kh ih=>
        cases mv with
        |d q=>
         cases q with
         |int km im=>
          simp only[hst]at hl
          cases hE:T e with
          |none=>simp[hE]at hl
          |some ei=>
          simp only[hE]at hl
          obtain⟨⟨h0,h4,h5⟩,hK⟩:=hl
          have e1:yh= .int kh ih:=hyh
          have e2:xm= .int km im:=h3
          subst e1;subst e2
          obtain⟨info,d,z,_,hd,_,_,_,_,_,hk⟩:=zah (hT t _ hst)
          have hds:=TK.of_slice hk
          subst hds
          have hsz:=zae (hT _ _ hE)
          rcases hm with⟨hx,hn⟩|⟨ad,cap,hx,h6,h7,h8⟩
          ·subst hx
           have hn0:n=0:=hn
           have i0:ih=0:=by omega
           have m0:im=0:=by omega
           subst i0;subst m0
           refine .of (v:=.d (.slc k (0:Int).toNat f)) (x:=.slice none 0 0) ?_ (.inl ⟨rfl,rfl⟩) (fun j hj=>by simp[AV.refs]at hj) hK
           simp[Instr.sliceAt,Instr.slice,underlying,hd,hsz,Instr.sliceBounds,Instr.sliceBound,asIntOf]
          ·subst hx
           refine .of (v:=.d (.slc k ih.toNat f)) (x:=.slice (if im.toNat=0 then some ad else(some ad).map (·.add (0*ei.size))) (ih.toNat-0) (im.toNat-0)) ?_ ?_ (fun j hj=>by simp[AV.refs]at hj) hK
           ·simp[Instr.sliceAt,Instr.slice,underlying,hd,hsz,Instr.sliceBounds,zao hT km im cap .slice3Acap ⟨by omega,by omega⟩,zao hT kh ih im.toNat .slice3B ⟨h0,by omega⟩]
           ·by_cases hi0:im.toNat=0
            ·rw[kH hi0]
             exact .inr ⟨ad,im.toNat-0,rfl,by omega,by omega,fun i hi=>by omega⟩
            ·rw[kG hi0]
             refine .inr ⟨ad.add (0*ei.size),im.toNat-0,rfl,by omega,by omega,fun i hi j hj=>?_⟩
             obtain⟨h9,u,h10,h11⟩:=h8 i (by omega) j hj
             refine⟨by rw[zaK];exact h9,u,?_,h11⟩
             rw[zcV,Nat.zero_mul,qB]
             exact h10
         | _=>simp[hst]at hl
        | _=>simp[hst]at hl
       | _=>simp[hst]at hl
      | _=>simp[hst]at hl
   | _=>simp[hst]at hl
  | _=>simp[hst]at hl
 | _=>simp[hst]at hl
theorem zgz(h:RG cx γ s a w){t:Nat}{v:AV}{x:Value}{lo hi:Option AV}{xlo xhi:Option Value}(hm:M w (okOf cx s γ w) γ v x)(h1:∀u,lo=some u->∃y,xlo=some y/\M w (okOf cx s γ w) γ u y)(h1':lo=none->xlo=none)
  (h2:∀u,hi=some u->∃y,xhi=some y/\M w (okOf cx s γ w) γ u y)(h2':hi=none->xhi=none){K:AV->Prop}(hl:sliceE T s t v lo hi K):Yd P cx γ s w (Instr.sliceAt t x xlo xhi none) K:=by
 unfold sliceE at hl
 cases hst:T t with
 |none=>simp[hst]at hl
 |some ti=>
 obtain⟨size,ag,bytes,zero,kind⟩:=ti
 cases kind with
 |slice e=>
  cases v with
  |d y=>
   cases y with
   |slc k n f=>
    simp only[hst]at hl
    obtain⟨info,d,z,_,hd,_,_,_,_,_,hk⟩:=zah (hT t _ hst)
    have hds:=TK.of_slice hk
    subst hds
    cases hE:T e with
    |none=>simp[hE]at hl
    |some ei=>
     simp only[hE]at hl
     have hsz:=zae (hT _ _ hE)
     have cut:∀(l m:Nat),l<=m->m<=n->(n=0\/k=ei.size)->∀(ad:Option Addr) (cap:Nat),x= .slice ad n cap->M w (okOf cx s γ w) γ (.d (.slc k (m-l) fun i=>f (l+i))) (.slice (if cap=l then ad else ad.map (·.add (l*ei.size))) (m-l) (cap-l)):=by
      intro l m hlm hmn hk' ad cap hx
      rcases hm with⟨hx',h0⟩|⟨ad',cap',hx',h4,h5,h6⟩
      ·rw[hx]at hx'
       obtain⟨rfl,rfl,rfl⟩:ad=none/\n=0/\cap=0:=by simpa using hx'
       have hl0:l=0:=by omega
       have hm0:m=0:=by omega
       subst hl0;subst hm0
       exact .inl ⟨rfl,rfl⟩
      rw[hx]at hx'
      obtain⟨rfl,rfl⟩:ad=some ad'/\cap=cap':=by simpa using hx'
      by_cases hcl:cap=l
      ·rw[kH hcl]
       exact .inr ⟨ad',cap-l,rfl,by omega,by omega,fun i hi=>by omega⟩
      rw[kG hcl]
      refine .inr ⟨ad'.add (l*ei.size),cap-l,rfl,by omega,by omega,fun i hi j hj=>?_⟩
      obtain⟨h7,u,h8,h9⟩:=h6 (l+i) (by omega) j hj
      refine⟨by rw[zaK];exact h7,u,?_,h9⟩
      rw[zcV]
      have:k=ei.size:=hk'.resolve_left (by omega)
      rw[<- this,<- jaz,<- qG]
      exact h8
     have shape:∃(ad:Option Addr) (cap:Nat),x= .slice ad n cap/\n<=cap:=by
      rcases hm with⟨hx',h0⟩|⟨ad',cap',hx',h4,_⟩
      ·exact⟨none,0,by rw[hx',h0],by omega⟩
      exact⟨_,_,hx',h4⟩
     obtain⟨ad,cap,hx,hnc⟩:=shape
     have run:∀(l m:Nat),l<=m->m<=n->∀e,(Instr.sliceBounds true n cap xlo xhi none).run P w= .ok (l,m,cap) w->e=(Instr.sliceAt t x xlo xhi none).run P w->
       e= .ok (.slice (if cap=l then ad else ad.map (·.add (l*ei.size))) (m-l) (cap-l)) w:=by
      intro l m _ _ e hb he
      rw[he,hx]
      simp[Instr.sliceAt,Instr.slice,underlying,hd,hb,hsz]
     have ints:∀(u:AV) (y:Value) (k':IntKind) (i:Int),u= .d (.int k' i)->M w (okOf cx s γ w) γ u y->y= .int k' i:=by
      intro u y k' i e hm';subst e;exact hm'
     cases lo with
     |none=>
      have hxl:=h1' rfl;subst hxl
      cases hi with
      |none=>
       have hxh:=h2' rfl;subst hxh
       simp only at hl
       refine .of (v:=.d (.slc k n f)) (x:=.slice (if cap=0 then ad else ad.map (·.add (0*ei.size))) (n-0) (cap-0)) (run 0 n (by omega) (by omega) _ (by simp[Instr.sliceBounds]) rfl) ?_ (fun j hj=>by simp[AV.refs]at hj) hl.2
       have:=cut 0 n (by omega) (by omega) hl.1 ad cap hx
       simpa using this
      |some hv=>
       obtain⟨yh,rfl,hyh⟩:=h2 hv rfl
       cases hv with
       |d q=>
        cases q with
        |int kh ih=>
         simp only at hl
         obtain⟨⟨hk',ha,hb⟩,hK⟩:=hl
         have:=ints _ yh kh ih rfl hyh;subst this
         refine .of (v:=.d (.slc k ih.toNat f)) (x:=.slice (if cap=0 then ad else ad.map (·.add (0*ei.size))) (ih.toNat-0) (cap-0)) (run 0 ih.toNat (by omega) (by omega) _ (by simp[Instr.sliceBounds,zao hT kh ih cap .sliceAcap ⟨ha,by omega⟩]) rfl) ?_ (fun j hj=>by simp[AV.refs]at hj) hK
         have:=cut 0 ih.toNat (by omega) (by omega) hk' ad cap hx
         simpa using this
        | _=>simp at hl
       | _=>simp at hl
     |some lv=>
      obtain⟨yl,rfl,hyl⟩:=h1 lv rfl
      cases lv with
      |d q=>
       cases q with
       |int kl il=>
        have:=ints _ yl kl il rfl hyl;subst this
        cases hi with
        |none=>
         have hxh:=h2' rfl;subst hxh
         simp only at hl
         obtain⟨⟨hk',ha,hb⟩,hK⟩:=hl
         exact .of (v:=.d (.slc k (n-il.toNat) fun i=>f (il.toNat+i))) (x:=.slice (if cap=il.toNat then ad else ad.map (·.add (il.toNat*ei.size))) (n-il.toNat) (cap-il.toNat)) (run il.toNat n (by omega) (by omega) _ (by simp[Instr.sliceBounds,zao hT kl il n .sliceB ⟨ha,by omega⟩]) rfl) (cut il.toNat n (by omega) (by omega) hk' ad cap hx) (fun j hj=>by simp[AV.refs]at hj) hK
        |some hv=>
         obtain⟨yh,rfl,hyh⟩:=h2 hv rfl
         cases hv with
         |d q=>
          cases q with
          |int kh ih=>
           simp only at hl
           obtain⟨⟨hk',ha,hb,hc⟩,hK⟩:=hl
           have:=ints _ yh kh ih rfl hyh;subst this
           exact .of (v:=.d (.slc k (ih.toNat-il.toNat) fun i=>f (il.toNat+i))) (x:=.slice (if cap=il.toNat then ad else ad.map (·.add (il.toNat*ei.size))) (ih.toNat-il.toNat) (cap-il.toNat)) (run il.toNat ih.toNat (by omega) (by omega) _ (by simp[Instr.sliceBounds,zao hT kh ih cap .sliceAcap ⟨by omega,by omega⟩,zao hT kl il ih.toNat .sliceB ⟨ha,by omega⟩]) rfl) (cut il.toNat ih.toNat (by omega) (by omega) hk' ad cap hx) (fun j hj=>by simp[AV.refs]at hj) hK
          | _=>simp at hl
         | _=>simp at hl
       | _=>simp at hl
      | _=>simp at hl
   | _=>simp[hst]at hl
  |own id=>
   simp only[hst]at hl
   obtain⟨info,d,z,_,hd,_,_,_,_,_,hk⟩:=zah (hT t _ hst)
   have hds:=TK.of_slice hk
   subst hds
   cases hE:T e with
   |none=>simp[hE]at hl
   |some ei=>
    have hsz:=zae (hT _ _ hE)
    cases ho:s.ob id with
    |none=>simp[hE,ho]at hl
    |some o=>
     cases o with
     |box cs=>simp[hE,ho]at hl
     |mp m ks f=>simp[hE,ho]at hl
     |row e' k n f=>
      simp only[hE,ho]at hl
      cases lo with
      |none=>
       cases hi with
       |none=>simp at hl
       |some hv=>
        cases hv with
        |d q=>
         cases q with
         |int kh ih=>
          simp only at hl
          obtain⟨⟨hk',ha,hb,hc⟩,hK⟩:=hl
          obtain⟨yh,rfl,hyh⟩:=h2 _ rfl
          have hyh':yh= .int kh ih:=hyh
          subst hyh'
          have hxl:=h1' rfl;subst hxl
          have hxv:x=γ id:=hm
          obtain⟨xs,h4,_,_⟩:=h.objs id _ ho
          have hrf:∀j∈(AV.pre id ih.toNat).refs,(s.ob j).isSome=true:=fun j hj=>by simp[AV.refs]at hj;subst hj;rw[ho];rfl
          rcases h4.2 with⟨hg,h0⟩|⟨g,cap,cur,hg,_,_,hnc,_⟩
          ·omega
          ·rw[hg]at hxv;subst hxv
           refine .of (v:=.pre id ih.toNat) (x:=.slice (if cap=0 then some ⟨g,0,none⟩else(some (⟨g,0,none⟩:Addr)).map (·.add (0*ei.size))) (ih.toNat-0) (cap-0)) ?_ ⟨g,n,cap,hg,?_⟩ hrf hK
           ·simp[Instr.sliceAt,Instr.slice,underlying,hd,hsz,Instr.sliceBounds,zao hT kh ih cap .sliceAcap ⟨ha,by omega⟩]
           ·simp[zaw]
         | _=>simp at hl
        | _=>simp at hl
      |some lv=>
       cases lv with
       |d q=>
        cases q with
        |int kl il=>
         cases hi with
         |some hv=>simp at hl
         |none=>
          simp only at hl
          obtain⟨⟨hk',ha,hb⟩,hK⟩:=hl
          obtain⟨yl,rfl,hyl⟩:=h1 _ rfl
          have hyl':yl= .int kl il:=hyl
          subst hyl'
          have hxh:=h2' rfl;subst hxh
          have hxv:x=γ id:=hm
          have hown:=(h.objs id _ ho)
          obtain⟨xs,h4,_,_⟩:=hown
          have hrf:∀j∈(AV.sub id k il.toNat (n-il.toNat)).refs,(s.ob j).isSome=true:=fun j hj=>by simp[AV.refs]at hj;subst hj;rw[ho];rfl
          rcases h4.2 with⟨hg,h0⟩|⟨g,cap,cur,hg,_,_,hnc,_⟩
          ·rw[hg]at hxv;subst hxv
           have hl0:il=0:=by omega
           subst hl0
           refine .of (v:=.sub id k 0 n) (x:=.slice none 0 0) ?_ (.inl ⟨h0,none,0,rfl⟩) hrf hK
           simp[Instr.sliceAt,Instr.slice,underlying,hd,hsz,Instr.sliceBounds,zao hT kl 0 0 .sliceB ⟨by omega,by omega⟩]
          ·rw[hg]at hxv;subst hxv
           refine .of (v:=.sub id k il.toNat (n-il.toNat)) (x:=.slice (if cap=il.toNat then some ⟨g,0,none⟩else(some (⟨g,0,none⟩:Addr)).map (·.add (il.toNat*ei.size))) (n-il.toNat) (cap-il.toNat)) ?_ ?_ hrf hK
           ·simp[Instr.sliceAt,Instr.slice,underlying,hd,hsz,Instr.sliceBounds,zao hT kl il n .sliceB ⟨ha,by omega⟩]
           ·by_cases hz:n-il.toNat=0
            ·exact .inl ⟨hz,_,_,by rw[hz]⟩
            ·refine .inr ⟨g,n,cap,cap-il.toNat,hg,?_⟩
             rw[kG (by omega)]
             simp[zaw,hk']
        | _=>simp at hl
       | _=>simp at hl
  | _=>simp[hst]at hl
 | _=>simp[hst]at hl
end
def EqFact(P:Program)(t:TypeId):Prop:=
 ∀(w:World) (ok:Nat->Prop) (xs ys:List D) (vs us:List Value) (b:Bool) (x y:Operand),(∃ti,TI.of P t=some ti/\xs.length=ti.size)->eqDs xs ys=some b->All2 (Rep w ok) xs vs->All2 (Rep w ok) ys us->
  (do eqGuard .eql t x y (.agg vs.toArray) (.agg us.toArray);binOp .eql t (.agg vs.toArray) (.agg us.toArray):Sem Value).run P w= .ok (.bool b) w/\
  (do eqGuard .neq t x y (.agg vs.toArray) (.agg us.toArray);binOp .neq t (.agg vs.toArray) (.agg us.toArray):Sem Value).run P w= .ok (.bool (!b)) w
theorem zaE{α:Type}:∀{l:List α}{off:Nat}{ys m:List α},setRange l off ys=some m->m.length=l.length/\(ys=[]\/off+ys.length<=l.length)/\∀i,m[i]?=if off<=i/\i<off+ys.length then ys[i-off]? else l[i]?
 |l,off,[],m,h=>by
  simp[setRange]at h;subst h
  exact⟨rfl,.inl rfl,fun i=>by rw[kG (by simp)]⟩
 | [],off,y::ys,m,h=>by simp[setRange]at h
 |x::l,0,y::ys,m,h=>by
  simp only[setRange]at h
  cases hr:setRange l 0 ys with
  |none=>simp[hr]at h
  |some r=>
   simp only[hr,jO]at h;subst h
   obtain⟨h1,h2,h3⟩:=zaE hr
   refine⟨by simp[h1],.inr ?_,fun i=>?_⟩
   ·rcases h2 with rfl|h2
    ·simp
    simp at*;omega
   ·cases i with
    |zero=>simp
    |succ i=>
     simp only[wG,h3,jF,true_and,qB,Nat.sub_zero,jbp,Nat.add_lt_add_iff_right]
 |x::l,n+1,y::ys,m,h=>by
  simp only[setRange]at h
  cases hr:setRange l n (y::ys)with
  |none=>simp[hr]at h
  |some r=>
  simp only[hr,jO]at h;subst h
  obtain⟨h1,h2,h3⟩:=zaE hr
  refine⟨by simp[h1],.inr ?_,fun i=>?_⟩
  ·rcases h2 with h2|h2
   ·cases h2
   simp at*;omega
  cases i with
  |zero=>simp
  |succ i=>
  simp only[wG,h3]
  have e1:(n<=i/\i<n+(y::ys).length)↔(n+1<=i+1/\i+1<n+1+(y::ys).length):=by omega
  by_cases hc:n<=i/\i<n+(y::ys).length
  ·rw[kH hc,kH (e1.1 hc)];congr 1;omega
  rw[kG hc,kG (fun h=>hc (e1.2 h))]
theorem zaW{α β:Type}{r:α->β->Prop}:∀{l:List α}{l':List β}{off:Nat}{ys m:List α}{ys':List β},All2 r l l'->All2 r ys ys'->setRange l off ys=some m->∃m',setRange l' off ys'=some m'/\All2 r m m'
 |l,l',off,[],m,_,h1,.nil,h=>by simp[setRange]at h;subst h;exact⟨l',by simp[setRange],h1⟩
 | [],_,off,y::ys,m,_,h1,_,h=>by simp[setRange]at h
 |x::l,x'::l',0,y::ys,m,y'::ys',.cons h1 h2,.cons h3 h4,h=>by
  simp only[setRange]at h
  cases hr:setRange l 0 ys with
  |none=>simp[hr]at h
  |some q=>
   simp only[hr,jO]at h;subst h
   obtain⟨m',h5,h6⟩:=zaW h2 h4 hr
   exact⟨y'::m',by simp[setRange,h5],.cons h3 h6⟩
 |x::l,x'::l',n+1,y::ys,m,y'::ys',.cons h1 h2,h34,h=>by
  simp only[setRange]at h
  cases hr:setRange l n (y::ys)with
  |none=>simp[hr]at h
  |some q=>
  simp only[hr,jO]at h;subst h
  obtain⟨m',h5,h6⟩:=zaW h2 h34 hr
  exact⟨x'::m',by simp[setRange,h5],.cons h1 h6⟩
theorem zg5:∀(us:List Value) (k off:Nat) (a:Array Value),((us.zipIdx k).foldl (fun (cs:Array Value) (p:Value×Nat)=>cs.setIfInBounds (off+p.2) p.1) a).size=a.size/\
  ∀i,((us.zipIdx k).foldl (fun (cs:Array Value) (p:Value×Nat)=>cs.setIfInBounds (off+p.2) p.1) a)[i]?=if off+k<=i/\i<off+k+us.length/\i<a.size then us[i-(off+k)]? else a[i]?
 | [],k,off,a=>by simp;intro i h1 h2;omega
 |u::us,k,off,a=>by
  simp only[List.zipIdx_cons,jaE]
  obtain⟨h1,h2⟩:=zg5 us (k+1) off (a.setIfInBounds (off+k) u)
  refine⟨by rw[h1];simp,fun i=>?_⟩
  rw[h2]
  simp only[Array.size_setIfInBounds,jbp]
  by_cases hi:i=off+k
  ·subst hi
   rw[kG (by omega)]
   by_cases hs:off+k<a.size
   ·rw[kH ⟨jE _,by omega,hs⟩];simp[hs]
   rw[kG (by omega)];simp[hs]
  rw[jbi (by omega)]
  by_cases hc:off+(k+1)<=i/\i<off+(k+1)+us.length/\i<a.size
  ·rw[kH hc,kH ⟨by omega,by omega,hc.2.2⟩]
   have:i-(off+k)=(i-(off+(k+1)))+1:=by omega
   rw[this];simp
  rw[kG hc,kG (by omega)]
theorem zg7{vs us m:List Value}{off:Nat}(h:setRange vs off us=some m):us.toArray.zipIdx.foldl (fun (cs:Array Value) (p:Value×Nat)=>cs.setIfInBounds (off+p.2) p.1) vs.toArray=m.toArray:=by
 obtain⟨h1,h2,h3⟩:=zaE h
 have e:us.toArray.zipIdx=(us.zipIdx 0).toArray:=by simp
 rw[e,List.foldl_toArray]
 obtain⟨h4,h5⟩:=zg5 us 0 off vs.toArray
 refine Array.ext_getElem? fun i=>?_
 rw[h5]
 simp only[Nat.add_zero,jaT,List.getElem?_toArray]
 rw[h3]
 by_cases hc:off<=i/\i<off+us.length
 ·rw[kH hc,kH ⟨hc.1,hc.2,by rcases h2 with rfl|h2;(simp at hc;omega);omega⟩]
 rw[kG hc,kG (by omega)]
section
variable {P:Program}{T:TT}{E:Env}{cx:Cx}{γ:Nat->Value}{s:St}{a:Act}{w:World}
theorem zgf{ok:Nat->Prop}{γ:Nat->Value}{v:AV}{x:Value}{ys:List D}(h:cellsD v=some ys)(hm:M w ok γ v x):All2 (Rep w ok) ys x.cells.toList:=by
 cases v with
 |d y=>
  simp only[cellsD,jO]at h;subst h
  have h1:=Rep.one hm
  have:x.cells= #[x]:=by cases x<;>first|rfl|(simp[Value.oneCell']at h1)
  rw[this];exact .cons hm .nil
 |agg xs=>
  simp only[cellsD,jO]at h;subst h
  obtain⟨vs,rfl,h⟩:=hm
  simpa [Value.cells]using h
 |nilsl=>
  simp only[cellsD,jO]at h;subst h
  have hx:x= .slice none 0 0:=hm
  subst hx
  exact .cons rfl .nil
 |roe m g=>
  simp only[cellsD,jO]at h;subst h
  have h0:Rep w ok (.ptr m g) x:=(zcw (c:=.roe m g) rfl hm).1
  have h1:=Rep.one h0
  have:x.cells= #[x]:=by cases x<;>first|rfl|(simp[Value.oneCell']at h1)
  rw[this];exact .cons h0 .nil
 |clo f l=>
  simp only[cellsD]at h
  cases hc:capsDat l with
  |none=>simp[hc]at h
  |some xs=>
   simp only[hc,jO]at h;subst h
   have h0:Rep w ok (.clo f xs.length (getD' xs)) x:=(zcw (c:=.clo f l) (by simp[avD,hc]) hm).1
   have h1:=Rep.one h0
   have:x.cells= #[x]:=by cases x<;>first|rfl|(simp[Value.oneCell']at h1)
   rw[this];exact .cons h0 .nil
 | _=>simp[cellsD]at h
theorem zbM(h:RG cx γ s a w){place:Nat->Option (Nat×Nat)}:∀{parts:List (Nat×Operand)}{ds l:List D}{vs:List Value},fillE place s parts ds=some l->All2 (Rep w (okOf cx s γ w)) ds vs->
  ∃m:List Value,Instr.fill place vs.toArray (parts.map fun p=>(p.1,a.eval p.2))=some m.toArray/\All2 (Rep w (okOf cx s γ w)) l m
 | [],ds,l,vs,h1,h2=>by simp[fillE]at h1;subst h1;exact⟨vs,by simp[Instr.fill],h2⟩
 |(i,x)::r,ds,l,vs,h1,h2=>by
  simp only[fillE]at h1
  cases hp:place i with
  |none=>simp[hp]at h1
  |some p=>
  obtain⟨off,size⟩:=p
  cases hc:cellsD (ev s x)with
  |none=>simp[hp,hc]at h1
  |some ys=>
  simp only[hp,hc]at h1
  cases hb:(Nat.beq ys.length size&&Nat.ble (off+size) ds.length)with
  |false=>simp[hb]at h1
  |true=>
  simp only[hb,kT]at h1
  simp only[jP]at hb
  have hlen:=jA hb.1
  have hfit:=jD hb.2
  cases hs:setRange ds off ys with
  |none=>simp[hs]at h1
  |some ds'=>
  simp only[hs]at h1
  have hm:=zgf hc (ev_m h x).1
  obtain⟨vs',h3,h4⟩:=zaW h2 hm hs
  obtain⟨m,h5,h6⟩:=zbM h h1 h4
  refine⟨m,?_,h6⟩
  have hsz:(a.eval x).cells.size=size:=by rw[<- kB,<- hm.length,hlen]
  have hst:=zg7 h3
  rw[jaa]at hst
  have hle:¬(off+size > vs.toArray.size):=by have:=h2.length;simp;omega
  simp only[kY,Instr.fill,hp,hsz,ne_eq,jaS,decide_false,jaC,kA,hle,jaG]
  exact(jI (fun z=>Instr.fill place z (r.map fun p=>(p.1,a.eval p.2))) hst).trans h5
theorem zeo(h:RG cx γ s a w){place:Nat->Option (Nat×Nat)}:∀{parts:List (Nat×Operand)}{ds l:List Cap}{vs:List Value},fillC place s parts ds=some l->All2 (CapM w (okOf cx s γ w) γ) ds vs->(∀j∈capRefs ds,(s.ob j).isSome=true)->
  ∃m:List Value,Instr.fill place vs.toArray (parts.map fun p=>(p.1,a.eval p.2))=some m.toArray/\All2 (CapM w (okOf cx s γ w) γ) l m/\∀j∈capRefs l,(s.ob j).isSome=true
 | [],ds,l,vs,h1,h2,h0=>by simp[fillC]at h1;subst h1;exact⟨vs,by simp[Instr.fill],h2,h0⟩
 |(i,x)::r,ds,l,vs,h1,h2,h0=>by
  simp only[fillC]at h1
  cases hp:place i with
  |none=>simp[hp]at h1
  |some p=>
  obtain⟨off,size⟩:=p
  have key:∀ys:List Cap,argC (ev s x)=some ys->All2 (CapM w (okOf cx s γ w) γ) ys (a.eval x).cells.toList/\∀j∈capRefs ys,(s.ob j).isSome=true:=fun ys hy=>by
   have hx:=ev_m h x
   unfold argC at hy
   split at hy
   ·rename_i j hj
    cases hy
    rw[hj]at hx
    have hone:(γ j).oneCell'=true:=by
     obtain⟨o,ho⟩:=wA.1 (hx.2 j (by simp[AV.refs]))
     have hh:=h.objs j o ho
     cases o with
     |box cs=>obtain⟨b,vs,T,h1,_⟩:=hh;rw[h1];rfl
     |row e k n f=>
      obtain⟨xs,h1,_⟩:=hh
      rcases h1.2 with⟨h2,_⟩|⟨g,cap,cur,h2,_⟩<;>rw[h2]<;>rfl
     |mp m ks f=>obtain⟨b,es,c,h1,_⟩:=hh;rw[h1];rfl
    have hv:a.eval x=γ j:=hx.1
    rw[hv]
    have one:(γ j).cells.toList=[γ j]:=by
     generalize γ j=u at hone
     cases u<;>first|rfl|(simp[Value.oneCell']at hone)
    rw[one]
    exact⟨.cons rfl .nil,fun i hi=>by
     simp only[capRefs,kI]at hi;subst hi
     exact hx.2 i (by simp[AV.refs])⟩
   split at hy
   ·rename_i zs hz
    cases hy
    have hr:∀l:List D,capRefs (l.map Cap.dat)=[]:=fun l=>by induction l<;>simp_all [capRefs]
    exact⟨.map_left (zgf hz hx.1),fun j hj=>by rw[hr]at hj;cases hj⟩
   cases hy
  generalize argC (ev s x)=q at h1 key
  cases q with
  |none=>simp[hp]at h1
  |some ys=>
  obtain⟨hm,hmr⟩:=key ys rfl
  simp only[hp]at h1
  cases hb:(Nat.beq ys.length size&&Nat.ble (off+size) ds.length)with
  |false=>simp[hb]at h1
  |true=>
  simp only[hb,kT]at h1
  simp only[jP]at hb
  have hlen:=jA hb.1
  have hfit:=jD hb.2
  cases hs:setRange ds off ys with
  |none=>simp[hs]at h1
  |some ds'=>
  simp only[hs]at h1
  obtain⟨vs',h3,h4⟩:=zaW h2 hm hs
  have hrf:∀j∈capRefs ds',(s.ob j).isSome=true:=fun j hj=>by
   have cmem:∀(l:List Cap) (j:Nat),j∈capRefs l↔Cap.own j∈l:=fun l j=>by
    induction l with
    |nil=>simp[capRefs]
    |cons c r ih=>cases c<;>simp[capRefs,ih]
   rw[cmem]at hj
   obtain⟨n,hn⟩:=jaK hj
   obtain⟨_,_,hg⟩:=zaE hs
   rw[hg n]at hn
   split at hn
   ·exact hmr j ((cmem _ _).2 (kZ hn))
   exact h0 j ((cmem _ _).2 (kZ hn))
  obtain⟨m,h5,h6,h7⟩:=zeo h h1 h4 hrf
  refine⟨m,?_,h6,h7⟩
  have hsz:(a.eval x).cells.size=size:=by rw[<- kB,<- hm.length,hlen]
  have hst:=zg7 h3
  rw[jaa]at hst
  have hle:¬(off+size > vs.toArray.size):=by have:=h2.length;simp;omega
  simp only[kY,Instr.fill,hp,hsz,ne_eq,jaS,decide_false,jaC,kA,hle,jaG]
  exact(jI (fun z=>Instr.fill place z (r.map fun p=>(p.1,a.eval p.2))) hst).trans h5
theorem zdm{op:BinOp}{k k':IntKind}{x y:Int}(hk:isShift op=true\/k=k'){K:AV->Prop}(hl:intBin op k x y fun r=>K (.d r)):Yd P cx γ s w (binOp op 0 (.int k x) (.int k' y)) K:=by
 cases op<;>simp only[intBin]at hl
 case shl=>
  refine .of (v:=.d (.int k (k.wrap (x*2^(min y.toNat k.bits))))) (x:=.int k (k.wrap (x*2^(min y.toNat k.bits)))) ?_ rfl (fun j hj=>by simp[AV.refs]at hj) hl.2
  simp[binOp,Op.shift,show ¬y<0 by omega]
 case shr=>
  refine .of (v:=.d (.int k (x.fdiv (2^(min y.toNat k.bits))))) (x:=.int k (x.fdiv (2^(min y.toNat k.bits)))) ?_ rfl (fun j hj=>by simp[AV.refs]at hj) hl.2
  simp[binOp,Op.shift,show ¬y<0 by omega]
 all_goals
  have hkk:k=k':=hk.resolve_left (by simp[isShift])
  subst hkk
 case add=>exact .of (v:=.d (.int k (x+y))) (x:=.int k (x+y)) (by simp[binOp,Op.intArith,zcz hl.1]) rfl (fun j hj=>by simp[AV.refs]at hj) hl.2
 case sub=>exact .of (v:=.d (.int k (x-y))) (x:=.int k (x-y)) (by simp[binOp,Op.intArith,zcz hl.1]) rfl (fun j hj=>by simp[AV.refs]at hj) hl.2
 case mul=>exact .of (v:=.d (.int k (x*y))) (x:=.int k (x*y)) (by simp[binOp,Op.intArith,zcz hl.1]) rfl (fun j hj=>by simp[AV.refs]at hj) hl.2
 case quo=>exact .of (v:=.d (.int k (x.tdiv y))) (x:=.int k (x.tdiv y)) (by simp[binOp,Op.intDiv,hl.1.1,zcz hl.1.2]) rfl (fun j hj=>by simp[AV.refs]at hj) hl.2
 case rem=>exact .of (v:=.d (.int k (x.tmod y))) (x:=.int k (x.tmod y)) (by simp[binOp,Op.intDiv,hl.1]) rfl (fun j hj=>by simp[AV.refs]at hj) hl.2
 case eql=>exact .of (v:=.d (.bool (x==y))) (x:=.bool (x==y)) (by simp[binOp,Op.intCmp]) rfl (fun j hj=>by simp[AV.refs]at hj) hl
 case neq=>exact .of (v:=.d (.bool (x != y))) (x:=.bool (x != y)) (by simp[binOp,Op.intCmp]) rfl (fun j hj=>by simp[AV.refs]at hj) hl
 case lss=>exact .of (v:=.d (.bool (decide (x<y)))) (x:=.bool (decide (x<y))) (by simp[binOp,Op.intCmp]) rfl (fun j hj=>by simp[AV.refs]at hj) hl
 case leq=>exact .of (v:=.d (.bool (decide (x<=y)))) (x:=.bool (decide (x<=y))) (by simp[binOp,Op.intCmp]) rfl (fun j hj=>by simp[AV.refs]at hj) hl
 case gtr=>exact .of (v:=.d (.bool (decide (y<x)))) (x:=.bool (decide (y<x))) (by simp[binOp,Op.intCmp]) rfl (fun j hj=>by simp[AV.refs]at hj) hl
 case geq=>exact .of (v:=.d (.bool (decide (y<=x)))) (x:=.bool (decide (y<=x))) (by simp[binOp,Op.intCmp]) rfl (fun j hj=>by simp[AV.refs]at hj) hl
 case and=>exact .of (v:=.d (.int k (k.wrap (BitVec.ofInt k.bits x&&&BitVec.ofInt k.bits y).toNat))) (x:=.int k (k.wrap (BitVec.ofInt k.bits x&&&BitVec.ofInt k.bits y).toNat)) (by unfold binOp;simp only[ne_eq,jaS,jaG];rfl) rfl (fun j hj=>by simp[AV.refs]at hj) hl
 case or=>exact .of (v:=.d (.int k (k.wrap (BitVec.ofInt k.bits x|||BitVec.ofInt k.bits y).toNat))) (x:=.int k (k.wrap (BitVec.ofInt k.bits x|||BitVec.ofInt k.bits y).toNat)) (by unfold binOp;simp only[ne_eq,jaS,jaG];rfl) rfl (fun j hj=>by simp[AV.refs]at hj) hl
 case xor=>exact .of (v:=.d (.int k (k.wrap (BitVec.ofInt k.bits x ^^^ BitVec.ofInt k.bits y).toNat))) (x:=.int k (k.wrap (BitVec.ofInt k.bits x ^^^ BitVec.ofInt k.bits y).toNat)) (by unfold binOp;simp only[ne_eq,jaS,jaG];rfl) rfl (fun j hj=>by simp[AV.refs]at hj) hl
 case andNot=>exact .of (v:=.d (.int k (k.wrap (BitVec.ofInt k.bits x&&& ~~~ BitVec.ofInt k.bits y).toNat))) (x:=.int k (k.wrap (BitVec.ofInt k.bits x&&& ~~~ BitVec.ofInt k.bits y).toNat)) (by unfold binOp;simp only[ne_eq,jaS,jaG];rfl) rfl (fun j hj=>by simp[AV.refs]at hj) hl
theorem zf5{op:BinOp}{k k':IntKind}{x y:Int}(hk:isShift op=true\/k=k'){K:AV->Prop}(hl:intBinW op k x y fun r=>K (.d r)):Yd P cx γ s w (binOp op 0 (.int k x) (.int k' y)) K:=by
 have old:∀op',op'=op->intBin op' k x y (fun r=>K (.d r))->Yd P cx γ s w (binOp op 0 (.int k x) (.int k' y)) K:=fun op' e h=>by subst e;exact zdm hk h
 cases op with
 |add=>
  have hkk:k=k':=hk.resolve_left (by simp[isShift])
  subst hkk
  exact .of (v:=.d (.int k (k.wrap (x+y)))) (x:=.int k (k.wrap (x+y))) (by simp[binOp,Op.intArith]) rfl (fun j hj=>by simp[AV.refs]at hj) hl
 |sub=>
  have hkk:k=k':=hk.resolve_left (by simp[isShift])
  subst hkk
  exact .of (v:=.d (.int k (k.wrap (x-y)))) (x:=.int k (k.wrap (x-y))) (by simp[binOp,Op.intArith]) rfl (fun j hj=>by simp[AV.refs]at hj) hl
 |mul=>
  have hkk:k=k':=hk.resolve_left (by simp[isShift])
  subst hkk
  exact .of (v:=.d (.int k (k.wrap (x*y)))) (x:=.int k (k.wrap (x*y))) (by simp[binOp,Op.intArith]) rfl (fun j hj=>by simp[AV.refs]at hj) hl
 | _=>exact old _ rfl hl
theorem zbO{op:BinOp}{t:TypeId}{x y:Operand}{u v:Value}(h:(∀cs,u≠ .agg cs)/\u≠ .nilIface):(eqGuard op t x y u v).run P w= .ok () w:=by
 unfold eqGuard
 cases u<;>first|exact absurd rfl (h.1 _)|exact absurd rfl h.2|(split<;>simp)
variable (hT:∀t i,T t=some i->TI.of P t=some i)(hE:∀t,E.eq t=true->EqFact P t)
include hT hE
omit hT hE in
theorem znf{op:BinOp}{t:Nat}{xv:Value}{u:AV}{K:AV->Prop}(h:binE T E op t (.d (.val xv)) u K):xv= .pointer none/\u= .d (.val (.pointer none))/\ptrQ T op t true K:=by
 cases xv with
 |pointer a=>
  cases a with
  |none=>
   cases u with
   |d q=>
    cases q with
    |val yv=>
     cases yv with
     |pointer b=>
      cases b with
      |none=>exact⟨rfl,rfl,h⟩
      |some b=>exact False.elim h
     | _=>exact False.elim h
    | _=>exact False.elim h
   | _=>exact False.elim h
  |some a=>cases u<;>exact False.elim h
 | _=>cases u<;>exact False.elim h
omit hT hE in
theorem zpr{op:BinOp}{t:Nat}{i o:Nat}{u:AV}{K:AV->Prop}(h:binE T E op t (.box i o) u K):u= .d (.val (.pointer none))/\ptrQ T op t false K:=by
 cases u with
 |d q=>
  cases q with
  |val yv=>
   cases yv with
   |pointer b=>
    cases b with
    |none=>exact⟨rfl,h⟩
    |some b=>exact False.elim h
   | _=>exact False.elim h
  | _=>exact False.elim h
 | _=>exact False.elim h
theorem ze3{op:BinOp}{t:Nat}{q:Option Addr}{ox oy:Operand}{K:AV->Prop}(hl:ptrQ T op t q.isNone K):
  Yd P cx γ s w (do eqGuard op t ox oy (.pointer q) (.pointer none);binOp op t (.pointer q) (.pointer none)) K:=by
 unfold ptrQ at hl
 cases hb:isPtrT T t with
 |false=>simp[hb]at hl
 |true=>
 unfold isPtrT at hb
 cases ht:T t with
 |none=>simp[ht]at hb
 |some ti=>
 obtain⟨size,ag,bytes,zero,kind⟩:=ti
 cases kind with
 |ptr=>
  obtain⟨info,d,z,_,hd,_,_,_,_,_,hk⟩:=zah (hT t _ ht)
  obtain⟨e,rfl⟩:=TK.of_ptr hk
  have hg:=fun op=>zbO (P:=P) (w:=w) (op:=op) (t:=t) (x:=ox) (y:=oy) (v:=.pointer none) (⟨fun _=>by simp,by simp⟩:(∀cs,Value.pointer q≠ .agg cs)/\Value.pointer q≠ .nilIface)
  have hq:(Op.equal t (.pointer q) (.pointer none)).run P w= .ok q.isNone w:=by
   have h:∀d:Nat,(Op.equalIn (d+1) t (.pointer q) (.pointer none)).run P w= .ok q.isNone w:=fun d=>by
    cases q<;>simp[Op.equalIn,run_underlying hd]
   simp[Op.equal,Op.maxDepth,h 9999]
  have hb':isPtrT T t=true:=by unfold isPtrT;simp[ht]
  simp only[hb']at hl
  cases op<;>simp only at hl
  case eql=>exact .of (v:=.d (.bool q.isNone)) (x:=.bool q.isNone) (by simp[hg,binOp,hq]) rfl (fun j hj=>by simp[AV.refs]at hj) hl
  case neq=>exact .of (v:=.d (.bool (!q.isNone))) (x:=.bool (!q.isNone)) (by simp[hg,binOp,hq]) rfl (fun j hj=>by simp[AV.refs]at hj) hl
 | _=>simp[ht]at hb
theorem zkt{op:BinOp}{t:Nat}{v u:AV}{x y:Value}{ox oy:Operand}(hm:M w (okOf cx s γ w) γ v x)(hu:M w (okOf cx s γ w) γ u y){K:AV->Prop}(hl:binE T E op t v u K):
  Yd P cx γ s w (do eqGuard op t ox oy x y;binOp op t x y) K:=by
 cases v with
 |d p=>
  cases p with
  |int k n=>
   cases u with
   |d q=>
    cases q with
    |int k' m=>
     simp only[binE]at hl
     have hx:x= .int k n:=hm
     have hy:y= .int k' m:=hu
     subst hx;subst hy
     cases hb:(isShift op||kbeq k k')with
     |false=>simp[hb]at hl
     |true=>
      simp only[hb,kT]at hl
      have hkk:isShift op=true\/k=k':=by simp only[jX]at hb;exact hb.imp id zhZ
      have hY:Yd P cx γ s w (binOp op 0 (.int k n) (.int k' m)) K:=by
       cases hw:E.cut wrapN with
       |true=>simp only[hw]at hl;exact zf5 hkk hl
       |false=>simp only[hw]at hl;exact zdm hkk hl
      obtain⟨v,x,h1,h2,h3,h4⟩:=hY
      refine⟨v,x,?_,h2,h3,h4⟩
      simp only[Sem.run_bind,zbO (⟨fun _=>by simp,by simp⟩:(∀cs,Value.int k n≠ .agg cs)/\Value.int k n≠ .nilIface),Result.andThen_ok]
      have:binOp op t (.int k n) (.int k' m)=binOp op 0 (.int k n) (.int k' m):=by cases op<;>rfl
      rw[this];exact h1
    | _=>simp[binE]at hl
   | _=>simp[binE]at hl
  |bool b=>
   cases u with
   |d q=>
    cases q with
    |bool c=>
     have hx:x= .bool b:=hm
     have hy:y= .bool c:=hu
     subst hx;subst hy
     simp only[binE]at hl
     cases hb:isBoolT T t with
     |false=>simp[hb]at hl
     |true=>
      unfold isBoolT at hb
      cases ht:T t with
      |none=>simp[ht]at hb
      |some ti=>
       obtain⟨size,ag,bytes,zero,kind⟩:=ti
       cases kind with
       |bool=>
        obtain⟨info,d,z,_,hd,_,_,_,_,_,hk⟩:=zah (hT t _ ht)
        have hds:=TK.of_bool hk
        subst hds
        have hg:=fun op=>zbO (P:=P) (w:=w) (op:=op) (t:=t) (x:=ox) (y:=oy) (v:=.bool c) (⟨fun _=>by simp,by simp⟩:(∀cs,Value.bool b≠ .agg cs)/\Value.bool b≠ .nilIface)
        have hq:(Op.equal t (.bool b) (.bool c)).run P w= .ok (b==c) w:=by
         exact run_equalIn_bool' w 9999 t b c hd
        have hb':isBoolT T t=true:=by unfold isBoolT;simp[ht]
        simp only[hb']at hl
        cases op<;>simp only at hl
        case eql=>exact .of (v:=.d (.bool (b==c))) (x:=.bool (b==c)) (by simp[hg,binOp,hq]) rfl (fun j hj=>by simp[AV.refs]at hj) hl
        case neq=>exact .of (v:=.d (.bool (!(b==c)))) (x:=.bool (!(b==c))) (by simp[hg,binOp,hq]) rfl (fun j hj=>by simp[AV.refs]at hj) hl
       | _=>simp[ht]at hb
    | _=>simp[binE]at hl
   | _=>simp[binE]at hl
  |val xv=>
   obtain⟨rfl,rfl,hl⟩:=znf hl
   obtain⟨rfl,_⟩:=hm
   obtain⟨rfl,_⟩:=hu
   exact ze3 hT hE (q:=none) hl
  | _=>cases u<;>simp[binE]at hl
 |agg xs=>
  cases u with
  |agg ys=>
   simp only[binE]at hl
   cases ht:E.eq t with
   |false=>simp[ht]at hl
   |true=>
    cases hti:T t with
    |none=>simp[ht,hti]at hl
    |some ti=>
    cases hd:eqDs xs ys with
    |none=>simp[ht,hti,hd]at hl
    |some b=>
     simp only[ht,hti,hd]at hl
     cases hln:Nat.beq xs.length ti.size with
     |false=>simp[hln]at hl
     |true=>
     simp only[hln,kT]at hl
     obtain⟨vs,rfl,hvs⟩:=hm
     obtain⟨us,rfl,hus⟩:=hu
     obtain⟨h1,h2⟩:=hE t ht w (okOf cx s γ w) xs ys vs us b ox oy ⟨ti,hT t ti hti,jA hln⟩ hd hvs hus
     cases op<;>simp only at hl
     case eql=>exact .of (v:=.d (.bool b)) (x:=.bool b) h1 rfl (fun j hj=>by simp[AV.refs]at hj) hl
     case neq=>exact .of (v:=.d (.bool !b)) (x:=.bool !b) h2 rfl (fun j hj=>by simp[AV.refs]at hj) hl
  | _=>simp[binE]at hl
 |box i o=>
  obtain⟨rfl,hl⟩:=zpr hl
  obtain⟨b,_,rfl⟩:=hm
  obtain⟨rfl,_⟩:=hu
  exact ze3 hT hE (q:=some _) hl
 | _=>cases u<;>simp[binE]at hl
end
end Go.Pg
