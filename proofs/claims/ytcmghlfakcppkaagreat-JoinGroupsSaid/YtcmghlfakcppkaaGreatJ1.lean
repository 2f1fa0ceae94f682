/- Lemmas, joined by program. -/
import Derived.Below
import Derived.CallsIn
import Derived.OrdersIn
import Derived.Laws.OwnMore
import Derived.Deep.Draws
import Derived.RangeFuncNested
import Derived.RangeFuncLeaves
set_option maxHeartbeats 4000000
set_option linter.all false
namespace Go
def jA:=@Nat.eq_of_beq_eq_true
def jB:=@Array.getElem?_eq_some_iff
def jC:=@List.all_eq_true
def jD:=@Nat.le_of_ble_eq_true
def jE:=@Nat.le_refl
def jF:=@Nat.zero_le
def jG:=@decide_eq_true
def jH:=@decide_eq_false
def jI:=@congrArg
def jJ:=@List.getElem?_append_left
def jK:=@List.getElem?_append_right
def jL:=@Classical.byContradiction
def jM:=@Nat.le_trans
def jN:=@Nat.lt_of_lt_of_le
def jO:=@Option.some.injEq
def jP:=@Bool.and_eq_true
def jQ:=@List.length_take
def jR:=@List.length_append
def jS:=@List.getElem?_take
def jT:=@List.map_append
def jU:=@List.getElem?_map
def jV:=@Int.mul_le_mul_of_nonneg_right
def jW:=@Nat.mul_le_mul_right
def jX:=@Bool.or_eq_true
def jY:=@Bool.not_eq_true'
def jZ:=@List.take_length
def kA:=@decide_eq_true_eq
def kB:=@Array.length_toList
def kC:=@List.getElem?_eq_some_iff
def kD:=@List.contains_iff_mem
def kE:=@Nat.sub_self
def hZ:=@List.getD_eq_getElem?_getD
def kF:=@List.getElem?_eq_getElem
def kG:=@if_neg
def kH:=@if_pos
def kI:=@List.mem_singleton
def kJ:=@List.mem_map
def kK:=@List.mem_range
def kL:=@List.mem_append
def kM:=@List.any_eq_true
def kN:=@List.pairwise_iff_getElem
def kO:=@List.length_map
def kP:=@List.getElem_of_mem
def kQ:=@Bool.eq_iff_iff
def kR:=@List.getElem_mem
def kS:=@List.mem_filter
def kT:=@cond_true
def kU:=@of_decide_eq_true
def kV:=@List.filter_append
def kW:=@Bool.and_false
def kX:=@decide_eq_true_iff
def kY:=@List.map_cons
def kZ:=@List.mem_of_getElem?
def k9:=@Bool.or_true
def qA:=@List.filter_cons_of_pos
def qB:=@Nat.zero_add
def qC:=@List.mem_cons
def qD:=@List.length_filter_le
def qE:=@Bool.true_and
def qF:=@List.filter_cons_of_neg
def qG:=@Nat.add_mul
def qH:=@List.map_congr_left
def qI:=@decide_eq_decide
def qJ:=@Nat.not_lt_zero
def qK:=@Bool.false_and
def qL:=@Option.map_some
def qM:=@Nat.mul_comm
def qN:=@Bool.or_eq_false_iff
def qO:=@List.drop_eq_getElem_cons
def qP:=@Array.getD_eq_getD_getElem?
def qQ:=@Bool.not_eq_false'
def qR:=@List.length_singleton
def qS:=@Bool.true_or
def qT:=@Bool.false_eq_true
def qU:=@List.range_succ
def qV:=@List.mem_append_left
def qW:=@Bool.eq_false_iff
def qX:=@List.length_mergeSort
def qY:=@List.mem_of_mem_take
def qZ:=@Bool.or_false
def wA:=@Option.isSome_iff_exists
def wB:=@Int.toNat_natCast
def wC:=@List.getElem?_drop
def wD:=@Int.tmod_lt_of_pos
def wE:=@Int.tmod_eq_emod_of_nonneg
def wF:=@List.getElem?_range
def wG:=@List.getElem?_cons_succ
def wI:=@List.nodup_cons
def wJ:=@List.foldl_append
def wK:=@Int.mul_nonneg
def wL:=@Array.getElem?_eq_getElem
def jaa:=@Array.toArray_toList
def jab:=@of_decide_eq_false
def jac:=@Bool.and_true
def jad:=@List.getElem?_eq_none
def jae:=@Int.mul_comm
def jaf:=@List.nodup_nil
def jag:=@List.length_drop
def jah:=@Nat.pow_le_pow_right
def jai:=@beq_iff_eq
def jaj:=@Array.getElem?_eq_none
def jak:=@Option.some.inj
def jal:=@List.length_set
def jam:=@List.not_mem_nil
def jan:=@Array.mem_append
def jao:=@Bool.not_eq_false
def jap:=@Nat.lt_one_iff
def jaq:=@Nat.eq_zero_or_pos
def jar:=@List.mem_cons_self
def jas:=@List.cons.injEq
def jat:=@List.append_nil
def jau:=@Nat.mod_lt
def jav:=@List.mem_cons_of_mem
def jaw:=@Ne.symm
def jax:=@beq_eq_false_iff_ne
def jay:=@List.any_eq_false
def jaz:=@Nat.add_assoc
def jaA:=@List.all_cons
def jaB:=@Bool.not_true
def jaC:=@Bool.false_or
def jaD:=@Nat.lt_or_ge
def jaE:=@List.foldl_cons
def jaF:=@Int.le_of_lt
def jaG:=@if_false
def jaH:=@beq_self_eq_true
def jaI:=@Nat.mod_eq_of_lt
def jaJ:=@Int.mul_le_mul_of_nonneg_left
def jaK:=@List.getElem?_of_mem
def jaL:=@List.mergeSort_perm
def jaM:=@Int.le_ediv_iff_mul_le
def jaN:=@Array.getElem?_append_left
def jaO:=@Classical.choose_spec
def jaP:=@Array.mem_of_getElem?
def jaQ:=@Int.sub_mul
def jaR:=@Nat.div_lt_of_lt_mul
def jaS:=@not_true_eq_false
def jaT:=@List.size_toArray
def jaU:=@Array.setIfInBounds_comm
def jaV:=@getElem!_pos
def jaW:=@decide_eq_false_iff_not
def jaX:=@List.length_pos_iff
def jaY:=@Int.le_refl
def jaZ:=@Nat.testBit_lt_two_pow
def ja0:=@Nat.div_add_mod
def ja1:=@List.map_nil
def ja2:=@Array.getElem?_toList
def ja3:=@List.getElem_take
def ja4:=@List.filter_congr
def ja5:=@Int.tdiv_eq_ediv_of_nonneg
def ja6:=@Nat.eq_of_testBit_eq
def ja7:=@List.mem_of_mem_drop
def ja8:=@Option.some_or
def ja9:=@List.drop_length
def jba:=@List.flatMap_append
def jbb:=@List.map_map
def jbc:=@List.idxOf_lt_length_iff
def jbd:=@Nat.mul_add_mod
def jbe:=@if_true
def jbf:=@Nat.lt_trichotomy
def jbg:=@List.nodup_append
def jbh:=@Int.mul_pos
def jbi:=@Array.getElem?_setIfInBounds_ne
def jbj:=@Nat.mul_le_mul
def jbk:=@List.all_nil
def jbl:=@Int.ediv_le_of_le_mul
def jbm:=@Array.getElem?_modify
def jbn:=@Nat.div_eq_of_lt
def jbo:=@List.mem_toArray
def jbp:=@List.length_cons
def jbq:=@List.length_finRange
def jbr:=@List.forall_mem_cons
def jbs:=@or_false
def jbt:=@Nat.testBit_and
def jbu:=@List.filter_sublist
def jbv:=@Int.sub_mul_emod_self_left
def jbw:=@List.length_attach
def jbx:=@Int.neg_tmod
def jby:=@Int.lt_or_le
def jbz:=@Int.emod_lt_of_pos
def jbA:=@Int.add_emod_right
def jbB:=@List.mem_or_eq_of_mem_set
def jbC:=@List.mapM_cons
def jbD:=@Array.mapM_eq_mapM_toList
def jbE:=@Option.bind_eq_some_iff
def jbF:=@List.length_eq_zero_iff
def jbG:=@Int.neg_mul
def jbH:=@Iff.rfl
def jbI:=@Eq.trans
def jbJ:=@Classical.axiomOfChoice
end Go
namespace Go.Pg
open Go.RowKit
inductive D where
  |int (k:IntKind) (n:Int)
  |bool (b:Bool)
  |str (s:ByteArray)
  |fn (f:FuncId)
  |nil
  |slc (k n:Nat) (f:Nat->Nat->D)
  |ptr (m:Nat) (h:Nat->D)
  |clo (f:FuncId) (m:Nat) (g:Nat->D)
  |val (v:Value)
  |ifc (u m:Nat) (g:Nat->D)
  |bnd (f:FuncId) (m:Nat) (g:Nat->D)
  |mp (m:Nat) (ks:List (List Int)) (f:Nat->D)
inductive Cap where
  |own (i:Nat)
  |dat (x:D)
inductive V1 where
  |d (x:D)
  |agg (xs:List D)
inductive AV where
  |any
  |d (x:D)
  |agg (xs:List D)
  |tup (l:List V1)
  |nilsl
  |box (i off:Nat)
  |own (i:Nat)
  |elt (i k n c:Nat)
  |sub (i k lo n:Nat)
  |pre (i n:Nat)
  |roe (m:Nat) (h:Nat->D)
  |clo (f:FuncId) (caps:List Cap)
  |pin (i:Nat) (v:Value)
  |pbox (i:Nat) (v:Value)
  |gho (m:Option Nat)
  |yl (l:Nat)
  |tupo (i:Nat) (l:List V1)
  |tupr (i:Nat) (l:List V1)
  |aggc (cs:List Cap)
  |bsl (i n c:Nat)
  |undef
inductive Ob where
  |box (cs:List AV)
  |row (e k n:Nat) (f:Nat->Nat->D)
  |mp (m:Nat) (ks:List (List Int)) (f:Nat->D)
structure St where
  sl:Nat->AV
  ob:Nat->Option Ob
def upd{α:Type}(s:Nat->α)(t:Nat)(v:α):Nat->α:=fun u=>bif Nat.beq u t then v else s u
def St.put(s:St)(t:Nat)(v:AV):St:=⟨upd s.sl t v,s.ob⟩
def St.putO(s:St)(t:Option Nat)(v:AV):St:=match t with|some t=>s.put t v|none=>s
def St.setOb(s:St)(i:Nat)(o:Option Ob):St:=⟨s.sl,upd s.ob i o⟩
def capRefs:List Cap->List Nat
 | []=>[]
 | .own i::r=>i::capRefs r
 | .dat _::r=>capRefs r
def AV.refs:AV->List Nat
 | .box i _=>[i]
 | .own i=>[i]
 | .elt i _ _ _=>[i]
 | .sub i _ _ _=>[i]
 | .pre i _=>[i]
 | .clo _ caps=>capRefs caps
 | .pin i _=>[i]
 | .pbox i _=>[i]
 | .tupo i _=>[i]
 | .tupr i _=>[i]
 | .aggc cs=>capRefs cs
 | .bsl i _ _=>[i]
 | _=>[]
def AV.hasRef(i:Nat)(v:AV):Bool:=v.refs.any (Nat.beq i)
def AV.purge(i:Nat)(v:AV):AV:=match v.hasRef i with|true=>.any|false=>v
def Ob.purge(i:Nat):Ob->Ob
 | .box cs=>.box (cs.map (AV.purge i))
 |o=>o
def St.drop(s:St)(i:Nat):St:=⟨fun t=>(s.sl t).purge i,upd (fun j=>(s.ob j).map (Ob.purge i)) i none⟩
theorem zho{u t:Nat}(h:u≠t):Nat.beq u t=false:=qW.2 fun e=>h (jA e)
theorem zay(u:Nat):Nat.beq u u=true:=by induction u<;>simp_all [Nat.beq]
@[simp] theorem zac{α:Type}(s:Nat->α)(t:Nat)(v:α):upd s t v t=v:=by simp[upd,zay]
theorem zai{α:Type}(s:Nat->α){t u:Nat}(v:α)(h:u≠t):upd s t v u=s u:=by simp[upd,zho h]
theorem zat{α:Type}(s:Nat->α)(t:Nat)(v:α)(u:Nat):upd s t v u=if u=t then v else s u:=by
 by_cases h:u=t
 ·subst h;simp
 rw[zai s v h,kG h]
def kv:List Int->Value
 | [n]=>.int .i64 n
 |l=>.agg (l.map (Value.int .i64)).toArray
def Rep(w:World)(ok:Nat->Prop):D->Value->Prop
 | .int k n,v=>v= .int k n
 | .bool b,v=>v= .bool b
 | .str s,v=>v= .string s
 | .fn f,v=>v= .func (.func f) #[] #[]
 | .nil,v=>v= .slice none 0 0
 | .slc k n f,v=>(v= .slice none 0 0/\n=0)\/
   ∃(a:Addr) (cap:Nat),v= .slice (some a) n cap/\n<=cap/\cap<=maxLen/\∀i,i<n->∀j,j<k->ok a.block/\∃u,w.cell? (a.add (i*k+j))=some u/\Rep w ok (f i j) u
 | .ptr m h,v=>∃a:Addr,v= .pointer (some a)/\∀j,j<m->ok a.block/\∃u,w.cell? (a.add j)=some u/\Rep w ok (h j) u
 | .clo f m g,v=>∃vs:List Value,v= .func (.func f) #[] vs.toArray/\vs.length=m/\∀j,j<m->∃u,vs[j]?=some u/\Rep w ok (g j) u
 | .val x,v=>v=x/\x.oneCell'=true
 | .ifc t m g,v=>∃vs:List Value,v= .iface t (.agg vs.toArray)/\vs.length=m/\∀j,j<m->∃u,vs[j]?=some u/\Rep w ok (g j) u
 | .bnd f m g,v=>∃vs:List Value,v= .func (.func f) #[.agg vs.toArray] #[]/\vs.length=m/\∀j,j<m->∃u,vs[j]?=some u/\Rep w ok (g j) u
 | .mp m ks f,v=>∃(b:Nat) (es:List MapEntry) (c:Nat),v= .map (some b)/\ok b/\w.heap[b]?=some (.map es.toArray c)/\((es.map fun e=>e.key)=ks.map kv/\(∀k∈ks,k.length=m))/\∀j,j<ks.length->∃e,es[j]?=some e/\Rep w ok (f j) e.val
inductive All2{α β:Type}(r:α->β->Prop):List α->List β->Prop
 |nil:All2 r [] []
 |cons {x y xs ys}:r x y->All2 r xs ys->All2 r (x::xs) (y::ys)
def Rep1(w:World)(ok:Nat->Prop):V1->Value->Prop
 | .d x,v=>Rep w ok x v
 | .agg xs,v=>∃vs:List Value,v= .agg vs.toArray/\All2 (Rep w ok) xs vs
def CapM(w:World)(ok:Nat->Prop)(γ:Nat->Value):Cap->Value->Prop
 | .own i,u=>u=γ i
 | .dat x,u=>Rep w ok x u
def M(w:World)(ok:Nat->Prop)(γ:Nat->Value):AV->Value->Prop
 | .any,_=>True
 | .d x,v=>Rep w ok x v
 | .agg xs,v=>∃vs:List Value,v= .agg vs.toArray/\All2 (Rep w ok) xs vs
 | .tup l,v=>∃vs:List Value,v= .tuple vs.toArray/\All2 (Rep1 w ok) l vs
 | .nilsl,v=>v= .slice none 0 0
 | .box i off,v=>∃b,γ i= .pointer (some ⟨b,0,none⟩)/\v= .pointer (some ⟨b,off,none⟩)
 | .own i,v=>v=γ i
 | .elt i k n c,v=>∃g len cap,γ i= .slice (some ⟨g,0,none⟩) len cap/\v= .pointer (some ⟨g,n*k+c,none⟩)
 | .sub i k lo n,v=>(n=0/\∃ad c,v= .slice ad 0 c)\/∃g len cap cap',γ i= .slice (some ⟨g,0,none⟩) len cap/\v= .slice (some ⟨g,lo*k,none⟩) n cap'
 | .pre i n,v=>∃g len cap,γ i= .slice (some ⟨g,0,none⟩) len cap/\v= .slice (some ⟨g,0,none⟩) n cap
 | .roe m h,v=>∃a:Addr,v= .pointer (some a)/\∀j,j<m->ok a.block/\∃u,w.cell? (a.add j)=some u/\Rep w ok (h j) u
 | .clo f caps,v=>∃vs:List Value,v= .func (.func f) #[] vs.toArray/\All2 (CapM w ok γ) caps vs
 | .pin i u,v=>v=γ i/\v=u
 | .pbox i u,v=>(∃b,γ i= .pointer (some ⟨b,0,none⟩)/\v= .pointer (some ⟨b,0,none⟩))/\v=u
 | .gho _,v=>v=Go.undef
 | .yl l,v=>v= .func (.yield l) #[] #[]
 | .tupo i l,v=>∃(b:Nat) (vs:List Value),γ i= .pointer (some ⟨b,0,none⟩)/\v= .tuple (.pointer (some ⟨b,0,none⟩)::vs).toArray/\All2 (Rep1 w ok) l vs
 | .tupr i l,v=>∃vs:List Value,v= .tuple (γ i::vs).toArray/\All2 (Rep1 w ok) l vs
 | .aggc cs,v=>∃vs:List Value,v= .agg vs.toArray/\All2 (CapM w ok γ) cs vs
 | .bsl i n c,v=>∃b,γ i= .pointer (some ⟨b,0,none⟩)/\v= .slice (some ⟨b,0,none⟩) n c/\n<=c/\c<=maxLen
 | .undef,v=>v=Go.undef
def blk:Value->Option Nat
 | .pointer (some a)=>some a.block
 | .slice (some a) _ _=>some a.block
 | .map (some b)=>some b
 | _=>none
def Holds(w:World)(O:Nat->Prop)(ok:Nat->Prop)(γ:Nat->Value)(i:Nat):Ob->Prop
 | .box cs=>∃(b:Nat) (vs:List Value) (T:TypeId),γ i= .pointer (some ⟨b,0,none⟩)/\O b/\w.heap[b]?=some (.cells vs.toArray T (0,0))/\
   All2 (fun c v=>M w ok γ c v/\v.oneCell'=true) cs vs
 | .row e k n f=>∃xs:List Value,w.ownsRow 0 e k (γ i) n xs/\(∀b,blk (γ i)=some b->O b)/\(∀u∈xs,u.oneCell'=true)/\∀m,m<n->∀j,j<k->∃u,xs[m*k+j]?=some u/\Rep w ok (f m j) u
 | .mp m ks f=>∃(b:Nat) (es:List MapEntry) (c:Nat),γ i= .map (some b)/\O b/\w.heap[b]?=some (.map es.toArray c)/\((es.map fun e=>e.key)=ks.map kv/\(∀k∈ks,k.length=m))/\∀j,j<ks.length->∃e,es[j]?=some e/\Rep w ok (f j) e.val
structure Cx where
  w0:World
  okA:Nat->Prop
  N:Nat
  lent:Nat->Prop
  hold:Nat->Obj->Prop
  least:Nat
  dr:Bool
  gn:Option Nat
  nod:Bool
abbrev G:Nat:=4294967296
def Cx.O(cx:Cx)(b:Nat):Prop:=cx.w0.heap.size<=b\/cx.lent b
def okOf(cx:Cx)(s:St)(γ:Nat->Value)(w:World)(b:Nat):Prop:=
 cx.okA b\/(cx.O b/\b<w.heap.size/\∀i o,s.ob i=some o->blk (γ i)≠some b)
def mark(D:Nat):Deferred:={ target:=.collected D,args:=#[] }
def Marks(cx:Cx)(w:World)(ds:List Deferred):Prop:=(cx.nod=true->ds=[])/\∃ms:List Nat,ds=ms.map mark/\ms.Nodup/\∀D∈ms,cx.w0.heap.size<=D/\w.heap[D]?=some (.deferred (some []))
structure Bel(cx:Cx)(w:World):Prop where
  os:w.os=cx.w0.os
  tape:w.tape=cx.w0.tape
  output:w.output=cx.w0.output
  drawn:cx.dr=true->cx.w0.drawn<=w.drawn
  size:cx.w0.heap.size<=w.heap.size
  block:∀k,k<cx.w0.heap.size->¬cx.lent k->w.heap[k]?=cx.w0.heap[k]?
structure RG(cx:Cx)(γ:Nat->Value)(s:St)(a:Act)(w:World):Prop where
  defers:Marks cx w a.defers
  size:a.tmps.size=cx.N
  okA:∀b,cx.okA b->b<cx.w0.heap.size/\¬cx.lent b
  lent:∀b,cx.lent b->b<cx.w0.heap.size
  below:Bel cx w
  hold:∀k o,cx.hold k o->w.heap[k]?=some o/\∀i p,s.ob i=some p->blk (γ i)≠some k
  least:cx.least<=w.heap.size
  objs:∀i o,s.ob i=some o->Holds w cx.O (okOf cx s γ w) γ i o
  refs:∀i cs,s.ob i=some (.box cs)->∀c∈cs,∀j∈c.refs,(s.ob j).isSome=true
  sep:∀i j o o',s.ob i=some o->s.ob j=some o'->i≠j->∀b,blk (γ i)=some b->blk (γ j)≠some b
  slots:∀t,M w (okOf cx s γ w) γ (s.sl t) (a.tmps.getD t undef)
  srefs:∀t,∀j∈(s.sl t).refs,(s.ob j).isSome=true
  gho:∀m,s.sl G= .gho m->cx.gn=m
  ng:cx.N<=G
def R(cx:Cx)(s:St)(a:Act)(w:World):Prop:=∃γ,RG cx γ s a w
def RF(Fm:Cx->Prop)(s:St)(a:Act)(w:World):Prop:=∃cx,Fm cx/\R cx s a w
theorem zdP{p:Program}{w:World}{at_:Addr}{u:TypeId}{k:Addr}{v:Value}{at':Bool}{r:World×List Addr}(h:w.viewStore p at_ u k v at'= .ok r):r.1.drawn=w.drawn:=by
 unfold World.viewStore at h
 simp only[bind,Except.bind,pure,Except.pure]at h
 repeat' split at h
 all_goals first
  |cases h;rfl
  |cases h
theorem zeK{p:Program}{w:World}{a:Addr}{v:Value}{at':Bool}{r:World×List Addr}(h:w.farStore p a v at'= .ok r):r.1.drawn=w.drawn:=by
 unfold World.farStore at h
 split at h
 ·split at h
  ·rename_i h1;cases h;exact zdP h1
  cases h
 cases h
theorem zex{α:Type}:∀(q:Ask α) (w:World),w.drawn<=(w.ask q).2.drawn
 | .done a,w=>jE _
 | .ask what range k,w=>by
  unfold World.ask
  simp only
  split
  ·exact zex (k 0) w
  exact jM (Nat.le_succ _) (zex (k _) { w with drawn:=w.drawn+1 })
theorem zkU(w:World)(c:Sys):w.drawn<=(w.sys c).2.drawn:=by
 unfold World.sys
 have:=zex (Kernel.perform c w.os) w
 split
 ·exact jE _
 rename_i h;rw[h]at this;exact this
theorem zbc{P:Program}{α:Type}:∀(e:Sem α) {w:World}{x:α}{w':World},e.run P w= .ok x w'->w.drawn<=w'.drawn:=by
  intro e
  induction e with
  |pure a=>intro w x w' h;simp [Sem.run]at h;rw [h.2];exact jE _
  |load m a k ih=>
   intro w x w' h
   simp only [Sem.run]at h
   split at h
   · exact ih _ h
   · split at h
     · exact ih _ h
     · cases h
  |store m a v k ih=>
   intro w x w' h
   cases v<;>simp only [Sem.run]at h<;>first
     |(cases h;done)
     |(split at h
       · split at h
         · cases h
         exact ih (w:=w.setCell _ _) h
       · split at h
         · rename_i h1;have h2:=zeK h1;have h3:=ih h;simp only at h2;omega
         · cases h)
  |new o k ih=>intro w x w' h;exact ih _ (w:= { w with heap:=w.heap.push o }) h
  |shape r k ih=>intro w x w' h;exact ih _ h
  |freeze a n k ih=>
   intro w x w' h
   have:=ih (w:=w.freeze a n) h
   have e:(w.freeze a n).drawn=w.drawn:=by unfold World.freeze;split<;>rfl
   omega
  |frozen a k ih=>intro w x w' h;exact ih _ h
  |getObj r k ih=>
   intro w x w' h
   simp only [Sem.run]at h
   split at h
   · cases h
   · exact ih _ h
   · cases h
  |setObj r o k ih=>
   intro w x w' h
   simp only [Sem.run]at h
   split at h
   · cases h
   · exact ih (w:= { w with heap:=w.heap.setIfInBounds r o }) h
   · cases h
  |choose q k ih=>
   intro w x w' h
   simp only [Sem.run]at h
   split at h
   · exact ih _ h
   · exact jM (Nat.le_succ _) (ih _ (w:= { w with drawn:=w.drawn+1 }) h)
  |sys c k ih=>intro w x w' h;exact jM (zkU w c) (ih _ h)
  |program k ih=>intro w x w' h;exact ih _ h
  |mark m k ih=>intro w x w' h;exact ih h
  |halt h=>intro w x w' h;cases h
section
variable {w w':World}{ok ok':Nat->Prop}{γ γ':Nat->Value}
theorem All2.imp{α β:Type}{r r':α->β->Prop}{xs:List α}{ys:List β}(h:All2 r xs ys)(hr:∀x y,x∈xs->r x y->r' x y):All2 r' xs ys:=by
 induction h with
 |nil=>exact .nil
 |cons h1 _ ih=>exact .cons (hr _ _ (by simp) h1) (ih fun x y hx=>hr x y (by simp[hx]))
theorem All2.length{α β:Type}{r:α->β->Prop}{xs:List α}{ys:List β}(h:All2 r xs ys):xs.length=ys.length:=by
 induction h<;>simp_all
theorem All2.get{α β:Type}{r:α->β->Prop}{xs:List α}{ys:List β}(h:All2 r xs ys):∀(j:Nat) (x:α),xs[j]?=some x->∃y,ys[j]?=some y/\r x y:=by
 induction h with
 |nil=>intro j x h;simp at h
 |cons h1 _ ih=>
 intro j x hx
 cases j with
 |zero=>simp at hx;subst hx;exact⟨_,rfl,h1⟩
 |succ j=>simpa using ih j x (by simpa using hx)
theorem All2.of_get{α β:Type}{r:α->β->Prop}:∀{xs:List α}{ys:List β},xs.length=ys.length->(∀(j:Nat) (x:α) (y:β),xs[j]?=some x->ys[j]?=some y->r x y)->All2 r xs ys
 | [],[],_,_=>.nil
 |x::xs,y::ys,hl,h=>.cons (h 0 x y rfl rfl) (All2.of_get (by simpa using hl) fun j a b ha hb=>h (j+1) a b (by simpa using ha) (by simpa using hb))
 | [],_::_,hl,_=>by simp at hl
 | _::_,[],hl,_=>by simp at hl
theorem All2.append{α β:Type}{r:α->β->Prop}{xs xs':List α}{ys ys':List β}(h:All2 r xs ys)(h':All2 r xs' ys'):All2 r (xs++xs') (ys++ys'):=by
 induction h with
 |nil=>exact h'
 |cons h1 _ ih=>exact .cons h1 ih
theorem All2.map_left{α β δ:Type}{r:δ->β->Prop}{g:α->δ}{xs:List α}{ys:List β}(h:All2 (fun x y=>r (g x) y) xs ys):All2 r (xs.map g) ys:=by
 induction h with
 |nil=>exact .nil
 |cons h1 _ ih=>exact .cons h1 ih
def Kpt(w w':World)(b:Nat):Prop:=(∀(ad:Addr) (u:Value),ad.block=b->w.cell? ad=some u->w'.cell? ad=some u)/\∀es c,w.heap[b]?=some (.map es c)->w'.heap[b]?=some (.map es c)
theorem zea{b:Nat}(h:w'.heap[b]?=w.heap[b]?):Kpt w w' b:=⟨fun ad u hb hc=>by
 subst hb
 rw[World.cell?_of_block (w:=w) h];exact hc,fun es c e=>h.trans e⟩
theorem zaK(a:Addr)(n:Nat):(a.add n).block=a.block:=by unfold Addr.add;split<;>rfl
theorem zcV(a:Addr)(i j:Nat):(a.add i).add j=a.add (i+j):=by
 unfold Addr.add
 by_cases hi:i=0<;>by_cases hj:j=0<;>simp[hi,hj,jaz]
theorem zaw(g o n:Nat):(⟨g,o,none⟩:Addr).add n=⟨g,o+n,none⟩:=by unfold Addr.add;split<;>simp_all
theorem Rep.keep0(hk:∀b,ok b->ok' b/\Kpt w w' b):∀{x:D}{v:Value},Rep w ok x v->Rep w' ok' x v:=by
 intro x
 induction x with
 |int k n=>exact fun h=>h
 |bool b=>exact fun h=>h
 |str s=>exact fun h=>h
 |fn f=>exact fun h=>h
 |nil=>exact fun h=>h
 |slc k n f ih=>
  intro v h
  rcases h with h|⟨a,cap,hv,h1,h2,h3⟩
  ·exact .inl h
  ·refine .inr ⟨a,cap,hv,h1,h2,fun i hi j hj=>?_⟩
   obtain⟨h4,u,hu,hr⟩:=h3 i hi j hj
   exact⟨(hk _ h4).1,u,(hk _ h4).2.1 _ _ (zaK _ _) hu,ih i j hr⟩
 |ptr m g ih=>
  intro v h
  obtain⟨a,hv,h3⟩:=h
  refine⟨a,hv,fun j hj=>?_⟩
  obtain⟨h4,u,hu,hr⟩:=h3 j hj
  exact⟨(hk _ h4).1,u,(hk _ h4).2.1 _ _ (zaK _ _) hu,ih j hr⟩
 |clo f m g ih=>
  intro v h
  obtain⟨vs,hv,hl,h3⟩:=h
  refine⟨vs,hv,hl,fun j hj=>?_⟩
  obtain⟨u,hu,hr⟩:=h3 j hj
  exact⟨u,hu,ih j hr⟩
 |val x=>exact fun h=>h
 |ifc t m g ih|bnd t m g ih=>
  intro v h
  obtain⟨vs,hv,hl,h3⟩:=h
  refine⟨vs,hv,hl,fun j hj=>?_⟩
  obtain⟨u,hu,hr⟩:=h3 j hj
  exact⟨u,hu,ih j hr⟩
 |mp m ks g ih=>
 intro v h
 obtain⟨b,es,c,hv,h1,h2,h3,h4⟩:=h
 refine⟨b,es,c,hv,(hk b h1).1,(hk b h1).2.2 _ _ h2,h3,fun j hj=>?_⟩
 obtain⟨e,he,hr⟩:=h4 j hj
 exact⟨e,he,ih j hr⟩
theorem Rep1.keep0(hk:∀b,ok b->ok' b/\Kpt w w' b){x:V1}{v:Value}(h:Rep1 w ok x v):Rep1 w' ok' x v:=by
 cases x with
 |d x=>exact Rep.keep0 hk h
 |agg xs=>obtain⟨vs,hv,h⟩:=h;exact⟨vs,hv,h.imp fun _ _ _=>Rep.keep0 hk⟩
theorem CapM.keep0(hk:∀b,ok b->ok' b/\Kpt w w' b){c:Cap}{v:Value}(hγ:∀i∈capRefs [c],γ' i=γ i)(h:CapM w ok γ c v):CapM w' ok' γ' c v:=by
 cases c with
 |own i=>exact jbI h (hγ i (by simp[capRefs])).symm
 |dat x=>exact Rep.keep0 hk h
theorem za8{c:Cap}{l:List Cap}(h:c∈l){i:Nat}(hi:i∈capRefs [c]):i∈capRefs l:=by
 induction l with
 |nil=>cases h
 |cons d r ih=>
 rcases qC.1 h with rfl|h'
 ·cases c with
  |own j=>simp[capRefs]at hi⊢;exact .inl hi
  |dat x=>simp[capRefs]at hi
 cases d with
 |own j=>simp[capRefs];exact .inr (ih h')
 |dat x=>simp[capRefs];exact ih h'
theorem M.keep0(hk:∀b,ok b->ok' b/\Kpt w w' b){x:AV}{v:Value}(hγ:∀i∈x.refs,γ' i=γ i)(h:M w ok γ x v):M w' ok' γ' x v:=by
 cases x with
 |any=>exact trivial
 |d x=>exact Rep.keep0 hk h
 |agg xs=>obtain⟨vs,hv,h⟩:=h;exact⟨vs,hv,h.imp fun _ _ _=>Rep.keep0 hk⟩
 |tup l=>obtain⟨vs,hv,h⟩:=h;exact⟨vs,hv,h.imp fun _ _ _=>Rep1.keep0 hk⟩
 |tupo i l=>obtain⟨b,vs,h0,hv,h⟩:=h;exact⟨b,vs,by rw[hγ i (by simp[AV.refs])];exact h0,hv,h.imp fun _ _ _=>Rep1.keep0 hk⟩
 |tupr i l=>obtain⟨vs,hv,h⟩:=h;exact⟨vs,by rw[hγ i (by simp[AV.refs])];exact hv,h.imp fun _ _ _=>Rep1.keep0 hk⟩
 |nilsl=>exact h
 |box i off=>obtain⟨b,h1,h2⟩:=h;exact⟨b,by rw[hγ i (by simp[AV.refs])];exact h1,h2⟩
 |bsl i n c=>obtain⟨b,h1,h2⟩:=h;exact⟨b,by rw[hγ i (by simp[AV.refs])];exact h1,h2⟩
 |own i=>exact jbI h (hγ i (by simp[AV.refs])).symm
 |pin i u=>exact⟨jbI h.1 (hγ i (by simp[AV.refs])).symm,h.2⟩
 |pbox i u=>obtain⟨⟨b,h1,h2⟩,h3⟩:=h;exact⟨⟨b,by rw[hγ i (by simp[AV.refs])];exact h1,h2⟩,h3⟩
 |gho m=>exact h
 |yl l=>exact h
 |elt i k n c=>obtain⟨g,len,cap,h1,h2⟩:=h;exact⟨g,len,cap,by rw[hγ i (by simp[AV.refs])];exact h1,h2⟩
 |pre i n=>obtain⟨g,len,cap,h1,h2⟩:=h;exact⟨g,len,cap,by rw[hγ i (by simp[AV.refs])];exact h1,h2⟩
 |sub i k lo n=>
  rcases h with h|⟨g,len,cap,cap',h1,h2⟩
  ·exact .inl h
  ·exact .inr ⟨g,len,cap,cap',by rw[hγ i (by simp[AV.refs])];exact h1,h2⟩
 |roe m f=>
  obtain⟨a,hv,h⟩:=h
  refine⟨a,hv,fun j hj=>?_⟩
  obtain⟨h4,u,hu,hr⟩:=h j hj
  exact⟨(hk _ h4).1,u,(hk _ h4).2.1 _ _ (zaK _ _) hu,Rep.keep0 hk hr⟩
 |clo f caps=>
  obtain⟨vs,hv,h⟩:=h
  exact⟨vs,hv,h.imp fun c u hc h=>h.keep0 hk fun i hi=>hγ i (za8 hc hi)⟩
 |aggc cs=>
  obtain⟨vs,hv,h⟩:=h
  exact⟨vs,hv,h.imp fun c u hc h=>h.keep0 hk fun i hi=>hγ i (za8 hc hi)⟩
 |undef=>exact h
theorem kpts(hk:∀b,ok b->ok' b/\w'.heap[b]?=w.heap[b]?):∀b,ok b->ok' b/\Kpt w w' b:=fun b hb=>⟨(hk b hb).1,zea (hk b hb).2⟩
theorem Rep.keep(hk:∀b,ok b->ok' b/\w'.heap[b]?=w.heap[b]?){x:D}{v:Value}(h:Rep w ok x v):Rep w' ok' x v:=Rep.keep0 (kpts hk) h
theorem Rep1.keep(hk:∀b,ok b->ok' b/\w'.heap[b]?=w.heap[b]?){x:V1}{v:Value}(h:Rep1 w ok x v):Rep1 w' ok' x v:=Rep1.keep0 (kpts hk) h
theorem M.keep(hk:∀b,ok b->ok' b/\w'.heap[b]?=w.heap[b]?){x:AV}{v:Value}(hγ:∀i∈x.refs,γ' i=γ i)(h:M w ok γ x v):M w' ok' γ' x v:=M.keep0 (kpts hk) hγ h
end
section
variable {cx:Cx}{γ:Nat->Value}{s:St}{a:Act}{w w':World}
theorem zal(h:RG cx γ s a w){b:Nat}(hb:okOf cx s γ w b):b<w.heap.size:=by
 rcases hb with hb|⟨_,hb,_⟩
 ·exact jN (h.okA b hb).1 h.below.size
 exact hb
theorem zaC{O ok:Nat->Prop}{i:Nat}{o:Ob}(hh:Holds w O ok γ i o){b:Nat}(hb:blk (γ i)=some b):O b/\b<w.heap.size/\((∃cs T x,w.heap[b]?=some (.cells cs T x))\/∃es c,w.heap[b]?=some (.map es c)):=by
 cases o with
 |box cs=>
  obtain⟨b',vs,T,h1,h2,h3,_⟩:=hh
  rw[h1]at hb;simp[blk]at hb;subst hb
  exact⟨h2,(jB.1 h3).1,.inl ⟨_,_,_,h3⟩⟩
 |row e' k n f=>
  obtain⟨xs,h1,h0,_⟩:=hh
  have hO:=h0 b hb
  rcases h1.2 with⟨h2,_⟩|⟨g,cap,cur,h2,_,h4,_⟩
  ·rw[h2]at hb;simp[blk]at hb
  ·rw[h2]at hb;simp[blk]at hb;subst hb
   exact⟨hO,(jB.1 h4).1,.inl ⟨_,_,_,h4⟩⟩
 |mp m ks f=>
 obtain⟨b',es,c,h1,h2,h3,_⟩:=hh
 rw[h1]at hb;simp[blk]at hb;subst hb
 exact⟨h2,(jB.1 h3).1,.inr ⟨_,_,h3⟩⟩
theorem zeB(h:RG cx γ s a w){b:Nat}(hO:cx.O b):¬cx.okA b:=fun hA=>by
 obtain⟨h1,h2⟩:=h.okA b hA
 rcases hO with hO|hO
 ·omega
 exact h2 hO
theorem zck(h:RG cx γ s a w){b i:Nat}{o:Ob}(hb:okOf cx s γ w b)(hi:s.ob i=some o):blk (γ i)≠some b:=by
 rcases hb with hb|⟨_,_,hb⟩
 ·exact fun e=>zeB h (zaC (h.objs i o hi) e).1 hb
 exact hb i o hi
theorem zax(h:RG cx γ s a w){b i:Nat}{o:Ob}(hi:s.ob i=some o)(hb:blk (γ i)=some b):cx.O b/\b<w.heap.size:=
 ⟨(zaC (h.objs i o hi) hb).1,(zaC (h.objs i o hi) hb).2.1⟩
structure Stp(cx:Cx)(a:Act)(w':World):Prop where
  defers:Marks cx w' a.defers
  below:Bel cx w'
  hold:∀k o,cx.hold k o->w'.heap[k]?=some o
  least:cx.least<=w'.heap.size
theorem RG.step(h:RG cx γ s a w){row:Option Nat}(hg:w.grownBy w' row)(hdr:cx.dr=true->w.drawn<=w'.drawn)(hrow:∀b,row=some b->∃i o,s.ob i=some o/\blk (γ i)=some b):Stp cx a w' where
  defers:=by
    obtain⟨h0,ms,h1,h2,h3⟩:=h.defers
    refine⟨h0,ms,h1,h2,fun D hD=>⟨(h3 D hD).1,?_⟩⟩
    have hd:=(h3 D hD).2
    rw[hg.block D (jB.1 hd).1 fun e=>?_]
    · exact hd
    obtain⟨i,o,hi,hb⟩:=hrow D e.symm
    obtain⟨_,_,⟨cs,T,x,hc⟩|⟨es,c,hc⟩⟩:=zaC (h.objs i o hi) hb
    · rw[hd]at hc;cases hc
    rw[hd]at hc;cases hc
  below:=by
    refine⟨hg.os.trans h.below.os,hg.tape.trans h.below.tape,hg.output.trans h.below.output,fun e=>jM (h.below.drawn e) (hdr e),jM h.below.size hg.size,fun k hk hl=>?_⟩
    rw[hg.block k (jN hk h.below.size) fun e=>?_]
    · exact h.below.block k hk hl
    obtain⟨i,o,hi,hb⟩:=hrow k e.symm
    rcases(zax h hi hb).1 with h1|h1
    · omega
    exact hl h1
  hold:=fun k o hk=>by
    obtain⟨h1,h2⟩:=h.hold k o hk
    rw[hg.block k (jB.1 h1).1 fun e=>?_]
    · exact h1
    obtain⟨i,p,hi,hb⟩:=hrow k e.symm
    exact h2 i p hi hb
  least:=jM h.least hg.size
theorem zef(h:RG cx γ s a w){k:Nat}{o:Obj}(hk:cx.hold k o):k<w.heap.size:=(jB.1 (h.hold k o hk).1).1
theorem zoY(a:Act)(t u:Nat)(v:Value)(h:t<a.tmps.size):(a.put (some t) v).tmps.getD u undef=if u=t then v else a.tmps.getD u undef:=by
 simp only[Act.put]
 by_cases hu:u=t
 ·subst hu;simp[Array.getD,h]
 simp only[hu,jaG,qP]
 rw[jbi (by omega)]
theorem RG.put(h:RG cx γ s a w){t:Nat}{v:AV}{x:Value}(ht:t<cx.N)(hv:M w (okOf cx s γ w) γ v x)(hr:∀j∈v.refs,(s.ob j).isSome=true):
    RG cx γ (s.put t v) (a.put (some t) x) w where
  defers:=h.defers
  size:=by simp [Act.put,h.size]
  okA:=h.okA
  lent:=h.lent
  below:=h.below
  hold:=h.hold
  least:=h.least
  objs:=h.objs
  refs:=h.refs
  sep:=h.sep
  slots:=by
    intro u
    rw [zoY _ _ _ _ (by rw [h.size];exact ht)]
    show M w (okOf cx s γ w) γ (upd s.sl t v u) _
    rw [zat]
    split
    · exact hv
    exact h.slots u
  srefs:=by
    intro u
    show ∀j∈(upd s.sl t v u).refs,_
    rw [zat]
    split
    · exact hr
    exact h.srefs u
  gho:=fun m hm=>h.gho m (by
    have:upd s.sl t v G= .gho m:=hm
    rwa [zai _ _ (by have:=h.ng;omega)]at this)
  ng:=h.ng
theorem RG.putO(h:RG cx γ s a w){t:Option Nat}{v:AV}{x:Value}(ht:∀d,t=some d->d<cx.N)(hv:M w (okOf cx s γ w) γ v x)(hr:∀j∈v.refs,(s.ob j).isSome=true):
  RG cx γ (s.putO t v) (a.put t x) w:=by
 cases t with
 |none=>exact h
 |some t=>exact h.put (ht t rfl) hv hr
theorem Holds.keep0{ok ok':Nat->Prop}{γ':Nat->Value}{O:Nat->Prop}{i:Nat}{o:Ob}(hk:∀b,ok b->ok' b/\Kpt w w' b)(hγ:γ' i=γ i)(hcs:∀cs,o= .box cs->∀c∈cs,∀j∈c.refs,γ' j=γ j)
  (hb:∀b,blk (γ i)=some b->w'.heap[b]?=w.heap[b]?)(h:Holds w O ok γ i o):Holds w' O ok' γ' i o:=by
 cases o with
 |box cs=>
  obtain⟨b,vs,T,h1,h2,h3,h4⟩:=h
  refine⟨b,vs,T,by rw[hγ];exact h1,h2,by rw[hb b (by rw[h1];rfl)];exact h3,h4.imp fun c v hc ⟨h5,h6⟩=>⟨M.keep0 hk (hcs cs rfl c hc) h5,h6⟩⟩
 |row e k n f=>
  obtain⟨xs,h1,h0,h2,h3⟩:=h
  refine⟨xs,⟨h1.1,?_⟩,by rw[hγ];exact h0,h2,fun m hm j hj=>?_⟩
  ·rw[hγ]
   rcases h1.2 with h4|⟨g,cap,cur,h4,h5,h6,h7⟩
   ·exact .inl h4
   exact .inr ⟨g,cap,cur,h4,h5,by rw[hb g (by rw[h4];rfl)];exact h6,h7⟩
  ·obtain⟨u,hu,hr⟩:=h3 m hm j hj
   exact⟨u,hu,Rep.keep0 hk hr⟩
 |mp m ks f=>
 obtain⟨b,es,c,h1,h2,h3,h4,h5⟩:=h
 refine⟨b,es,c,by rw[hγ];exact h1,h2,by rw[hb b (by rw[h1];rfl)];exact h3,h4,fun j hj=>?_⟩
 obtain⟨e,he,hr⟩:=h5 j hj
 exact⟨e,he,Rep.keep0 hk hr⟩
theorem Holds.keep{ok ok':Nat->Prop}{γ':Nat->Value}{O:Nat->Prop}{i:Nat}{o:Ob}(hk:∀b,ok b->ok' b/\w'.heap[b]?=w.heap[b]?)(hγ:γ' i=γ i)(hcs:∀cs,o= .box cs->∀c∈cs,∀j∈c.refs,γ' j=γ j)
  (hb:∀b,blk (γ i)=some b->w'.heap[b]?=w.heap[b]?)(h:Holds w O ok γ i o):Holds w' O ok' γ' i o:=Holds.keep0 (kpts hk) hγ hcs hb h
theorem RG.grow(h:RG cx γ s a w)(hb:Below w.heap.size w w')(hdr:cx.dr=true->w.drawn<=w'.drawn):RG cx γ s a w':=by
  have hg:w.grownBy w' none:=⟨hb.os,hb.tape,hb.output,hb.size,fun k hk _=>hb.block k hk⟩
  have hst:=h.step hg hdr (fun b hb=>by cases hb)
  have hk:∀b,okOf cx s γ w b->okOf cx s γ w' b/\w'.heap[b]?=w.heap[b]?:=fun b hb'=>by
    refine⟨?_,hb.block b (zal h hb')⟩
    rcases hb' with h1|⟨h1,h2,h3⟩
    · exact .inl h1
    exact .inr ⟨h1,jN h2 hb.size,h3⟩
  exact {
    defers:=hst.defers,size:=h.size,okA:=h.okA,lent:=h.lent,below:=hst.below,least:=hst.least
    hold:=fun k o hk=>⟨hst.hold k o hk,(h.hold k o hk).2⟩
    objs:=fun i o hi=>(h.objs i o hi).keep hk rfl (fun _ _ _ _ _ _=>rfl) fun b hb'=>hb.block b (zax h hi hb').2
    refs:=h.refs,sep:=h.sep
    slots:=fun t=>(h.slots t).keep hk fun _ _=>rfl
    srefs:=h.srefs,gho:=h.gho,ng:=h.ng }
theorem RG.drew(h:RG cx γ s a w):RG cx γ s a w.drew:=h.grow ⟨rfl,rfl,rfl,jE _,fun _ _=>rfl⟩ (fun _=>Nat.le_succ _)
theorem RG.change(h:RG cx γ s a w){i:Nat}{o o':Ob}(hi:s.ob i=some o)(hg:w.grownBy w' (blk (γ i)))(hdr:cx.dr=true->w.drawn<=w'.drawn)
    (ho:∀ok:Nat->Prop,(∀b,okOf cx s γ w b->ok b/\w'.heap[b]?=w.heap[b]?)->Holds w' cx.O ok γ i o')(hr:∀cs,o'= .box cs->∀c∈cs,∀j∈c.refs,(s.ob j).isSome=true):
    RG cx γ (s.setOb i (some o')) a w':=by
  have hsome:∀j,((s.setOb i (some o')).ob j).isSome=(s.ob j).isSome:=fun j=>by
    show(upd s.ob i (some o') j).isSome=_
    rw [zat];split
    · rename_i e;subst e;rw [hi];rfl
    rfl
  have hex:∀{j:Nat}{p:Ob},(s.setOb i (some o')).ob j=some p->∃p',s.ob j=some p':=fun {j p} hp=>by
    have:=hsome j;rw [hp]at this;exact wA.1 this.symm
  have hok:∀W b,okOf cx (s.setOb i (some o')) γ W b↔okOf cx s γ W b:=fun W b=>by
    unfold okOf
    refine or_congr jbH (and_congr jbH (and_congr jbH ⟨fun H j p hp=> ?_,fun H j p hp=> ?_⟩))
    · by_cases e:j=i
      · subst e;exact H j o' (by show upd s.ob j (some o') j=_;simp)
      exact H j p (by show upd s.ob i (some o') j=_;rw [zai _ _ e];exact hp)
    obtain⟨p',hp'⟩:=hex hp;exact H j p' hp'
  have hk:∀b,okOf cx s γ w b->okOf cx (s.setOb i (some o')) γ w' b/\w'.heap[b]?=w.heap[b]?:=fun b hb'=>by
    refine⟨(hok w' b).2 ?_,hg.block b (zal h hb') fun e=>zck h hb' hi e.symm⟩
    rcases hb' with h1|⟨h1,h2,h3⟩
    · exact .inl h1
    exact .inr ⟨h1,jN h2 hg.size,h3⟩
  have hst:=h.step hg hdr (fun b hb=>⟨i,o,hi,hb⟩)
  exact {
    defers:=hst.defers,size:=h.size,okA:=h.okA,lent:=h.lent,below:=hst.below,least:=hst.least
    hold:=fun k p hk=>⟨hst.hold k p hk,fun j q hq=>by obtain⟨q',hq'⟩:=hex hq;exact(h.hold k p hk).2 j q' hq'⟩
    objs:=fun j p hp=>by
      by_cases e:j=i
      · subst e
        have:p=o':=by
          have:upd s.ob j (some o') j=some p:=hp
          simpa using this.symm
        subst this
        exact ho _ hk
      have hp':s.ob j=some p:=by
        have:upd s.ob i (some o') j=some p:=hp
        rwa [zai _ _ e]at this
      exact(h.objs j p hp').keep hk rfl (fun _ _ _ _ _ _=>rfl) fun b hb'=>hg.block b (zax h hp' hb').2 fun e'=>h.sep j i p o hp' hi e b hb' e'.symm
    refs:=fun j cs hj c hc m hm=>by
      rw [hsome]
      by_cases e:j=i
      · subst e
        have:upd s.ob j (some o') j=some (.box cs):=hj
        rw [zac]at this
        exact hr cs (by simpa using this) c hc m hm
      have:upd s.ob i (some o') j=some (.box cs):=hj
      rw [zai _ _ e]at this
      exact h.refs j cs this c hc m hm
    sep:=fun j m p q hp hq hne b hb'=>by
      obtain⟨p',hp'⟩:=hex hp
      obtain⟨q',hq'⟩:=hex hq
      exact h.sep j m p' q' hp' hq' hne b hb'
    slots:=fun t=>(h.slots t).keep hk fun _ _=>rfl
    srefs:=fun t j hj=>by rw [hsome];exact h.srefs t j hj
    gho:=h.gho,ng:=h.ng }
theorem RG.otherL(h:RG cx γ s a w){r:Nat}{o:Obj}(hg:w.grownBy w' (some r))(hdr:cx.dr=true->w.drawn<=w'.drawn)(hr:w.heap[r]?=some o)(hc:o.isCells=false)(hmp:∀es c,o≠ .map es c)(hm:mark r∉a.defers)(hh:∀p,¬cx.hold r p)(h0:cx.w0.heap.size<=r\/cx.lent r):RG cx γ s a w':=by
  have nb:∀i p,s.ob i=some p->blk (γ i)≠some r:=fun i p hi e=>by
    obtain⟨_,_,⟨cs,T,x,hcs⟩|⟨es,c,hcs⟩⟩:=zaC (h.objs i p hi) e
    · rw[hr]at hcs;cases hcs;simp[Obj.isCells]at hc
    rw[hr]at hcs
    exact hmp es c (jak hcs)
  have hk:∀b,okOf cx s γ w b->okOf cx s γ w' b/\Kpt w w' b:=fun b hb=>by
    refine⟨?_,fun ad u hb' hcell=>?_,fun es c hmb=>?_⟩
    · rcases hb with h1|⟨h1,h2,h3⟩
      · exact .inl h1
      exact .inr ⟨h1,jN h2 hg.size,h3⟩
    · subst hb'
      by_cases e:ad.block=r
      · exfalso
        simp only[World.cell?,e,hr]at hcell
        cases o<;>simp[Obj.isCells]at hc hcell
      rw[World.cell?_of_block (w:=w) (hg.block _ (zal h hb) fun e'=>e (by cases e';rfl))];exact hcell
    rw[hg.block _ (zal h hb) fun e'=>by cases e';rw[hr]at hmb;exact hmp _ _ (jak hmb)];exact hmb
  exact {
    defers:=by
      obtain⟨h0,ms,h1,h2,h3⟩:=h.defers
      refine⟨h0,ms,h1,h2,fun D hD=>⟨(h3 D hD).1,?_⟩⟩
      have hd:=(h3 D hD).2
      rw[hg.block D (jB.1 hd).1 fun e=>hm (by cases e;rw[h1];exact kJ.2 ⟨_,hD,rfl⟩)]
      exact hd
    size:=h.size,okA:=h.okA,lent:=h.lent
    below:=⟨hg.os.trans h.below.os,hg.tape.trans h.below.tape,hg.output.trans h.below.output,fun e=>jM (h.below.drawn e) (hdr e),jM h.below.size hg.size,fun k hk' hl=>by
      rw[hg.block k (jN hk' h.below.size) fun e=>by
        cases e
        rcases h0 with h0|h0
        · omega
        exact hl h0]
      exact h.below.block k hk' hl⟩
    hold:=fun k p hk'=>by
      obtain⟨h1,h2⟩:=h.hold k p hk'
      refine⟨?_,h2⟩
      rw[hg.block k (jB.1 h1).1 fun e=>by cases e;exact hh p hk']
      exact h1
    least:=jM h.least hg.size
    objs:=fun i p hi=>(h.objs i p hi).keep0 hk rfl (fun _ _ _ _ _ _=>rfl) fun b hb'=>hg.block b (zax h hi hb').2 fun e=>nb i p hi (by cases e;exact hb')
    refs:=h.refs,sep:=h.sep
    slots:=fun t=>(h.slots t).keep0 hk fun _ _=>rfl
    srefs:=h.srefs,gho:=h.gho,ng:=h.ng }
theorem RG.other(h:RG cx γ s a w){r:Nat}{o:Obj}(hg:w.grownBy w' (some r))(hdr:cx.dr=true->w.drawn<=w'.drawn)(hr:w.heap[r]?=some o)(hc:o.isCells=false)(hmp:∀es c,o≠ .map es c)(hm:mark r∉a.defers)(hh:∀p,¬cx.hold r p)(h0:cx.w0.heap.size<=r):RG cx γ s a w':=
 h.otherL hg hdr hr hc hmp hm hh (.inl h0)
end
section
variable {cx:Cx}{γ:Nat->Value}{s:St}{a:Act}{w w':World}
theorem zbX{i:Nat}{v:AV}(h:v.hasRef i=false):i∉v.refs:=by
 intro hm
 have:v.hasRef i=true:=kM.2 ⟨i,hm,zay i⟩
 rw[h]at this;cases this
theorem zaU{i:Nat}{v:AV}{j:Nat}(hj:j∈(v.purge i).refs):j∈v.refs/\j≠i:=by grind [AV.purge,AV.refs,zbX]
theorem za9{i:Nat}{v:AV}(h:i∉v.refs):v.purge i=v:=by
 unfold AV.purge
 cases hv:v.hasRef i with
 |false=>rfl
 |true=>
 obtain⟨j,hj,e⟩:=kM.1 hv
 exact absurd hj (by rw[<- jA e];exact h)
theorem M.purge{ok:Nat->Prop}{γ:Nat->Value}{v:AV}{x:Value}(i:Nat)(h:M w ok γ v x):M w ok γ (v.purge i) x:=by
 unfold AV.purge
 cases v.hasRef i with
 |true=>exact trivial
 |false=>exact h
theorem zib(s:St)(i j:Nat):(s.drop i).ob j=if j=i then none else(s.ob j).map (Ob.purge i):=by
 show upd (fun j=>(s.ob j).map (Ob.purge i)) i none j=_
 rw[zat]
theorem RG.renewR(h:RG cx γ s a w){i:Nat}{o':Ob}{v:Value}{row:Option Nat}(hg:w.grownBy w' row)(hdr:cx.dr=true->w.drawn<=w'.drawn)(hrow:∀b,row=some b->∃o,s.ob i=some o/\blk (γ i)=some b)
    (hv:∀b,blk v=some b->row=some b\/w.heap.size<=b)
    (ho:∀ok:Nat->Prop,(∀b,okOf cx s γ w b->ok b/\w'.heap[b]?=w.heap[b]?)->Holds w' cx.O ok (upd γ i v) i o')(hr:∀cs,o'= .box cs->∀c∈cs,∀j∈c.refs,j≠i/\(s.ob j).isSome=true):
    RG cx (upd γ i v) ((s.drop i).setOb i (some o')) a w':=by
  have hob:∀j,((s.drop i).setOb i (some o')).ob j=if j=i then some o' else(s.ob j).map (Ob.purge i):=fun j=>by
    show upd (s.drop i).ob i (some o') j=_
    rw [zat,zib];split<;>rfl
  have hkeep:∀b,okOf cx s γ w b->w'.heap[b]?=w.heap[b]?:=fun b hb'=>hg.block b (zal h hb') fun e=>by
    obtain⟨o,h1,h2⟩:=hrow b e.symm
    exact zck h hb' h1 h2
  have hk:∀b,okOf cx s γ w b->okOf cx ((s.drop i).setOb i (some o')) (upd γ i v) w' b/\w'.heap[b]?=w.heap[b]?:=fun b hb'=>by
    refine⟨?_,hkeep b hb'⟩
    rcases id hb' with h1|⟨h1,h2,h3⟩
    · exact .inl h1
    refine .inr ⟨h1,jN h2 hg.size,fun j p hp=> ?_⟩
    rw [hob]at hp
    rw [zat]
    split at hp
    · grind
    rename_i e;rw [kG e]
    cases hs:s.ob j with
    |none=>rw [hs]at hp;cases hp
    |some p'=>exact h3 j p' hs
  have hpres:∀j,j≠i->(s.ob j).isSome=true->(((s.drop i).setOb i (some o')).ob j).isSome=true:=fun j e hj=>by rw [hob,kG e];simpa using hj
  have hst:=h.step hg hdr (fun b hb=>by obtain⟨o,h1,h2⟩:=hrow b hb;exact⟨i,o,h1,h2⟩)
  have old':∀{j:Nat}{p:Ob},(s.ob j).map (Ob.purge i)=some p->∃p',s.ob j=some p':=fun {j p} hj=>by
    cases hs:s.ob j with
    |none=>rw [hs]at hj;cases hj
    |some q=>exact⟨q,rfl⟩
  exact {
    defers:=hst.defers,size:=h.size,okA:=h.okA,lent:=h.lent,below:=hst.below,least:=hst.least
    hold:=fun k p hk=>⟨hst.hold k p hk,fun j q hq=>by
      rw [hob]at hq
      rw [zat]
      split at hq
      · rename_i e;rw [kH e]
        intro e'
        rcases hv k e' with h4|h4
        · obtain⟨o,h5,h6⟩:=hrow k h4
          exact(h.hold k p hk).2 i o h5 h6
        have:=zef h hk;omega
      rename_i e;rw [kG e]
      obtain⟨q',hq'⟩:=old' hq
      exact(h.hold k p hk).2 j q' hq'⟩
    objs:=fun j p hp=>by
      rw [hob]at hp
      split at hp
      · grind
      rename_i e
      cases hs:s.ob j with
      |none=>rw [hs]at hp;cases hp
      |some q=>
       rw [hs]at hp;cases hp
       have hq:=h.objs j q hs
       have hblk:∀b,blk (γ j)=some b->w'.heap[b]?=w.heap[b]?:=fun b hb'=>hg.block b (zax h hs hb').2 fun e'=>by
         obtain⟨o,h1,h2⟩:=hrow b e'.symm
         exact h.sep j i q o hs h1 e b hb' h2
       cases q with
       |row e' k n f=>exact hq.keep hk (by rw [zai _ _ e]) (fun _ hc=>by cases hc) hblk
       |mp m ks f=>exact hq.keep hk (by rw [zai _ _ e]) (fun _ hc=>by cases hc) hblk
       |box cs=>
        have h1:Holds w' cx.O (okOf cx ((s.drop i).setOb i (some o')) (upd γ i v) w') (upd γ i v) j (.box (cs.map (AV.purge i))):=by
          obtain⟨b,vs,T,h2,h3,h4,h5⟩:=hq
          refine⟨b,vs,T,by rw [zai _ _ e];exact h2,h3,by rw [hblk b (by rw [h2];rfl)];exact h4,?_⟩
          refine All2.of_get (by simpa using h5.length) fun m x y hx hy=> ?_
          rw [jU]at hx
          cases hc:cs[m]? with
          |none=>rw [hc]at hx;cases hx
          |some c=>
           rw [hc]at hx;cases hx
           obtain⟨y',hy',h6,h7⟩:=h5.get m c hc
           rw [hy]at hy';cases hy'
           exact⟨(h6.purge i).keep hk fun j' hj'=>by rw [zai _ _ (zaU hj').2],h7⟩
        exact h1
    refs:=fun j cs hj c hc m hm=>by
      rw [hob]at hj
      split at hj
      · have:=hr cs (by simpa using hj) c hc m hm
        exact hpres m this.1 this.2
      cases hs:s.ob j with
      |none=>rw [hs]at hj;cases hj
      |some q=>
       rw [hs]at hj
       cases q with
       |row e' k n f=>cases hj
       |mp m ks f=>cases hj
       |box cs'=>
        simp only [qL,Ob.purge,jO,Ob.box.injEq]at hj
        subst hj
        obtain⟨c',hc',rfl⟩:=kJ.1 hc
        have hm':=zaU hm
        exact hpres m hm'.2 (h.refs j cs' hs c' hc' m hm'.1)
    sep:=fun j m p q hp hq hne b hb'=>by
      rw [hob]at hp hq
      rw [zat]at hb'⊢
      intro hb2
      have old:∀{j:Nat}{p:Ob},(s.ob j).map (Ob.purge i)=some p->∃p',s.ob j=some p':=fun {j p} hj=>by
        cases hs:s.ob j with
        |none=>rw [hs]at hj;cases hj
        |some q=>exact⟨q,rfl⟩
      have key:∀{m:Nat}{q:Ob},m≠i->(s.ob m).map (Ob.purge i)=some q->blk (γ m)=some b->blk v=some b->False:=fun {m q} hmi hq h1 h2=>by
        obtain⟨q',hq'⟩:=old hq
        rcases hv b h2 with h4|h4
        · obtain⟨o,h5,h6⟩:=hrow b h4
          exact h.sep m i q' o hq' h5 hmi b h1 h6
        have:=(zax h hq' h1).2;omega
      by_cases hj:j=i
      · grind
      rw [kG hj]at hp hb'
      by_cases hm:m=i
      · grind
      rw [kG hm]at hq hb2
      obtain⟨p',hp'⟩:=old hp
      obtain⟨q',hq'⟩:=old hq
      exact h.sep j m p' q' hp' hq' hne b hb' hb2
    slots:=fun t=>by
      show M w' _ (upd γ i v) ((s.sl t).purge i) _
      exact((h.slots t).purge i).keep hk fun j hj=>by rw [zai _ _ (zaU hj).2]
    srefs:=fun t j hj=>by
      have hj':=zaU (show j∈((s.sl t).purge i).refs from hj)
      exact hpres j hj'.2 (h.srefs t j hj'.1)
    gho:=fun m hm=>h.gho m (by
      have:(s.sl G).purge i= .gho m:=hm
      unfold AV.purge at this
      split at this
      · cases this
      exact this)
    ng:=h.ng }
theorem RG.renew(h:RG cx γ s a w){i:Nat}{o':Ob}{v:Value}{row:Option Nat}(hg:w.grownBy w' row)(hdr:cx.dr=true->w.drawn<=w'.drawn)(hrow:∀b,row=some b->∃o,s.ob i=some o/\blk (γ i)=some b)
  (hv:∀b,blk v=some b->row=some b\/w.heap.size<=b)
  (ho:∀ok:Nat->Prop,(∀b,okOf cx s γ w b->ok b/\w'.heap[b]?=w.heap[b]?)->Holds w' cx.O ok (upd γ i v) i o')(hr:∀cs,o'= .box cs->∀c∈cs,c.refs=[]):
  RG cx (upd γ i v) ((s.drop i).setOb i (some o')) a w':=h.renewR hg hdr hrow hv ho fun cs e c hc j hj=>by rw[hr cs e c hc]at hj;cases hj
theorem RG.drop_self(h:RG cx γ s a w){i:Nat}(hi:s.ob i=none):s.drop i=s:=by
 have hno:∀v:AV,(∀j∈v.refs,(s.ob j).isSome=true)->v.purge i=v:=fun v hv=>za9 fun hm=>by
  have:=hv i hm;rw[hi]at this;cases this
 cases s with
 |mk sl ob=>
 unfold St.drop
 congr 1
 ·funext t;exact hno _ (h.srefs t)
 funext j
 rw[zat]
 split
 ·grind
 cases hs:ob j with
 |none=>simp[hs]
 |some o=>
 cases o with
 |row e k n f=>simp[hs,Ob.purge]
 |mp m ks f=>simp[hs,Ob.purge]
 |box cs=>
 simp only[hs,qL,Ob.purge,jO,Ob.box.injEq]
 exact(qH fun c hc=>hno c (h.refs j cs hs c hc)).trans (List.map_id _)
theorem RG.make(h:RG cx γ s a w){i:Nat}{o':Ob}{v:Value}(hi:s.ob i=none)(hg:Below w.heap.size w w')(hdr:cx.dr=true->w.drawn<=w'.drawn)
  (hv:∀b,blk v=some b->w.heap.size<=b)
  (ho:∀ok:Nat->Prop,(∀b,okOf cx s γ w b->ok b/\w'.heap[b]?=w.heap[b]?)->Holds w' cx.O ok (upd γ i v) i o')(hr:∀cs,o'= .box cs->∀c∈cs,c.refs=[]):
  RG cx (upd γ i v) (s.setOb i (some o')) a w':=by
 have hg':w.grownBy w' none:=⟨hg.os,hg.tape,hg.output,hg.size,fun k hk _=>hg.block k hk⟩
 have:=h.renew (i:=i) (o':=o') (v:=v) (row:=none) hg' hdr (fun b hb=>by cases hb) (fun b hb=>.inr (hv b hb)) ho hr
 rwa [h.drop_self hi]at this
def D.eqv:D->D->Prop
 | .int k a,.int k' b=>k=k'/\a=b
 | .bool a,.bool b=>a=b
 | .nil,.slc _ n _=>n=0
 | .slc k n f,.slc k' n' f'=>n=n'/\(n=0\/(k=k'/\∀i,i<n->∀j,j<k->D.eqv (f i j) (f' i j)))
 | .ptr m h,.ptr m' h'=>m=m'/\∀j,j<m->D.eqv (h j) (h' j)
 | .clo f m g,.clo f' m' g'=>f=f'/\m=m'/\∀j,j<m->D.eqv (g j) (g' j)
 | .ifc f m g,.ifc f' m' g'=>f=f'/\m=m'/\∀j,j<m->D.eqv (g j) (g' j)
 | .bnd f m g,.bnd f' m' g'=>f=f'/\m=m'/\∀j,j<m->D.eqv (g j) (g' j)
 | .mp m ks f,.mp m' ks' f'=>m=m'/\ks=ks'/\∀j,j<ks.length->D.eqv (f j) (f' j)
 |x,y=>x=y
theorem D.eqv_refl:∀x:D,D.eqv x x:=by
 intro x
 induction x with
 |slc k n f ih=>exact⟨rfl,.inr ⟨rfl,fun i _ j _=>ih i j⟩⟩
 |ptr m h ih=>exact⟨rfl,fun j _=>ih j⟩
 |clo f m g ih=>exact⟨rfl,rfl,fun j _=>ih j⟩
 |ifc f m g ih|bnd f m g ih=>exact⟨rfl,rfl,fun j _=>ih j⟩
 |mp m ks f ih=>exact⟨rfl,rfl,fun j _=>ih j⟩
 | _=>simp[D.eqv]
theorem D.eqv_of_eq{x y:D}(h:x=y):D.eqv x y:=h▸D.eqv_refl x
theorem Rep.eqv{ok:Nat->Prop}{x y:D}{v:Value}(h:Rep w ok x v)(he:D.eqv x y):Rep w ok y v:=by
 induction x generalizing y v with
 |slc k n f ih=>
  cases y with
  |slc k' n' f'=>
   obtain⟨rfl,he⟩:=he
   rcases h with h|⟨a,cap,h1,h2,h3,h4⟩
   ·exact .inl h
   ·refine .inr ⟨a,cap,h1,h2,h3,fun i hi j hj=>?_⟩
    rcases he with he|⟨rfl,he⟩
    ·omega
    ·grind
  | _=>simp[D.eqv]at he
 |ptr m g ih=>
  cases y with
  |ptr m' g'=>
   obtain⟨rfl,he⟩:=he
   obtain⟨a,h1,h4⟩:=h
   refine⟨a,h1,fun j hj=>?_⟩
   obtain⟨h5,u,h6,h7⟩:=h4 j hj
   exact⟨h5,u,h6,ih j h7 (he j hj)⟩
  | _=>simp[D.eqv]at he
 |clo f m g ih=>
  cases y with
  |clo f' m' g'=>
   obtain⟨rfl,rfl,he⟩:=he
   obtain⟨vs,h1,h2,h4⟩:=h
   refine⟨vs,h1,h2,fun j hj=>?_⟩
   obtain⟨u,h6,h7⟩:=h4 j hj
   exact⟨u,h6,ih j h7 (he j hj)⟩
  | _=>simp[D.eqv]at he
 |ifc f m g ih=>
  cases y with
  |ifc f' m' g'=>
   obtain⟨rfl,rfl,he⟩:=he
   obtain⟨vs,h1,h2,h4⟩:=h
   refine⟨vs,h1,h2,fun j hj=>?_⟩
   obtain⟨u,h6,h7⟩:=h4 j hj
   exact⟨u,h6,ih j h7 (he j hj)⟩
  | _=>simp[D.eqv]at he
 |bnd f m g ih=>
  cases y with
  |bnd f' m' g'=>
   obtain⟨rfl,rfl,he⟩:=he
   obtain⟨vs,h1,h2,h4⟩:=h
   refine⟨vs,h1,h2,fun j hj=>?_⟩
   obtain⟨u,h6,h7⟩:=h4 j hj
   exact⟨u,h6,ih j h7 (he j hj)⟩
  | _=>simp[D.eqv]at he
 |mp m ks f ih=>
  cases y with
  |mp m' ks' f'=>
   obtain⟨rfl,rfl,he⟩:=he
   obtain⟨b,es,c,h1,h2,h3,h4,h5⟩:=h
   refine⟨b,es,c,h1,h2,h3,h4,fun j hj=>?_⟩
   obtain⟨e,h6,h7⟩:=h5 j hj
   exact⟨e,h6,ih j h7 (he j hj)⟩
  | _=>simp[D.eqv]at he
 |val s=>cases y with
  |val s'=>simp only[D.eqv,D.val.injEq]at he;subst he;exact h
  | _=>simp[D.eqv]at he
 |int k n=>cases y with
  |int k' n'=>obtain⟨rfl,rfl⟩:=he;exact h
  | _=>simp[D.eqv]at he
 |bool b=>cases y with
  |bool b'=>simp only[D.eqv]at he;subst he;exact h
  | _=>simp[D.eqv]at he
 |str s=>cases y with
  |str s'=>simp only[D.eqv,D.str.injEq]at he;subst he;exact h
  | _=>simp[D.eqv]at he
 |fn s=>cases y with
  |fn s'=>simp only[D.eqv,D.fn.injEq]at he;subst he;exact h
  | _=>simp[D.eqv]at he
 |nil=>cases y with
  |nil=>exact h
  |slc k n f=>exact .inl ⟨h,he⟩
  | _=>simp[D.eqv]at he
def eqvs:List D->List D->Prop
 | [],[]=>True
 |x::xs,y::ys=>D.eqv x y/\eqvs xs ys
 | _,_=>False
theorem zb1{ok:Nat->Prop}:∀{xs ys:List D}{vs:List Value},eqvs xs ys->All2 (Rep w ok) xs vs->All2 (Rep w ok) ys vs
 | [],[],_,_,h=>h
 |x::xs,y::ys,_,he,.cons h1 h2=>.cons (h1.eqv he.1) (zb1 he.2 h2)
 | [],_::_,_,he,_=>he.elim
 | _::_,[],_,he,_=>he.elim
theorem zaa:∀xs:List D,eqvs xs xs
 | []=>trivial
 |x::xs=>⟨D.eqv_refl x,zaa xs⟩
def look{α:Type}:List (Nat×α)->Nat->Option α
 | [],_=>none
 |(i,x)::r,t=>bif Nat.beq t i then some x else look r t
def St.of(sl:List (Nat×AV))(ob:List (Nat×Ob)):St:=⟨fun t=>(look sl t).getD .any,look ob⟩
def dflt:D:=.bool false
def nth{α:Type}:List α->Nat->Option α
 | [],_=>none
 |x::_,0=>some x
 | _::r,n+1=>nth r n
theorem zau{α:Type}:∀(l:List α) (n:Nat),nth l n=l[n]?
 | [],_=>by simp[nth]
 | _::_,0=>by simp[nth]
 | _::r,n+1=>by simp[nth,zau r n]
def getD'(l:List D)(i:Nat):D:=(nth l i).getD dflt
def capsDat:List Cap->Option (List D)
 | []=>some []
 | .dat x::r=>match capsDat r with|some xs=>some (x::xs)|none=>none
 | _=>none
def avD:AV->Option D
 | .d x=>some x
 | .nilsl=>some .nil
 | .roe m h=>some (.ptr m h)
 | .clo f caps=>match capsDat caps with|some xs=>some (.clo f xs.length (getD' xs))|none=>none
 | _=>none
def allD:List AV->Option (List D)
 | []=>some []
 |c::r=>match avD c,allD r with
  |some x,some xs=>some (x::xs)
  | _,_=>none
theorem zcQ{ok:Nat->Prop}{γ:Nat->Value}:∀{caps:List Cap}{xs:List D}{vs:List Value},capsDat caps=some xs->All2 (CapM w ok γ) caps vs->All2 (Rep w ok) xs vs/\capRefs caps=[]
 | [],xs,[],h,.nil=>by simp[capsDat]at h;subst h;exact⟨.nil,rfl⟩
 |c::r,xs,v::vs,h,.cons h1 h2=>by
  cases c with
  |own i=>simp[capsDat]at h
  |dat x=>
  simp only[capsDat]at h
  cases hr:capsDat r with
  |none=>simp[hr]at h
  |some ys=>simp only[hr,jO]at h;subst h;exact⟨.cons h1 (zcQ hr h2).1,(zcQ hr h2).2⟩
theorem zcw{ok:Nat->Prop}{γ:Nat->Value}{c:AV}{x:D}{v:Value}(h:avD c=some x)(hm:M w ok γ c v):Rep w ok x v/\c.refs=[]:=by
 cases c with
 |d y=>simp[avD]at h;subst h;exact⟨hm,rfl⟩
 |nilsl=>simp[avD]at h;subst h;exact⟨hm,rfl⟩
 |roe m g=>simp[avD]at h;subst h;exact⟨hm,rfl⟩
 |clo f caps=>
  simp only[avD]at h
  cases hc:capsDat caps with
  |none=>simp[hc]at h
  |some xs=>
   simp only[hc,jO]at h;subst h
   obtain⟨vs,h1,h2⟩:=hm
   obtain⟨h3,h4⟩:=zcQ hc h2
   refine⟨⟨vs,h1,h3.length.symm,fun j hj=>?_⟩,h4⟩
   obtain⟨u,hu,hr⟩:=h3.get j xs[j] (by simp[hj])
   refine⟨u,hu,?_⟩
   have:getD' xs j=xs[j]:=by simp[getD',zau,hj]
   rw[this];exact hr
 | _=>simp[avD]at h
theorem zgo{ok:Nat->Prop}{γ:Nat->Value}:∀{cs:List AV}{xs:List D}{vs:List Value},allD cs=some xs->All2 (fun c v=>M w ok γ c v/\v.oneCell'=true) cs vs->All2 (Rep w ok) xs vs
 | [],xs,[],h,.nil=>by simp[allD]at h;subst h;exact .nil
 |c::r,xs,v::vs,h,.cons h1 h2=>by
  simp only[allD]at h
  cases hc:avD c with
  |none=>simp[hc]at h
  |some x=>
  cases hr:allD r with
  |none=>simp[hc,hr]at h
  |some ys=>simp only[hc,hr,jO]at h;subst h;exact .cons (zcw hc h1.1).1 (zgo hr h2)
theorem zjV:∀{cs:List AV}{xs:List D},allD cs=some xs->xs.length=cs.length
 | [],xs,h=>by simp[allD]at h;subst h;rfl
 |c::r,xs,h=>by
  simp only[allD]at h
  cases hc:avD c with
  |none=>simp[hc]at h
  |some x=>
  cases hr:allD r with
  |none=>simp[hc,hr]at h
  |some ys=>simp only[hc,hr,jO]at h;subst h;simp[zjV hr]
def caple(s:St)(ob':Nat->Option Ob):Cap->Cap->Prop
 | .own i,.own j=>i=j
 | .dat x,.dat y=>D.eqv x y
 | .own i,.dat y=>ob' i=none/\∃cs xs,s.ob i=some (.box cs)/\allD cs=some xs/\D.eqv (.ptr xs.length (getD' xs)) y
 | _,_=>False
def capsle(s:St)(ob':Nat->Option Ob):List Cap->List Cap->Prop
 | [],[]=>True
 |x::xs,y::ys=>caple s ob' x y/\capsle s ob' xs ys
 | _,_=>False
def dle(s:St)(ob':Nat->Option Ob):AV->D->Prop
 | .d x,y=>D.eqv x y
 | .own i,y=>ob' i=none/\∃e k n f,s.ob i=some (.row e k n f)/\D.eqv (.slc k n f) y
 | _,_=>False
def AVle(s:St)(ob':Nat->Option Ob):AV->AV->Prop
 | _,.any=>True
 | .d x,.d y=>D.eqv x y
 | .nilsl,.d (.slc _ n _)=>n=0
 | .nilsl,.d .nil=>True
 | .d .nil,.own j=>s.ob j=none/\∃e k f,ob' j=some (.row e k 0 f)
 | .own i,.d (.mp m ks f)=>ob' i=none/\∃m' ks' f',s.ob i=some (.mp m' ks' f')/\D.eqv (.mp m' ks' f') (.mp m ks f)
 | .own i,.d y=>ob' i=none/\∃e k n f,s.ob i=some (.row e k n f)/\D.eqv (.slc k n f) y
 | .own i,.own j=>i=j
 | .nilsl,.own j=>s.ob j=none/\∃e k f,ob' j=some (.row e k 0 f)
 | .nilsl,.nilsl=>True
 | .agg xs,.agg ys=>eqvs xs ys
 | .box i o,.box j p=>i=j/\o=p
 | .box i o,.roe m h=>ob' i=none/\∃cs xs,s.ob i=some (.box cs)/\allD cs=some xs/\D.eqv (.ptr (xs.length-o) fun j=>getD' xs (o+j)) (.ptr m h)
 | .roe m h,.roe m' h'=>D.eqv (.ptr m h) (.ptr m' h')
 | .roe m h,.d y=>D.eqv (.ptr m h) y
 | .bsl i n _,.d (.slc k m f)=>(k=1/\m=n)/\ob' i=none/\∃cs,s.ob i=some (.box cs)/\∀j,j<n->∃x,cs[j]?=some x/\dle s ob' x (f j 0)
 | .elt i k n c,.elt i' k' n' c'=>i=i'/\k=k'/\n=n'/\c=c'
 | .sub i k lo n,.sub i' k' lo' n'=>i=i'/\k=k'/\lo=lo'/\n=n'
 | .clo f l,.clo g m=>f=g/\capsle s ob' l m
 | .clo f l,.d (.clo f' m g)=>f=f'/\l.length=m/\∀j,j<m->∃c,l[j]?=some c/\caple s ob' c (.dat (g j))
 | .pin i v,.pin j u=>i=j/\v=u
 | .pin i _,.own j=>i=j
 | .pbox i v,.pbox j u=>i=j/\v=u
 | .pbox i _,.box j p=>i=j/\p=0
 |v,v'=>v=v'
def avles(s:St)(ob':Nat->Option Ob):List AV->List AV->Prop
 | [],[]=>True
 |x::xs,y::ys=>AVle s ob' x y/\avles s ob' xs ys
 | _,_=>False
def Oble(s:St)(ob':Nat->Option Ob):Option Ob->Ob->Prop
 |some (.box cs),.box cs'=>avles s ob' cs cs'
 |some (.row e k n f),.row e' k' n' f'=>e=e'/\D.eqv (.slc k n f) (.slc k' n' f')/\k=k'
 |none,.row _ _ n _=>n=0
 |some (.mp m ks f),.mp m' ks' f'=>D.eqv (.mp m ks f) (.mp m' ks' f')
 | _,_=>False
def BoxD(w:World)(ok:Nat->Prop)(xs:List D)(v:Value):Prop:=
 ∃b,v= .pointer (some ⟨b,0,none⟩)/\ok b/\∀j,j<xs.length->∃u,w.cell? ⟨b,j,none⟩=some u/\Rep w ok (getD' xs j) u
theorem BoxD.rep{ok:Nat->Prop}{xs:List D}{v:Value}(h:BoxD w ok xs v):Rep w ok (.ptr xs.length (getD' xs)) v:=by
 obtain⟨b,h1,h2,h3⟩:=h
 refine⟨_,h1,fun j hj=>⟨h2,?_⟩⟩
 grind [zaw]
theorem caple.le{s:St}{ob':Nat->Option Ob}{ok ok':Nat->Prop}{γ γ':Nat->Value}{c c':Cap}{x:Value}(h:caple s ob' c c')(hm:CapM w ok γ c x)(hk:∀b,ok b->ok' b)
  (hγ:∀i,(s.ob i).isSome=true->γ' i=γ i)(hv:∀j∈capRefs [c],(s.ob j).isSome=true)
  (hb:∀i cs xs,s.ob i=some (.box cs)->allD cs=some xs->ob' i=none->BoxD w ok' xs (γ i)):CapM w ok' γ' c' x:=by
 cases c with
 |own i=>
  have hx:x=γ i:=hm
  cases c' with
  |own j=>
   have hij:i=j:=h
   subst hij
   exact hx.trans (hγ i (hv i (by simp[capRefs]))).symm
  |dat y=>
   obtain⟨h0,cs,xs,h1,h2,h3⟩:=h
   rw[hx]
   exact Rep.eqv (hb i cs xs h1 h2 h0).rep h3
 |dat y=>
 cases c' with
 |own j=>exact h.elim
 |dat z=>exact Rep.eqv (Rep.keep (fun b hb=>⟨hk b hb,rfl⟩) hm) h
theorem capsle.le{s:St}{ob':Nat->Option Ob}{ok ok':Nat->Prop}{γ γ':Nat->Value}(hk:∀b,ok b->ok' b)
  (hγ:∀i,(s.ob i).isSome=true->γ' i=γ i)
  (hb:∀i cs xs,s.ob i=some (.box cs)->allD cs=some xs->ob' i=none->BoxD w ok' xs (γ i)):∀{l m:List Cap}{vs:List Value},capsle s ob' l m->All2 (CapM w ok γ) l vs->(∀j∈capRefs l,(s.ob j).isSome=true)->All2 (CapM w ok' γ') m vs
 | [],[],_,_,.nil,_=>.nil
 |c::l,d::m,_,h,.cons h1 h2,hv=>.cons (caple.le h.1 h1 hk hγ (fun j hj=>hv j (za8 (by simp) hj)) hb) (capsle.le hk hγ hb h.2 h2 fun j hj=>hv j (by cases c<;>simp[capRefs,hj]))
 | [],_::_,_,h,_,_=>h.elim
 | _::_,[],_,h,_,_=>h.elim
theorem AVle.le{s:St}{ob':Nat->Option Ob}{ok ok':Nat->Prop}{γ γ':Nat->Value}{v v':AV}{x:Value}(h:AVle s ob' v v')(hm:M w ok γ v x)(hk:∀b,ok b->ok' b)
  (hγ:∀i,(s.ob i).isSome=true->γ' i=γ i)(hn:∀i,s.ob i=none->γ' i= .slice none 0 0)(hv:∀j∈v.refs,(s.ob j).isSome=true)
  (hf:∀i e k n f,s.ob i=some (.row e k n f)->ob' i=none->Rep w ok' (.slc k n f) (γ i))
  (hb:∀i cs xs,s.ob i=some (.box cs)->allD cs=some xs->ob' i=none->BoxD w ok' xs (γ i))(hmp:∀i m ks f,s.ob i=some (.mp m ks f)->ob' i=none->Rep w ok' (.mp m ks f) (γ i))
  (hbl:∀i cs,s.ob i=some (.box cs)->ob' i=none->∃b,γ i= .pointer (some ⟨b,0,none⟩)/\ok' b/\∀(j:Nat) (x:AV),cs[j]?=some x->∃u,w.cell? ⟨b,j,none⟩=some u/\M w ok γ x u):M w ok' γ' v' x:=by
 have same:v=v'->M w ok' γ' v' x:=fun e=>e▸hm.keep (fun b hb=>⟨hk b hb,rfl⟩) fun j hj=>hγ j (hv j hj)
 cases v' with
 |any=>exact trivial
 |d y=>
  cases v with
  |d x'=>exact Rep.eqv (x:=x') (Rep.keep (fun b hb=>⟨hk b hb,rfl⟩) hm) (by cases y<;>exact h)
  |nilsl=>
   cases y with
   |slc k n f=>exact .inl ⟨hm,h⟩
   |nil=>exact hm
   | _=>simp[AVle]at h
  |own i=>
   rw[show x=γ i from hm]
   show Rep w ok' y _
   have old:(ob' i=none/\∃e k n f,s.ob i=some (.row e k n f)/\D.eqv (.slc k n f) y)->Rep w ok' y (γ i):=fun⟨h0,e,k,n,f,h1,h2⟩=>(hf i e k n f h1 h0).eqv h2
   cases y with
   |mp m ks f=>obtain⟨h0,m',ks',f',h1,h2⟩:=h;exact(hmp i m' ks' f' h1 h0).eqv h2
   | _=>exact old h
  |roe m g=>exact Rep.eqv (x:=.ptr m g) (Rep.keep (x:=.ptr m g) (fun b hb=>⟨hk b hb,rfl⟩) hm) (by cases y<;>exact h)
  |clo f caps=>
   cases y with
   |clo f' m g=>
    obtain⟨rfl,rfl,h2⟩:=h
    obtain⟨vs,h3,h4⟩:=hm
    refine⟨vs,h3,h4.length.symm,fun j hj=>?_⟩
    obtain⟨c,hc,hcl⟩:=h2 j hj
    obtain⟨u,hu,hr⟩:=h4.get j c hc
    exact⟨u,hu,caple.le hcl hr hk hγ (fun i hi=>hv i (za8 (kZ hc) hi)) hb⟩
   | _=>simp[AVle]at h
  |bsl i m c=>
   cases y with
   |slc k n f=>
    obtain⟨⟨rfl,rfl⟩,h0,cs,h1,h2⟩:=h
    obtain⟨b,hg,rfl,h3,h4⟩:=hm
    obtain⟨b',hg',hok,hc⟩:=hbl i cs h1 h0
    rw[hg]at hg'
    obtain rfl:b=b':=by simpa using hg'
    refine .inr ⟨⟨b,0,none⟩,c,rfl,h3,h4,fun q hq j hj=>⟨hok,?_⟩⟩
    obtain rfl:j=0:=by omega
    obtain⟨x,hx,hd⟩:=h2 q hq
    obtain⟨u,hu,hr⟩:=hc q x hx
    refine⟨u,by rw[zaw];simpa using hu,?_⟩
    cases x with
    |d z=>exact Rep.eqv (x:=z) (Rep.keep (fun b hb=>⟨hk b hb,rfl⟩) hr) hd
    |own p=>
     obtain⟨g0,e,k,n,g,g1,g2⟩:=hd
     rw[show u=γ p from hr]
     exact(hf p e k n g g1 g0).eqv g2
    | _=>exact hd.elim
   | _=>simp[AVle]at h
  | _=>cases y<;>simp[AVle]at h
 |own j=>
  cases v with
  |own i=>exact same (by rw[show i=j from h])
  |pin i u=>
   have hij:i=j:=h
   subst hij
   exact hm.1.trans (hγ i (hv i (by simp[AV.refs]))).symm
  |nilsl=>exact jbI (show x=_ from hm) (hn j h.1).symm
  |d y=>
   cases y with
   |nil=>exact jbI (show x=_ from hm) (hn j h.1).symm
   | _=>simp[AVle]at h
  | _=>simp[AVle]at h
 |nilsl=>
  cases v with
  |nilsl=>exact same rfl
  | _=>simp[AVle]at h
 |agg ys=>
  cases v with
  |agg xs=>
   obtain⟨vs,h1,h2⟩:=hm
   exact⟨vs,h1,zb1 h (h2.imp fun _ _ _=>Rep.keep fun b hb=>⟨hk b hb,rfl⟩)⟩
  | _=>simp[AVle]at h
 |box j p=>
  cases v with
  |box i o=>obtain⟨rfl,rfl⟩:=h;exact same rfl
  |pbox i u=>
   obtain⟨rfl,rfl⟩:=h
   obtain⟨⟨b,h1,h2⟩,_⟩:=hm
   exact⟨b,(hγ i (hv i (by simp[AV.refs]))).trans h1,h2⟩
  | _=>simp[AVle]at h
 |pbox j p=>
  cases v with
  |pbox i o=>obtain⟨rfl,rfl⟩:=h;exact same rfl
  | _=>simp[AVle]at h
 |gho m=>exact same (by cases v<;>simpa [AVle]using h)
 |yl m=>exact same (by cases v<;>simpa [AVle]using h)
 |pre i m=>exact same (by cases v<;>simpa [AVle]using h)
 |pin j p=>
  cases v with
  |pin i o=>obtain⟨rfl,rfl⟩:=h;exact same rfl
  | _=>simp[AVle]at h
 |elt i' k' n' c'=>
  cases v with
  |elt i k n c=>obtain⟨rfl,rfl,rfl,rfl⟩:=h;exact same rfl
  | _=>simp[AVle]at h
 |sub i' k' n' c'=>
  cases v with
  |sub i k n c=>obtain⟨rfl,rfl,rfl,rfl⟩:=h;exact same rfl
  | _=>simp[AVle]at h
 |clo g m=>
  cases v with
  |clo f l=>
   obtain⟨rfl,h2⟩:=h
   obtain⟨vs,h3,h4⟩:=hm
   exact⟨vs,h3,capsle.le hk hγ hb h2 h4 hv⟩
  | _=>simp[AVle]at h
 |roe m g=>
  cases v with
  |roe m' g'=>exact Rep.eqv (x:=.ptr m' g') (y:=.ptr m g) (Rep.keep (x:=.ptr m' g') (fun b hb=>⟨hk b hb,rfl⟩) hm) h
  |box i o=>
   obtain⟨h0,cs,xs,h1,h2,h3⟩:=h
   obtain⟨b,hg,hx⟩:=hm
   obtain⟨b',hg',hok,hc⟩:=hb i cs xs h1 h2 h0
   rw[hg]at hg'
   obtain rfl:b=b':=by simpa using hg'
   refine Rep.eqv (x:=.ptr (xs.length-o) fun j=>getD' xs (o+j)) (y:=.ptr m g) ⟨_,hx,fun j hj=>⟨hok,?_⟩⟩ h3
   obtain⟨u,hu,hr⟩:=hc (o+j) (by omega)
   exact⟨u,by rw[zaw];exact hu,hr⟩
  | _=>simp[AVle]at h
 |tup l=>exact same (by cases v<;>simpa [AVle]using h)
 |tupo j l=>exact same (by cases v<;>simpa [AVle]using h)
 |tupr j l=>exact same (by cases v<;>simpa [AVle]using h)
 |aggc l=>exact same (by cases v<;>simpa [AVle]using h)
 |bsl j m c=>exact same (by cases v<;>simpa [AVle]using h)
 |undef=>exact same (by cases v<;>simpa [AVle]using h)
theorem zfh{s:St}{ob':Nat->Option Ob}{r r':AV->Value->Prop}:∀{xs ys:List AV}{vs:List Value},avles s ob' xs ys->All2 r xs vs->(∀x y v,x∈xs->AVle s ob' x y->r x v->r' y v)->All2 r' ys vs
 | [],[],_,_,.nil,_=>.nil
 |x::xs,y::ys,_,he,.cons h1 h2,hr=>.cons (hr _ _ _ (by simp) he.1 h1) (zfh he.2 h2 fun x y v hx=>hr x y v (by simp[hx]))
 | [],_::_,_,he,_,_=>he.elim
 | _::_,[],_,he,_,_=>he.elim
theorem zc1{ok:Nat->Prop}{base e k n:Nat}{f:Nat->Nat->D}{v:Value}{xs:List Value}(h:w.ownsRow base e k v n xs)(hr:∀m,m<n->∀j,j<k->∃u,xs[m*k+j]?=some u/\Rep w ok (f m j) u)
  (hok:∀b,blk v=some b->ok b):Rep w ok (.slc k n f) v:=by
 rcases h.2 with h1|⟨g,cap,cur,hv,h2,h3,h4,h5,h6,h7⟩
 ·exact .inl h1
 refine .inr ⟨⟨g,0,none⟩,cap,hv,h4,h5,fun i hi j hj=>⟨hok g (by rw[hv];rfl),?_⟩⟩
 obtain⟨u,hu,hr'⟩:=hr i hi j hj
 exact⟨u,h.cells (g:=g) (by rw[hv];rfl) _ _ hu,hr'⟩
open Classical in
theorem RG.weakK{s':St}(h:RG cx γ s a w)(hsl:∀t,AVle s s'.ob (s.sl t) (s'.sl t))(hob:∀i o',s'.ob i=some o'->Oble s s'.ob (s.ob i) o')
    (hr1:∀t,∀j∈(s'.sl t).refs,(s'.ob j).isSome=true)(hr2:∀i cs,s'.ob i=some (.box cs)->∀c∈cs,∀j∈c.refs,(s'.ob j).isSome=true): ∃γ',RG cx γ' s' a w/\∀b,okOf cx s γ w b->okOf cx s' γ' w b:=by
  let γ':Nat->Value:=fun i=>if(s.ob i).isSome=true then γ i else .slice none 0 0
  have hγ:∀i,(s.ob i).isSome=true->γ' i=γ i:=fun i hi=>kH hi
  have hn:∀i,s.ob i=none->γ' i= .slice none 0 0:=fun i hi=>kG (by rw [hi];simp)
  have hblk:∀i b,blk (γ' i)=some b->∃o,s.ob i=some o/\blk (γ i)=some b:=fun i b hb=>by
    by_cases hi:(s.ob i).isSome=true
    · grind [Option.isSome_iff_exists]
    rw [hn i (by simpa using hi)]at hb;cases hb
  have hk:∀b,okOf cx s γ w b->okOf cx s' γ' w b:=fun b hb=>by
    rcases id hb with h1|⟨h1,h2,h3⟩
    · exact .inl h1
    refine .inr ⟨h1,h2,fun i o ho e=> ?_⟩
    obtain⟨p,hp,he⟩:=hblk i b e
    exact h3 i p hp he
  have hf:∀i e k n f,s.ob i=some (.row e k n f)->s'.ob i=none->Rep w (okOf cx s' γ' w) (.slc k n f) (γ i):=fun i e k n f hi hi'=>by
    obtain⟨xs,h1,_,_,h3⟩:=h.objs i _ hi
    refine zc1 h1 (fun m hm j hj=> ?_) fun b hb=> ?_
    · grind [Rep.keep]
    have hlt:=zax h hi hb
    refine .inr ⟨hlt.1,hlt.2,fun j o ho e'=> ?_⟩
    obtain⟨p,hp,he⟩:=hblk j b e'
    have:j≠i:=fun e''=>by subst e'';rw [hi']at ho;cases ho
    exact h.sep j i p _ hp hi this b he hb
  have hgho:∀m,s'.sl G= .gho m->cx.gn=m:=fun m hm=>h.gho m (by
    have h1:=hsl G
    rw [hm]at h1
    cases hG:s.sl G<;>rw [hG]at h1<;>simp [AVle]at h1
    rw [h1])
  have hbx:∀i cs xs,s.ob i=some (.box cs)->allD cs=some xs->s'.ob i=none->BoxD w (okOf cx s' γ' w) xs (γ i):=fun i cs xs hi hx hi'=>by
    obtain⟨b,vs,T,h1,h2,h3,h4⟩:=h.objs i _ hi
    have hr:=zgo hx h4
    refine⟨b,h1,.inr ⟨h2,(jB.1 h3).1,fun j o ho e'=> ?_⟩,fun j hj=> ?_⟩
    · obtain⟨p,hp,he⟩:=hblk j b e'
      have:j≠i:=fun e''=>by subst e'';rw [hi']at ho;cases ho
      exact h.sep j i p _ hp hi this b he (by rw [h1];rfl)
    obtain⟨u,hu,hr⟩:=hr.get j xs[j] (by simp [hj])
    have:getD' xs j=xs[j]:=by simp [getD',zau,hj]
    rw [this]
    exact⟨u,by simp [World.cell?,h3,hu],Rep.keep (fun b hb=>⟨hk b hb,rfl⟩) hr⟩
  have hbl:∀i cs,s.ob i=some (.box cs)->s'.ob i=none->∃b,γ i= .pointer (some ⟨b,0,none⟩)/\okOf cx s' γ' w b/\∀(j:Nat) (x:AV),cs[j]?=some x->∃u,w.cell? ⟨b,j,none⟩=some u/\M w (okOf cx s γ w) γ x u:=fun i cs hi hi'=>by
    obtain⟨b,vs,T,h1,h2,h3,h4⟩:=h.objs i _ hi
    refine⟨b,h1,.inr ⟨h2,(jB.1 h3).1,fun j o ho e'=> ?_⟩,fun j x hx=> ?_⟩
    · obtain⟨p,hp,he⟩:=hblk j b e'
      have:j≠i:=fun e''=>by subst e'';rw [hi']at ho;cases ho
      exact h.sep j i p _ hp hi this b he (by rw [h1];rfl)
    obtain⟨u,hu,hr⟩:=h4.get j x hx
    exact⟨u,by simp [World.cell?,h3,hu],hr.1⟩
  have hmp:∀i m ks f,s.ob i=some (.mp m ks f)->s'.ob i=none->Rep w (okOf cx s' γ' w) (.mp m ks f) (γ i):=fun i m ks f hi hi'=>by
    obtain⟨b,es,c,h1,h2,h3,h4,h5⟩:=h.objs i _ hi
    refine⟨b,es,c,h1,.inr ⟨h2,(jB.1 h3).1,fun j o ho e'=> ?_⟩,h3,h4,fun j hj=> ?_⟩
    · obtain⟨p,hp,he⟩:=hblk j b e'
      have:j≠i:=fun e''=>by subst e'';rw [hi']at ho;cases ho
      exact h.sep j i p _ hp hi this b he (by rw [h1];rfl)
    obtain⟨e,he,hr⟩:=h5 j hj
    exact⟨e,he,Rep.keep (fun b hb=>⟨hk b hb,rfl⟩) hr⟩
  refine⟨γ',{ defers:=h.defers,size:=h.size,okA:=h.okA,lent:=h.lent,below:=h.below,least:=h.least,hold:=fun k o ho=>⟨(h.hold k o ho).1,fun i p hi e=>by
    obtain⟨q,hq,he⟩:=hblk i k e
    exact(h.hold k o ho).2 i q hq he⟩,objs:=fun i o' hi'=> ?_,refs:=hr2,sep:=fun i j o o' _ _ hne b hb=> ?_,slots:=fun t=> ?_,srefs:=hr1,gho:=hgho,ng:=h.ng },hk⟩
  · have hle:=hob i o' hi'
    cases hs:s.ob i with
    |none=>
     rw [hs]at hle
     cases o' with
     |box cs=>exact hle.elim
     |mp m ks f=>exact hle.elim
     |row e k n f=>
      have hn0:n=0:=hle
      subst hn0
      refine⟨[],by rw [hn i hs];exact World.ownsRow_nil w _ e k,(fun b hb=>by rw [hn i hs]at hb;cases hb),by simp,fun m hm=>absurd hm (qJ _)⟩
    |some o=>
     rw [hs]at hle
     have ho:=h.objs i o hs
     have hgi:=hγ i (by rw [hs];rfl)
     cases o with
     |box cs=>
      cases o' with
      |row e k n f=>exact hle.elim
      |mp m ks f=>exact hle.elim
      |box cs'=>
       obtain⟨b,vs,T,h1,h2,h3,h4⟩:=ho
       refine⟨b,vs,T,by rw [hgi];exact h1,h2,h3,zfh hle h4 fun x y v hx hxy hv=>⟨hxy.le hv.1 hk hγ hn (h.refs i cs hs x hx) hf hbx hmp hbl,hv.2⟩⟩
     |row e k n f=>
      cases o' with
      |box cs=>exact hle.elim
      |mp m ks f=>exact hle.elim
      |row e' k' n' f'=>
       obtain⟨rfl,⟨rfl,he⟩,rfl⟩:=hle
       obtain⟨xs,h1,h0,h2,h3⟩:=ho
       refine⟨xs,by rw [hgi];exact h1,by rw [hgi];exact h0,h2,fun m hm j hj=> ?_⟩
       obtain⟨u,hu,hr⟩:=h3 m hm j hj
       refine⟨u,hu,(Rep.keep (fun b hb=>⟨hk b hb,rfl⟩) hr).eqv ?_⟩
       rcases he with he|⟨_,he⟩
       · omega
       · exact he m hm j hj
     |mp m ks f=>
      cases o' with
      |box cs=>exact hle.elim
      |row e' k' n' f'=>exact hle.elim
      |mp m' ks' f'=>
       obtain⟨rfl,rfl,he⟩:=hle
       obtain⟨b,es,c,h1,h2,h3,h4,h5⟩:=ho
       refine⟨b,es,c,by rw [hgi];exact h1,h2,h3,h4,fun j hj=> ?_⟩
       obtain⟨e,q1,q2⟩:=h5 j hj
       exact⟨e,q1,(Rep.keep (fun b hb=>⟨hk b hb,rfl⟩) q2).eqv (he j hj)⟩
  · intro hb2
    obtain⟨p,hp,h1⟩:=hblk i b hb
    obtain⟨q,hq,h2⟩:=hblk j b hb2
    exact h.sep i j p q hp hq hne b h1 h2
  exact(hsl t).le (h.slots t) hk hγ hn (h.srefs t) hf hbx hmp hbl
theorem RG.weak{s':St}(h:RG cx γ s a w)(hsl:∀t,AVle s s'.ob (s.sl t) (s'.sl t))(hob:∀i o',s'.ob i=some o'->Oble s s'.ob (s.ob i) o')
  (hr1:∀t,∀j∈(s'.sl t).refs,(s'.ob j).isSome=true)(hr2:∀i cs,s'.ob i=some (.box cs)->∀c∈cs,∀j∈c.refs,(s'.ob j).isSome=true):∃γ',RG cx γ' s' a w:=
 let ⟨γ',h',_⟩:=h.weakK hsl hob hr1 hr2;⟨γ',h'⟩
def wkS(s:St)(ob':Nat->Option Ob):List (Nat×AV)->Prop
 | []=>True
 |(t,v)::r=>AVle s ob' (s.sl t) v/\wkS s ob' r
def wkO(s:St)(ob':Nat->Option Ob):List (Nat×Ob)->Prop
 | []=>True
 |(i,o)::r=>Oble s ob' (s.ob i) o/\wkO s ob' r
def hasAll(ob:List (Nat×Ob))(l:List Nat):Bool:=l.all fun i=>(look ob i).isSome
def closedS(ob:List (Nat×Ob)):List (Nat×AV)->Bool
 | []=>true
 |(_,v)::r=>hasAll ob v.refs&&closedS ob r
def closedO(ob:List (Nat×Ob)):List (Nat×Ob)->Bool
 | []=>true
 |(_,.box cs)::r=>cs.all (fun c=>hasAll ob c.refs)&&closedO ob r
 | _::r=>closedO ob r
def Weak(s:St)(sl:List (Nat×AV))(ob:List (Nat×Ob)):Prop:=
 (closedS ob sl&&closedO ob ob)=true/\wkO s (look ob) ob/\wkS s (look ob) sl
theorem zak{α:Type}:∀{l:List (Nat×α)}{t:Nat}{x:α},look l t=some x->(t,x)∈l
 | [],_,_,h=>by cases h
 |(i,y)::r,t,x,h=>by
  simp only[look]at h
  cases hb:Nat.beq t i with
  |true=>rw[hb]at h;have:=jA hb;subst this;cases h;simp
  |false=>rw[hb]at h;simp[zak (l:=r) h]
theorem zkB{s:St}{ob':Nat->Option Ob}:∀{l:List (Nat×AV)}{t:Nat}{v:AV},wkS s ob' l->(t,v)∈l->AVle s ob' (s.sl t) v
 |(_,_)::_,_,_,h,.head _=>h.1
 | _::_,_,_,h,.tail _ hm=>zkB h.2 hm
theorem zkC{s:St}{ob':Nat->Option Ob}:∀{l:List (Nat×Ob)}{t:Nat}{v:Ob},wkO s ob' l->(t,v)∈l->Oble s ob' (s.ob t) v
 |(_,_)::_,_,_,h,.head _=>h.1
 | _::_,_,_,h,.tail _ hm=>zkC h.2 hm
theorem ze9{ob:List (Nat×Ob)}{l:List Nat}(h:hasAll ob l=true):∀j∈l,(look ob j).isSome=true:=jC.1 h
theorem zcv{ob:List (Nat×Ob)}:∀{l:List (Nat×AV)}{t:Nat}{v:AV},closedS ob l=true->(t,v)∈l->∀j∈v.refs,(look ob j).isSome=true
 |(_,_)::_,_,_,h,.head _=>by simp only[closedS,jP]at h;exact ze9 h.1
 |(_,_)::_,_,_,h,.tail _ hm=>by simp only[closedS,jP]at h;exact zcv h.2 hm
theorem zbs{ob:List (Nat×Ob)}:∀{l:List (Nat×Ob)}{t:Nat}{cs:List AV},closedO ob l=true->(t,Ob.box cs)∈l->∀c∈cs,∀j∈c.refs,(look ob j).isSome=true
 |(_,.box _)::_,_,_,h,.head _=>by simp only[closedO,jP]at h;exact fun c hc=>ze9 (jC.1 h.1 c hc)
 |(_,.box _)::_,_,_,h,.tail _ hm=>by simp only[closedO,jP]at h;exact zbs h.2 hm
 |(_,.row ..)::_,_,_,h,.tail _ hm=>by simp only[closedO]at h;exact zbs h hm
 |(_,.mp ..)::_,_,_,h,.tail _ hm=>by simp only[closedO]at h;exact zbs h hm
theorem RG.weakL{sl:List (Nat×AV)}{ob:List (Nat×Ob)}(h:RG cx γ s a w)(hw:Weak s sl ob):∃γ',RG cx γ' (St.of sl ob) a w/\∀b,okOf cx s γ w b->okOf cx (St.of sl ob) γ' w b:=by
 obtain⟨hc,h2,h3⟩:=hw
 simp only[jP]at hc
 refine h.weakK (s':=St.of sl ob) (fun t=>?_) (fun i o hi=>zkC h2 (zak hi)) (fun t j hj=>?_) (fun i cs hi c hc' j hj=>zbs hc.2 (zak hi) c hc' j hj)
 ·show AVle s (look ob) (s.sl t) ((look sl t).getD .any)
  cases hl:look sl t with
  |none=>exact trivial
  |some v=>exact zkB h3 (zak hl)
 have hj':j∈((look sl t).getD .any).refs:=hj
 cases hl:look sl t with
 |none=>rw[hl]at hj';simp[AV.refs]at hj'
 |some v=>rw[hl]at hj';exact zcv hc.1 (zak hl) j hj'
theorem R.weak{sl:List (Nat×AV)}{ob:List (Nat×Ob)}(h:R cx s a w)(hw:Weak s sl ob):R cx (St.of sl ob) a w:=
 let ⟨_,h⟩:=h;let ⟨γ',h',_⟩:=h.weakL hw;⟨γ',h'⟩
end
inductive TK where
  |other
  |slice (e:Nat)
  |struct (fs:List (Nat×Nat))
  |array (n e:Nat)
  |int (k:IntKind)
  |bool
  |str
  |map (k e:Nat)
  |ptr
structure TI where
  size:Nat
  agg:Bool
  bytes:Nat
  zero:List Value
  kind:TK
def TK.of:TypeDesc->TK
 | .slice e=>.slice e
 | .struct fs=>.struct (fs.toList.map fun f=>(f.offset,f.type))
 | .array n e=>.array n e
 | .int k=>.int k
 | .bool=>.bool
 | .string=>.str
 | .map k e=>.map k e
 | .pointer _=>.ptr
 | _=>.other
def TK.isAgg:TypeDesc->Bool
 | .struct _=>true
 | .array ..=>true
 | _=>false
def TK.okz:TK->Value->Bool
 | .bool,.bool _=>true
 | .bool,_=>false
 | .int _,.int ..=>true
 | .int _,_=>false
 | .slice _,.slice ..=>true
 | .slice _,_=>false
 | _,_=>true
def TK.one:TK->Bool
 | .bool=>true
 | .int _=>true
 | .slice _=>true
 | _=>false
def TI.of(P:Program)(t:TypeId):Option TI:=
 match P.info? t,P.underlying t with
 |some i,some d=>
  match i.zero with
  |some z=>bif TK.okz (TK.of d) z then some { size:=i.size,agg:=TK.isAgg d,bytes:=i.bytes,zero:=z.cells.toList,kind:=TK.of d }else none
  |none=>none
 | _,_=>none
abbrev TT:=Nat->Option TI
structure Env where
  eq:Nat->Bool
  dr:Bool
  l:Nat
  yd:Nat->List V1->Prop
  it:Bool
  cut:Nat->Bool
def ResRep(w:World)(ok:Nat->Prop):List V1->Value->Prop
 | [x],v=>Rep1 w ok x v
 |l,v=>∃vs:List Value,v= .tuple vs.toArray/\All2 (Rep1 w ok) l vs
def Ent(P:Program)(f:FuncId):Prop:=∃fn:Func,P.funcs[f]?=some fn/\(fn.name== "runtime.NumGoroutine")=false/\fn.body.isNone=false
def SpecG(d:Bool)(P:Program)(f:FuncId)(args res:List V1):Prop:=
 Ent P f/\∀(w:World) (ok:Nat->Prop) (vs:List Value),(∀b,ok b->b<w.heap.size)->All2 (Rep1 w ok) args vs->
  Calls P f vs.toArray w fun e w'=>∃v,e= .returned v/\(Below w.heap.size w w'/\(d=true->w.drawn<=w'.drawn))/\ResRep w' (fun b=>ok b\/(w.heap.size<=b/\b<w'.heap.size)) res v
abbrev Spec:=SpecG false
abbrev SpecD:=SpecG true
theorem SpecG.of{d:Bool}{P:Program}{f:FuncId}{args res:List V1}(h:SpecG true P f args res):SpecG d P f args res:=
 ⟨h.1,fun w ok vs h1 h2=>(h.2 w ok vs h1 h2).mono fun _ _ ⟨v,h3,h4,h5⟩=>⟨v,h3,⟨h4.1,fun _=>h4.2 rfl⟩,h5⟩⟩
def SpecF(d:Bool)(P:Program)(f:FuncId)(args res:List V1):Prop:=
 Ent P f/\∀(w:World) (ok:Nat->Prop) (vs:List Value),(∀b,ok b->b<w.heap.size)->All2 (Rep1 w ok) args vs->
  Calls P f vs.toArray w fun e w'=>∃v,e= .returned v/\(Below w.heap.size w w'/\(d=true->w.drawn<=w'.drawn))/\ResRep w' (fun b=>w.heap.size<=b/\b<w'.heap.size) res v
def SpecOG(d:Bool)(P:Program)(f:FuncId)(args:List V1)(e k n:Nat)(g:Nat->Nat->D):Prop:=
 Ent P f/\∀(w:World) (ok:Nat->Prop) (vs:List Value),(∀b,ok b->b<w.heap.size)->All2 (Rep1 w ok) args vs->
  Calls P f vs.toArray w fun en w'=>∃v,en= .returned v/\(Below w.heap.size w w'/\(d=true->w.drawn<=w'.drawn))/\∃xs,w'.ownsRow w.heap.size e k v n xs/\(∀u∈xs,u.oneCell'=true)/\
   ∀m,m<n->∀j,j<k->∃u,xs[m*k+j]?=some u/\Rep w' (fun b=>ok b\/(w.heap.size<=b/\b<w'.heap.size/\blk v≠some b)) (g m j) u
abbrev SpecO:=SpecOG false
def SpecTO(d:Bool)(P:Program)(f:FuncId)(args:List V1)(e k n:Nat)(g:Nat->Nat->D)(res:List V1):Prop:=
 Ent P f/\∀(w:World) (ok:Nat->Prop) (vs:List Value),(∀b,ok b->b<w.heap.size)->All2 (Rep1 w ok) args vs->
  Calls P f vs.toArray w fun en w'=>∃v us,en= .returned (.tuple (v::us).toArray)/\(Below w.heap.size w w'/\(d=true->w.drawn<=w'.drawn))/\(∃xs,w'.ownsRow w.heap.size e k v n xs/\(∀u∈xs,u.oneCell'=true)/\
   ∀m,m<n->∀j,j<k->∃u,xs[m*k+j]?=some u/\Rep w' (fun b=>ok b\/(w.heap.size<=b/\b<w'.heap.size/\blk v≠some b)) (g m j) u)/\∀ok',All2 (Rep1 w' ok') res us
def SpecX(d:Bool)(P:Program)(f:FuncId)(args:List V1)(e k n:Nat)(g:Nat->Nat->D):Option (List V1)->Prop
 |none=>SpecOG d P f args e k n g
 |some res=>SpecTO d P f args e k n g res
def ownAV(d:Nat):Option (List V1)->AV
 |none=>.own d
 |some l=>.tupr d l
def cd:Value->Option D
 | .int k n=>some (.int k n)
 | .bool b=>some (.bool b)
 | .string s=>some (.str s)
 | .slice none l c=>bif Nat.beq l 0&&Nat.beq c 0 then some .nil else none
 | .nilFunc=>some (.val .nilFunc)
 | .nilIface=>some (.val .nilIface)
 | .pointer none=>some (.val (.pointer none))
 | .map none=>some (.val (.map none))
 | _=>none
def cds:List Value->Option (List D)
 | []=>some []
 |v::r=>match cd v,cds r with
  |some x,some xs=>some (x::xs)
  | _,_=>none
def cv:Value->AV
 | .slice none l c=>bif Nat.beq l 0&&Nat.beq c 0 then .nilsl else .any
 | .agg cs=>match cds cs.toList with
  |some xs=>.agg xs
  |none=>.any
 |v=>match cd v with
  |some x=>.d x
  |none=>.any
def AV.unpin:AV->AV
 | .pin i _=>.own i
 | .pbox i _=>.box i 0
 |v=>v
def ev(s:St):Operand->AV
 | .tmp t=>(s.sl t).unpin
 | .const v=>cv v
 | .func f=>.d (.fn f)
 | .global _=>.any
def kbeq:IntKind->IntKind->Bool
 | .i64,.i64=>true
 | .u64,.u64=>true
 | .u8,.u8=>true
 | .i32,.i32=>true
 | .u32,.u32=>true
 | .i8,.i8=>true
 | .i16,.i16=>true
 | .u16,.u16=>true
 | _,_=>false
def cellsD:AV->Option (List D)
 | .d x=>some [x]
 | .agg xs=>some xs
 | .nilsl=>some [.nil]
 | .roe m h=>some [.ptr m h]
 | .clo f l=>match capsDat l with|some xs=>some [.clo f xs.length (getD' xs)]|none=>none
 | _=>none
def capA:Cap->AV
 | .own i=>.own i
 | .dat x=>.d x
def cellsA:AV->Option (List AV)
 | .d x=>some [.d x]
 | .agg xs=>some (xs.map .d)
 | .nilsl=>some [.nilsl]
 | .own i=>some [.own i]
 | .box i o=>some [.box i o]
 | .clo f l=>some [.clo f l]
 | .roe m h=>some [.d (.ptr m h)]
 | .yl l=>some [.yl l]
 | .aggc cs=>some (cs.map capA)
 | _=>none
def capC:AV->Option Cap
 | .own i=>some (.own i)
 |v=>match avD v with|some x=>some (.dat x)|none=>none
def capsC:List AV->Option (List Cap)
 | []=>some []
 |v::r=>match capC v,capsC r with
  |some c,some l=>some (c::l)
  | _,_=>none
def capsV(s:St):List Cap->Option (List D)
 | []=>some []
 | .dat x::r=>match capsV s r with|some xs=>some (x::xs)|none=>none
 | .own i::r=>match s.ob i,capsV s r with
  |some (.row _ k n f),some xs=>some (.slc k n f::xs)
  |some (.mp m ks f),some xs=>some (.mp m ks f::xs)
  | _,_=>none
def toV1(s:St):AV->Option V1
 | .agg xs=>some (.agg xs)
 | .aggc cs=>match capsV s cs with|some xs=>some (.agg xs)|none=>none
 | .own i=>match s.ob i with
  |some (.row _ k n f)=>some (.d (.slc k n f))
  |some (.mp m ks f)=>some (.d (.mp m ks f))
  | _=>none
 |v=>match avD v with
  |some x=>some (.d x)
  |none=>none
def toV1s(s:St):List AV->Option (List V1)
 | []=>some []
 |v::r=>match toV1 s v,toV1s s r with
  |some x,some xs=>some (x::xs)
  | _,_=>none
def cellD2(s:St):AV->Option D
 | .own i=>match s.ob i with
  |some (.row _ k n f)=>some (.slc k n f)
  |some (.mp m ks f)=>some (.mp m ks f)
  | _=>none
 |v=>avD v
def cellsD2(s:St):List AV->Option (List D)
 | []=>some []
 |c::r=>match cellD2 s c,cellsD2 s r with
  |some x,some xs=>some (x::xs)
  | _,_=>none
def toV2(s:St):AV->Option V1
 | .box i off=>match s.ob i with
  |some (.box cs)=>match cellsD2 s cs with
   |some xs=>some (.d (.ptr (xs.length-off) fun j=>getD' xs (off+j)))
   |none=>none
  | _=>none
 |v=>toV1 s v
def toV2s(s:St):List AV->Option (List V1)
 | []=>some []
 |v::r=>match toV2 s v,toV2s s r with
  |some x,some xs=>some (x::xs)
  | _,_=>none
def D.flat:D->Bool
 | .slc ..=>false
 | .ptr ..=>false
 | .clo ..=>false
 | .ifc ..=>false
 | .bnd ..=>false
 | .mp ..=>false
 | _=>true
def callee:AV->Option (FuncId×List AV)
 | .d (.fn f)=>some (f,[])
 | .d (.clo f m g)=>some (f,(List.range m).map fun j=>.d (g j))
 | .clo f caps=>match capsDat caps with
  |some xs=>some (f,xs.map .d)
  |none=>none
 | _=>none
def AV.asPtr:AV->AV
 | .d (.ptr m h)=>.roe m h
 |v=>v
def V1.flat:V1->Bool
 | .d x=>x.flat
 | .agg xs=>xs.all D.flat
def AV.isOwn:AV->Bool
 | .own _=>true
 | .aggc _=>true
 | _=>false
def resAV:List V1->AV
 | [.d x]=>.d x
 | [.agg xs]=>.agg xs
 |l=>.tup l
structure Split(b:Bool)(K:Bool->Prop):Prop where
  out:K b
theorem Split.of{b:Bool}{K:Bool->Prop}(h:K b):Split b K:=⟨h⟩
theorem Split.tt{K:Bool->Prop}(h:K true):Split true K:=.of h
theorem Split.ff{K:Bool->Prop}(h:K false):Split false K:=.of h
theorem Split.by{b:Bool}{K:Bool->Prop}(h1:b=true->K true)(h2:b=false->K false):Split b K:=by
 cases b
 ·exact .of (h2 rfl)
 exact .of (h1 rfl)
structure CallOb(d:Bool)(P:Program)(s:St)(f:FuncId)(args:List AV)(K:AV->Prop):Prop where
  out:
    (∃xs res,toV1s s args=some xs/\SpecG d P f xs res/\(res.all V1.flat=true\/args.all (fun v=>!v.isOwn)=true)/\K (resAV res))\/
    (∃xs res,toV2s s args=some xs/\SpecF d P f xs res/\K (resAV res))
theorem zaI(d:Bool)(P:Program)(s:St)(f:FuncId)(args:List AV)(K:AV->Prop):CallOb d P s f args K↔(
 (∃xs res,toV1s s args=some xs/\SpecG d P f xs res/\(res.all V1.flat=true\/args.all (fun v=>!v.isOwn)=true)/\K (resAV res))\/
 (∃xs res,toV2s s args=some xs/\SpecF d P f xs res/\K (resAV res))):=⟨fun h=>h.out,fun h=>⟨h⟩⟩
def mthB(P:Program)(t:Nat)(name:String):Option FuncId:=match P.info? t,P.underlying t with
 |some i,some (.struct _)=>(match i.methods.find? (·.name==name)with
  |some m=>bif m.path.isEmpty then(match m.func with|some (f,false)=>some f| _=>none)else none
  |none=>none)
 | _,_=>none
structure InvOb(d:Bool)(P:Program)(s:St)(r:AV)(name:String)(args:List AV)(K:AV->Prop):Prop where
  out:∃u m g f,r= .d (.ifc u m g)/\mthB P u name=some f/\CallOb d P s f (.agg ((List.range m).map g)::args) K
theorem zeC(d:Bool)(P:Program)(s:St)(r:AV)(name:String)(args:List AV)(K:AV->Prop):InvOb d P s r name args K↔(
 ∃u m g f,r= .d (.ifc u m g)/\mthB P u name=some f/\CallOb d P s f (.agg ((List.range m).map g)::args) K):=⟨fun h=>h.out,fun h=>⟨h⟩⟩
structure CallOwn(d:Bool)(P:Program)(s:St)(f:FuncId)(args:List AV)(K:Ob->Option (List V1)->Prop):Prop where
  out:
    ∃xs e k n g r,toV1s s args=some xs/\SpecX d P f xs e k n g r/\(∀m j,m<n->j<k->(g m j).flat=true)/\K (.row e k n g) r
theorem zar(d:Bool)(P:Program)(s:St)(f:FuncId)(args:List AV)(K:Ob->Option (List V1)->Prop):CallOwn d P s f args K↔(
 ∃xs e k n g r,toV1s s args=some xs/\SpecX d P f xs e k n g r/\(∀m j,m<n->j<k->(g m j).flat=true)/\K (.row e k n g) r):=⟨fun h=>h.out,fun h=>⟨h⟩⟩
def inR(k:IntKind)(n:Int):Prop:=k.min<=n/\n<=k.max
def intBin(op:BinOp)(k:IntKind)(a b:Int)(K:D->Prop):Prop:=
 match op with
 | .add=>inR k (a+b)/\K (.int k (a+b))
 | .sub=>inR k (a-b)/\K (.int k (a-b))
 | .mul=>inR k (a*b)/\K (.int k (a*b))
 | .quo=>(b≠0/\inR k (a.tdiv b))/\K (.int k (a.tdiv b))
 | .rem=>b≠0/\K (.int k (a.tmod b))
 | .eql=>K (.bool (a==b))
 | .neq=>K (.bool (a != b))
 | .lss=>K (.bool (decide (a<b)))
 | .leq=>K (.bool (decide (a<=b)))
 | .gtr=>K (.bool (decide (b<a)))
 | .geq=>K (.bool (decide (b<=a)))
 | .and=>K (.int k (k.wrap (BitVec.ofInt k.bits a&&&BitVec.ofInt k.bits b).toNat))
 | .or=>K (.int k (k.wrap (BitVec.ofInt k.bits a|||BitVec.ofInt k.bits b).toNat))
 | .xor=>K (.int k (k.wrap (BitVec.ofInt k.bits a ^^^ BitVec.ofInt k.bits b).toNat))
 | .andNot=>K (.int k (k.wrap (BitVec.ofInt k.bits a&&& ~~~ BitVec.ofInt k.bits b).toNat))
 | .shl=>0<=b/\K (.int k (k.wrap (a*2^(min b.toNat k.bits))))
 | .shr=>0<=b/\K (.int k (a.fdiv (2^(min b.toNat k.bits))))
def isShift:BinOp->Bool
 | .shl=>true
 | .shr=>true
 | _=>false
def eqD:D->D->Option Bool
 | .int k a,.int k' b=>bif kbeq k k' then some (a==b)else none
 | _,_=>none
def eqDs:List D->List D->Option Bool
 | [],[]=>some true
 |x::xs,y::ys=>match eqD x y,eqDs xs ys with
  |some a,some b=>some (a&&b)
  | _,_=>none
 | _,_=>none
def isPtrT(T:TT)(t:Nat):Bool:=match T t with|some { kind:=.ptr,.. }=>true| _=>false
def ptrQ(T:TT)(op:BinOp)(t:Nat)(b:Bool)(K:AV->Prop):Prop:=match isPtrT T t,op with
 |true,.eql=>K (.d (.bool b))
 |true,.neq=>K (.d (.bool (!b)))
 | _,_=>False
def isBoolT(T:TT)(t:Nat):Bool:=match T t with|some { kind:=.bool,.. }=>true| _=>false
def wrapN:Nat:=1000000007
def intBinW(op:BinOp)(k:IntKind)(a b:Int)(K:D->Prop):Prop:=
 match op with
 | .add=>K (.int k (k.wrap (a+b)))
 | .sub=>K (.int k (k.wrap (a-b)))
 | .mul=>K (.int k (k.wrap (a*b)))
 |op=>intBin op k a b K
def binE(T:TT)(E:Env)(op:BinOp)(t:Nat)(x y:AV)(K:AV->Prop):Prop:=
 match x,y with
 | .d (.int k a),.d (.int k' b)=>bif isShift op||kbeq k k' then(match E.cut wrapN with|true=>intBinW op k a b fun r=>K (.d r)|false=>intBin op k a b fun r=>K (.d r))else False
 | .d (.bool a),.d (.bool b)=>
  match isBoolT T t,op with
  |true,.eql=>K (.d (.bool (a==b)))
  |true,.neq=>K (.d (.bool (!(a==b))))
  | _,_=>False
 | .agg xs,.agg ys=>
  match E.eq t,T t,eqDs xs ys with
  |true,some ti,some b=>
   bif Nat.beq xs.length ti.size then
    match op with
    | .eql=>K (.d (.bool b))
    | .neq=>K (.d (.bool (!b)))
    | _=>False
   else False
  | _,_,_=>False
 | .box _ _,.d (.val (.pointer none))=>ptrQ T op t false K
 | .d (.val (.pointer none)),.d (.val (.pointer none))=>ptrQ T op t true K
 | _,_=>False
def unE(op:UnOp)(x:AV)(K:AV->Prop):Prop:=
 match op,x with
 | .neg,.d (.int k n)=>inR k (-n)/\K (.d (.int k (-n)))
 | .not,.d (.bool b)=>K (.d (.bool (!b)))
 | .xor,.d (.int k n)=>K (.d (.int k (k.wrap (BitVec.ofInt k.bits (if k.signed then -1 else k.max) ^^^ BitVec.ofInt k.bits n).toNat)))
 | _,_=>False
def rangeD(m:Nat)(h:Nat->D):List D:=(List.range m).map h
def loadP(s:St)(ti:TI)(v:AV)(K:AV->Prop):Prop:=
 match v with
 | .box i off=>
  match s.ob i with
  |some (.box cs)=>
   match ti.agg with
   |true=>match allD ((cs.drop off).take ti.size)with
    |some xs=>bif Nat.beq xs.length ti.size then K (.agg xs)else False
    |none=>match capsC ((cs.drop off).take ti.size)with
     |some l=>bif Nat.beq l.length ti.size then K (.aggc l)else False
     |none=>False
   |false=>match nth cs off with
    |some c=>K c
    |none=>False
  | _=>False
 | .roe m h=>
  match ti.agg with
  |true=>bif Nat.ble ti.size m then K (.agg (rangeD ti.size h))else False
  |false=>bif Nat.ble 1 m then K (.d (h 0))else False
 | .elt i k n c=>
  match s.ob i with
  |some (.row _ k' N f)=>
   match ti.agg with
   |true=>bif Nat.beq k k'&&Nat.ble (c+ti.size) k then n<N/\K (.agg (rangeD ti.size fun j=>f n (c+j)))else False
   |false=>bif Nat.beq k k'&&Nat.ble (c+1) k then n<N/\K (.d (f n c))else False
  | _=>False
 | _=>False
def loadE(s:St)(ti:TI)(v:AV)(K:AV->Prop):Prop:=loadP s ti v.asPtr K
def addOffP(off:Nat):AV->Option AV
 | .box i o=>some (.box i (o+off))
 | .roe m h=>bif Nat.ble off m then some (.roe (m-off) fun j=>h (off+j))else none
 | .elt i k n c=>some (.elt i k n (c+off))
 | _=>none
def addOff(off:Nat)(v:AV):Option AV:=addOffP off v.asPtr
def fieldAddrE(T:TT)(st fld:Nat)(v:AV)(K:AV->Prop):Prop:=
 match T st with
 |some { kind:=.struct fs,.. }=>
  match nth fs fld with
  |some (off,ft)=>
   match T ft,addOff off v with
   |some fi,some v'=>bif Nat.beq fi.size 0 then False else K v'
   | _,_=>False
  |none=>False
 | _=>False
def indexAddrP(T:TT)(s:St)(t:Nat)(x ix:AV)(K:AV->Prop):Prop:=
 match T t,ix with
 |some { kind:=.slice e,.. },.d (.int _ i)=>
  match T e,x with
  |some ei,.d (.slc k n f)=>(ei.size=k/\0<=i/\i<n)/\K (.roe ei.size (f i.toNat))
  |some ei,.own id=>
   match s.ob id with
   |some (.row _ k n _)=>(0<=i/\i<n)/\(bif Nat.beq ei.size k then K (.elt id k i.toNat 0)else False)
   | _=>False
  |some ei,.sub id k lo n=>(0<=i/\i<n)/\(bif Nat.beq ei.size k then K (.elt id k (lo+i.toNat) 0)else False)
  |some ei,.bsl id n _=>(0<=i/\i<n)/\(bif Nat.beq ei.size 1 then K (.box id i.toNat)else False)
  | _,_=>False
 |some { kind:=.array len e,.. },.d (.int _ i)=>
  match T e,x with
  |some ei,.box id off=>(0<=i/\i<len)/\K (.box id (off+i.toNat*ei.size))
  |some ei,.roe m h=>(0<=i/\i<len)/\(bif Nat.ble (len*ei.size) m then K (.roe ei.size fun j=>h (i.toNat*ei.size+j))else False)
  | _,_=>False
 | _,_=>False
def indexAddrE(T:TT)(s:St)(t:Nat)(x ix:AV)(K:AV->Prop):Prop:=indexAddrP T s t x.asPtr ix K
def partE(ti:TI)(xs:List D)(off:Nat)(K:AV->Prop):Prop:=
 match ti.agg with
 |true=>bif Nat.ble (off+ti.size) xs.length then K (.agg ((xs.drop off).take ti.size))else False
 |false=>match nth xs off with
  |some x=>K (.d x)
  |none=>False
def fieldE(T:TT)(st fld:Nat)(v:AV)(K:AV->Prop):Prop:=
 match T st,v with
 |some { kind:=.struct fs,.. },.agg xs=>
  match nth fs fld with
  |some (off,ft)=>match T ft with
   |some fi=>partE fi xs off K
   |none=>False
  |none=>False
 | _,_=>False
def indexE(T:TT)(t:Nat)(x ix:AV)(K:AV->Prop):Prop:=
 match T t,x,ix with
 |some { kind:=.array len e,.. },.agg xs,.d (.int _ i)=>
  match T e with
  |some ei=>(0<=i/\i<len)/\partE ei xs (i.toNat*ei.size) K
  |none=>False
 | _,_,_=>False
def setRange{α:Type}:List α->Nat->List α->Option (List α)
 |l,_,[]=>some l
 | [],_,_::_=>none
 | _::l,0,y::ys=>match setRange l 0 ys with|some r=>some (y::r)|none=>none
 |x::l,n+1,ys=>match setRange l n ys with|some r=>some (x::r)|none=>none
def fillE(place:Nat->Option (Nat×Nat))(s:St):List (Nat×Operand)->List D->Option (List D)
 | [],l=>some l
 |(i,x)::r,l=>
  match place i,cellsD (ev s x)with
  |some (off,size),some ys=>bif Nat.beq ys.length size&&Nat.ble (off+size) l.length then(match setRange l off ys with|some l'=>fillE place s r l'|none=>none)else none
  | _,_=>none
def placesS(T:TT):List (Nat×Nat)->Option (List (Nat×Nat))
 | []=>some []
 |(off,ft)::r=>match T ft,placesS T r with
  |some fi,some l=>some ((off,fi.size)::l)
  | _,_=>none
def placesA(ei:TI)(i:Nat):Option (Nat×Nat):=some (i*ei.size,ei.size)
def buildE(T:TT)(s:St)(t:Nat)(parts:List (Nat×Operand))(K:AV->Prop):Prop:=
 match T t with
 |some { kind:=.struct fs,zero:=z,.. }=>
  match cds z,placesS T fs with
  |some zs,some ps=>match fillE (nth ps) s parts zs with
   |some l=>K (.agg l)
   |none=>False
  | _,_=>False
 |some { kind:=.array _ e,zero:=z,.. }=>
  match T e,cds z with
  |some ei,some zs=>match fillE (placesA ei) s parts zs with
   |some l=>K (.agg l)
   |none=>False
  | _,_=>False
 | _=>False
def argC:AV->Option (List Cap)
 | .own j=>some [.own j]
 |v=>match cellsD v with|some ys=>some (ys.map .dat)|none=>none
def fillC(place:Nat->Option (Nat×Nat))(s:St):List (Nat×Operand)->List Cap->Option (List Cap)
 | [],l=>some l
 |(i,x)::r,l=>
  match place i,argC (ev s x)with
  |some (off,size),some ys=>bif Nat.beq ys.length size&&Nat.ble (off+size) l.length then(match setRange l off ys with|some l'=>fillC place s r l'|none=>none)else none
  | _,_=>none
def mapIn(s:St)(parts:List (Nat×Operand)):Bool:=parts.any fun p=>match ev s p.2 with| .own i=>(match s.ob i with|some (.mp ..)=>true| _=>false)| _=>false
def buildC(T:TT)(s:St)(t:Nat)(parts:List (Nat×Operand))(K:AV->Prop):Prop:=
 match T t with
 |some { kind:=.struct fs,zero:=z,.. }=>
  match cds z,placesS T fs with
  |some zs,some ps=>match fillC (nth ps) s parts (zs.map .dat)with
   |some l=>K (.aggc l)
   |none=>False
  | _,_=>False
 | _=>False
def repD:Nat->List D->List D
 |0,_=>[]
 |n+1,z=>z++repD n z
def rowOf(size:Nat)(l:List D):Nat->Nat->D:=fun m j=>getD' l (m*size+j)
def buildSliceE(T:TT)(s:St)(t len:Nat)(parts:List (Nat×Operand))(K:Nat->TI->(Nat->Nat->D)->Prop):Prop:=
 match T t with
 |some { kind:=.slice e,.. }=>
  match T e with
  |some ei=>
   match cds ei.zero with
   |some zs=>match fillE (placesA ei) s parts (repD len zs)with
    |some l=>bif Nat.ble 1 ei.size&&Nat.beq ei.zero.length ei.size&&Nat.ble (len*ei.size) 16777216 then K e ei (rowOf ei.size l)else False
    |none=>False
   |none=>False
  |none=>False
 | _=>False
def sliceE(T:TT)(s:St)(t:Nat)(x:AV)(lo hi:Option AV)(K:AV->Prop):Prop:=
 match T t,x with
 |some { kind:=.slice e,.. },.d (.slc k n f)=>
  match T e with
  |some ei=>
   match lo,hi with
   |none,none=>(n=0\/k=ei.size)/\K (.d (.slc k n f))
   |none,some (.d (.int _ h))=>((n=0\/k=ei.size)/\0<=h/\h<=n)/\K (.d (.slc k h.toNat f))
   |some (.d (.int _ l)),none=>((n=0\/k=ei.size)/\0<=l/\l<=n)/\K (.d (.slc k (n-l.toNat) fun i=>f (l.toNat+i)))
   |some (.d (.int _ l)),some (.d (.int _ h))=>((n=0\/k=ei.size)/\0<=l/\l<=h/\h<=n)/\K (.d (.slc k (h.toNat-l.toNat) fun i=>f (l.toNat+i)))
   | _,_=>False
  |none=>False
 |some { kind:=.slice e,.. },.own id=>
  match T e,s.ob id with
  |some ei,some (.row _ k n _)=>
   match lo,hi with
   |some (.d (.int _ l)),none=>(k=ei.size/\0<=l/\l<=n)/\K (.sub id k l.toNat (n-l.toNat))
   |none,some (.d (.int _ h))=>(k=ei.size/\0<=h/\h<=n/\0<n)/\K (.pre id h.toNat)
   | _,_=>False
  | _,_=>False
 | _,_=>False
def slice3E(T:TT)(t:Nat)(x:AV)(lo hi:Option AV)(mx:AV)(K:AV->Prop):Prop:=
 match T t,x,lo,hi,mx with
 |some { kind:=.slice e,.. },.d (.slc k n f),none,some (.d (.int _ h)),.d (.int _ m)=>
  match T e with
  |some _=>(0<=h/\h<=m/\m<=n)/\K (.d (.slc k h.toNat f))
  |none=>False
 | _,_,_,_,_=>False
def extractE(v:AV)(i:Nat)(K:AV->Prop):Prop:=
 match v with
 | .tup l=>match nth l i with
  |some (.d x)=>K (.d x)
  |some (.agg xs)=>K (.agg xs)
  |none=>False
 | .tupo o l=>match i with
  |0=>K (.box o 0)
  |i+1=>match nth l i with
   |some (.d x)=>K (.d x)
   |some (.agg xs)=>K (.agg xs)
   |none=>False
 | .tupr o l=>match i with
  |0=>K (.own o)
  |i+1=>match nth l i with
   |some (.d x)=>K (.d x)
   |some (.agg xs)=>K (.agg xs)
   |none=>False
 | _=>False
def isSl(T:TT)(t:Nat):Bool:=match T t with|some { kind:=.slice _,.. }=>true| _=>false
def isStrT(T:TT)(t:Nat):Bool:=match T t with|some { kind:=.str,.. }=>true| _=>false
def isMpT(T:TT)(t:Nat):Bool:=match T t with|some { kind:=.map ..,.. }=>true| _=>false
def lenE(T:TT)(t:Nat)(s:St)(v:AV)(K:AV->Prop):Prop:=
 match v with
 | .d (.slc _ n _)=>bif isSl T t then K (.d (.int .i64 n))else False
 | .nilsl=>bif isSl T t then K (.d (.int .i64 0))else False
 | .d .nil=>bif isSl T t then K (.d (.int .i64 0))else False
 | .sub _ _ _ n=>bif isSl T t then K (.d (.int .i64 n))else False
 | .bsl _ n _=>bif isSl T t then K (.d (.int .i64 n))else False
 | .own i=>match s.ob i with
  |some (.row _ _ n _)=>bif isSl T t then K (.d (.int .i64 n))else False
  |some (.mp _ ks _)=>bif isMpT T t then K (.d (.int .i64 ks.length))else False
  | _=>False
 | .d (.str x)=>bif isStrT T t then K (.d (.int .i64 x.size))else False
 | _=>False
def maxE(mx:Bool):AV->List AV->(AV->Prop)->Prop
 |v,[],K=>K v
 | .d (.int k a),.d (.int _ b)::r,K=>maxE mx (.d (.int k (match mx with|true=>max a b|false=>min a b))) r K
 | _,_::_,_=>False
def capOf:AV->Option Cap
 | .box i 0=>some (.own i)
 | .roe m h=>some (.dat (.ptr m h))
 | .d x=>some (.dat x)
 | _=>none
def capsOf:List AV->Option (List Cap)
 | []=>some []
 |v::r=>match capOf v,capsOf r with
  |some c,some l=>some (c::l)
  | _,_=>none
def nilE(v:AV)(K:AV->Prop):Prop:=match v with
 | .box i o=>K (.box i o)
 | .roe m h=>K (.roe m h)
 | .elt i k n c=>K (.elt i k n c)
 | .d (.ptr m h)=>K (.d (.ptr m h))
 | _=>False
def ifaceE(T:TT)(t:Nat)(v:AV)(K:AV->Prop):Prop:=match T t,v with
 |some { kind:=.struct _,.. },.agg xs=>K (.d (.ifc t xs.length (getD' xs)))
 | _,_=>False
def assertE(T:TT)(t:Nat)(v:AV)(K:AV->Prop):Prop:=match T t,v with
 |some { kind:=.struct _,zero:=z,.. },.d (.ifc u m g)=>(match Nat.beq u t with
  |true=>K (.tup [.agg (rangeD m g),.d (.bool true)])
  |false=>(match cds z with
   |some zs=>bif Nat.beq z.length 1 then False else K (.tup [.agg zs,.d (.bool false)])
   |none=>False))
 | _,_=>False
def opE(P:Program)(T:TT)(E:Env)(s:St)(op:Op)(K:AV->Prop):Prop:=
 match op with
 | .move x=>K (ev s x)
 | .assign x=>K (ev s x)
 | .pick c a b=>match ev s c with
  | .d (.bool c)=>Split c fun c=>K (match c with|true=>ev s a|false=>ev s b)
  | _=>False
 | .load t a=>match T t with
  |some ti=>loadE s ti (ev s a) K
  |none=>False
 | .fieldAddr st x f=>fieldAddrE T st f (ev s x) K
 | .indexAddr t x i=>indexAddrE T s t (ev s x) (ev s i) K
 | .field st x f=>fieldE T st f (ev s x) K
 | .index t x i=>indexE T t (ev s x) (ev s i) K
 | .binOp op t x y _=>binE T E op t (ev s x) (ev s y) K
 | .unOp op _ x=>unE op (ev s x) K
 | .convert src dst x=>match T src,T dst,ev s x with
  |some _,some { kind:=.int k,.. },.d (.int _ n)=>K (.d (.int k (k.wrap n)))
  | _,_,_=>False
 | .build t parts=>buildE T s t parts.toList K
 | .slice t x lo hi none=>sliceE T s t (ev s x) (lo.map (ev s)) (hi.map (ev s)) K
 | .slice t x lo hi (some m)=>slice3E T t (ev s x) (lo.map (ev s)) (hi.map (ev s)) (ev s m) K
 | .extract x i=>extractE (ev s x) i K
 | .makeFunc (.func f) first caps=>
  match first.toList,capsOf (caps.toList.map (ev s))with
  | [],some []=>K (.d (.fn f))
  | [],some l=>K (.clo f l)
  | [x],some []=>(match ev s x with
   | .agg xs=>K (.d (.bnd f xs.length (getD' xs)))
   | _=>False)
  | _,_=>False
 | .call { callee:=.builtin .len,args,argTypes }=>match args.toList,argTypes.toList with
  | [x],[t]=>lenE T t s (ev s x) K
  | _,_=>False
 | .call { callee:=.builtin .max,args,.. }=>match args.toList with
  |x::r=>maxE true (ev s x) (r.map (ev s)) K
  | _=>False
 | .call { callee:=.builtin .min,args,.. }=>match args.toList with
  |x::r=>maxE false (ev s x) (r.map (ev s)) K
  | _=>False
 | .call { callee:=.value f,args,.. }=>match callee (ev s f)with
  |some (f,ex)=>CallOb E.dr P s f (args.toList.map (ev s)++ex) K
  |none=>False
 | .call { callee:=.invoke r name,args,.. }=>InvOb E.dr P s (ev s r) name (args.toList.map (ev s)) K
 | .nilCheck x=>nilE (ev s x) K
 | .makeInterface t x=>ifaceE T t (ev s x) K
 | .typeAssert x _ t true=>assertE T t (ev s x) K
 | _=>False
structure OwnS(w:World)(ok:Nat->Prop)(γ:Nat->Value)(obs:List (Nat×Ob)):Prop where
  objs:∀i o,look obs i=some o->Holds w (fun _=>True) ok γ i o
  refs:∀i cs,look obs i=some (.box cs)->∀c∈cs,∀j∈c.refs,(look obs j).isSome=true
  sep:∀i j o o',look obs i=some o->look obs j=some o'->i≠j->∀b,blk (γ i)=some b->blk (γ j)≠some b
  out:∀i o b,look obs i=some o->blk (γ i)=some b->¬ok b
def LentB(γ:Nat->Value)(obs:List (Nat×Ob))(b:Nat):Prop:=∃i o,look obs i=some o/\blk (γ i)=some b
def goodM(sl:List (Nat×AV))(obs obs' rest:List (Nat×Ob))(pins:List Nat):Bool:=
 let okR (j:Nat):Bool:=pins.any (Nat.beq j)||(look rest j).isSome
 (rest.all fun p=>(look obs p.1).isNone&&(look obs' p.1).isNone)&&(pins.all fun i=>(look obs' i).isSome)&&(sl.all fun p=>p.2.refs.all okR)&&
  rest.all fun p=>match p.2 with| .box cs=>cs.all fun c=>c.refs.all okR| _=>true
def fixA(obs:List (Nat×Ob)):AV->AV
 | .own i=>match look obs i with
  |some (.box _)=>.box i 0
  | _=>.own i
 |v=>v
def Ow(B:Nat->Prop)(Q:Nat->Nat->Prop)(W:World)(k:Nat):Prop:=B k\/∃b c v,B b/\Q b c/\W.cell? ⟨b,c,none⟩=some v/\blk v=some k
theorem Ow.same{B:Nat->Prop}{Q:Nat->Nat->Prop}{W W':World}(hB:∀b,B b->W'.heap[b]?=W.heap[b]?){k:Nat}:Ow B Q W' k↔Ow B Q W k:=by
 refine or_congr jbH (exists_congr fun b=>exists_congr fun c=>exists_congr fun v=>⟨fun⟨h1,h2,h3,h4⟩=>⟨h1,h2,?_,h4⟩,fun⟨h1,h2,h3,h4⟩=>⟨h1,h2,?_,h4⟩⟩)
 ·rwa [World.cell?_of_block (hB b h1)]at h3
 rwa [World.cell?_of_block (hB b h1)]
def cm:Obj->Bool
 | .cells ..=>true
 | .map ..=>true
 | _=>false
def KpK(B:Nat->Prop)(Q:Nat->Nat->Prop)(K:Nat->Prop)(W W':World):Prop:=
 W.heap.size<=W'.heap.size/\(∀k,Ow B Q W' k->Ow B Q W k\/(W.heap.size<=k/\k<W'.heap.size))/\∀k o,W.heap[k]?=some o->cm o=true->¬Ow B Q W k->¬K k->W'.heap[k]?=some o
abbrev KpB(B:Nat->Prop)(Q:Nat->Nat->Prop):World->World->Prop:=KpK B Q fun _=>False
theorem KpK.trans{B:Nat->Prop}{Q:Nat->Nat->Prop}{K K':Nat->Prop}{W1 W2 W3:World}(h:KpK B Q K W1 W2)(k:KpK B Q K' W2 W3)(hK:∀b,K' b->K b\/W1.heap.size<=b):KpK B Q K W1 W3:=by
 obtain⟨h1,h2,h3⟩:=h
 obtain⟨k1,k2,k3⟩:=k
 refine⟨jM h1 k1,fun i hi=>?_,fun i o hi ho hn hk=>?_⟩
 ·rcases k2 i hi with h4|h4
  ·rcases h2 i h4 with h5|h5
   ·exact .inl h5
   exact .inr ⟨h5.1,by omega⟩
  exact .inr ⟨by omega,h4.2⟩
 have hlt:=(jB.1 hi).1
 refine k3 i o (h3 i o hi ho hn hk) ho (fun hw=>?_) fun hw=>?_
 ·rcases h2 i hw with h4|h4
  ·exact hn h4
  omega
 rcases hK i hw with h4|h4
 ·exact hk h4
 omega
theorem KpB.trans{B:Nat->Prop}{Q:Nat->Nat->Prop}{W1 W2 W3:World}(h:KpB B Q W1 W2)(k:KpB B Q W2 W3):KpB B Q W1 W3:=KpK.trans h k fun _=>False.elim
theorem KpB.book{B:Nat->Prop}{Q:Nat->Nat->Prop}(W:World)(l:Nat)(o o':Obj)(hB:∀b,B b->b≠l)(hW:W.heap[l]?=some o)(hc:cm o=false):KpB B Q W (W.putObj l o'):=by
 have hb:∀k,k≠l->(W.putObj l o').heap[k]?=W.heap[k]?:=fun k hk=>World.putObj_heap_other hk
 refine⟨(grownBy_putObj' W l o').size,fun k hk=>.inl ((Ow.same fun b h=>hb b (hB b h)).1 hk),fun k p hk hp _ _=>?_⟩
 by_cases e:k=l
 ·subst e;rw[hW]at hk;cases hk;rw[hc]at hp;cases hp
 rw[hb k e];exact hk
structure Grw(K:Nat->Prop)(w w':World):Prop where
  os:w'.os=w.os
  tape:w'.tape=w.tape
  output:w'.output=w.output
  size:w.heap.size<=w'.heap.size
  block:∀k,k<w.heap.size->¬K k->w'.heap[k]?=w.heap[k]?
theorem Grw.mono{K K':Nat->Prop}{w w':World}(h:Grw K w w')(hk:∀b,K b->K' b):Grw K' w w':=⟨h.os,h.tape,h.output,h.size,fun k h1 h2=>h.block k h1 fun e=>h2 (hk k e)⟩
def AbS(B:Nat)(J:Nat->(Nat->Prop)->World->Prop):Prop:=∀n pub W W',J n pub W->Grw (fun b=>B<=b/\¬pub b) W W'->J n pub W'
structure YC(P:Program)(ys:List (List V1)) where
  l:Nat
  B:Nat->Prop
  Q:Nat->Nat->Prop
  ok:Nat->Prop
  W0:Nat
  J:Nat->(Nat->Prop)->World->Prop
  Jx:World->Prop
  hJ:AbS W0 J
  hJx:∀W W',Jx W->Grw (fun _=>False) W W'->Jx W'
  hY:∀n vs pub W okY us,J n pub W->ys[n]?=some vs->(∀b,okY b->(ok b\/W0<=b)/\b<W.heap.size/\¬Ow B Q W b)->All2 (Rep1 W okY) vs us->YieldAt Fence.wide 3 P l us.toArray W fun e W'=>
    (e= .returned (.bool true)/\(∃pub',(∀b,pub' b->pub b\/okY b\/(W.heap.size<=b/\b<W'.heap.size))/\J (n+1) pub' W')/\KpB B Q W W')\/(e= .returned (.bool false)/\Jx W')
section
variable {P:Program}{ys:List (List V1)}
structure YC.At(Y:YC P ys)(n:Nat)(pub okA kept:Nat->Prop)(w:World):Prop where
  w0:Y.W0<=w.heap.size
  j:Y.J n pub w
  le:n<=ys.length
  rd:∀b,okA b->(Y.ok b\/Y.W0<=b)/\¬Ow Y.B Y.Q w b
  own:∀k,Ow Y.B Y.Q w k->k<w.heap.size
  pb:∀b,pub b->b<w.heap.size
  kp:∀b,kept b->Y.W0<=b/\¬pub b/\¬Ow Y.B Y.Q w b
theorem YC.At.grw{Y:YC P ys}{n:Nat}{pub okA kept okA' kept':Nat->Prop}{w w':World}(h:Y.At n pub okA kept w)(hg:Grw kept w w')(h1:∀b,okA' b->okA b\/kept b\/w.heap.size<=b)(h2:∀b,kept' b->kept b\/w.heap.size<=b):
  Y.At n pub okA' kept' w'/\KpK Y.B Y.Q kept w w':=by
 have hOw:∀k,Ow Y.B Y.Q w' k↔Ow Y.B Y.Q w k:=fun k=>Ow.same fun b hb=>hg.block b (h.own b (.inl hb)) fun e=>(h.kp b e).2.2 (.inl hb)
 have hnew:∀b,w.heap.size<=b->Y.W0<=b/\¬pub b/\¬Ow Y.B Y.Q w b:=fun b hb=>⟨jM h.w0 hb,fun e=>by have:=h.pb b e;omega,fun e=>by have:=h.own b e;omega⟩
 refine⟨⟨jM h.w0 hg.size,Y.hJ _ _ _ _ h.j (hg.mono fun b hb=>⟨(h.kp b hb).1,(h.kp b hb).2.1⟩),h.le,fun b hb=>?_,fun k hk=>jN (h.own k ((hOw k).1 hk)) hg.size,fun b hb=>jN (h.pb b hb) hg.size,fun b hb=>?_⟩,hg.size,fun k hk=>.inl ((hOw k).1 hk),fun k o hk _ _ hn=>(hg.block k (jB.1 hk).1 hn).trans hk⟩
 ·rw[hOw]
  rcases h1 b hb with h3|h3|h3
  ·exact h.rd b h3
  ·exact⟨.inr (h.kp b h3).1,(h.kp b h3).2.2⟩
  exact⟨.inr (hnew b h3).1,(hnew b h3).2.2⟩
 rw[hOw]
 rcases h2 b hb with h3|h3
 ·exact h.kp b h3
 exact hnew b h3
structure YEnd(Y:YC P ys)(n:Nat)(w w':World)(ok pub:Nat->Prop)(γ γ':Nat->Value)(obs obs':List (Nat×Ob))(pins:List Nat)(okc pubc:Nat->Prop):Prop where
  kp:KpK Y.B Y.Q (LentB γ obs) w w'
  pn:∀i∈pins,γ' i=γ i
  own:OwnS w' okc γ' obs'
  new:∀i o b,look obs' i=some o->blk (γ' i)=some b->w.heap.size<=b\/LentB γ obs b
  at':Y.At n pubc okc (LentB γ' obs') w'
  pb:∀b,pubc b->pub b\/ok b\/LentB γ obs b\/w.heap.size<=b
  ok1:∀b,ok b->okc b
  ok2:∀b,okc b->(ok b\/LentB γ obs b\/w.heap.size<=b)/\b<w'.heap.size
def SpecY(P:Program)(f:FuncId)(ys:List (List V1))(n m:Nat)(args:Nat->List AV)(obs obs':Nat->List (Nat×Ob))(pins:List Nat)(res resF:List V1):Prop:=
 Ent P f/\resF.all V1.flat=true/\∀(Y:YC P ys) (w:World) (ok pub:Nat->Prop) (γ:Nat->Value) (vs:List Value),(∀b,ok b->b<w.heap.size)->OwnS w ok γ (obs Y.l)->All2 (M w ok γ) (args Y.l) vs->Y.At n pub ok (LentB γ (obs Y.l)) w->
  Calls P f vs.toArray w fun en w'=>∃r,en= .returned r/\((∃γ' okc pubc,YEnd Y (n+m) w w' ok pub γ γ' (obs Y.l) (obs' Y.l) pins okc pubc/\ResRep w' okc res r)\/(ResRep w' (fun _=>False) resF r/\Y.Jx w'))
end
end Go.Pg
