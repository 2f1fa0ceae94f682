/- Lemmas, joined by program. -/
import Derived.Test.YtcmghlfakcppkaaGreatG7
import Derived.MapFrom
set_option maxHeartbeats 4000000
set_option linter.all false
set_option maxRecDepth 1000000
namespace Go.Pg
open Go.Proofs Go.RowKit
section
variable {P:Program} {T:TT} {cx:Cx} {γ:Nat->Value} {s:St} {a:Act} {w:World}
theorem zna (h:RG cx γ s a w) {i:Nat} {o:Ob} (hi:s.ob i=some o):(γ i).oneCell'=true:=by
 have hh:=h.objs i o hi
 cases o with
 | box cs=>obtain⟨b,vs,T,h1,_⟩:=hh; rw[h1]; rfl
 | row e k n f=>
  obtain⟨xs,h1,_⟩:=hh
  rcases h1.2 with⟨h2,_⟩ | ⟨g,cap,cur,h2,_⟩ <;> rw[h2] <;> rfl
 | mp m ks f=>obtain⟨b,es,c,h1,_⟩:=hh; rw[h1]; rfl
theorem RG.slot (h:RG cx γ s a w) {u:Nat} {y:D} (hv:Rep w (okOf cx s γ w) y (a.tmps.getD u undef)):RG cx γ (s.put u (.d y)) a w where
  defers:=h.defers
  size:=h.size
  okA:=h.okA
  lent:=h.lent
  below:=h.below
  hold:=h.hold
  least:=h.least
  objs:=h.objs
  refs:=h.refs
  sep:=h.sep
  slots:=by
    intro t
    show M w (okOf cx s γ w) γ (upd s.sl u (.d y) t) _
    rw[zap]
    split
    · rename_i e; subst e; exact hv
    exact h.slots t
  srefs:=by
    intro t
    show ∀ j∈(upd s.sl u (.d y) t).refs,_
    rw[zap]
    split
    · intro j hj; simp[AV.refs] at hj
    exact h.srefs t
  gho:=fun m hm=>h.gho m (by
    have hm:upd s.sl u (.d y) G = .gho m:=hm
    rw[zap] at hm
    split at hm
    · cases hm
    exact hm)
  ng:=h.ng
variable (hT:∀ t i,T t=some i->TI.of P t=some i)
include hT
theorem znT (h:RG cx γ s a w) {t d u i:Nat} {o:Ob} {parts:Array (Nat × Operand)} (hd:d<cx.N) (hu:s.sl u = .own i) (hi:s.ob i=some o) (hn:s.ob d=none)
  (hl:∀ y:D,buildSliceE T (s.put u (.d y)) t 1 parts.toList fun _ ei f=>ei.size=1/\f 0 0=y) :
  ∃ w',(Instr.buildSlice t 1 (parts.map fun (i,x)=>(i,a.eval x))).run P w = .ok (.slice (some ⟨w.heap.size,0,none⟩) 1 1) w'/\R cx (((s.drop d).setOb d (some (.box [.own i]))).put d (.bsl d 1 1)) (a.put (some d) (.slice (some ⟨w.heap.size,0,none⟩) 1 1)) w':=by
 have hne:i≠d:=fun e=>by subst e; rw[hi] at hn; cases hn
 have one:=zna h hi
 have hs:a.tmps.getD u undef=γ i:=by
  have:=h.slots u
  rw[hu] at this; exact this
 have h0:=h.slot (u:=u) (y:=.val (γ i)) ⟨hs,one⟩
 obtain⟨e,ei,f,xs,⟨e1,e2⟩,h1,h2,h3,h4,h5,h6⟩:=zaI hT h0 (hl (.val (γ i)))
 obtain⟨v,hv,hr⟩:=h6 0 (by decide) 0 (by omega)
 rw[e2] at hr
 obtain⟨rfl,_⟩:=hr
 have hx:xs=[γ i]:=by
  rw[e1] at h2
  match xs,h2 with
  | [y],_=>simp at hv; rw[hv]
 subst hx
 have hb:=zam w (.cells [γ i].toArray e)
 have hg:w.grownBy (w.alloc (.cells [γ i].toArray e)) none:=⟨hb.os,hb.tape,hb.output,hb.size,fun k hk _=>hb.block k hk⟩
 refine⟨_,h1,upd γ d (.pointer (some ⟨w.heap.size,0,none⟩)),?_⟩
 refine (h.renewR (i:=d) (o':=.box [.own i]) (v:=.pointer (some ⟨w.heap.size,0,none⟩)) (row:=none) hg (fun _=>jE _) (fun b hb=>by cases hb) (fun b hb=>.inr (by simp[blk] at hb; omega))
  (fun ok hok=>⟨w.heap.size,[γ i],e,by rw[zac],.inl h.below.size,heap_alloc_new w _,.cons ⟨by rw[show (M _ ok (upd γ d _) (.own i) (γ i))=(γ i=upd γ d _ i) from rfl,zag _ _ hne],one⟩ .nil⟩)
  (fun cs hc c hm j hj=>?_)).put hd ⟨w.heap.size,by rw[zac],rfl,jE _,by simp only[maxLen]; omega⟩ fun j hj=>?_
 ·cases hc
  rw[kH] at hm
  subst hm
  simp[AV.refs] at hj
  subst hj
  exact⟨hne,by rw[hi]; rfl⟩
 simp[AV.refs] at hj
 subst hj
 show (upd (s.drop j).ob j _ j).isSome=true
 simp
omit hT
theorem zn1 {n:Nat} {u:Value} (h:u∈(Builtin.zeroCells #[.slice none 0 0] n).toList):u.oneCell'=true:=by
 unfold Builtin.zeroCells at h
 simp at h
 obtain⟨k,hk,e⟩:=h
 rw[Nat.mod_one] at e
 rw[<- e]; rfl
theorem zkH {t ty e:TypeId} {info:TypeInfo} {z:Value} (ht:P.underlying t=some (.slice e)) (hi:P.info? e=some info) (hz:info.zero=some z) (h1:info.size=1) (hzc:z.cells = #[.slice none 0 0])
  {vs:List Value} {b n:Nat} {Tt:TypeId} (hg:w.heap[b]?=some (.cells vs.toArray Tt (0,0))) (hn:n<=vs.length) (hone:∀ u∈vs,u.oneCell'=true) (hc:vs.length<=maxLen)
  {ad:Addr} {c1:Nat} {u:Value} (hu:w.cell? ad=some u) (hu1:u.oneCell'=true) (hl:n+1<=maxLen) (hby:(n+1) * info.bytes<=140737488355328) :
  ∃ (g':Nat) (rest:List Value) (w':World) (T':TypeId),(Builtin.append_ #[t,t] ty #[.slice (some ⟨b,0,none⟩) n vs.length,.slice (some ad) 1 c1]).run P w = .ok (.slice (some ⟨g',0,none⟩) (n+1) (n+1+rest.length)) w' /\
   w'.heap[g']?=some (.cells (vs.take n++u :: rest).toArray T' (0,0))/\(∀ x∈rest,x.oneCell'=true)/\n+1+rest.length<=maxLen/\w.grownBy w' (some b)/\(g'=b \/ g'=w.heap.size):=by
 have hnews:∀ j v,[u][j]?=some v->w.cell? (ad.add j)=some v:=fun j v hj=>by
  match j,hj with
  | 0,hj=>
   have:ad.add 0=ad:=by unfold Addr.add; simp
   rw[this]; simpa using hj ▸ hu
 have hl':((n:Int)+1)<=9223372036854775807:=by simp only[maxLen] at hl; omega
 by_cases hroom:n+1<=vs.length
 ·have hf:=run_firstCells_some (P:=P) w info.size 1 ad 1 c1 [u] (by simp[h1]) hnews
  have hst:=run_storeCells_at P b (n * info.size) Tt [u] 0 vs.toArray w hg (by simp[h1]; omega) (by simpa using hu1)
  simp only[Nat.add_zero] at hst
  refine⟨b,vs.drop (n+1),w.setRow b (vs.take n ++ [u]++vs.drop (n+1)).toArray,Tt,?_,?_,fun x hx=>hone x (ja4 hx),by rw[jag]; omega,⟨rfl,rfl,rfl,by simp[World.setRow],fun k _ hk=>setRow_other w b k _ fun e=>hk (by rw[e])⟩,.inl rfl⟩
  ·have e1:n+1+(vs.drop (n+1)).length=vs.length:=by rw[jag]; omega
   rw[e1]
   rw[h1] at hf hst
   simp only[Nat.mul_one] at hst
   simp[Builtin.append_,run_underlying ht,sizeOf,typeInfo,hi,Builtin.lenOf,hroom,hf,Addr.add_lit,hst,h1]
  rw[setRow_heap w b _ _ Tt _ hg]
  simp
 have hcell:∀ j v,(vs.take n)[j]?=some v->w.cell? ((⟨b,0,none⟩:Addr).add j)=some v:=fun j v hj=>by
  rw[jS] at hj
  split at hj
  ·rw[zar,qG]; simp[World.cell?,hg,hj]
  cases hj
 have hln:(vs.take n).length=n * info.size:=by rw[jQ,h1]; omega
 have hr:=run_append_grow (P:=P) w t ty e info z ht hi hz ⟨b,0,none⟩ n vs.length (vs.take n) hln hcell ad 1 c1 [u] (by simp[h1]) hnews (by omega) (by simp only[maxLen] at hl; omega) (growslice_fits (by omega) hby)
 have hge:=grownCap_ge w (n+1) vs.length e
 have hcm:grownCap w (n+1) vs.length e<=maxLen:=grownCap_le_maxLen w (n+1) vs.length e hl
 have hsz:(Builtin.zeroCells z.cells (grownCap w (n+1) vs.length e - (n+1))).toList.length=grownCap w (n+1) vs.length e - (n+1):=by rw[kB,size_zeroCells,hzc]; simp
 refine⟨w.heap.size,(Builtin.zeroCells z.cells (grownCap w (n+1) vs.length e - (n+1))).toList,w.drew.alloc (.cells ((vs.take n).toArray ++ [u].toArray++Builtin.zeroCells z.cells (grownCap w (n+1) vs.length e - (n+1))) e),e,?_,?_,fun x hx=>zn1 (by rw[hzc] at hx; exact hx),by omega,⟨rfl,rfl,rfl,by simp,fun k hk _=>heap_alloc_old w.drew _ hk⟩,.inr rfl⟩
 ·rw[hsz,show n+1+(grownCap w (n+1) vs.length e - (n+1))=grownCap w (n+1) vs.length e by omega]
  exact hr
 have:=heap_alloc_new w.drew (.cells ((vs.take n).toArray ++ [u].toArray++Builtin.zeroCells z.cells (grownCap w (n+1) vs.length e - (n+1))) e)
 rw[show w.heap.size=w.drew.heap.size from rfl,this]
 congr 2
 apply Array.ext'
 simp
theorem zkI {t ty e:TypeId} {info:TypeInfo} {z:Value} (ht:P.underlying t=some (.slice e)) (hi:P.info? e=some info) (hz:info.zero=some z) (h1:info.size=1) (hzc:z.cells = #[.slice none 0 0])
  {ad:Addr} {c1:Nat} {u:Value} (hu:w.cell? ad=some u) (hby:info.bytes<=140737488355328) :
  ∃ (rest:List Value) (w':World),(Builtin.append_ #[t,t] ty #[.slice none 0 0,.slice (some ad) 1 c1]).run P w = .ok (.slice (some ⟨w.heap.size,0,none⟩) 1 (1+rest.length)) w' /\
   w'.heap[w.heap.size]?=some (.cells (u :: rest).toArray e (0,0))/\(∀ x∈rest,x.oneCell'=true)/\1+rest.length<=maxLen/\w.grownBy w' none:=by
 have hnews:∀ j v,[u][j]?=some v->w.cell? (ad.add j)=some v:=fun j v hj=>by
  match j,hj with
  | 0,hj=>
   have:ad.add 0=ad:=by unfold Addr.add; simp
   rw[this]; simpa using hj ▸ hu
 have hr:=run_append_nil (P:=P) w t ty e info z ht hi hz ad 1 c1 [u] (by simp[h1]) hnews (by omega) (by omega) (by omega)
 have hge:=grownCap_ge w 1 0 e
 have hcm:grownCap w 1 0 e<=maxLen:=grownCap_le_maxLen w 1 0 e (by simp only[maxLen]; omega)
 have hsz:(Builtin.zeroCells z.cells (grownCap w 1 0 e - 1)).toList.length=grownCap w 1 0 e - 1:=by rw[kB,size_zeroCells,hzc]; simp
 refine⟨(Builtin.zeroCells z.cells (grownCap w 1 0 e - 1)).toList,w.drew.alloc (.cells ([u].toArray++Builtin.zeroCells z.cells (grownCap w 1 0 e - 1)) e),?_,?_,fun x hx=>zn1 (by rw[hzc] at hx; exact hx),by omega,⟨rfl,rfl,rfl,by simp,fun k hk _=>heap_alloc_old w.drew _ hk⟩⟩
 ·rw[hsz,show 1+(grownCap w 1 0 e - 1)=grownCap w 1 0 e by omega]
  exact hr
 have:=heap_alloc_new w.drew (.cells ([u].toArray++Builtin.zeroCells z.cells (grownCap w 1 0 e - 1)) e)
 rw[show w.heap.size=w.drew.heap.size from rfl,this]
 congr 2
 apply Array.ext'
 simp
def slsT (T:TT) (t:Nat):Bool:=match T t with
 | some { kind:=.slice e,.. }=>(match T e with
  | some ei=>Nat.beq ei.size 1 && Nat.ble ei.bytes 24 && (match ei.zero with | [z]=>isNil z | _=>false)
  | none=>false)
 | _=>false
def bslS (s:St) (i d:Nat) (l:List AV) (m:Nat):St:=((s.drop i).setOb i (some (.box (l++List.replicate m .any)))).put d (.bsl i l.length (l.length+m))
include hT
theorem zdU {t:Nat} (h:slsT T t=true):∃ e info z,P.underlying t=some (.slice e)/\P.info? e=some info/\info.zero=some z/\info.size=1/\z.cells = #[.slice none 0 0]/\info.bytes<=24:=by
 unfold slsT at h
 cases ht:T t with
 | none=>simp[ht] at h
 | some ti=>
 obtain⟨size,ag,bytes,zero,kind⟩:=ti
 cases kind with
 | slice e=>
  simp only[ht] at h
  cases he:T e with
  | none=>simp[he] at h
  | some ei=>
   simp only[he,jP] at h
   obtain⟨⟨h1,h2⟩,h3⟩:=h
   obtain⟨info,d,z,hi,hd,hzz,hs1,hby,_,hzc,_⟩:=zaf (hT e _ he)
   refine⟨e,info,z,zaW hT ht,hi,hzz,by rw[hs1]; exact jA h1,?_,by rw[hby]; exact jD h2⟩
   match hz:ei.zero,h3 with
   | [v],h3=>
    have hv:=zhj (show isNil v=true from h3)
    rw[hz,hv] at hzc
    apply Array.ext'
    exact hzc
 | _=>simp[ht] at h
theorem znU (h:RG cx γ s a w) {t ty:TypeId} {i j d n c:Nat} {x y:Value} {cs:List AV} {q:AV} (hd:d<cx.N) (ht:slsT T t=true) (hx:M w (okOf cx s γ w) γ (.bsl i n c) x) (hi:s.ob i=some (.box cs)) (hc:cs.length=c)
  (hr:(cs.take n).all (fun a=>!a.hasRef i)=true) (hy:M w (okOf cx s γ w) γ (.bsl j 1 1) y) (hj:s.ob j=some (.box [q])) (hq:q.hasRef i=false) (hn:n<=1000000) :
  ∃ v w' m,(Builtin.append_ #[t,t] ty #[x,y]).run P w = .ok v w'/\R cx (bslS s i d (cs.take n ++ [q]) m) (a.put (some d) v) w':=by
 obtain⟨e,info,z,hund,hinf,hz,h1,hzc,hby⟩:=zdU hT ht
 obtain⟨b,vs,Tt,g1,g2,g3,g4⟩:=h.objs i _ hi
 obtain⟨b',e1,rfl,e3,e4⟩:=hx
 rw[g1] at e1
 obtain rfl:b=b':=by simpa using e1
 obtain⟨bj,us,Tj,j1,j2,j3,j4⟩:=h.objs j _ hj
 obtain⟨b'',e5,rfl,_,_⟩:=hy
 rw[j1] at e5
 obtain rfl:bj=b'':=by simpa using e5
 cases j4 with | @cons _ u _ us jq j5=>
 cases j5
 have hvl:vs.length=c:=by rw[<- hc]; exact g4.length.symm
 have hone:∀ u∈vs,u.oneCell'=true:=fun u hu=>by
  obtain⟨k,hk,rfl⟩:=kM hu
  obtain⟨y,hy,hy2⟩:=g4.get k cs[k] (hZ (by rw[g4.length]; exact hk))
  rw[hZ hk] at hy
  rw[qX hy]; exact hy2.2
 subst hvl
 obtain⟨g',rest,w',T',r1,r2,r3,r4,r5,r6⟩:=zkH (P:=P) (w:=w) (ty:=ty) (c1:=1) hund hinf hz h1 hzc g3 e3 hone e4 (ad:=⟨bj,0,none⟩) (u:=u) (by simp[World.cell?,j3]) jq.2 (by simp only[maxLen]; omega) (by
  have:=Nat.mul_le_mul (show n+1<=1000001 by omega) hby
  omega)
 have hlt:(cs.take n).length=n:=by rw[jQ]; omega
 have noi:∀ {v:AV},v.hasRef i=false -> ∀ k∈v.refs,k≠i:=fun {v} hv k hk e=>zbB hv (e ▸ hk)
 have rT:∀ v∈cs.take n,v.hasRef i=false:=fun v hv=>by simpa using (jC.1 hr) v hv
 refine⟨_,w',rest.length,r1,upd γ i (.pointer (some ⟨g',0,none⟩)),?_⟩
 refine (h.renewR (i:=i) (o':=.box (cs.take n ++ [q]++List.replicate rest.length AV.any)) (v:=.pointer (some ⟨g',0,none⟩)) (row:=some b) r5 (fun _=>za3 _ r1) (fun b2 hb=>⟨_,hi,by rw[g1]; cases hb; rfl⟩) (fun b2 hb=>?_)
  (fun ok hok=>⟨g',vs.take n++u :: rest,T',by rw[zac],?_,r2,?_⟩) (fun cs' hc' v hv k hk=>?_)).put (v:=.bsl i (cs.take n ++ [q]).length ((cs.take n ++ [q]).length+rest.length)) hd ⟨g',by rw[zac],?_,by omega,?_⟩ fun k hk=>?_
 ·simp[blk] at hb
  subst hb
  rcases r6 with r6 | r6
  ·exact .inl (by rw[r6])
  exact .inr (by omega)
 ·rcases r6 with rfl | rfl
  ·exact g2
  exact .inl h.below.size
 ·rw[List.append_assoc]
  refine All2.append (All2.of_get (by rw[hlt,jQ]; omega) fun k v y hv hy=>?_) (.cons ⟨?_,jq.2⟩ (All2.of_get (by simp) fun k v y hv hy=>?_))
  ·have hv':=kP hv
   rw[jS] at hv hy
   split at hv
   ·rename_i hkn
    rw[kG hkn] at hy
    obtain⟨y',hy',p1,p2⟩:=g4.get k v hv
    rw[hy] at hy'
    obtain rfl:=qX hy'
    exact⟨p1.keep hok fun k' hk'=>zag _ _ (noi (rT v hv') k' hk'),p2⟩
   cases hv
  ·exact jq.1.keep hok fun k' hk'=>zag _ _ (noi hq k' hk')
  have hv:=List.eq_of_mem_replicate (kP hv)
  subst hv
  exact⟨trivial,r3 y (kP hy)⟩
 ·cases hc'
  rcases kQ.1 hv with hv | hv
  ·rcases kQ.1 hv with hv | hv
   ·exact⟨noi (rT v hv) k hk,h.refs i cs hi v (wJ hv) k hk⟩
   rw[kH] at hv
   subst hv
   exact⟨noi hq k hk,h.refs j _ hj v (by simp) k hk⟩
  rw[List.eq_of_mem_replicate hv] at hk
  simp[AV.refs] at hk
 ·rw[jR,hlt]; rfl
 ·rw[jR,hlt]; exact r4
 simp[AV.refs] at hk
 subst hk
 show (upd (s.drop k).ob k _ k).isSome=true
 simp
theorem zlJ (h:RG cx γ s a w) {t ty:TypeId} {i j d:Nat} {y:Value} {q:AV} (hd:d<cx.N) (ht:slsT T t=true) (hi:s.ob i=none)
  (hy:M w (okOf cx s γ w) γ (.bsl j 1 1) y) (hj:s.ob j=some (.box [q])) (hq:q.hasRef i=false) :
  ∃ v w' m,(Builtin.append_ #[t,t] ty #[.slice none 0 0,y]).run P w = .ok v w'/\R cx (bslS s i d [q] m) (a.put (some d) v) w':=by
 obtain⟨e,info,z,hund,hinf,hz,h1,hzc,hby⟩:=zdU hT ht
 obtain⟨bj,us,Tj,j1,j2,j3,j4⟩:=h.objs j _ hj
 obtain⟨b'',e5,rfl,_,_⟩:=hy
 rw[j1] at e5
 obtain rfl:bj=b'':=by simpa using e5
 cases j4 with | @cons _ u _ us jq j5=>
 cases j5
 obtain⟨rest,w',r1,r2,r3,r4,r5⟩:=zkI (P:=P) (w:=w) (ty:=ty) (c1:=1) hund hinf hz h1 hzc (ad:=⟨bj,0,none⟩) (u:=u) (by simp[World.cell?,j3]) (by omega)
 have noi:∀ {v:AV},v.hasRef i=false -> ∀ k∈v.refs,k≠i:=fun {v} hv k hk e=>zbB hv (e ▸ hk)
 refine⟨_,w',rest.length,r1,upd γ i (.pointer (some ⟨w.heap.size,0,none⟩)),?_⟩
 refine (h.renewR (i:=i) (o':=.box ([q]++List.replicate rest.length AV.any)) (v:=.pointer (some ⟨w.heap.size,0,none⟩)) (row:=none) r5 (fun _=>za3 _ r1) (fun b2 hb=>by cases hb) (fun b2 hb=>.inr (by simp[blk] at hb; omega))
  (fun ok hok=>⟨w.heap.size,u :: rest,e,by rw[zac],.inl h.below.size,r2,.cons ⟨jq.1.keep hok fun k' hk'=>zag _ _ (noi hq k' hk'),jq.2⟩ (All2.of_get (by simp) fun k v y hv hy=>?_)⟩) (fun cs' hc' v hv k hk=>?_)).put (v:=.bsl i [q].length ([q].length+rest.length)) hd ⟨w.heap.size,by rw[zac],rfl,by simp,r4⟩ fun k hk=>?_
 ·have hv:=List.eq_of_mem_replicate (kP hv)
  subst hv
  exact⟨trivial,r3 y (kP hy)⟩
 ·cases hc'
  rcases kQ.1 hv with hv | hv
  ·rw[kH] at hv
   subst hv
   exact⟨noi hq k hk,h.refs j _ hj v (by simp) k hk⟩
  rw[List.eq_of_mem_replicate hv] at hk
  simp[AV.refs] at hk
 simp[AV.refs] at hk
 subst hk
 show (upd (s.drop k).ob k _ k).isSome=true
 simp
omit hT
end
section
variable {E:Env} {s:St} {o:Oper} {K:St->Prop}
theorem CusOb.lit {t d u i:Nat} {b:Ob} {parts:Array (Nat × Operand)} (ho:o.op = .buildSlice t 1 parts) (hd:o.dst=some d) (hu:s.sl u = .own i) (hi:s.ob i=some b) (hn:s.ob d=none)
  (hl:∀ y:D,buildSliceE TTab (s.put u (.d y)) t 1 parts.toList fun _ ei f=>ei.size=1/\f 0 0=y) (hk:K (((s.drop d).setOb d (some (.box [.own i]))).put d (.bsl d 1 1))):CusOb E.dr PP s o K:=
 ⟨⟨fun s'=>s'=((s.drop d).setOb d (some (.box [.own i]))).put d (.bsl d 1 1),fun cx a w _ hdd ⟨γ,h⟩=>by
  obtain⟨w',h1,h2⟩:=znT hT h (hdd d hd) hu hi hn hl
  exact .value (x:=.slice (some ⟨w.heap.size,0,none⟩) 1 1) (w':=w') (by simp[execOp,ho,h1]) ⟨_,by rw[hd]; exact h2,rfl⟩,fun s' e=>by rw[e]; exact hk⟩⟩
theorem CusOb.app {t i j d n c:Nat} {x y:Operand} {cs:List AV} {q:AV} (ho:o.op = .call { callee:=.builtin .append,args:=#[x,y],argTypes:=#[t,t] }) (hd:o.dst=some d) (ht:slsT TTab t=true)
  (hx:ev s x = .bsl i n c) (hi:s.ob i=some (.box cs)) (hc:cs.length=c) (hr:(cs.take n).all (fun a=>!a.hasRef i)=true) (hy:ev s y = .bsl j 1 1) (hj:s.ob j=some (.box [q])) (hq:q.hasRef i=false) (hn:n<=1000000)
  (hk:∀ m,K (bslS s i d (cs.take n ++ [q]) m)):CusOb E.dr PP s o K:=
 ⟨⟨fun s'=>∃ m,s'=bslS s i d (cs.take n ++ [q]) m,fun cx a w _ hdd ⟨γ,h⟩=>by
  have m1:=(ev_m h x).1
  have m2:=(ev_m h y).1
  rw[hx] at m1
  rw[hy] at m2
  obtain⟨v,w',m,h1,h2⟩:=znU hT h (ty:=o.type) (hdd d hd) ht m1 hi hc hr m2 hj hq hn
  exact .value (x:=v) (w':=w') (by simp[execOp,ho,resolve,invoke,builtin,h1]) ⟨_,by rw[hd]; exact h2,m,rfl⟩,fun s' ⟨m,e⟩=>by rw[e]; exact hk m⟩⟩
theorem CusOb.app0 {t i j d:Nat} {x y:Operand} {q:AV} (ho:o.op = .call { callee:=.builtin .append,args:=#[x,y],argTypes:=#[t,t] }) (hd:o.dst=some d) (ht:slsT TTab t=true)
  (hx:ev s x = .nilsl) (hi:s.ob i=none) (hy:ev s y = .bsl j 1 1) (hj:s.ob j=some (.box [q])) (hq:q.hasRef i=false)
  (hk:∀ m,K (bslS s i d [q] m)):CusOb E.dr PP s o K:=
 ⟨⟨fun s'=>∃ m,s'=bslS s i d [q] m,fun cx a w _ hdd ⟨γ,h⟩=>by
  have m1:=(ev_m h x).1
  have m2:=(ev_m h y).1
  rw[hx] at m1
  rw[hy] at m2
  have m1:a.eval x = .slice none 0 0:=m1
  obtain⟨v,w',m,h1,h2⟩:=zlJ hT h (ty:=o.type) (hdd d hd) ht hi m2 hj hq
  exact .value (x:=v) (w':=w') (by simp[execOp,ho,resolve,invoke,builtin,m1,h1]) ⟨_,by rw[hd]; exact h2,m,rfl⟩,fun s' ⟨m,e⟩=>by rw[e]; exact hk m⟩⟩
theorem CusOb.mv {d:Nat} {x:Operand} (ho:o.op = .assign x) (hd:o.dst=some d) (hk:K (s.put d (ev s x))):CusOb E.dr PP s o K:=
 ⟨⟨fun s'=>s'=s.put d (ev s x),fun cx a w _ hdd ⟨γ,h⟩=>by
  exact .value (x:=a.eval x) (w':=w) (by simp[execOp,ho]) ⟨_,⟨γ,by rw[hd]; exact h.put (hdd d hd) (ev_m h x).1 (ev_m h x).2⟩,rfl⟩,fun s' e=>by rw[e]; exact hk⟩⟩
theorem CusOb.lit1 {t d r e:Nat} {f:Nat->Nat->D} {parts:Array (Nat × Operand)} (ho:o.op = .buildSlice t 1 parts) (hd:o.dst=some d) (hl:buildSliceE TTab s t 1 parts.toList fun e' ei f'=>(e'=e/\ei.size=1)/\f'=f)
  (hk:K (((s.drop r).setOb r (some (.row e 1 1 f))).put d (.own r))):CusOb E.dr PP s o K:=
 ⟨⟨fun s'=>s'=((s.drop r).setOb r (some (.row e 1 1 f))).put d (.own r),fun cx a w _ hdd ⟨γ,h⟩=>by
  obtain⟨e',ei,f',xs,⟨⟨rfl,e1⟩,rfl⟩,h1,h2,h3,h4,h5,h6⟩:=zaI hT h hl
  have hb:=zam w (.cells xs.toArray e')
  have hg:w.grownBy (w.alloc (.cells xs.toArray e')) none:=⟨hb.os,hb.tape,hb.output,hb.size,fun k hk _=>hb.block k hk⟩
  rw[e1] at h2 h6
  refine .value (x:=.slice (some ⟨w.heap.size,0,none⟩) 1 1) (w':=w.alloc (.cells xs.toArray e')) (by simp[execOp,ho,h1]) ⟨_,⟨upd γ r (.slice (some ⟨w.heap.size,0,none⟩) 1 1),?_⟩,rfl⟩
  rw[hd]
  refine (h.renewR (i:=r) (o':=.row e' 1 1 f') (v:=.slice (some ⟨w.heap.size,0,none⟩) 1 1) (row:=none) hg (fun _=>jE _) (fun b hb=>by cases hb) (fun b hb=>.inr (by simp[blk] at hb; omega))
   (fun ok hok=>⟨xs,⟨h2,.inr ⟨w.heap.size,1,xs.toArray,by rw[zac],jF _,heap_alloc_new w _,jE _,by simp only[maxLen]; omega,by simp[h2],by rw[<- h2]; simp⟩⟩,(fun b hb=>by rw[zac] at hb; simp[blk] at hb; subst hb; exact .inl h.below.size),h5,fun m hm j hj=>?_⟩)
   (fun cs hc=>by cases hc)).put (v:=.own r) (hdd d hd) (by show _=upd γ r _ r; simp) fun j hj=>?_
  ·obtain⟨u,hu,hr⟩:=h6 m hm j hj
   exact⟨u,hu,Rep.keep hok hr⟩
  simp[AV.refs] at hj
  subst hj
  show (upd (s.drop j).ob j _ j).isSome=true
  simp,fun s' e=>by rw[e]; exact hk⟩⟩
end
theorem clT {i m:Nat} {cs:List AV} {r:List (Nat × Ob)} {sl:List (Nat × AV)} (h1:closedS ((i,.box (cs++List.replicate m .any)) :: r) sl=true) (h2:(cs.all (fun c=>hasAll ((i,.box (cs++List.replicate m .any)) :: r) c.refs) && closedO ((i,.box (cs++List.replicate m .any)) :: r) r)=true) :
  (closedS ((i,.box (cs++List.replicate m .any)) :: r) sl && closedO ((i,.box (cs++List.replicate m .any)) :: r) ((i,.box (cs++List.replicate m .any)) :: r))=true:=by
 rw[jP] at h2
 rw[h1,wI]
 show ((cs++List.replicate m AV.any).all (fun c=>hasAll _ c.refs) && _)=true
 rw[List.all_append,h2.1,h2.2,wI,jaj,jC]
 intro c hc
 rw[List.eq_of_mem_replicate hc]; rfl
theorem obNz {e k:Nat} {f:Nat->Nat->D} {s:St} {ob:Nat->Option Ob} {o:Option Ob} (h:o=none):Oble s ob o (.row e k 0 f):=by subst h; rfl
theorem avBs {s:St} {ob:Nat->Option Ob} {v:AV} {i n c m:Nat} {cs:List AV} {f:Nat->Nat->D} (h0:v = .bsl i n c) (h1:s.ob i=some (.box cs)) (h2:ob i=none) (hn:m=n) (h:∀ j,j<n -> ∃ x,cs[j]?=some x/\dle s ob x (f j 0)) :
  AVle s ob v (.d (.slc 1 m f)):=by subst h0; exact⟨⟨rfl,hn⟩,h2,cs,h1,h⟩
theorem sA {f : FuncId} {fn : Func} {c : Code} (hf : PP.funcs[f]? = some fn) {args res : List V1} (h : awp PP TTab EN c (St.of (argSlots 0 args) []) (retK TTab fn.results.toList res))
  (hb : fn.body = some c := by rfl) (hq : ((fn.name == "runtime.NumGoroutine") || !(codeN fn.ntmps c && Nat.ble fn.ntmps 4294967296)) = false := by kernel_rfl) (hs : Nat.ble args.length fn.ntmps = true := by rfl) : Spec PP f args res := zmI hf hb hq hs h
theorem oL {p q:List Nat->Prop} (l:List Nat) (hq:q l) (hp:p l:=by kernel_rfl):∃ l,p l/\q l:=⟨l,hp,hq⟩
theorem oN {ops:Array Oper} {s:St} {K:List Nat->St->Prop} (n:Nat) (h:K (List.range n) s) (hp:drawB ops (List.range n)=true:=by kernel_rfl):∃ ord,drawB ops ord=true/\FzOb s (K ord):=⟨_,hp,fNo h⟩
theorem msr {n i:Nat} (h:i<n):n - (i+1)<n - i:=by omega
theorem z0L {n:Nat} {p:Nat->Prop}:0<=n /\ ∀ j,j<0->p j:=⟨jF _,fun j hj=>absurd hj (qD _)⟩
def slv (s:St):List (Nat × AV)->List AV
 | []=>[]
 | (t,_) :: r=>s.sl t :: slv s r
def vls:List (Nat × AV)->List AV
 | []=>[]
 | (_,v) :: r=>v :: vls r
theorem wq {s:St} {ob:Nat->Option Ob}:∀ {l:List (Nat × AV)},slv s l=vls l->wkS s ob l
 | [],_=>trivial
 | (t,v) :: r,h=>by
  simp only[slv,vls,jad] at h
  refine⟨?_,wq h.2⟩
  show AVle s ob (s.sl t) v
  rw[h.1]; exact zaU s ob v
theorem Split.yes {b:Bool} {K:Bool->Prop} (hb:b=true) (h:K true):Split b K:=by subst hb; exact .of h
theorem Split.no {b:Bool} {K:Bool->Prop} (hb:b=false) (h:K false):Split b K:=by subst hb; exact .of h
theorem LoopOb.of {body:St->KK->Prop} {s:St} {K:KK} {σ:Type} (S:σ->List (Nat × AV) × List (Nat × Ob)) (Inv:σ->Prop) (μ:σ->Nat) (x0:σ) (hw:Weak s (S x0).1 (S x0).2) (hi:Inv x0)
  (hr:∀ x,Inv x->body (St.of (S x).1 (S x).2) fun e s'=>match e with
   | .normal=>∃ x',Weak s' (S x').1 (S x').2/\Inv x'/\μ x'<μ x
   | e=>K e s'):LoopOb body s K:=by rw[zeh]; exact⟨σ,S,Inv,μ,x0,hw,hi,hr⟩
section
variable {s:St} {ob:Nat->Option Ob} {v:AV}
theorem avI {k:IntKind} {a b:Int} (h:v = .d (.int k a)) (e:a=b):AVle s ob v (.d (.int k b)):=by subst h; exact⟨rfl,e⟩
theorem avE {x y:D} (h:v = .d x) (e:D.eqv x y):AVle s ob v (.d y):=by subst h; exact e
theorem avR (x:D) (h:v = .d x):AVle s ob v (.d x):=by subst h; exact dE x
theorem zh7 (xs:List D):avles s ob (xs.map AV.d) (xs.map AV.d):=by
 induction xs with
 | nil=>trivial
 | cons x r ih=>exact⟨dE x,ih⟩
theorem obD (xs:List D) {o:Option Ob} (h:o=some (.box (xs.map AV.d))):Oble s ob o (.box (xs.map AV.d)):=by subst h; exact zh7 xs
theorem obR {e k n n':Nat} {f f':Nat->Nat->D} {o:Option Ob} (h:o=some (.row e k n f)) (hq:D.eqv (.slc k n f) (.slc k n' f')):Oble s ob o (.row e k n' f'):=by subst h; exact⟨rfl,hq,rfl⟩
theorem rtI {k:IntKind} {a b:Int} (h:v = .d (.int k a)) (e:a=b):RetAV s v (.d (.int k b)):=by subst h; exact⟨rfl,e⟩
theorem rtB {a b:Bool} (h:v = .d (.bool a)) (e:a=b):RetAV s v (.d (.bool b)):=by subst h; exact e
end
section
variable {T:TT} {s:St} {t:Nat}
theorem r1B {a b:Bool} (h:s.sl t = .d (.bool a)) (e:a=b):RetAll T s [.tmp t] [.d (.bool b)]:=⟨rtB h e,trivial⟩
theorem r1I {k:IntKind} {a b:Int} (h:s.sl t = .d (.int k a)) (e:a=b):RetAll T s [.tmp t] [.d (.int k b)]:=⟨rtI h e,trivial⟩
end
theorem rtC {T:TT} {s:St} {a t i:Nat} {ti:TI} {cs:List AV} {xs ys:List D} {v:AV} (h1:v = .box i 0) (h2:T t=some ti) (h3:s.ob i=some (.box cs)) (h4:Nat.beq cs.length ti.size=true) (h5:ti.agg=true) (h6:allD cs=some xs) (he:eqvs xs ys) :
  RetCell T s t v (.agg ys):=by
 subst h1
 unfold RetCell
 simp only[h2,h3,h4,h5,true_and]
 have:RetBox cs (.agg ys) ↔ (match allD cs with | some xs=>eqvs xs ys | none=>False):=by
  rcases cs with _ | ⟨c,_ | ⟨c',r⟩⟩ <;> first | exact jbk | (cases c <;> exact jbk)
 rw[this,h6]
 exact he
section
variable {T:TT} {s:St} {a t i u:Nat} {ti:TI} {cs:List AV} {xs ys:List D}
theorem r1C (h1:s.sl a = .box i 0) (h2:T t=some ti) (h3:s.ob i=some (.box cs)) (h4:Nat.beq cs.length ti.size=true) (h5:ti.agg=true) (h6:allD cs=some xs) (he:eqvs xs ys) :
  RetAll T s [.cell a t] [.agg ys]:=⟨rtC (a:=a) h1 h2 h3 h4 h5 h6 he,trivial⟩
theorem r2CI (h1:s.sl a = .box i 0) (h2:T t=some ti) (h3:s.ob i=some (.box cs)) (h4:Nat.beq cs.length ti.size=true) (h5:ti.agg=true) (h6:allD cs=some xs) {k:IntKind} {m n:Int} (h7:s.sl u = .d (.int k m)) (he:eqvs xs ys) (e:m=n) :
  RetAll T s [.cell a t,.tmp u] [.agg ys,.d (.int k n)]:=⟨rtC (a:=a) h1 h2 h3 h4 h5 h6 he,rtI h7 e,trivial⟩
theorem r2II {t u:Nat} {k k':IntKind} {m n m' n':Int} (h:s.sl t = .d (.int k m)) (h':s.sl u = .d (.int k' m')) (e:m=n) (e':m'=n') :
  RetAll T s [.tmp t,.tmp u] [.d (.int k n),.d (.int k' n')]:=⟨rtI h e,rtI h' e',trivial⟩
end
theorem dT {p:Prop} [Decidable p] (h:decide p=true):p:=kO h
theorem dF {p:Prop} [Decidable p] (h:decide p=false):¬ p:=of_decide_eq_false h
theorem zjN {k k':IntKind} {a b a' b':Int} (h1:a=a') (h2:b=b'):eqvs [.int k a,.int k' b] [.int k a',.int k' b']:=⟨⟨rfl,h1⟩,⟨rfl,h2⟩,trivial⟩
theorem i6 {n:Int} (h:-9223372036854775808<=n/\n<=9223372036854775807:=by omega):inR .i64 n:=h
theorem zaZ {n:Int} (h1:-9223372036854775808<=n) (h2:n<=9223372036854775807):inR .i64 n:=⟨h1,h2⟩
theorem gd1 {α:Type} {l:List α} {i:Nat} (h:i<l.length) (d:α):l.getD i d∈l:=by
 rw[hX,hZ h]; exact kR h
theorem zaM {α:Type} {l:List α} {i:Nat} (h:i<l.length) (d:α):l.take (i+1)=l.take i ++ [l.getD i d]:=by
 rw[List.take_succ_eq_append_getElem h,hX,hZ h]; rfl
@[irreducible] def within (n lo hi:Int):Bool:=decide (lo<=n) && decide (n<=hi)
@[irreducible] def slope (a b:Int):Bool:=within a (-1000) 1000 && within b (-1000) 1000
end Go.Pg
namespace Go.Pg
open Go.Proofs Go.RowKit Go.MapKept
theorem zdz (n:Int):∀ (es:List MapEntry) (ks:List (List Int)) (i:Nat),(es.map fun e=>e.key)=ks.map kv->(∀ k∈ks,k.length=1)->Instr.findNow (.int .i64) (.int .i64 n) es i=some ((es[ks.idxOf [n]]?).map fun e=>(i+ks.idxOf [n],e.val))
 | [],[],i,_,_=>rfl
 | e :: es,[m] :: ks,i,h,hl=>by
  simp only[kT,jad] at h
  have hk:e.key = .int .i64 m:=h.1
  by_cases e1:n=m
  ·subst e1
   have:List.idxOf [n] ([n] :: ks)=0:=by simp[List.idxOf_cons]
   rw[this]
   simp[Instr.findNow,hk,Instr.sameNow]
  ·have:List.idxOf [n] ([m] :: ks)=List.idxOf [n] ks+1:=by
    rw[List.idxOf_cons]
    have:([m] == [n])=false:=by simp; exact fun e=>e1 e.symm
    rw[this]; rfl
   rw[this]
   have hs:Instr.sameNow (.int .i64) (.int .i64 n) e.key=some false:=by simp[Instr.sameNow,hk,e1]
   simp only[Instr.findNow,hs]
   rw[zdz n es ks (i+1) h.2 fun k hk=>hl k (jaa _ hk)]
   simp only[jai]
   congr 2
   funext e'
   rw[show i+1+List.idxOf [n] ks=i+(List.idxOf [n] ks+1) by omega]
 | e :: es,[] :: ks,i,h,hl=>by have:=hl [] (wG ..); cases this
 | e :: es,(_ :: _ :: _) :: ks,i,h,hl=>by have:=hl _ (wG ..); simp at this
 | [],_ :: _,i,h,_=>by simp at h
 | _ :: _,[],i,h,_=>by simp at h
theorem zli {P:Program} {kt:Nat} (hu:P.underlying kt=some (.int .i64)):KeyF P kt 1:=fun key hk=>by
 obtain⟨n,rfl⟩:∃ n,key=[n]:=by
  match key,hk with
  | [n],_=>exact⟨n,rfl⟩
 have hK:IsKey (.int .i64) (Value.int .i64 n):=by simp[IsKey]
 refine⟨fun b w=>run_checkKey hu hK b 9999,fun w=>run_keyThatStays hK,fun w es ks h hl=>?_⟩
 have:=run_findKey (P:=P) (w:=w) hu (zdz n es ks 0 h hl)
 simp only[qG] at this
 exact this
theorem kInt:KeyF PP 3 1:=zli (by kernel_rfl)
theorem zgr (l:List Int) (k:Int):(l.map fun x=>[x]).idxOf [k]<(l.map fun x=>[x]).length ↔ l.contains k=true:=by
 rw[jaD,kJ,kD]
 constructor
 ·rintro⟨x,hx,e⟩; cases e; exact hx
 intro h; exact⟨k,h,rfl⟩
theorem zoW (l:List Int) (k:Int):lkD (l.map fun x=>[x]) (fun _=>.bool true) [k] (.bool false) = .bool (l.contains k):=by
 unfold lkD
 by_cases h:l.contains k=true
 ·rw[kG ((zgr l k).2 h),h]
 rw[kF fun e=>h ((zgr l k).1 e),wE.2 h]
theorem zmU {l:List Int} {k:Int} (h:l.contains k=false):D.eqv (.mp 1 (putK (l.map fun x=>[x]) [k]) (putF (l.map fun x=>[x]) (fun _=>.bool true) [k] (.bool true))) (.mp 1 ((l ++ [k]).map fun x=>[x]) fun _=>.bool true):=by
 refine⟨rfl,?_,fun j _=>?_⟩
 ·unfold putK
  rw[kF fun e=>(by rw[(zgr l k).1 e] at h; cases h),jT]; rfl
 unfold putF; split <;> exact dE _
theorem obMp {s:St} {ob:Nat->Option Ob} {m m':Nat} {ks ks':List (List Int)} {f f':Nat->D} {o:Option Ob} (h:o=some (.mp m ks f)) (e:D.eqv (.mp m ks f) (.mp m' ks' f')):Oble s ob o (.mp m' ks' f'):=by subst h; exact e
def gcdL (l:List Int):Nat:=l.foldl (fun g n=>Nat.gcd g n.natAbs) 0
@[irreducible] def fit (h:Half):Bool:=slope h.A h.B && (h.A != 0 || h.B != 0) && within h.C (-262144) 262144
def checkL (l:List Half):Int:=if 40<l.length then 2 else if l.all fit then 0 else 1
theorem zaa {n lo hi:Int}:within n lo hi=true ↔ lo<=n/\n<=hi:=by unfold within; simp
@[irreducible] def valid (p:Corner):Bool:=within p.Den 1 2097152 && within p.X (-1073741824) 1073741824 && within p.Y (-1073741824) 1073741824 && ((gcdL [p.X,p.Y,p.Den]:Int)==1)
@[irreducible] def on (p:Place):Bool:=within p.X 0 48 && within p.Y 0 48
theorem mulB {a b x y:Int} (ha:-x<=a/\a<=x) (hb:-y<=b/\b<=y):-(x * y)<=a * b/\a * b<=x * y:=by
 have h:(a * b).natAbs<=x.natAbs * y.natAbs:=by rw[Int.natAbs_mul]; exact Nat.mul_le_mul (by omega) (by omega)
 have e:((x.natAbs * y.natAbs:Nat):Int)=x * y:=by rw[Int.natCast_mul,Int.natAbs_of_nonneg (by omega),Int.natAbs_of_nonneg (by omega)]
 omega
structure okH (h:Half):Prop where
  a:-1000<=h.A/\h.A<=1000
  b:-1000<=h.B/\h.B<=1000
  c:-262144<=h.C/\h.C<=262144
structure okC (p:Corner):Prop where
  x:-1073741824<=p.X/\p.X<=1073741824
  y:-1073741824<=p.Y/\p.Y<=1073741824
  d:1<=p.Den/\p.Den<=2097152
theorem zoO {h:Half} (hf:fit h=true):okH h:=by
 unfold fit slope at hf
 simp only[jP,zaa] at hf
 exact⟨hf.1.1.1,hf.1.1.2,hf.2⟩
theorem zi4 {p:Corner} (hf:valid p=true):okC p:=by
 unfold valid at hf
 simp only[jP,zaa] at hf
 exact⟨hf.1.1.2,hf.1.2,hf.1.1.1⟩
@[irreducible] def ord (a b:Int):Int:=if a<b then -1 else if b<a then 1 else 0
theorem znG (a:Int):SpecD PP 220 [N a] [B false]:=by
 refine zbn Tryz.func220 rfl (by kernel_rfl) rfl ?_
 refine r1B rfl ?_
 simp
theorem zpk (a b:Int):SpecD PP 153 [N a,N b] [N (ord a b)]:=by
 refine zbn Tryz.func153 rfl (by kernel_rfl) rfl ?_
 repeat' first
  | refine sT ?_
  | refine sF ?_
  | refine bY (fun _=>?_) (fun _=>?_)
  | refine cP (znG _) rfl rfl ?_
  | refine r1I rfl ?_
 all_goals (unfold ord; simp_all)
 all_goals omega
theorem hEN:∀ t,EN.eq t=true->EqFact PP t:=hE
theorem zkA {f : FuncId} {fn : Func} {c : Code} (hf : PP.funcs[f]? = some fn) (hb : fn.body = some c) (hq : ((fn.name == "runtime.NumGoroutine") || !(codeN fn.ntmps c && Nat.ble fn.ntmps 4294967296)) = false)
  {pre post : List V1} {e k n n' : Nat} {g g' : Nat -> Nat -> D} (hfl : ∀ i, i < n' -> ∀ j, j < k -> (g' i j).flat = true) (hsz : Nat.ble (pre.length + 1 + post.length) fn.ntmps = true)
  (h : ∀ v, awp PP TTab EN c (St.of (rowSlots pre post v) [(pre.length, .row e k n g)]) (retKO fn.results.toList e k n' g')) : SpecT PP f pre post e k n g n' g' := by
 simp only [qH, qJ, jP] at hq
 exact zkz hT hEN hM hf hb hq.1 hq.2.1 hfl (jD hsz) (jD hq.2.2) h
def EY {τ:Type} (xs:List τ) (enc:τ->List V1) (l:Nat):Env:=⟨ET,false,l,fun n vs=>∃ x,xs[n]?=some x/\vs=enc x,true,fun _=>false⟩
theorem zex {f : FuncId} {fn : Func} {c : Code} (hf : PP.funcs[f]? = some fn) (hb : fn.body = some c) (hq : ((fn.name == "runtime.NumGoroutine") || !(codeN fn.ntmps c && Nat.ble fn.ntmps 4294967296)) = false) (hres : fn.results.toList = [])
  {m : Nat} {cap : Nat -> D} (hsz : Nat.ble (m + 1) fn.ntmps = true) {τ : Type} (enc : τ -> List V1) (xs : List τ)
  (h : ∀ l, awp PP TTab (EY xs enc l) c (St.of ((G, .gho (some 0)) :: (0, .yl l) :: argSlots 1 ((List.range m).map fun j => .d (cap j))) []) (retY xs.length)) : SeqC PP f m cap enc xs := by
 simp only [qH, qJ, jP] at hq
 exact zmL hT (eq := ET) hE hM hf hb hq.1 hq.2.1 hres (jD hq.2.2) (jD hsz) enc xs _ h
theorem CodeOb.rangeAt {K:KK} {s:St} {fo:Operand} {ps:Array Tmp} {asg body:Code} {g m:Nat} {cap:Nat->D} {τ:Type} {enc:τ->List V1} {xs:List τ} (hseq:SeqC PP g m cap enc xs) (hc:callee (ev s fo)=some (g,(List.range m).map fun j=>AV.d (cap j)))
  (hps:∀ x,(enc x).length=ps.size) (hnd:ps.toList.Nodup)
  (sl:List (Nat × AV)) (rc:List (Nat × Nat)) (ob:List τ->List (Nat × Ob)) (hsl:okSl sl=true) (hob:∀ pre,okOb sl rc (ob pre)=true) (hw:Weak s sl (ob []))
  {Iv:List τ->Prop} (hI0:Iv [])
  (hbody:∀ (v:Nat->Value) pre x,pre ++ [x] <+: xs->Iv pre->awp PP TTab EN asg (St.of (psl ps.toList (enc x)++pinS v sl) (ob pre)) (Ka PP TTab EN K sl rc v ob Iv body pre x))
  (hend:Iv xs->K .normal (St.of sl (ob xs))):CodeOb EN.dr EN.it PP (.rangeFunc fo ps asg body) s K:=
 CodeOb.range hT hEN hM hseq hc hps hnd sl rc ob hsl hob hw hI0 hbody hend
section
variable {s:St} {o:Oper} {fo:Operand} {f:FuncId} {K:St->Prop} {args:List Operand}
theorem CallSt.ydM {τ:Type} {xs:List τ} {enc:τ->List V1} {l:Nat} {d n:Nat} {x:τ} (sl:List (Nat × AV)) (ob:List (Nat × Ob)) (hd:o.dst=some d) (hf:ev s fo = .yl l) (hg:s.sl G = .gho (some n)) (hG:look sl G=none) (hw:Weak s sl ob) (hx:xs[n]?=some x) (hv:toV1s s (args.map (ev s))=some (enc x))
  (hno:(args.map (ev s)).all (fun v=>!v.isOwn)=true) (k1:K ((St.of ((G,.gho (some (n+1))) :: sl) ob).put d (.d (.bool true)))) (k2:K ((St.of ((G,.gho none) :: stillS sl) []).put d (.d (.bool false)))):CallSt (EY xs enc l) PP s o fo args K:=by
 rw[zae]
 exact .inr (.inr (.inr (.inl ⟨⟨n,d,sl,ob,_,hd,hf,hg,hG,hw,hv,hno,⟨x,hx,rfl⟩,k1,k2⟩⟩)))
theorem CallSt.yd {τ:Type} {xs:List τ} {enc:τ->List V1} {l:Nat} {d n:Nat} {x:τ} (sl:List (Nat × AV)) (hd:o.dst=some d) (hf:ev s fo = .yl l) (hg:s.sl G = .gho (some n)) (hG:look sl G=none) (hw:Weak s sl []) (hx:xs[n]?=some x) (hv:toV1s s (args.map (ev s))=some (enc x))
  (hno:(args.map (ev s)).all (fun v=>!v.isOwn)=true) (k1:K ((St.of ((G,.gho (some (n+1))) :: sl) []).put d (.d (.bool true)))) (k2:K ((St.of ((G,.gho none) :: stillS sl) []).put d (.d (.bool false)))):CallSt (EY xs enc l) PP s o fo args K:=CallSt.ydM sl [] hd hf hg hG hw hx hv hno k1 k2
theorem CallSt.rw' {args:Array Operand} {at':Array TypeId} (hop:o.op = .call { callee:=.value fo,args,argTypes:=at' }) {pre post res:List V1} {i e k n:Nat} {g g':Nat->Nat->D} (h:SpecR PP f pre post e k n g g' res)
  (ha:RowArgs s fo args.toList f pre i post) (hi:s.ob i=some (.row e k n g)) (hk:K ((s.setOb i (some (.row e k n g'))).putO o.dst (resAV res))):CallSt EN PP s o fo args.toList K:=CallSt.row rfl hop h ha hi hk
end
section
variable {s:St} {ob:Nat->Option Ob} {v:AV}
theorem avQ {x:AV} (h:v=x):AVle s ob v x:=by subst h; exact zaU s ob v
theorem avG {m m':Nat} (h:v = .gho (some m)) (e:m=m'):AVle s ob v (.gho (some m')):=by subst h; subst e; exact zaU s ob _
theorem avBx {i m:Nat} {h:Nat->D} {cs:List AV} {xs:List D} (e:v = .box i 0) (h1:s.ob i=some (.box cs)) (h2:allD cs=some xs) (h3:ob i=none) (q:D.eqv (.ptr (xs.length - 0) fun j=>getD' xs (0+j)) (.ptr m h)):AVle s ob v (.roe m h):=by
 subst e; exact⟨h3,cs,xs,h1,h2,q⟩
theorem avOw {i e k n:Nat} {f:Nat->Nat->D} {y:D} (h0:v = .own i) (h1:s.ob i=some (.row e k n f)) (h2:ob i=none) (q:D.eqv (.slc k n f) y):AVle s ob v (.d y):=by subst h0; cases y <;> first | exact⟨h2,e,k,n,f,h1,q⟩ | cases q
end
def SpecSx (P:Program) (f:FuncId) (post:List V1) (cs cs':List D) (res:List V1):Prop:=
 Ent P f /\ ∀ (w:World) (ok:Nat->Prop) (us:List Value) (b:Nat) (vs:List Value) (T:TypeId),(∀ b,ok b->b<w.heap.size)->All2 (Rep1 w ok) post us->w.heap[b]?=some (.cells vs.toArray T (0,0))->All2 (Rep w ok) cs vs -> ¬ ok b ->
  Calls P f (Value.pointer (some ⟨b,0,none⟩) :: us).toArray w fun en w'=>∃ r,en = .returned r/\w.grownBy w' (some b)/\ResRep w' (fun _=>False) res r /\
   ∃ (vs':List Value) (T':TypeId),w'.heap[b]?=some (.cells vs'.toArray T' (0,0))/\All2 (Rep w' (fun _=>False)) cs' vs'
def boxSlots (post:List V1) (b:Nat):List (Nat × AV):=(0,.pbox 0 (.pointer (some ⟨b,0,none⟩))) :: argSlots 1 post
theorem zgK {w:World} {ok ok':Nat->Prop} {γ:Nat->Value} (hk:∀ b,ok b->ok' b):∀ {cs:List D} {vs:List Value},All2 (Rep w ok) cs vs->All2 (fun c v=>M w ok' γ c v/\v.oneCell'=true) (cs.map AV.d) vs
 | [],[],.nil=>.nil
 | _ :: _,_ :: _,.cons h1 h2=>.cons ⟨Rep.keep0 (fun b hb=>⟨hk b hb,⟨fun _ _ _ h=>h,fun _ _ h=>h⟩⟩) h1,Rep.one h1⟩ (zgK hk h2)
theorem zkQ {post : List V1} {us : List Value} {w : World} {ok : Nat -> Prop} {N b : Nat} {cs : List D} {vs : List Value} {T : TypeId} (hok : ∀ b, ok b -> b < w.heap.size) (h2 : All2 (Rep1 w ok) post us) (hb : w.heap[b]? = some (.cells vs.toArray T (0, 0)))
    (hr : All2 (Rep w ok) cs vs) (hsep : ¬ ok b) (hsz : 1 + post.length <= N) (hng : N <= G) :
    R (cxR w ok N (.pointer (some ⟨b, 0, none⟩))) (St.of (boxSlots post b) [(0, .box (cs.map AV.d))]) { tmps := (Value.pointer (some ⟨b, 0, none⟩) :: us).toArray ++ Array.replicate (N - (Value.pointer (some ⟨b, 0, none⟩) :: us).toArray.size) undef, defers := [] } w := by
  have l2 := h2.length
  have hlt : b < w.heap.size := (jB.1 hb).1
  have slot : ∀ t x, look (boxSlots post b) t = some x -> M w ok (fun _ => Value.pointer (some ⟨b, 0, none⟩)) x ((((Value.pointer (some ⟨b, 0, none⟩) :: us).toArray ++ Array.replicate (N - (Value.pointer (some ⟨b, 0, none⟩) :: us).toArray.size) undef)).getD t undef) /\ (x.refs = [] \/ x.refs = [0]) := fun t x hx => by
    unfold boxSlots at hx
    simp only [look] at hx
    cases ht : Nat.beq t 0 with
    | true =>
      rw [ht] at hx; cases hx
      have := jA ht
      subst this
      rw [za9 (u := .pointer (some ⟨b, 0, none⟩)) (by simp)]
      exact ⟨⟨⟨b, rfl, rfl⟩, rfl⟩, .inr rfl⟩
    | false =>
      rw [ht] at hx
      obtain ⟨j, u, z, g1, g2, g3, g4⟩ := zaG post us 1 t h2 x hx
      rw [za9 (u := u) (by
        rw [show t = j + 1 by omega, jai]; exact g2), g3]
      exact ⟨zdo.2 g4, .inl (zbk z)⟩
  refine ⟨fun _ => .pointer (some ⟨b, 0, none⟩), ?_⟩
  have hob : ∀ i o, look [(0, Ob.box (cs.map AV.d))] i = some o -> i = 0 /\ o = .box (cs.map AV.d) := fun i o ho => by
    simp only [look] at ho
    cases hb : Nat.beq i 0 with
    | true => rw [hb] at ho; cases ho; exact ⟨jA hb, rfl⟩
    | false => rw [hb] at ho; cases ho
  exact { defers := ⟨fun _ => rfl, [], rfl, qS, fun D hD => by cases hD⟩
          size := by simp [cxR]; omega
          okA := fun c hc => ⟨hok c hc, fun e => by simp only [cxR, blk, jO] at e; subst e; exact hsep hc⟩
          lent := fun c hc => by simp only [cxR, blk, jO] at hc; subst hc; exact hlt
          below := ⟨rfl, rfl, rfl, fun _ => jE _, jE _, fun _ _ _ => rfl⟩
          hold := fun k o hk => hk.elim
          least := jF _
          objs := fun i o hi => by
            obtain ⟨rfl, rfl⟩ := hob i o hi
            exact ⟨b, vs, T, rfl, .inr rfl, hb, zgK (fun b hb => .inl hb) hr⟩
          refs := fun i cs' hi c hc j hj => by
            obtain ⟨_, h3⟩ := hob i _ hi; cases h3
            obtain ⟨x, _, rfl⟩ := kJ.1 hc
            cases hj
          sep := fun i j o o' hi hj hne => absurd ((hob i o hi).1.trans (hob j o' hj).1.symm) hne
          slots := fun t => by
            show M w _ _ ((look (boxSlots post b) t).getD .any) _
            cases hx : look (boxSlots post b) t with
            | none => exact trivial
            | some x => exact (slot t x hx).1.keep (fun b hb => ⟨.inl hb, rfl⟩) fun _ _ => rfl
          ng := hng
          gho := fun m hm => by
            have hm' : (look (boxSlots post b) G).getD .any = .gho m := hm
            cases hx : look (boxSlots post b) G with
            | none => rw [hx] at hm'; cases hm'
            | some x =>
              rw [hx] at hm'
              have hno : ∀ y : V1, avOf y ≠ .gho m := fun y => by
                cases y with
                | d z => cases z <;> simp [avOf]
                | agg z => simp [avOf]
              unfold boxSlots at hx
              simp only [look] at hx
              have hx' : look (argSlots 1 post) G = some x := hx
              obtain ⟨j, u, z, g1, g2, g3, g4⟩ := zaG post us 1 G h2 x hx'
              exact absurd (g3.symm.trans hm') (hno z)
          srefs := fun t j hj => by
            have hj' : j ∈ ((look (boxSlots post b) t).getD .any).refs := hj
            cases hx : look (boxSlots post b) t with
            | none => rw [hx] at hj'; cases hj'
            | some x =>
              rw [hx] at hj'
              rcases (slot t x hx).2 with h3 | h3
              · rw [show (Option.some x).getD .any = x from rfl, h3] at hj'; cases hj'
              rw [show (Option.some x).getD .any = x from rfl, h3] at hj'
              simp only [kH] at hj'
              subst hj'
              rfl }
def retX (T:TT) (rs:List ResultVar) (b:Nat) (cs':List D) (res:List V1):KK:=fun x s=>
 let fin:Prop:=RetAll T s rs res/\s.sl 0 = .pbox 0 (.pointer (some ⟨b,0,none⟩)) /\ ∃ cz:List AV,s.ob 0=some (.box cz) /\ ∃ xs,allD cz=some xs/\eqvs xs cs'
 match x with
 | .normal=>fin
 | .ret=>fin
 | _=>False
theorem zdH {w:World} {ok:Nat->Prop} {γ:Nat->Value}:∀ {cz:List AV} {xs:List D} {vs:List Value},allD cz=some xs->All2 (fun c v=>M w ok γ c v/\v.oneCell'=true) cz vs->All2 (Rep w ok) xs vs
 | [],xs,[],h,.nil=>by simp only[allD,jO] at h; subst h; exact .nil
 | c :: r,xs,v :: vs,h,.cons h1 h2=>by
  simp only[allD] at h
  cases hc:avD c with
  | none=>simp[hc] at h
  | some x=>
  cases hr:allD r with
  | none=>simp[hc,hr] at h
  | some ys=>
  simp only[hc,hr,jO] at h; subst h
  exact .cons (zb6 hc h1.1).1 (zdH hr h2)
theorem zkx {P : Program} {T : TT} {E : Env} (hT : ∀ t i, T t = some i -> TI.of P t = some i) (hE : ∀ t, E.eq t = true -> EqFact P t) (hm : P.follows .mixedOrders = true)
  {f : FuncId} {fn : Func} {c : Code} (hf : P.funcs[f]? = some fn) (hb : fn.body = some c) (hn : (fn.name == "runtime.NumGoroutine") = false) (hN : codeN fn.ntmps c = true)
  {post res : List V1} {cs cs' : List D} (hfl : cs'.all D.flat = true) (hrf : res.all V1.flat = true) (hsz : 1 + post.length <= fn.ntmps) (hng : fn.ntmps <= G)
  (h : ∀ b, awp P T E c (St.of (boxSlots post b) [(0, .box (cs.map AV.d))]) (retX T fn.results.toList b cs' res)) : SpecSx P f post cs cs' res :=
 ⟨⟨fn, hf, hn, by rw [hb]; rfl⟩, fun w ok us b vs T' hok h2 hcell hr hsep => zhX hT hE hm hf hb hN (cx := cxR w ok fn.ntmps (.pointer (some ⟨b, 0, none⟩))) (fun e => by cases e) rfl rfl rfl (fun _ _ => id) (zkQ hok h2 hcell hr hsep hsz hng) (h b)
  (fun x h1 h2 s h => by cases x <;> first | exact h1 rfl | exact h2 rfl | exact h) fun x s a w' hx hk hR _ => by
  have hk' : RetAll T s fn.results.toList res /\ s.sl 0 = .pbox 0 (.pointer (some ⟨b, 0, none⟩)) /\ ∃ cz : List AV, s.ob 0 = some (.box cz) /\ ∃ xs, allD cz = some xs /\ eqvs xs cs' := by rcases hx with rfl | rfl <;> exact hk
  obtain ⟨k1, k2, cz, k3, xs, k4, k5⟩ := hk'
  obtain ⟨r, r1, r2⟩ := zd0 (P := P) hT (fn := fn) hR k1
  obtain ⟨γ, hg⟩ := hR
  obtain ⟨b', vs', T2, o1, o0, o2, o3⟩ := hg.objs _ _ k3
  have hsl := hg.slots 0
  rw [k2] at hsl
  obtain ⟨⟨b2, e1, e2⟩, e3⟩ := hsl
  rw [e1] at o1
  obtain rfl : b2 = b' := by simpa using o1
  rw [e2] at e3
  obtain rfl : b2 = b := by simpa using e3
  refine ⟨r, r1, r, rfl, zcQ hg.below, zdi hrf r2, vs', T2, o2, ?_⟩
  have q := zbE k5 (zdH k4 o3)
  have hall := jC.1 hfl
  exact q.imp fun x u hx hr => Rep.flat (hall x hx) hr⟩
theorem zky {f : FuncId} {fn : Func} {c : Code} (hf : PP.funcs[f]? = some fn) (hb : fn.body = some c) (hq : ((fn.name == "runtime.NumGoroutine") || !(codeN fn.ntmps c && Nat.ble fn.ntmps 4294967296)) = false)
  {post res : List V1} {cs cs' : List D} (hfl : cs'.all D.flat = true) (hrf : res.all V1.flat = true) (hsz : Nat.ble (1 + post.length) fn.ntmps = true) (h : ∀ b, awp PP TTab EN c (St.of (boxSlots post b) [(0, .box (cs.map AV.d))]) (retX TTab fn.results.toList b cs' res)) : SpecSx PP f post cs cs' res := by
 simp only [qH, qJ, jP] at hq
 exact zkx (E := EN) hT hE hM hf hb hq.1 hq.2.1 hfl hrf (jD hsz) (jD hq.2.2) h
end Go.Pg
namespace Go.Pg
open Go
def ofB (f:Nat->Bool):Nat->Nat
 | 0=>0
 | n+1=>2 ^ n * (if f n=true then 1 else 0)+ofB f n
theorem zi6 (f:Nat->Bool):∀ n:Nat,ofB f n<2 ^ n
 | 0=>by simp[ofB]
 | n+1=>by
  have:=zi6 f n
  rw[Nat.pow_succ]
  unfold ofB
  split <;> omega
theorem zi7 (f:Nat->Bool):∀ (n j:Nat),(ofB f n).testBit j=(decide (j<n) && f j)
 | 0,j=>by simp[ofB]
 | n+1,j=>by
  have hl:=zi6 f n
  unfold ofB
  rw[Nat.testBit_two_pow_mul_add _ hl,zi7 f n j]
  by_cases h:j<n
  ·rw[kG h,jG h,jG (show j<n+1 by omega)]
  rw[kF h]
  by_cases e:j=n
  ·subst e
   rw[kE,jG (show j<j+1 by omega)]
   cases hf:f j <;> simp
  rw[jH (show ¬ j<n+1 by omega)]
  have:∀ b:Bool,((if b=true then 1 else 0:Nat)).testBit (j - n)=false:=fun b=>by
   obtain⟨d,hd⟩:∃ d,j - n=d+1:=⟨j - n - 1,by omega⟩
   rw[hd,Nat.testBit_succ]
   cases b <;> simp
  rw[this]; rfl
def wd (P:Nat->Bool) (i:Nat):Nat:=ofB (fun j=>P (64 * i+j)) 64
theorem zf0 (P:Nat->Bool) (i:Nat):wd P i<18446744073709551616:=zi6 _ 64
theorem zdQ (P:Nat->Bool) (i j:Nat) (hj:j<64):(wd P i).testBit j=P (64 * i+j):=by
 unfold wd; rw[zi7]; simp[hj]
theorem ze8 {n:Nat} {P:Nat->Bool} {i:Nat} (hn:n<18446744073709551616) (h:∀ j,j<64->n.testBit j=P (64 * i+j)):n=wd P i:=by
 refine Nat.eq_of_testBit_eq fun j=>?_
 by_cases hj:j<64
 ·rw[h j hj,zdQ P i j hj]
 have hp:(18446744073709551616:Nat)<=2 ^ j:=by
  have:2 ^ 64<=2 ^ j:=jaO (by omega) (by omega)
  omega
 rw[jaG (by omega),jaG (by have:=zf0 P i; omega)]
theorem zko {P Q:Nat->Bool} {i:Nat} (h:∀ j,j<64->P (64 * i+j)=Q (64 * i+j)):wd P i=wd Q i:=
 ze8 (zf0 P i) fun j hj=>by rw[zdQ P i j hj]; exact h j hj
theorem zk2 (x:Nat) (hx:x<18446744073709551616):(BitVec.ofInt 64 (x:Int)).toNat=x:=by
 rw[BitVec.ofInt_natCast,BitVec.toNat_ofNat]; exact jas hx
theorem zms (x:Nat) (hx:x<18446744073709551616):IntKind.wrap .u64 (x:Int)=(x:Int):=by
 unfold IntKind.wrap
 show (if (false && _)=true then _ else (x:Int) % (2 ^ 64:Int))=_
 rw[kF (by simp)]
 exact Int.emod_eq_of_lt (by omega) (by omega)
theorem andU (x y:Nat) (hx:x<18446744073709551616) (hy:y<18446744073709551616):IntKind.wrap .u64 ((BitVec.ofInt 64 (x:Int) &&& BitVec.ofInt 64 (y:Int)).toNat:Int)=((x &&& y:Nat):Int):=by
 rw[BitVec.toNat_and,zk2 x hx,zk2 y hy,zms _ (Nat.lt_of_le_of_lt Nat.and_le_left hx)]
theorem orU (x y:Nat) (hx:x<18446744073709551616) (hy:y<18446744073709551616):IntKind.wrap .u64 ((BitVec.ofInt 64 (x:Int) ||| BitVec.ofInt 64 (y:Int)).toNat:Int)=((x ||| y:Nat):Int):=by
 rw[BitVec.toNat_or,zk2 x hx,zk2 y hy,zms _ (Nat.or_lt_two_pow (n:=64) hx hy)]
theorem divN (n:Nat):(n:Int).tdiv 64=((n / 64:Nat):Int):=by
 rw[Int.tdiv_eq_ediv_of_nonneg (by omega)]; rfl
theorem modN (n:Nat):(n:Int).tmod 64=((n % 64:Nat):Int):=by
 rw[jaq (by omega)]; rfl
theorem shrU (x j:Nat) (hj:j<64):(x:Int).fdiv (2 ^ (min (j:Int).toNat 64))=((x / 2 ^ j:Nat):Int):=by
 have e:min (j:Int).toNat 64=j:=by omega
 rw[e,Int.fdiv_eq_ediv_of_nonneg _ (by exact jav (Int.pow_pos (by omega)))]
 have:(2 ^ j:Int)=((2 ^ j:Nat):Int):=by simp
 rw[this]; rfl
theorem shlU (j:Nat) (hj:j<64):IntKind.wrap .u64 (1 * 2 ^ (min (j:Int).toNat 64))=((2 ^ j:Nat):Int):=by
 have e:min (j:Int).toNat 64=j:=by omega
 have h:(2 ^ j:Nat)<18446744073709551616:=Nat.pow_lt_pow_right (a:=2) (n:=64) (by omega) hj
 have:(1 * 2 ^ j:Int)=((2 ^ j:Nat):Int):=by simp
 rw[e,this,zms _ h]
attribute [irreducible] wd
theorem znv (P:Nat->Bool) (n:Nat):((IntKind.wrap .u64 ((BitVec.ofInt 64 (((wd P (n / 64):Nat):Int).fdiv (2 ^ (min ((n:Int).tmod 64).toNat 64))) &&& BitVec.ofInt 64 1).toNat:Int))==1)=P n:=by
 have hj:n % 64<64:=jaf _ (by omega)
 have hw:=zf0 P (n / 64)
 rw[modN,shrU _ _ hj]
 have h1:wd P (n / 64) / 2 ^ (n % 64)<18446744073709551616:=Nat.lt_of_le_of_lt (Nat.div_le_self _ _) hw
 have:=andU (wd P (n / 64) / 2 ^ (n % 64)) 1 h1 (by omega)
 rw[show ((1:Nat):Int)=1 from rfl] at this
 rw[this,Nat.and_one_is_mod]
 have hb:=zdQ P (n / 64) (n % 64) hj
 rw[ja9,Nat.testBit_eq_decide_div_mod_eq] at hb
 rw[<- hb,kY]
 simp only[jae,kA]
 omega
def addP (P:Nat->Bool) (n:Nat):Nat->Bool:=fun k=>P k || k==n
theorem or_lt {x y:Nat} (hx:x<18446744073709551616) (hy:y<18446744073709551616):x ||| y<18446744073709551616:=Nat.or_lt_two_pow (n:=64) hx hy
theorem zmT (P:Nat->Bool) (n:Nat):IntKind.wrap .u64 ((BitVec.ofInt 64 ((wd P (n / 64):Nat):Int) ||| BitVec.ofInt 64 (IntKind.wrap .u64 (1 * 2 ^ (min ((n:Int).tmod 64).toNat 64)))).toNat:Int)=((wd (addP P n) (n / 64):Nat):Int):=by
 have hj:n % 64<64:=jaf _ (by omega)
 have hw:=zf0 P (n / 64)
 have h:2 ^ (n % 64)<18446744073709551616:=Nat.pow_lt_pow_right (a:=2) (n:=64) (by omega) hj
 rw[modN,shlU _ hj,orU _ _ hw h]
 refine jI (fun m:Nat=>(m:Int)) (ze8 (or_lt hw h) fun j hj'=>?_)
 rw[Nat.testBit_or,zdQ P _ _ hj',Nat.testBit_two_pow]
 unfold addP
 refine jI (P _ || ·) ?_
 rw[kY]
 simp only[jae,kA]
 omega
theorem ziL (P:Nat->Bool) (n i:Nat) (h:i≠n / 64):wd (addP P n) i=wd P i:=zko fun j hj=>by
 unfold addP
 have:(64 * i+j==n)=false:=by
  rw[jao]; omega
 rw[this,jax]
theorem znZ (P Q:Nat->Bool) (i:Nat):IntKind.wrap .u64 ((BitVec.ofInt 64 ((wd P i:Nat):Int) &&& BitVec.ofInt 64 ((wd Q i:Nat):Int)).toNat:Int)=((wd (fun k=>P k && Q k) i:Nat):Int):=by
 rw[andU _ _ (zf0 P i) (zf0 Q i)]
 refine jI (fun m:Nat=>(m:Int)) (ze8 (Nat.lt_of_le_of_lt Nat.and_le_left (zf0 P i)) fun j hj=>?_)
 rw[Nat.testBit_and,zdQ P _ _ hj,zdQ Q _ _ hj]
theorem zn3 (i:Nat):wd (fun _=>true) i=18446744073709551615:=by
 refine (ze8 (by omega) fun j hj=>?_).symm
 have:=Nat.testBit_two_pow_sub_one 64 j
 rw[show (2 ^ 64 - 1:Nat)=18446744073709551615 from rfl] at this
 rw[this]; exact jG hj
theorem zmt (i:Nat):wd (fun _=>false) i=0:=by
 refine (ze8 (by omega) fun j hj=>?_).symm
 exact Nat.zero_testBit j
end Go.Pg
namespace Go.Pg
open Go.Proofs Go.RowKit
theorem zfX {s:St} {ob:Nat->Option Ob}:∀ cs:List AV,avles s ob cs cs
 | []=>trivial
 | c :: cs=>⟨zaU s ob c,zfX cs⟩
theorem obX {s:St} {ob:Nat->Option Ob} {cs:List AV} {o:Option Ob} (h:o=some (.box cs)):Oble s ob o (.box cs):=by subst h; exact zfX cs
abbrev U (n:Nat):D:=.int .u64 n
abbrev bD (P:Nat->Bool):List D:=(List.range 38).map fun j=>U (wd P j)
theorem i38 {i:Nat} (h:i<38):i=0 \/ i=1 \/ i=2 \/ i=3 \/ i=4 \/ i=5 \/ i=6 \/ i=7 \/ i=8 \/ i=9 \/ i=10 \/ i=11 \/ i=12 \/ i=13 \/ i=14 \/ i=15 \/ i=16 \/ i=17 \/ i=18 \/ i=19 \/ i=20 \/ i=21 \/ i=22 \/ i=23 \/ i=24 \/ i=25 \/ i=26 \/ i=27 \/ i=28 \/ i=29 \/ i=30 \/ i=31 \/ i=32 \/ i=33 \/ i=34 \/ i=35 \/ i=36 \/ i=37:=by omega
abbrev bV (f:Nat->Nat) (i:Nat) (v:Int):List AV:=(List.range 38).map fun j=>AV.d (.int .u64 (if j=i then v else f j))
theorem zpq {f g:Nat->Nat} {i:Nat} {v:Int} (h1:((g i:Nat):Int)=v) (h2:∀ j,j<38->j≠i->g j=f j):((List.range 38).map fun j=>U (g j)).map AV.d=bV f i v:=by
 rw[List.map_map]
 refine qB fun j hj=>?_
 have hj:=kK.1 hj
 show AV.d (U (g j))=_
 by_cases e:j=i
 ·subst e; rw[kG rfl,<- h1]
 rw[kF e,h2 j hj e]
theorem znf (P:Nat->Bool) (n:Nat) (hn:n<2432):Spec PP 142 [.agg (bD P),N n] [B (P n)]:=by
 have hq:=divN n
 have hv:=znv P n
 have hm:=modN n
 obtain⟨i,hi⟩:∃ i,n / 64=i:=⟨_,rfl⟩
 rw[hi] at hq hv
 have hi2:i<38:=by omega
 refine sA Tryz.func142 ?_
 refine⟨⟨by decide,zaZ (by rw[hq]; omega) (by rw[hq]; omega)⟩,?_⟩
 rw[hq]
 refine⟨⟨by omega,by omega⟩,?_⟩
 rcases i38 hi2 with rfl | rfl | rfl | rfl | rfl | rfl | rfl | rfl | rfl | rfl | rfl | rfl | rfl | rfl | rfl | rfl | rfl | rfl | rfl | rfl | rfl | rfl | rfl | rfl | rfl | rfl | rfl | rfl | rfl | rfl | rfl | rfl | rfl | rfl | rfl | rfl | rfl | rfl <;>
 ·refine⟨by decide,⟨by rw[hm]; omega,?_⟩⟩
  exact r1B rfl hv
section
variable {s:St} {o:Oper} {fo:Operand} {f:FuncId} {K:St->Prop} {E:Env}
structure BoxArgsP (s:St) (fo:Operand) (args:List Operand) (f:FuncId) (i:Nat) (post:List V1):Prop where
  out:∃ a0 a2 ex,args=a0 :: a2/\callee (ev s fo)=some (f,ex)/\(ev s a0).asPtr = .box i 0/\toV1s s (a2.map (ev s)++ex)=some post/\(a2.map (ev s)++ex).all (fun v=>!v.isOwn)=true
theorem CallSt.bxP (hdr:E.dr=false) {args:Array Operand} {at':Array TypeId} (hop:o.op = .call { callee:=.value fo,args,argTypes:=at' }) {post res:List V1} {i:Nat} {cs cs':List D} (h:SpecSx PP f post cs cs' res)
  (ha:BoxArgsP s fo args.toList f i post) (hi:s.ob i=some (.box (cs.map AV.d))) (hk:K ((s.setOb i (some (.box (cs'.map AV.d)))).putO o.dst (resAV res))):CallSt E PP s o fo args.toList K:=by
 rw[zae]
 refine .inr (.inr (.inl ⟨_,⟨fun cx a w hD hd hR=>?_⟩,hk⟩))
 obtain⟨γ,hg⟩:=hR
 obtain⟨a0,a2,ex,h1,h2,h3,h4,h6⟩:=ha.out
 obtain⟨caps,hf,hc⟩:=zaS h2 (ev_m hg fo).1
 have h0:=ze4 (ev_m hg a0).1
 rw[h3] at h0
 obtain⟨b,e1,e2⟩:=h0
 have m2:=(zbg hg h4 ((zbr hg a2).append hc)).2 h6
 obtain⟨b',vs,T,o1,o0,o2,o3⟩:=hg.objs i _ hi
 rw[e1] at o1
 obtain rfl:b=b':=by simpa using o1
 have hrep:All2 (Rep w (okOf cx s γ w)) cs vs:=by
  have:allD (cs.map AV.d)=some cs:=by
   have:∀ cs:List D,allD (cs.map AV.d)=some cs:=fun cs=>by
    induction cs with
    | nil=>rfl
    | cons x r ih=>simp only[kT,allD,avD,ih]
   exact this cs
  exact zdH this o3
 refine .enter (zaw hop hf h.1) ?_
 rw[h1]
 simp only[kT,List.cons_append,e2]
 refine (h.2 w _ _ b vs T (fun b hb=>zai hg hb) m2 o2 hrep (fun hb=>zbV hg hb hi (by rw[e1]; rfl))).mono fun en w' ⟨r,he,hgr,hres,ys,T2,y1,y2⟩=>⟨r,he,γ,?_⟩
 refine (hg.change (i:=i) (o':=.box (cs'.map AV.d)) hi (by rw[e1]; exact hgr) (fun e=>by have:=hD e; rw[hdr] at this; cases this) (fun ok hok=>⟨b,ys,T2,e1,o0,y1,zgK (fun b hb=>hb.elim) y2⟩) (fun cs2 e c hc j hj=>?_)).putO hd (zaO (.inl fun b hb=>hb.elim) hres) (fun j hj=>by rw[zav] at hj; cases hj)
 cases e
 obtain⟨x,_,rfl⟩:=kJ.1 hc
 cases hj
end
theorem bX_eq {f g:Nat->Nat} {i:Nat} {v:Int} (h1:((g i:Nat):Int)=v) (h2:∀ j,j<38->j≠i->g j=f j):((List.range 38).map fun j=>U (g j))=(List.range 38).map fun j=>D.int .u64 (if j=i then v else f j):=by
 refine qB fun j hj=>?_
 have hj:=kK.1 hj
 by_cases e:j=i
 ·subst e; rw[kG rfl,<- h1]
 rw[kF e,h2 j hj e]
theorem znV (P:Nat->Bool):(bD P).all D.flat=true:=by
 rw[jC]
 intro x hx
 obtain⟨j,_,rfl⟩:=kJ.1 hx
 rfl
theorem l_put (P:Nat->Bool) (n:Nat) (hn:n<2432):SpecSx PP 214 [N n] (bD P) (bD (addP P n)) []:=by
 have hq:=divN n
 have hv:=zmT P n
 have ho:=ziL P n
 have hm:=modN n
 obtain⟨i,hi⟩:∃ i,n / 64=i:=⟨_,rfl⟩
 rw[hi] at hq hv ho
 have hi2:i<38:=by omega
 have fl:=znV (addP P n)
 have e:bD (addP P n)=(List.range 38).map fun j=>D.int .u64 (if j=i then _ else wd P j):=bX_eq (f:=wd P) (g:=wd (addP P n)) (i:=i) hv.symm fun j _ hj=>ho j hj
 rw[e] at fl ⊢
 refine zky Tryz.func214 rfl (by kernel_rfl) fl rfl rfl fun b=>?_
 refine oN 13 ?_
 refine⟨⟨by decide,zaZ (by rw[hq]; omega) (by rw[hq]; omega)⟩,?_⟩
 rw[hq]
 refine⟨⟨by omega,by omega⟩,?_⟩
 rcases i38 hi2 with rfl | rfl | rfl | rfl | rfl | rfl | rfl | rfl | rfl | rfl | rfl | rfl | rfl | rfl | rfl | rfl | rfl | rfl | rfl | rfl | rfl | rfl | rfl | rfl | rfl | rfl | rfl | rfl | rfl | rfl | rfl | rfl | rfl | rfl | rfl | rfl | rfl | rfl <;>
 ·refine⟨by decide,⟨by rw[hm]; omega,⟨⟨by decide,by decide⟩,?_⟩⟩⟩
  exact⟨trivial,rfl,_,rfl,_,rfl,zab _⟩
def vecP (d:Int):Place:=
 if 3150<=d then ⟨450,d - 3600⟩ else if 2250<=d then ⟨d - 2700,-450⟩ else if 1350<=d then ⟨-450,1800 - d⟩ else if 450<=d then ⟨900 - d,450⟩ else ⟨450,d⟩
def Sg (c m d:Int):Prop:=(0<=m/\m<3600 * d)/\(0<c ↔ 0<m/\m<1800 * d)/\(c<0 ↔ 1800 * d<m)
theorem zmJ {s x y:Int} (hs:0<=s/\s<3600) (hx:0<x) (hy:-x<=y/\y<=x):∃ j:Int,Sg ((vecP s).X * y - (vecP s).Y * x) (450 * y - s * x+3600 * x * j) x:=by
 unfold Sg vecP
 by_cases h4:3150<=s
 ·rw[kG h4]
  have a:=qZ (show 0<=s - 3150 by omega) (jav hx)
  have b:=jba (show 0<3600 - s by omega) hx
  rw[jaR] at a b
  have e:(450:Int) * y - (s - 3600) * x=450 * y - s * x+3600 * x:=by rw[jaR]; omega
  by_cases z:0<=450 * y - s * x+3600 * x
  ·exact⟨1,(show (0<=450 * y - s * x+3600 * x * 1/\_)/\(0<450 * y - (s - 3600) * x ↔ _)/\(450 * y - (s - 3600) * x<0 ↔ _) by rw[e]; omega)⟩
  exact⟨2,(show (0<=450 * y - s * x+3600 * x * 2/\_)/\(0<450 * y - (s - 3600) * x ↔ _)/\(450 * y - (s - 3600) * x<0 ↔ _) by rw[e]; omega)⟩
 rw[kF h4]
 by_cases h3:2250<=s
 ·rw[kG h3]
  have a:=qZ (show 0<=s - 2250 by omega) (jav hx)
  have b:=jba (show 0<3150 - s by omega) hx
  rw[jaR] at a b
  refine⟨1,(show (0<=450 * y - s * x+3600 * x * 1/\450 * y - s * x+3600 * x * 1<3600 * x)/\(0<(s - 2700) * y - -450 * x ↔ 0<450 * y - s * x+3600 * x * 1/\450 * y - s * x+3600 * x * 1<1800 * x)/\((s - 2700) * y - -450 * x<0 ↔ 1800 * x<450 * y - s * x+3600 * x * 1) from ?_)⟩
  have e1:(s - 2700) * y - -450 * x=450 * (x+y)+(3150 - s) * (-y):=by grind
  have e2:(s - 2700) * y - -450 * x=450 * (x - y)+(s - 2250) * y:=by grind
  have k3:450 * y - s * x+3600 * x * 1=1800 * x->(s - 2700) * y - -450 * x=0:=fun h=>by
   have yx:y=x:=by omega
   subst yx
   rw[jaR]; omega
  have k:0<=(s - 2700) * y - -450 * x/\((s - 2700) * y - -450 * x=0->450 * y - s * x+3600 * x * 1=0 \/ 450 * y - s * x+3600 * x * 1=1800 * x):=by
   rcases Int.lt_or_le y 0 with g | g
   ·have:=jba (show 0<3150 - s by omega) (show 0 < -y by omega)
    exact⟨by omega,fun h=>by omega⟩
   have:=qZ (show 0<=s - 2250 by omega) g
   refine⟨by omega,fun h=>?_⟩
   have z:(s - 2250) * y=0:=by omega
   have yx:y=x:=by omega
   rcases Int.mul_eq_zero.1 z with q | q
   ·have:s=2250:=by omega
    subst this; right; omega
   omega
  obtain⟨k1,k2⟩:=k
  generalize (s - 2700) * y - -450 * x=c at *
  omega
 rw[kF h3]
 by_cases h2:1350<=s
 ·rw[kG h2]
  have a:=qZ (show 0<=s - 1350 by omega) (jav hx)
  have b:=jba (show 0<2250 - s by omega) hx
  rw[jaR] at a b
  have e:-450 * y - (1800 - s) * x = -(450 * y - s * x+1800 * x):=by rw[jaR]; omega
  exact⟨1,(show (0<=450 * y - s * x+3600 * x * 1/\_)/\(0 < -450 * y - (1800 - s) * x ↔ _)/\(-450 * y - (1800 - s) * x<0 ↔ _) by rw[e]; omega)⟩
 rw[kF h2]
 by_cases h1:450<=s
 ·rw[kG h1]
  have a:=qZ (show 0<=s - 450 by omega) (jav hx)
  have b:=jba (show 0<1350 - s by omega) hx
  rw[jaR] at a b
  have e1:(900 - s) * y - 450 * x = -(450 * (x+y)+(1350 - s) * (-y)):=by grind
  have e2:(900 - s) * y - 450 * x = -(450 * (x - y)+(s - 450) * y):=by grind
  have k:(900 - s) * y - 450 * x<=0/\((900 - s) * y - 450 * x=0->450 * y - s * x=0)/\(450 * y - s * x=0->(900 - s) * y - 450 * x=0):=by
   rcases Int.lt_or_le y 0 with g | g
   ·have:=jba (show 0<1350 - s by omega) (show 0 < -y by omega)
    exact⟨by omega,fun h=>by omega,fun h=>by omega⟩
   have:=qZ (show 0<=s - 450 by omega) g
   refine⟨by omega,fun h=>?_,fun h=>?_⟩
   ·have z:(s - 450) * y=0:=by omega
    have yx:y=x:=by omega
    rcases Int.mul_eq_zero.1 z with q | q
    ·have:s=450:=by omega
     subst this; omega
    omega
   have yx:y=x:=by omega
   subst yx
   have:(s - 450) * y=0:=by rw[jaR]; omega
   omega
  obtain⟨k1,k2,k3⟩:=k
  by_cases z:450 * y - s * x=0
  ·exact⟨0,(show (0<=450 * y - s * x+3600 * x * 0/\_)/\(0<(900 - s) * y - 450 * x ↔ _)/\((900 - s) * y - 450 * x<0 ↔ _) by have:=k3 z; omega)⟩
  refine⟨1,(show (0<=450 * y - s * x+3600 * x * 1/\_)/\(0<(900 - s) * y - 450 * x ↔ _)/\((900 - s) * y - 450 * x<0 ↔ _) from ?_)⟩
  have:(900 - s) * y - 450 * x≠0:=fun h=>z (k2 h)
  generalize (900 - s) * y - 450 * x=c at *
  omega
 rw[kF h1]
 have a:=qZ hs.1 (jav hx)
 have b:=jba (show 0<450 - s by omega) hx
 rw[jaR] at b
 by_cases z:0<=450 * y - s * x
 ·exact⟨0,(show (0<=450 * y - s * x+3600 * x * 0/\_)/\(0<450 * y - s * x ↔ _)/\(450 * y - s * x<0 ↔ _) by omega)⟩
 exact⟨1,(show (0<=450 * y - s * x+3600 * x * 1/\_)/\(0<450 * y - s * x ↔ _)/\(450 * y - s * x<0 ↔ _) by omega)⟩
theorem zmu {s:Int} (hs:0<=s/\s<3600):∃ t:Int,(0<=t/\t<3600)/\(s=t+900 \/ s=t - 2700)/\(vecP s).X = -(vecP t).Y/\(vecP s).Y=(vecP t).X:=by
 by_cases h:900<=s
 ·refine⟨s - 900,by omega,.inl (by omega),?_⟩
  unfold vecP
  repeat' split
  all_goals first | (exfalso; omega) | (constructor <;> first | rfl | (dsimp only; omega))
 refine⟨s+2700,by omega,.inr (by omega),?_⟩
 unfold vecP
 repeat' split
 all_goals first | (exfalso; omega) | (constructor <;> first | rfl | (dsimp only; omega))
def Side (x y n d:Int):Prop:=∀ s:Int,0<=s->s<3600 -> ∃ j:Int,Sg ((vecP s).X * y - (vecP s).Y * x) (n - s * d+3600 * d * j) d
theorem zev {x y n d:Int} (h:Side x y n d):Side (-y) x (n+900 * d) d:=fun s h1 h2=>by
 obtain⟨t,ht,hst,eX,eY⟩:=zmu ⟨h1,h2⟩
 obtain⟨j,hj⟩:=h t ht.1 ht.2
 have ec:(vecP s).X * x - (vecP s).Y * -y=(vecP t).X * y - (vecP t).Y * x:=by rw[eX,eY]; grind
 rw[ec]
 rcases hst with e | e
 ·refine⟨j,?_⟩
  have:n+900 * d - s * d+3600 * d * j=n - t * d+3600 * d * j:=by rw[e]; grind
  rw[this]; exact hj
 refine⟨j - 1,?_⟩
 have:n+900 * d - s * d+3600 * d * (j - 1)=n - t * d+3600 * d * j:=by rw[e]; grind
 rw[this]; exact hj
theorem zfj {x y:Int} (hx:0<x) (hy:-x<=y/\y<=x):Side x y (450 * y) x:=fun s h1 h2=>zmJ ⟨h1,h2⟩ hx hy
theorem zdV {x y:Int} (hy:0<y) (hx:-y<=x/\x<=y):Side x y (900 * y - 450 * x) y:=by
 have:=zev (zfj (x:=y) (y:=-x) hy (by omega))
 rw[Int.neg_neg] at this
 rwa [show 450 * -x+900 * y=900 * y - 450 * x by omega] at this
theorem zfi {x y:Int} (hx:x<0) (hy:x<=y/\y <= -x):Side x y (1800 * -x - 450 * y) (-x):=by
 have:=zev (zdV (x:=y) (y:=-x) (by omega) (by omega))
 rw[Int.neg_neg] at this
 rwa [show 900 * -x - 450 * y+900 * -x=1800 * -x - 450 * y by omega] at this
theorem zhL {x y:Int} (hy:y<0) (hx:y<=x/\x <= -y):Side x y (2700 * -y+450 * x) (-y):=by
 have:=zev (zfi (x:=y) (y:=-x) hy (by omega))
 rw[Int.neg_neg] at this
 rwa [show 1800 * -y - 450 * -x+900 * -y=2700 * -y+450 * x by omega] at this
theorem zaT (n lo hi:Int):Spec PP 225 [N n,N lo,N hi] [B (within n lo hi)]:=by
 refine sA Tryz.func225 ?_
 repeat' first
  | refine sT ?_
  | refine sF ?_
  | refine bY (fun _=>?_) (fun _=>?_)
  | refine r1B rfl ?_
 all_goals (unfold within; simp_all <;> omega)
theorem zbU (d:Int):Spec PP 228 [N d] [B (within d 0 3599)]:=by
 refine sA Tryz.func228 ?_
 refine cP (zaT d 0 3599) rfl rfl ?_
 exact r1B rfl rfl
theorem zcq (n p:Int) (hp:0<p/\p<=1000000) (hn:-1000000000000<=n/\n<=1000000000000):Spec PP 262 [N n,N p] [N (n % (3600 * p))]:=by
 have h1:=jaH n (show 0<3600 * p by omega)
 have h2:=jaH (-n) (show 0<3600 * p by omega)
 rw[Int.neg_tmod] at h2
 refine sA Tryz.func262 ?_
 refine⟨i6,?_⟩
 refine⟨by omega,⟨i6,⟨by omega,?_⟩⟩⟩
 refine r1I rfl ?_
 rw[jaq (by omega),Int.add_emod_right]
 rw[Int.tmod_def,jbb]
structure Wdg where
  F:Int
  T:Int
  deriving DecidableEq,Inhabited
abbrev Wdg.v (w:Wdg):V1:=.agg [I w.F,I w.T]
@[irreducible] def openW (w:Wdg):Int:=if within w.F 0 3599=true/\within w.T 0 3599=true then (w.T - w.F) % 3600 else -1
theorem zfS (w:Wdg):Spec PP 272 [w.v] [N (openW w)]:=by
 refine sA Tryz.func272 ?_
 refine cP (zbU w.F) rfl rfl ?_
 apply bY <;> intro h1
 ·have h1:within w.F 0 3599=false:=by simpa using h1
  repeat first | apply sT | apply sF
  refine r1I rfl ?_
  unfold openW; rw[kF fun h=>by rw[h.1] at h1; cases h1]
 have h1:within w.F 0 3599=true:=by simpa using h1
 repeat first | apply sT | apply sF
 refine cP (zbU w.T) rfl rfl ?_
 repeat first | apply sT | apply sF
 apply bY <;> intro h2
 ·have h2:within w.T 0 3599=false:=by simpa using h2
  repeat first | apply sT | apply sF
  refine r1I rfl ?_
  unfold openW; rw[kF fun h=>by rw[h.2] at h2; cases h2]
 have h2:within w.T 0 3599=true:=by simpa using h2
 have b1:=zaa.1 h1
 have b2:=zaa.1 h2
 repeat first | apply sT | apply sF
 refine⟨i6,?_⟩
 refine cP (zcq (w.T - w.F) 1 (by omega) (by omega)) rfl rfl ?_
 refine r1I rfl ?_
 unfold openW; rw[kG ⟨h1,h2⟩]; rfl
@[irreducible] def validW (w:Wdg):Bool:=within (openW w) 0 900
theorem znP (w:Wdg):Spec PP 270 [w.v] [B (validW w)]:=by
 refine sA Tryz.func270 ?_
 refine cP (zfS w) rfl rfl ?_
 refine cP (zaT (openW w) 0 900) rfl rfl ?_
 refine r1B rfl ?_
 unfold validW; rfl
theorem c_on (l:List Place) (hn:l.length<=1000000):Spec PP 226 [slP l] [B (l.all on)]:=by
 refine sA Tryz.func226 ?_
 refine LoopOb.of (σ:=Nat) (fun i=>([(5,avOf (slP l)),(6,.d (I l.length)),(7,.d (I i))],[])) (fun i=>i<=l.length/\(l.take i).all on=true) (fun i=>l.length - i) 0 ⟨rfl,trivial,wq rfl⟩ ⟨jF _,rfl⟩ fun i hi=>?_
 obtain⟨hi,ha⟩:=hi
 apply bY <;> intro h1
 ·have h1:i<l.length:=by have:=dT h1; omega
  have hx:(l.getD i default)∈l:=gd1 h1 default
  refine⟨⟨rfl,by omega,by omega⟩,?_⟩
  refine cP (zaT (l.getD i default).X 0 48) rfl rfl ?_
  apply bY <;> intro h2
  ·have h2:within (l.getD i default).X 0 48=false:=by simpa using h2
   refine sT ?_
   refine sT ?_
   refine r1B rfl ?_
   have h3:on (l.getD i default)=false:=by unfold on; rw[h2]; rfl
   exact (List.all_eq_false.2 ⟨_,hx,by rw[h3]; decide⟩).symm
  have h2:within (l.getD i default).X 0 48=true:=by simpa using h2
  refine cP (zaT (l.getD i default).Y 0 48) rfl rfl ?_
  refine sF ?_
  apply bY <;> intro h3
  ·have h3:within (l.getD i default).Y 0 48=false:=by simpa using h3
   refine r1B rfl ?_
   have h3:on (l.getD i default)=false:=by unfold on; rw[h2,h3]; rfl
   exact (List.all_eq_false.2 ⟨_,hx,by rw[h3]; decide⟩).symm
  have h3:within (l.getD i default).Y 0 48=true:=by simpa using h3
  have h4:on (l.getD i default)=true:=by unfold on; rw[h2,h3]; rfl
  refine⟨i6,?_⟩
  refine⟨i+1,⟨rfl,trivial,wq rfl⟩,⟨h1,?_⟩,(msr (by omega))⟩
  rw[zaM h1 default,List.all_append,ha]; simp only[ja7,h4]; rfl
 have h1:i=l.length:=by have:=dF h1; omega
 refine r1B rfl ?_
 rw[h1,jZ] at ha
 exact ha.symm
def bearP (x y:Int):Int × Int:=
 if 0<x/\max y (-y)<=x then (450 * y,x) else if 0<y/\max x (-x)<=y then (900 * y - 450 * x,y) else if x<0/\max y (-y) <= -x then (1800 * -x - 450 * y,-x) else (2700 * -y+450 * x,-y)
theorem zfW {x y:Int} (h:x≠0 \/ y≠0):Side x y (bearP x y).1 (bearP x y).2/\0<(bearP x y).2:=by
 unfold bearP
 by_cases h1:0<x/\max y (-y)<=x
 ·rw[kG h1]; exact⟨zfj h1.1 (by omega),h1.1⟩
 rw[kF h1]
 by_cases h2:0<y/\max x (-x)<=y
 ·rw[kG h2]; exact⟨zdV h2.1 (by omega),h2.1⟩
 rw[kF h2]
 by_cases h3:x<0/\max y (-y) <= -x
 ·rw[kG h3]; exact⟨zfi h3.1 (by omega),(show 0 < -x by omega)⟩
 rw[kF h3]
 have hy:y<0:=by omega
 exact⟨zhL hy (by omega),(show 0 < -y by omega)⟩
theorem zkh {x y:Int} (hx:-48<=x/\x<=48) (hy:-48<=y/\y<=48):(-1000000<=(bearP x y).1/\(bearP x y).1<=1000000)/\(bearP x y).2<=48:=by
 unfold bearP
 repeat' split
 all_goals (dsimp only; omega)
def bear (a b:Place):Int × Int:=((bearP (b.X - a.X) (b.Y - a.Y)).1 % (3600 * (bearP (b.X - a.X) (b.Y - a.Y)).2),(bearP (b.X - a.X) (b.Y - a.Y)).2)
theorem zb1 {p:Place}:on p=true ↔ (0<=p.X/\p.X<=48)/\(0<=p.Y/\p.Y<=48):=by
 unfold on; rw[jP,zaa,zaa]
theorem zg6 {a b:Place} (h:a≠b):b.X - a.X≠0 \/ b.Y - a.Y≠0:=by
 rcases a with⟨ax,ay⟩; rcases b with⟨bx,by'⟩
 by_cases h1:bx - ax=0
 ·refine .inr fun h2=>h ?_
  dsimp only at h1 h2
  rw[Place.mk.injEq]; omega
 exact .inl h1
theorem zfR (a b:Place) (ha:on a=true) (hb:on b=true) (hne:a≠b):Spec PP 271 [a.v,b.v] [N (bear a b).1,N (bear a b).2]:=by
 obtain⟨a1,a2⟩:=zb1.1 ha
 obtain⟨b1,b2⟩:=zb1.1 hb
 have hs:=zfW (zg6 hne)
 have hbd:=zkh (x:=b.X - a.X) (y:=b.Y - a.Y) (by omega) (by omega)
 refine sA Tryz.func271 ?_
 refine oN 12 ?_
 refine⟨i6,⟨i6,?_⟩⟩
 unfold bear
 have hx:-48<=b.X - a.X/\b.X - a.X<=48:=by omega
 have hy:-48<=b.Y - a.Y/\b.Y - a.Y<=48:=by omega
 generalize b.X - a.X=x at *
 generalize b.Y - a.Y=y at *
 have fin:∀ {n d:Int},bearP x y=(n,d)->Spec PP 262 [N n,N d] [N ((bearP x y).1 % (3600 * (bearP x y).2))]:=fun e=>by
  rw[e] at hs hbd ⊢
  exact zcq _ _ (by have:=hs.2; have:=hbd.2; dsimp only at *; omega) (by have:=hbd.1; dsimp only at *; omega)
 apply bY <;> intro h1
 ·have h1:0<x:=dT h1
  refine⟨i6,?_⟩
  refine sT ?_
  apply bY <;> intro h2
  ·have h2:max y (-y)<=x:=dT h2
   have e:bearP x y=(450 * y,x):=by unfold bearP; rw[kG ⟨h1,h2⟩]
   refine⟨i6,?_⟩
   refine cP (fin e) rfl rfl ?_
   exact r2II rfl rfl rfl (by rw[e])
  have h2:¬ max y (-y)<=x:=dF h2
  apply bY <;> intro h3
  ·have h3:0<y:=dT h3
   refine⟨i6,?_⟩
   refine sT ?_
   apply bY <;> intro h4
   ·have h4:max x (-x)<=y:=dT h4
    have e:bearP x y=(900 * y - 450 * x,y):=by unfold bearP; rw[kF (fun h=>h2 h.2),kG ⟨h3,h4⟩]
    refine⟨zaZ (by decide) (by decide),⟨i6,⟨i6,⟨i6,?_⟩⟩⟩⟩
    refine cP (fin e) rfl rfl ?_
    exact r2II rfl rfl rfl (by rw[e])
   have h4:¬ max x (-x)<=y:=dF h4
   omega
  have h3:¬ 0<y:=dF h3
  refine sF ?_
  refine sF ?_
  refine Split.no (jH (by omega)) ?_
  refine sF ?_
  refine sF ?_
  have e:bearP x y=(2700 * -y+450 * x,-y):=by unfold bearP; rw[kF (fun h=>h2 h.2),kF (fun h=>h3 h.1),kF (by omega)]
  refine⟨zaZ (by decide) (by decide),⟨i6,⟨i6,⟨i6,⟨i6,⟨i6,?_⟩⟩⟩⟩⟩⟩
  refine cP (fin e) rfl rfl ?_
  exact r2II rfl rfl rfl (by rw[e])
 have h1:¬ 0<x:=dF h1
 refine sF ?_
 refine sF ?_
 apply bY <;> intro h3
 ·have h3:0<y:=dT h3
  refine⟨i6,?_⟩
  refine sT ?_
  apply bY <;> intro h4
  ·have h4:max x (-x)<=y:=dT h4
   have e:bearP x y=(900 * y - 450 * x,y):=by unfold bearP; rw[kF (fun h=>h1 h.1),kG ⟨h3,h4⟩]
   refine⟨zaZ (by decide) (by decide),⟨i6,⟨i6,⟨i6,?_⟩⟩⟩⟩
   refine cP (fin e) rfl rfl ?_
   exact r2II rfl rfl rfl (by rw[e])
  have h4:¬ max x (-x)<=y:=dF h4
  apply bY <;> intro h5
  ·have h5:x<0:=dT h5
   refine⟨i6,⟨i6,?_⟩⟩
   refine sT ?_
   apply bY <;> intro h6
   ·have h6:max y (-y) <= -x:=dT h6
    have e:bearP x y=(1800 * -x - 450 * y,-x):=by unfold bearP; rw[kF (fun h=>h1 h.1),kF (fun h=>h4 h.2),kG ⟨h5,h6⟩]
    refine⟨zaZ (by decide) (by decide),⟨i6,⟨i6,⟨i6,⟨i6,⟨i6,?_⟩⟩⟩⟩⟩⟩
    refine cP (fin e) rfl rfl ?_
    exact r2II rfl rfl rfl (by rw[e])
   have h6:¬ max y (-y) <= -x:=dF h6
   omega
  have h5:¬ x<0:=dF h5
  omega
 have h3:¬ 0<y:=dF h3
 refine sF ?_
 refine sF ?_
 apply bY <;> intro h5
 ·have h5:x<0:=dT h5
  refine⟨i6,⟨i6,?_⟩⟩
  refine sT ?_
  apply bY <;> intro h6
  ·have h6:max y (-y) <= -x:=dT h6
   have e:bearP x y=(1800 * -x - 450 * y,-x):=by unfold bearP; rw[kF (fun h=>h1 h.1),kF (fun h=>h3 h.1),kG ⟨h5,h6⟩]
   refine⟨zaZ (by decide) (by decide),⟨i6,⟨i6,⟨i6,⟨i6,⟨i6,?_⟩⟩⟩⟩⟩⟩
   refine cP (fin e) rfl rfl ?_
   exact r2II rfl rfl rfl (by rw[e])
  have h6:¬ max y (-y) <= -x:=dF h6
  have e:bearP x y=(2700 * -y+450 * x,-y):=by unfold bearP; rw[kF (fun h=>h1 h.1),kF (fun h=>h3 h.1),kF (fun h=>h6 h.2)]
  refine⟨zaZ (by decide) (by decide),⟨i6,⟨i6,⟨i6,⟨i6,⟨i6,?_⟩⟩⟩⟩⟩⟩
  refine cP (fin e) rfl rfl ?_
  exact r2II rfl rfl rfl (by rw[e])
 have h5:¬ x<0:=dF h5
 refine sF ?_
 refine sF ?_
 have e:bearP x y=(2700 * -y+450 * x,-y):=by unfold bearP; rw[kF (fun h=>h1 h.1),kF (fun h=>h3 h.1),kF (fun h=>h5 h.1)]
 refine⟨zaZ (by decide) (by decide),⟨i6,⟨i6,⟨i6,⟨i6,⟨i6,?_⟩⟩⟩⟩⟩⟩
 refine cP (fin e) rfl rfl ?_
 exact r2II rfl rfl rfl (by rw[e])
@[irreducible] def liesW (w:Wdg) (a p:Place):Bool:=validW w && (on a && on p) && !decide (a=p) && decide (((bear a p).1 - w.F * (bear a p).2) % (3600 * (bear a p).2)<=openW w * (bear a p).2)
theorem zlz {f:Nat->Nat->D} {a b:Place} (h0:∀ j,j<2->D.eqv (f 0 j) (a.at j)) (h1:∀ j,j<2->D.eqv (f 1 j) (b.at j)):eqV1s [.d (.slc 2 2 f)] [slP [a,b]]:=by
 refine⟨⟨rfl,.inr ⟨rfl,fun i hi j hj=>?_⟩⟩,trivial⟩
 match i,hi with
 | 0,_=>exact h0 j hj
 | 1,_=>exact h1 j hj
theorem zhs {f:Nat->Nat->D} {a:Place} (h0:∀ j,j<2->D.eqv (f 0 j) (a.at j)):eqV1s [.d (.slc 2 1 f)] [slP [a]]:=by
 refine⟨⟨rfl,.inr ⟨rfl,fun i hi j hj=>?_⟩⟩,trivial⟩
 match i,hi with
 | 0,_=>exact h0 j hj
theorem at2 {f:Nat->D} {p:Place} (h0:f 0=I p.X) (h1:f 1=I p.Y):∀ j,j<2->D.eqv (f j) (p.at j)
 | 0,_=>by rw[h0]; exact⟨rfl,rfl⟩
 | 1,_=>by rw[h1]; exact⟨rfl,rfl⟩
theorem eqPW (p q:Place):(p.X==q.X && (p.Y==q.Y && true))=decide (p=q):=by
 rw[kY]
 simp only[jP,jae,and_true,kV]
 cases p; cases q; simp
theorem zhG {w:Wdg} (h:validW w=true):(0<=w.F/\w.F<3600)/\(0<=w.T/\w.T<3600)/\openW w=(w.T - w.F) % 3600/\openW w<=900:=by
 unfold validW at h
 have h1:=zaa.1 h
 unfold openW at h1 ⊢
 split at h1
 ·rename_i h2
  have h3:=zaa.1 h2.1
  have h4:=zaa.1 h2.2
  rw[kG h2]; omega
 omega
theorem zkg {a p:Place} (ha:on a=true) (hp:on p=true) (hne:a≠p):(0<(bear a p).2/\(bear a p).2<=48)/\0<=(bear a p).1/\(bear a p).1<3600 * (bear a p).2:=by
 obtain⟨a1,a2⟩:=zb1.1 ha
 obtain⟨b1,b2⟩:=zb1.1 hp
 have hs:=zfW (zg6 hne)
 have hbd:=zkh (x:=p.X - a.X) (y:=p.Y - a.Y) (by omega) (by omega)
 unfold bear
 have:=Int.emod_nonneg (bearP (p.X - a.X) (p.Y - a.Y)).1 (show 3600 * (bearP (p.X - a.X) (p.Y - a.Y)).2≠0 by omega)
 have:=Int.emod_lt_of_pos (bearP (p.X - a.X) (p.Y - a.Y)).1 (show 0<3600 * (bearP (p.X - a.X) (p.Y - a.Y)).2 by omega)
 dsimp only
 omega
theorem zmo (w:Wdg) (a p:Place):Spec PP 256 [w.v,a.v,p.v] [B (liesW w a p)]:=by
 refine sA Tryz.func256 ?_
 have e:liesW w a p=(validW w && (on a && on p) && !decide (a=p) && decide (((bear a p).1 - w.F * (bear a p).2) % (3600 * (bear a p).2)<=openW w * (bear a p).2)):=by unfold liesW; rfl
 refine cP (znP w) rfl rfl ?_
 apply bY <;> intro h1
 ·have h1:validW w=false:=by simpa using h1
  refine sT ?_
  refine sT ?_
  refine sT ?_
  refine sT ?_
  refine r1B rfl ?_
  rw[e,h1]; rfl
 have h1:validW w=true:=by simpa using h1
 refine pEq (c_on [a,p] (jD rfl)) rfl (zlz (at2 rfl rfl) (at2 rfl rfl)) rfl ?_
 refine sF ?_
 apply bY <;> intro h2
 ·have h2:(on a && on p)=false:=by simp only[ja7,List.all_nil,jaj,jY] at h2; exact h2
  refine sT ?_
  refine sT ?_
  refine r1B rfl ?_
  rw[e,h2,h1]; rfl
 have h2:on a=true/\on p=true:=by simpa using h2
 refine sF ?_
 apply bY <;> intro h3
 ·have h3:a=p:=kO ((eqPW a p).symm.trans h3)
  refine r1B rfl ?_
  rw[e,jG h3]; simp
 have h3:a≠p:=of_decide_eq_false ((eqPW a p).symm.trans h3)
 have hb:=zkg h2.1 h2.2 h3
 obtain⟨v1,v2,v3,v4⟩:=zhG h1
 have g1:=mulB (a:=w.F) (b:=(bear a p).2) (x:=3600) (y:=48) (by omega) (by omega)
 have g2:=mulB (a:=openW w) (b:=(bear a p).2) (x:=3600) (y:=48) (by omega) (by omega)
 refine cP (zfR a p h2.1 h2.2 h3) rfl rfl ?_
 refine oN 14 ?_
 refine⟨i6,⟨i6,?_⟩⟩
 refine oP (zcq ((bear a p).1 - w.F * (bear a p).2) (bear a p).2 (by omega) (by omega)) rfl rfl ?_
 refine oP (zfS w) rfl rfl ?_
 refine⟨i6,?_⟩
 refine r1B rfl ?_
 rw[e,h1,h2.1,h2.2,jH h3]; rfl
def err1 (f:Nat->Int):Nat->Int
 | 0=>0
 | n+1=>if err1 f n≠0 then err1 f n else f n
theorem zbh {f:Nat->Int}:∀ {n:Nat},(∀ j,j<n->f j=0)->err1 f n=0
 | 0,_=>rfl
 | n+1,h=>by
  have h1:=zbh (f:=f) (n:=n) fun j hj=>h j (by omega)
  simp only[err1,h1]
  simpa using h n (by omega)
theorem zaH {f:Nat->Int} {i:Nat} (h:∀ j,j<i->f j=0) (h1:f i≠0):∀ {n:Nat},i<n->err1 f n=f i
 | 0,hi=>absurd hi (qD _)
 | n+1,hi=>by
  by_cases e:i=n
  ·subst e
   simp only[err1,zbh h]; simp
  have h2:=zaH h h1 (n:=n) (by omega)
  simp only[err1,h2]; rw[kG h1]
theorem zbb {f:Nat->Int}:∀ {n:Nat},err1 f n=0 -> ∀ j,j<n->f j=0
 | 0,_,j,hj=>absurd hj (qD _)
 | n+1,h,j,hj=>by
  simp only[err1] at h
  by_cases e:err1 f n=0
  ·rw[kF (by simpa using e)] at h
   by_cases ej:j=n
   ·subst ej; exact h
   exact zbb e j (by omega)
  rw[kG e] at h; exact absurd h e
def idxA {α:Type} (p:α->Bool):List α->Nat->Int
 | [],_=>-1
 | x :: r,k=>if p x=true then k else idxA p r (k+1)
def idxL {α:Type} (p:α->Bool) (l:List α):Int:=idxA p l 0
theorem zfA {α:Type} (p:α->Bool):∀ (l:List α) (k i:Nat) (x:α),l[i]?=some x->p x=true->(∀ j y,j<i->l[j]?=some y->p y=false)->idxA p l k=((k+i:Nat):Int)
 | [],k,i,x,h,_,_=>by simp at h
 | y :: r,k,0,x,h,hp,_=>by
  simp only[List.getElem?_cons_zero,jO] at h; subst h
  simp[idxA,hp]
 | y :: r,k,i+1,x,h,hp,hn=>by
  have h0:=hn 0 y (by omega) rfl
  simp only[idxA,h0]
  rw[kF (by decide),zfA p r (k+1) i x (by simpa using h) hp fun j z hj hz=>hn (j+1) z (by omega) (by simpa using hz)]
  congr 1; omega
theorem zfB {α:Type} (p:α->Bool):∀ (l:List α) (k:Nat),(∀ x∈l,p x=false)->idxA p l k = -1
 | [],_,_=>rfl
 | y :: r,k,h=>by
  simp only[idxA,h y (by simp)]
  rw[kF (by decide)]
  exact zfB p r (k+1) fun x hx=>h x (by simp[hx])
theorem gdS {α:Type} {l:List α} {i:Nat} (h:i<l.length) (d:α):l[i]?=some (l.getD i d):=by
 rw[hX,hZ h]; rfl
theorem zas {α:Type} {p:α->Bool} {l:List α} {i:Nat} (d:α) (hi:i<l.length) (hp:p (l.getD i d)=true) (hn:∀ j,j<i->p (l.getD j d)=false):idxL p l=(i:Int):=by
 have:=zfA p l 0 i _ (gdS hi d) hp fun j y hj hy=>by
  have hj':j<l.length:=by omega
  rw[gdS hj' d] at hy; cases hy
  exact hn j hj
 simpa [idxL] using this
theorem zbW {α:Type} {l:List α} {x:α} (d:α) (h:x∈l):∃ j,j<l.length/\x=l.getD j d:=by
 obtain⟨j,hj,rfl⟩:=kM h
 exact⟨j,hj,by rw[hX,hZ hj]; rfl⟩
theorem zaA {α:Type} {p:α->Bool} {l:List α} (d:α) (hn:∀ j,j<l.length->p (l.getD j d)=false):idxL p l = -1:=
 zfB p l 0 fun x hx=>by obtain⟨j,hj,rfl⟩:=zbW d hx; exact hn j hj
theorem idxL_cases {α:Type} (p:α->Bool) (l:List α) (d:α):(idxL p l = -1 /\ ∀ j,j<l.length->p (l.getD j d)=false) \/ ∃ i,i<l.length/\idxL p l=(i:Int)/\p (l.getD i d)=true /\ ∀ j,j<i->p (l.getD j d)=false:=by
 by_cases h:∃ j,j<l.length/\p (l.getD j d)=true
 ·have:∃ i,i<l.length/\p (l.getD i d)=true /\ ∀ j,j<i->p (l.getD j d)=false:=by
   obtain⟨j,hj⟩:=h
   induction j using Nat.strongRecOn with
   | ind j ih=>
   by_cases e:∃ k,k<j/\p (l.getD k d)=true
   ·obtain⟨k,hk,hp⟩:=e
    exact ih k hk ⟨by omega,hp⟩
   exact⟨j,hj.1,hj.2,fun k hk=>by
    cases hp:p (l.getD k d) with
    | false=>rfl
    | true=>exact absurd ⟨k,hk,hp⟩ e⟩
  obtain⟨i,hi,hp,hn⟩:=this
  exact .inr ⟨i,hi,zas d hi hp hn,hp,hn⟩
 have hn:∀ j,j<l.length->p (l.getD j d)=false:=fun j hj=>by
  cases hp:p (l.getD j d) with
  | false=>rfl
  | true=>exact absurd ⟨j,hj,hp⟩ h
 exact .inl ⟨zaA d hn,hn⟩
theorem zpu {α:Type} {p:α->Bool} {l:List α} {i:Nat} (d:α) (hi:i<l.length) (hp:p (l.getD i d)=true):l.any p=true:=kS.2 ⟨_,gd1 hi d,hp⟩
theorem zpt {α:Type} {p:α->Bool} {l:List α} (d:α) (hn:∀ j,j<l.length->p (l.getD j d)=false):l.any p=false:=by
 rw[jan]
 intro x hx
 obtain⟨j,hj,rfl⟩:=zbW d hx
 rw[hn j hj]; decide
theorem zbA {α:Type} (p:α->Bool) (l:List α) (d:α):(0<=idxL p l) ↔ l.any p=true:=by
 rcases idxL_cases p l d with⟨h1,h2⟩ | ⟨i,h1,h2,h3,h4⟩
 ·rw[h1,zpt d h2]; simp
 rw[h2,zpu d h1 h3]; simp
structure Twr where
  ID:Int
  At:Place
  H:Int
  deriving DecidableEq,Inhabited
structure Hz where
  From:Int
  To:Int
  Far:Int
  deriving DecidableEq,Inhabited
structure Mp where
  W:Int
  H:Int
  G:List Int
  deriving Inhabited
structure Ctry where
  M:Mp
  T:List Twr
  Z:List Hz
  deriving Inhabited
def Twr.at (x:Twr):Nat->D
 | 0=>I x.ID
 | 1=>I x.At.X
 | 2=>I x.At.Y
 | _=>I x.H
def Hz.at (x:Hz):Nat->D
 | 0=>I x.From
 | 1=>I x.To
 | _=>I x.Far
abbrev Twr.v (x:Twr):V1:=.agg [I x.ID,I x.At.X,I x.At.Y,I x.H]
abbrev Hz.v (x:Hz):V1:=.agg [I x.From,I x.To,I x.Far]
abbrev lI (l:List Int):D:=.slc 1 l.length fun i _=>I (l.getD i 0)
abbrev lT (l:List Twr):D:=.slc 4 l.length fun i=>(l.getD i default).at
abbrev lZ (l:List Hz):D:=.slc 3 l.length fun i=>(l.getD i default).at
abbrev Mp.ds (m:Mp):List D:=[I m.W,I m.H,lI m.G]
abbrev Mp.v (m:Mp):V1:=.agg [I m.W,I m.H,lI m.G]
abbrev Ctry.v (c:Ctry):V1:=.agg [I c.M.W,I c.M.H,lI c.M.G,lT c.T,lZ c.Z]
structure Cir where
  ID:Int
  At:Place
  From:Int
  To:Int
  Lo:Int
  Hi:Int
  Drift:Int
  deriving DecidableEq,Inhabited
structure Chk where
  ID:Int
  C:Int
  Tick:Int
  Mark:Place
  Shown:Int
  Slack:Int
  deriving DecidableEq,Inhabited
structure Cirs where
  C:List Cir
  K:List Chk
  deriving Inhabited
structure Spn where
  Lo:Int
  Hi:Int
  deriving DecidableEq,Inhabited
structure Rdg where
  C:Int
  Tick:Int
  Shown:Int
  Slack:Int
  deriving DecidableEq,Inhabited
structure Thg where
  k:Chk
  s:Spn
  deriving DecidableEq,Inhabited
def Cir.at (x:Cir):Nat->D
 | 0=>I x.ID
 | 1=>I x.At.X
 | 2=>I x.At.Y
 | 3=>I x.From
 | 4=>I x.To
 | 5=>I x.Lo
 | 6=>I x.Hi
 | _=>I x.Drift
def Chk.at (x:Chk):Nat->D
 | 0=>I x.ID
 | 1=>I x.C
 | 2=>I x.Tick
 | 3=>I x.Mark.X
 | 4=>I x.Mark.Y
 | 5=>I x.Shown
 | _=>I x.Slack
def Thg.at (x:Thg):Nat->D
 | 0=>I x.k.ID
 | 1=>I x.k.C
 | 2=>I x.k.Tick
 | 3=>I x.k.Mark.X
 | 4=>I x.k.Mark.Y
 | 5=>I x.k.Shown
 | 6=>I x.k.Slack
 | 7=>I x.s.Lo
 | _=>I x.s.Hi
abbrev Cir.v (x:Cir):V1:=.agg [I x.ID,I x.At.X,I x.At.Y,I x.From,I x.To,I x.Lo,I x.Hi,I x.Drift]
abbrev Chk.v (x:Chk):V1:=.agg [I x.ID,I x.C,I x.Tick,I x.Mark.X,I x.Mark.Y,I x.Shown,I x.Slack]
abbrev Thg.v (x:Thg):V1:=.agg [I x.k.ID,I x.k.C,I x.k.Tick,I x.k.Mark.X,I x.k.Mark.Y,I x.k.Shown,I x.k.Slack,I x.s.Lo,I x.s.Hi]
abbrev Spn.v (x:Spn):V1:=.agg [I x.Lo,I x.Hi]
abbrev Rdg.v (x:Rdg):V1:=.agg [I x.C,I x.Tick,I x.Shown,I x.Slack]
abbrev lC (l:List Cir):D:=.slc 8 l.length fun i=>(l.getD i default).at
abbrev lK (l:List Chk):D:=.slc 7 l.length fun i=>(l.getD i default).at
abbrev lTh (l:List Thg):D:=.slc 9 l.length fun i=>(l.getD i default).at
abbrev Cirs.v (c:Cirs):V1:=.agg [lC c.C,lK c.K]
structure Svc where
  c:Ctry
  k:Cirs
  deriving Inhabited
structure Rpt where
  ID:Int
  Kind:Int
  Tower:Int
  C:Int
  Tick:Int
  From:Int
  To:Int
  Slack:Int
  deriving DecidableEq,Inhabited
structure Brn where
  From:Int
  To:Int
  Rise:Int
  deriving DecidableEq,Inhabited
structure Rsn where
  At:Place
  R:Int
  deriving DecidableEq,Inhabited
structure Lk where
  Tower:Int
  C:Int
  Tick:Int
  From:Int
  To:Int
  Slack:Int
  deriving DecidableEq,Inhabited
def Rpt.at (x:Rpt):Nat->D
 | 0=>I x.ID
 | 1=>I x.Kind
 | 2=>I x.Tower
 | 3=>I x.C
 | 4=>I x.Tick
 | 5=>I x.From
 | 6=>I x.To
 | _=>I x.Slack
def Rsn.at (x:Rsn):Nat->D
 | 0=>I x.At.X
 | 1=>I x.At.Y
 | _=>I x.R
def Lk.at (x:Lk):Nat->D
 | 0=>I x.Tower
 | 1=>I x.C
 | 2=>I x.Tick
 | 3=>I x.From
 | 4=>I x.To
 | _=>I x.Slack
abbrev Svc.v (s:Svc):V1:=.agg [I s.c.M.W,I s.c.M.H,lI s.c.M.G,lT s.c.T,lZ s.c.Z,lC s.k.C,lK s.k.K]
abbrev Rpt.v (x:Rpt):V1:=.agg [I x.ID,I x.Kind,I x.Tower,I x.C,I x.Tick,I x.From,I x.To,I x.Slack]
abbrev Brn.v (x:Brn):V1:=.agg [I x.From,I x.To,I x.Rise]
abbrev Rsn.v (x:Rsn):V1:=.agg [I x.At.X,I x.At.Y,I x.R]
abbrev Lk.v (x:Lk):V1:=.agg [I x.Tower,I x.C,I x.Tick,I x.From,I x.To,I x.Slack]
abbrev lR (l:List Rpt):D:=.slc 8 l.length fun i=>(l.getD i default).at
abbrev lRs (l:List Rsn):D:=.slc 3 l.length fun i=>(l.getD i default).at
abbrev capB (xs:List D):D:=.ptr xs.length (getD' xs)
abbrev cloB (g:FuncId) (cs:List D):D:=.clo g cs.length (getD' cs)
theorem ziB (l:List Twr) (g:FuncId) (c0:D) (p:Twr->Bool) (hn:l.length<=1000000) (hp:∀ i,i<l.length->Spec PP g [(l.getD i default).v,.d c0] [B (p (l.getD i default))]):Spec PP 170 [.d (lT l),.d (cloB g [c0])] [N (idxL p l)]:=by
 refine sA Tryz.func170 ?_
 refine LoopOb.of (σ:=Nat) (fun i=>([(0,.d (lT l)),(1,.d (cloB g [c0])),(6,.d (lT l)),(7,.d (I l.length)),(8,.d (I i))],[])) (fun i=>i<=l.length /\ ∀ j,j<i->p (l.getD j default)=false) (fun i=>l.length - i) 0
  ⟨rfl,trivial,wq rfl⟩ z0L fun i hi=>?_
 obtain⟨hi,ha⟩:=hi
 apply bY <;> intro h1
 ·have h1:i<l.length:=by have:=dT h1; omega
  refine⟨⟨rfl,by omega,by omega⟩,?_⟩
  refine cP (hp i h1) rfl rfl ?_
  apply bY <;> intro h2
  ·refine r1I rfl ?_
   exact (zas default h1 h2 ha).symm
  refine⟨i6,?_⟩
  refine⟨i+1,⟨rfl,trivial,wq rfl⟩,⟨h1,fun j hj=>?_⟩,(msr (by omega))⟩
  by_cases e:j=i
  ·subst e; exact h2
  exact ha j (by omega)
 have h1:i=l.length:=by have:=dF h1; omega
 subst h1
 refine r1I rfl ?_
 exact (zaA default ha).symm
theorem zlW (l:List Twr) (g:FuncId) (c0:D) (p:Twr->Bool) (hn:l.length<=1000000) (hp:∀ i,i<l.length->Spec PP g [(l.getD i default).v,.d c0] [B (p (l.getD i default))]):Spec PP 108 [.d (lT l),.d (cloB g [c0])] [B (l.any p)]:=by
 refine sA Tryz.func108 ?_
 refine cP (ziB l g c0 p hn hp) rfl rfl ?_
 refine r1B rfl ?_
 rw[kY,kV]
 exact zbA p l default
theorem zlV (l:List Cir) (g:FuncId) (c0:D) (p:Cir->Bool) (hn:l.length<=1000000) (hp:∀ i,i<l.length->Spec PP g [(l.getD i default).v,.d c0] [B (p (l.getD i default))]):Spec PP 173 [.d (lC l),.d (cloB g [c0])] [N (idxL p l)]:=by
 refine sA Tryz.func173 ?_
 refine LoopOb.of (σ:=Nat) (fun i=>([(0,.d (lC l)),(1,.d (cloB g [c0])),(6,.d (lC l)),(7,.d (I l.length)),(8,.d (I i))],[])) (fun i=>i<=l.length /\ ∀ j,j<i->p (l.getD j default)=false) (fun i=>l.length - i) 0
  ⟨rfl,trivial,wq rfl⟩ z0L fun i hi=>?_
 obtain⟨hi,ha⟩:=hi
 apply bY <;> intro h1
 ·have h1:i<l.length:=by have:=dT h1; omega
  refine⟨⟨rfl,by omega,by omega⟩,?_⟩
  refine cP (hp i h1) rfl rfl ?_
  apply bY <;> intro h2
  ·refine r1I rfl ?_
   exact (zas default h1 h2 ha).symm
  refine⟨i6,?_⟩
  refine⟨i+1,⟨rfl,trivial,wq rfl⟩,⟨h1,fun j hj=>?_⟩,(msr (by omega))⟩
  by_cases e:j=i
  ·subst e; exact h2
  exact ha j (by omega)
 have h1:i=l.length:=by have:=dF h1; omega
 subst h1
 refine r1I rfl ?_
 exact (zaA default ha).symm
theorem zon (l:List Chk) (g:FuncId) (c0:D) (p:Chk->Bool) (hn:l.length<=1000000) (hp:∀ i,i<l.length->Spec PP g [(l.getD i default).v,.d c0] [B (p (l.getD i default))]):Spec PP 229 [.d (lK l),.d (cloB g [c0])] [N (idxL p l)]:=by
 refine sA Tryz.func229 ?_
 refine LoopOb.of (σ:=Nat) (fun i=>([(0,.d (lK l)),(1,.d (cloB g [c0])),(6,.d (lK l)),(7,.d (I l.length)),(8,.d (I i))],[])) (fun i=>i<=l.length /\ ∀ j,j<i->p (l.getD j default)=false) (fun i=>l.length - i) 0
  ⟨rfl,trivial,wq rfl⟩ z0L fun i hi=>?_
 obtain⟨hi,ha⟩:=hi
 apply bY <;> intro h1
 ·have h1:i<l.length:=by have:=dT h1; omega
  refine⟨⟨rfl,by omega,by omega⟩,?_⟩
  refine cP (hp i h1) rfl rfl ?_
  apply bY <;> intro h2
  ·refine r1I rfl ?_
   exact (zas default h1 h2 ha).symm
  refine⟨i6,?_⟩
  refine⟨i+1,⟨rfl,trivial,wq rfl⟩,⟨h1,fun j hj=>?_⟩,(msr (by omega))⟩
  by_cases e:j=i
  ·subst e; exact h2
  exact ha j (by omega)
 have h1:i=l.length:=by have:=dF h1; omega
 subst h1
 refine r1I rfl ?_
 exact (zaA default ha).symm
theorem zoo (l:List Int) (g:FuncId) (p:Int->Bool) (hn:l.length<=1000000) (hp:∀ i,i<l.length->Spec PP g [N (l.getD i default)] [B (p (l.getD i default))]):Spec PP 189 [.d (lI l),.d (.fn g)] [N (idxL p l)]:=by
 refine sA Tryz.func189 ?_
 refine LoopOb.of (σ:=Nat) (fun i=>([(0,.d (lI l)),(1,.d (.fn g)),(6,.d (lI l)),(7,.d (I l.length)),(8,.d (I i))],[])) (fun i=>i<=l.length /\ ∀ j,j<i->p (l.getD j default)=false) (fun i=>l.length - i) 0
  ⟨rfl,trivial,wq rfl⟩ z0L fun i hi=>?_
 obtain⟨hi,ha⟩:=hi
 apply bY <;> intro h1
 ·have h1:i<l.length:=by have:=dT h1; omega
  refine⟨⟨rfl,by omega,by omega⟩,?_⟩
  refine cP (hp i h1) rfl rfl ?_
  apply bY <;> intro h2
  ·refine r1I rfl ?_
   exact (zas default h1 h2 ha).symm
  refine⟨i6,?_⟩
  refine⟨i+1,⟨rfl,trivial,wq rfl⟩,⟨h1,fun j hj=>?_⟩,(msr (by omega))⟩
  by_cases e:j=i
  ·subst e; exact h2
  exact ha j (by omega)
 have h1:i=l.length:=by have:=dF h1; omega
 subst h1
 refine r1I rfl ?_
 exact (zaA default ha).symm
theorem zoq (l:List Int) (g:FuncId) (p:Int->Bool) (hn:l.length<=1000000) (hp:∀ i,i<l.length->Spec PP g [N (l.getD i default)] [B (p (l.getD i default))]):Spec PP 116 [.d (lI l),.d (.fn g)] [B (l.any p)]:=by
 refine sA Tryz.func116 ?_
 refine cP (zoo l g p hn hp) rfl rfl ?_
 refine r1B rfl ?_
 rw[kY,kV]
 exact zbA p l default
theorem zaR (n lo hi:Int):Spec PP 163 [N n,N lo,N hi] [B (within n lo hi)]:=by
 refine sA Tryz.func163 ?_
 unfold within
 apply bY <;> intro h1
 ·refine sT ?_
  exact r1B rfl (by rw[h1,wI])
 refine sF ?_
 exact r1B rfl (by rw[h1,jal])
@[irreducible] def validM (m:Mp):Bool:=within m.W 1 49 && within m.H 1 49 && ((m.G.length:Int)==m.W * m.H) && !(m.G.any fun h=>!within h 0 4000)
@[irreducible] def onM (m:Mp) (p:Place):Bool:=within p.X 0 (m.W - 1) && within p.Y 0 (m.H - 1)
def grd (m:Mp) (p:Place):Int:=m.G.getD (p.Y * m.W+p.X).toNat 0
theorem zak {m:Mp} (h:validM m=true):(1<=m.W/\m.W<=49)/\(1<=m.H/\m.H<=49)/\(m.G.length:Int)=m.W * m.H /\ ∀ x∈m.G,0<=x/\x<=4000:=by
 unfold validM at h
 simp only[jP,zaa,jae,jY,jan,Bool.not_eq_true,qJ] at h
 exact⟨h.1.1.1,h.1.1.2,h.1.2,fun x hx=>zaa.1 (by simpa using h.2 x hx)⟩
theorem zaj {m:Mp} {p:Place}:onM m p=true ↔ (0<=p.X/\p.X<m.W)/\(0<=p.Y/\p.Y<m.H):=by
 unfold onM; rw[jP,zaa,zaa]; omega
theorem zbD {m:Mp} {p:Place} (hv:validM m=true) (hp:onM m p=true):(0<=p.Y * m.W+p.X/\p.Y * m.W+p.X<m.G.length)/\(0<=grd m p/\grd m p<=4000):=by
 obtain⟨w,h,e,g⟩:=zak hv
 obtain⟨p1,p2⟩:=zaj.1 hp
 have h1:p.Y * m.W+p.X<m.G.length:=by
  rw[e]
  have h2:=jV (show p.Y<=m.H - 1 by omega) (show 0<=m.W by omega)
  have h3:(m.H - 1) * m.W=m.W * m.H - m.W:=by grind
  omega
 have h0:0<=p.Y * m.W:=qZ p2.1 (by omega)
 have h2:0<=p.Y * m.W+p.X:=by omega
 refine⟨⟨h2,h1⟩,?_⟩
 unfold grd
 exact g _ (gd1 (by omega) 0)
theorem zlu (h:Int):Spec PP 224 [N h] [B (!within h 0 4000)]:=by
 refine sA Tryz.func224 ?_
 refine cP (zaR h 0 4000) rfl rfl ?_
 exact r1B rfl rfl
theorem znx (m:Mp):Spec PP 162 [m.v] [B (validM m)]:=by
 have e:validM m=(within m.W 1 49 && within m.H 1 49 && ((m.G.length:Int)==m.W * m.H) && !(m.G.any fun h=>!within h 0 4000)):=by unfold validM; rfl
 refine sA Tryz.func162 ?_
 refine cP (zaR m.W 1 49) rfl rfl ?_
 apply bY <;> intro h1
 ·refine cP (zaR m.H 1 49) rfl rfl ?_
  refine sT ?_
  apply bY <;> intro h2
  ·have b1:=zaa.1 h1
   have b2:=zaa.1 h2
   have b3:=mulB (a:=m.W) (b:=m.H) (x:=49) (y:=49) (by omega) (by omega)
   refine⟨i6,?_⟩
   refine sT ?_
   apply bY <;> intro h3
   ·have h4:(m.G.length:Int)=m.W * m.H:=by simpa using h3
    refine cP (zoq m.G 224 (fun h=>!within h 0 4000) (by omega) (fun i hi=>zlu _)) rfl rfl ?_
    refine sT ?_
    refine r1B rfl ?_
    rw[e,h1,h2,h3]; rfl
   refine sF ?_
   refine r1B rfl ?_
   rw[e,h1,h2,h3]; rfl
  refine sF ?_
  refine sF ?_
  refine sF ?_
  refine r1B rfl ?_
  rw[e,h1,h2]; rfl
 refine sF ?_
 refine sF ?_
 refine sF ?_
 refine sF ?_
 refine sF ?_
 refine r1B rfl ?_
 rw[e,h1]; rfl
theorem g_On (m:Mp) (p:Place) (hv:validM m=true):Spec PP 164 [m.v,p.v] [B (onM m p)]:=by
 obtain⟨w,h,-,-⟩:=zak hv
 have e:onM m p=(within p.X 0 (m.W - 1) && within p.Y 0 (m.H - 1)):=by unfold onM; rfl
 refine sA Tryz.func164 ?_
 refine⟨i6,?_⟩
 refine cP (zaR p.X 0 (m.W - 1)) rfl rfl ?_
 apply bY <;> intro h1
 ·refine⟨i6,?_⟩
  refine cP (zaR p.Y 0 (m.H - 1)) rfl rfl ?_
  refine sT ?_
  refine r1B rfl ?_
  rw[e,h1]; rfl
 refine sF ?_
 refine r1B rfl ?_
 rw[e,h1]; rfl
theorem zbQ (m:Mp) (p:Place) (hv:validM m=true) (hp:onM m p=true):Spec PP 298 [m.v,p.v] [N (grd m p)]:=by
 obtain⟨⟨g1,g2⟩,-⟩:=zbD hv hp
 obtain⟨w,h,e,-⟩:=zak hv
 obtain⟨p1,p2⟩:=zaj.1 hp
 have b3:=mulB (a:=p.Y) (b:=m.W) (x:=49) (y:=49) (by omega) (by omega)
 refine sA Tryz.func298 ?_
 refine⟨i6,⟨i6,?_⟩⟩
 refine⟨⟨rfl,by omega,by omega⟩,?_⟩
 exact r1I rfl rfl
theorem zhn (n:Int) (h:-9223372036854775807<=n/\n<=9223372036854775807):Spec PP 296 [N n] [N (n.natAbs:Int)]:=by
 refine sA Tryz.func296 ?_
 refine⟨i6,?_⟩
 refine r1I rfl ?_
 show max n (-n)=_
 omega
def nearB (a b:Place) (d:Int):Bool:=decide ((a.X - b.X) * (a.X - b.X)+(a.Y - b.Y) * (a.Y - b.Y)<=d * d)
theorem zo9 (a b:Place) (d:Int) (ha:on a=true) (hb:on b=true) (hd:0<=d/\d<=100):Spec PP 278 [a.v,b.v,N d] [B (nearB a b d)]:=by
 obtain⟨a1,a2⟩:=zb1.1 ha
 obtain⟨b1,b2⟩:=zb1.1 hb
 have m1:=mulB (a:=a.X - b.X) (b:=a.X - b.X) (x:=48) (y:=48) (by omega) (by omega)
 have m2:=mulB (a:=a.Y - b.Y) (b:=a.Y - b.Y) (x:=48) (y:=48) (by omega) (by omega)
 have m3:=mulB (a:=d) (b:=d) (x:=100) (y:=100) (by omega) (by omega)
 refine sA Tryz.func278 ?_
 refine⟨i6,⟨i6,⟨i6,⟨i6,⟨i6,⟨i6,⟨i6,⟨i6,?_⟩⟩⟩⟩⟩⟩⟩⟩
 exact r1B rfl rfl
def farZ (t:Int):List Hz->Int
 | []=>100
 | h :: r=>if h.From<=t/\t<=h.To then h.Far else farZ t r
theorem zjM {t:Int} {l:List Hz} {i:Nat} (hi:i<l.length):farZ t (l.drop i)=if (l.getD i default).From<=t/\t<=(l.getD i default).To then (l.getD i default).Far else farZ t (l.drop (i+1)):=by
 rw[kU hi,hX,hZ hi]; rfl
abbrev bxCt (c:Ctry):Ob:=.box [.d (I c.M.W),.d (I c.M.H),.d (lI c.M.G),.d (lT c.T),.d (lZ c.Z)]
theorem obCt {s:St} {ob:Nat->Option Ob} {c:Ctry} {o:Option Ob} (g:o=some (bxCt c)):Oble s ob o (bxCt c):=obD [I c.M.W,I c.M.H,lI c.M.G,lT c.T,lZ c.Z] g
theorem g_far (c:Ctry) (t:Int) (hn:c.Z.length<=1000000):Spec PP 269 [c.v,N t] [N (farZ t c.Z)]:=by
 refine sA Tryz.func269 ?_
 refine LoopOb.of (σ:=Nat) (fun i=>([(1,.d (I t)),(8,.d (lZ c.Z)),(9,.d (I c.Z.length)),(10,.d (I i))],[])) (fun i=>i<=c.Z.length/\farZ t (c.Z.drop i)=farZ t c.Z) (fun i=>c.Z.length - i) 0
  ⟨rfl,trivial,wq rfl⟩ ⟨jF _,rfl⟩ fun i hi=>?_
 obtain⟨hi,ha⟩:=hi
 apply bY <;> intro h1
 ·have h1:i<c.Z.length:=by have:=dT h1; omega
  have hd:=zjM (t:=t) h1
  rw[ha] at hd
  refine⟨⟨rfl,by omega,by omega⟩,?_⟩
  apply bY <;> intro h2
  ·have h2:(c.Z.getD i default).From<=t:=dT h2
   refine sT ?_
   apply bY <;> intro h3
   ·have h3:t<=(c.Z.getD i default).To:=dT h3
    refine r1I rfl ?_
    rw[hd,kG ⟨h2,h3⟩]; rfl
   have h3:¬ t<=(c.Z.getD i default).To:=dF h3
   rw[kF fun h=>h3 h.2] at hd
   refine⟨i6,?_⟩
   exact⟨i+1,⟨rfl,trivial,wq rfl⟩,⟨h1,hd.symm⟩,(msr (by omega))⟩
  have h2:¬ (c.Z.getD i default).From<=t:=dF h2
  rw[kF fun h=>h2 h.1] at hd
  refine sF ?_
  refine sF ?_
  refine⟨i6,?_⟩
  exact⟨i+1,⟨rfl,trivial,wq rfl⟩,⟨h1,hd.symm⟩,(msr (by omega))⟩
 have h1:i=c.Z.length:=by have:=dF h1; omega
 subst h1
 refine r1I rfl ?_
 rw[<- ha,ja2]; rfl
def towI (T:List Twr) (id:Int):Int:=idxL (fun t=>t.ID==id) T
def towG (T:List Twr) (id:Int):Twr × Bool:=if towI T id<0 then (default,false) else (T.getD (towI T id).toNat default,true)
theorem zf1 {T:List Twr} {id:Int} (h:¬ towI T id<0):(towI T id).toNat<T.length/\towI T id=((towI T id).toNat:Int):=by
 rcases idxL_cases (fun t:Twr=>t.ID==id) T default with⟨h1,_⟩ | ⟨i,h1,h2,_⟩
 ·exact absurd (show towI T id<0 by unfold towI; rw[h1]; decide) h
 unfold towI; rw[h2]; simp; exact h1
theorem zlv (t:Twr) (id:Int):Spec PP 277 [t.v,.d (capB [I id])] [B (t.ID==id)]:=by
 refine sA Tryz.func277 ?_
 exact r1B rfl rfl
theorem zny (c:Ctry) (id:Int) (hn:c.T.length<=1000000):Spec PP 267 [c.v,N id] [(towG c.T id).1.v,B (towG c.T id).2]:=by
 refine sA Tryz.func267 ?_
 refine CallSt.fz [3] (ziB c.T 277 (capB [I id]) (fun t=>t.ID==id) hn (fun i hi=>zlv _ id)) rfl rfl ?_
 apply bY <;> intro h1
 ·have h1:towI c.T id<0:=dT h1
  have e:towG c.T id=(default,false):=by unfold towG; rw[kG h1]
  rw[e]
  exact⟨rtC (a:=4) rfl rfl rfl rfl rfl rfl (zab _),rtB rfl rfl,trivial⟩
 have h1:¬ towI c.T id<0:=dF h1
 obtain⟨h2,h3⟩:=zf1 h1
 have e:towG c.T id=(c.T.getD (towI c.T id).toNat default,true):=by unfold towG; rw[kF h1]
 rw[e]
 refine⟨⟨rfl,by show 0<=towI c.T id; omega,by show towI c.T id<c.T.length; omega⟩,?_⟩
 exact⟨rtC (a:=4) rfl rfl rfl rfl rfl rfl (zab _),rtB rfl rfl,trivial⟩
abbrev Mp.w (m:Mp):Nat:=m.W.toNat
abbrev Mp.h (m:Mp):Nat:=m.H.toNat
def spL (m:Mp):List (Nat × Nat):=(List.range (m.w * m.h)).map fun n=>(n / m.w,n % m.w)
theorem zcy (m:Mp):(spL m).length=m.w * m.h:=by unfold spL; simp
theorem zof {m:Mp} {y x:Nat} (hy:y<m.h) (hx:x<m.w):(spL m)[y * m.w+x]?=some (y,x):=by
 have h1:y * m.w+x<m.w * m.h:=by
  have:(y+1) * m.w<=m.h * m.w:=jW _ hy
  rw[kW] at this
  rw[qC m.w m.h]
  omega
 have h2:(y * m.w+x) / m.w=y:=by rw[qC,Nat.mul_add_div (by omega),Nat.div_eq_of_lt hx]; rfl
 have h3:(y * m.w+x) % m.w=x:=by rw[qC,jaT,jas hx]
 unfold spL
 rw[jU,qQ h1]
 simp only[kZ,h2,h3]
def spEnc (m:Mp) (p:Nat × Nat):List V1:=[.d (I (p.1 * m.W+p.2)),.agg [I p.2,I p.1]]
abbrev spClo (m:Mp):D:=.clo 139 1 (fun _=>capB m.ds)
theorem zeL (m:Mp):Spec PP 97 [m.v] [.d (spClo m)]:=by
 refine sA Tryz.func97 ?_
 refine⟨⟨rfl,rfl,fun j hj=>?_⟩,trivial⟩
 match j,hj with
 | 0,_=>exact⟨_,rfl,rfl,_,_,rfl,rfl,rfl,fun j hj=>dE _⟩
theorem zc9 (m:Mp) (hv:validM m=true):SeqC PP 139 1 (fun _=>capB m.ds) (spEnc m) (spL m):=by
 obtain⟨bw,bh,-,-⟩:=zak hv
 have hw:((m.w:Nat):Int)=m.W:=by show ((m.W.toNat:Nat):Int)=m.W; omega
 have hh:((m.h:Nat):Int)=m.H:=by show ((m.H.toNat:Nat):Int)=m.H; omega
 refine zex Tryz.func139 rfl (by kernel_rfl) rfl rfl (spEnc m) _ fun l=>?_
 refine LoopOb.of (σ:=Nat) (fun y=>([(G,.gho (some (y * m.w))),(0,.yl l),(1,avOf (.d (capB m.ds))),(6,.d (I m.H)),(7,.d (I y))],[])) (fun y=>y<=m.h) (fun y=>m.h - y) 0 ⟨rfl,trivial,avG rfl (by simp),wq rfl⟩ (jF _) fun y hy=>?_
 apply bY <;> intro h1
 ·have h1:y<m.h:=by have:=dT h1; omega
  refine LoopOb.of (σ:=Nat) (fun x=>([(G,.gho (some (y * m.w+x))),(0,.yl l),(1,avOf (.d (capB m.ds))),(3,.d (I y)),(6,.d (I m.H)),(7,.d (I y)),(11,.d (I m.W)),(12,.d (I x))],[])) (fun x=>x<=m.w) (fun x=>m.w - x) 0 ⟨rfl,trivial,avG rfl (by simp),wq rfl⟩ (jF _) fun x hx=>?_
  apply bY <;> intro h2
  ·have h2:x<m.w:=by have:=dT h2; omega
   have m1:=mulB (a:=(y:Int)) (b:=m.W) (x:=49) (y:=49) (by omega) (by omega)
   refine⟨i6,⟨i6,?_⟩⟩
   refine CallSt.yd (d:=25) [(0,.yl l),(1,avOf (.d (capB m.ds))),(3,.d (I y)),(6,.d (I m.H)),(7,.d (I y)),(11,.d (I m.W)),(12,.d (I x))] rfl rfl rfl rfl ⟨rfl,trivial,wq rfl⟩ (zof h1 h2) rfl rfl ?_ ?_
   ·refine sF ?_
    refine⟨i6,?_⟩
    refine⟨x+1,⟨rfl,trivial,avG rfl rfl,wq rfl⟩,h2,(msr (by omega))⟩
   refine sT ?_
   exact .inr rfl
  have h2:x=m.w:=by have:=dF h2; omega
  subst h2
  refine⟨i6,?_⟩
  refine⟨y+1,⟨rfl,trivial,avG rfl (by rw[kW,Nat.one_mul]),wq rfl⟩,h1,(msr (by omega))⟩
 have h1:y=m.h:=by have:=dF h1; omega
 subst h1
 exact .inl (show AV.gho (some (m.h * m.w)) = .gho (some (spL m).length) by rw[zcy,qC])
def plc (m:Mp) (n:Nat):Place:=⟨((n % m.w:Nat):Int),((n / m.w:Nat):Int)⟩
theorem zgS {m:Mp} {pre:List (Nat × Nat)} {x:Nat × Nat} (h:pre ++ [x] <+: spL m):x=(pre.length / m.w,pre.length % m.w)/\pre.length<m.w * m.h:=by
 have h1:(spL m)[pre.length]?=some x:=by
  obtain⟨t,e⟩:=h
  rw[<- e]; simp
 have h2:pre.length<m.w * m.h:=by
  have:=(kC.1 h1).1
  rwa [zcy] at this
 unfold spL at h1
 rw[jU,qQ h2] at h1
 simp only[kZ,jO] at h1
 exact⟨h1.symm,h2⟩
theorem zoC {m:Mp} {n:Nat} (hv:validM m=true) (h:n<m.w * m.h):onM m (plc m n)=true:=by
 obtain⟨bw,bh,-,-⟩:=zak hv
 refine zaj.2 ?_
 have hw:0<m.w:=by show 0<m.W.toNat; omega
 have h1:=jaf n hw
 have h2:n / m.w<m.h:=jaz h
 generalize hq:n / m.w=q at h2
 generalize hr:n % m.w=r at h1
 show (0<=((n % m.w:Nat):Int)/\((n % m.w:Nat):Int)<m.W)/\(0<=((n / m.w:Nat):Int)/\((n / m.w:Nat):Int)<m.H)
 have e1:((m.w:Nat):Int)=m.W:=by show ((m.W.toNat:Nat):Int)=m.W; omega
 have e2:((m.h:Nat):Int)=m.H:=by show ((m.H.toNat:Nat):Int)=m.H; omega
 rw[hq,hr]
 omega
def crsX (f0 t0 k:Int):Int:=f0+(k * (t0 - f0)).tdiv ((t0 - f0).natAbs:Int)
def crsY (f0 f1 t0 t1 k:Int):Int:=f1 * ((t0 - f0).natAbs:Int)+k * (t1 - f1)
def crsH (g:Int->Int->Int) (f0 f1 t0 t1 k:Int):Int:=
 if 0<(crsY f0 f1 t0 t1 k).tmod ((t0 - f0).natAbs:Int) then
  (((t0 - f0).natAbs:Int) - (crsY f0 f1 t0 t1 k).tmod ((t0 - f0).natAbs:Int)) * g (crsX f0 t0 k) ((crsY f0 f1 t0 t1 k).tdiv ((t0 - f0).natAbs:Int))+(crsY f0 f1 t0 t1 k).tmod ((t0 - f0).natAbs:Int) * g (crsX f0 t0 k) ((crsY f0 f1 t0 t1 k).tdiv ((t0 - f0).natAbs:Int)+1)
 else (((t0 - f0).natAbs:Int) - (crsY f0 f1 t0 t1 k).tmod ((t0 - f0).natAbs:Int)) * g (crsX f0 t0 k) ((crsY f0 f1 t0 t1 k).tdiv ((t0 - f0).natAbs:Int))
structure Pnt where
  ax:Int
  k:Int
  n:Int
  hi:Int
  deriving DecidableEq,Inhabited
abbrev Pnt.v (p:Pnt):V1:=.agg [I p.ax,I p.k,I p.k,I p.n,I p.hi]
def crs0 (m:Mp) (a b:Place) (k:Int):Pnt:=⟨0,k,((b.X - a.X).natAbs:Int),crsH (fun x y=>grd m ⟨x,y⟩) a.X a.Y b.X b.Y k⟩
def crs1 (m:Mp) (a b:Place) (k:Int):Pnt:=⟨1,k,((b.Y - a.Y).natAbs:Int),crsH (fun y x=>grd m ⟨x,y⟩) a.Y a.X b.Y b.X k⟩
theorem znH {f0 t0 k:Int} (h:t0≠f0):crsX f0 t0 k=if f0<t0 then f0+k else f0 - k:=by
 unfold crsX
 by_cases e:f0<t0
 ·rw[kG e,show ((t0 - f0).natAbs:Int)=t0 - f0 by omega,Int.mul_tdiv_cancel _ (by omega)]
 rw[kF e,show ((t0 - f0).natAbs:Int) = -(t0 - f0) by omega,Int.tdiv_neg,Int.mul_tdiv_cancel _ (by omega)]; omega
structure CrsIn (f0 f1 t0 t1 k:Int) (lo hi:Int):Prop where
  x:crsX f0 t0 k≠f0/\((f0<=crsX f0 t0 k/\crsX f0 t0 k<=t0) \/ (t0<=crsX f0 t0 k/\crsX f0 t0 k<=f0))
  w:lo<=(crsY f0 f1 t0 t1 k).tdiv ((t0 - f0).natAbs:Int)/\(crsY f0 f1 t0 t1 k).tdiv ((t0 - f0).natAbs:Int)<=hi
  r:0<=(crsY f0 f1 t0 t1 k).tmod ((t0 - f0).natAbs:Int)/\(crsY f0 f1 t0 t1 k).tmod ((t0 - f0).natAbs:Int)<((t0 - f0).natAbs:Int)
  u:0<(crsY f0 f1 t0 t1 k).tmod ((t0 - f0).natAbs:Int)->(crsY f0 f1 t0 t1 k).tdiv ((t0 - f0).natAbs:Int)+1<=hi
theorem zht {f0 f1 t0 t1 k lo hi:Int} (h0:0<=lo) (h1:lo<=f1/\f1<=hi) (h2:lo<=t1/\t1<=hi) (hk:1<=k/\k<((t0 - f0).natAbs:Int)):CrsIn f0 f1 t0 t1 k lo hi:=by
 have hx:=znH (f0:=f0) (t0:=t0) (k:=k) (by omega)
 generalize hn:((t0 - f0).natAbs:Int)=n at *
 have ey:crsY f0 f1 t0 t1 k=f1 * (n - k)+t1 * k:=by unfold crsY; rw[hn]; grind
 have l1:=jV h1.1 (show 0<=n - k by omega)
 have l2:=jV h2.1 (show 0<=k by omega)
 have u1:=jV h1.2 (show 0<=n - k by omega)
 have u2:=jV h2.2 (show 0<=k by omega)
 have e1:lo * (n - k)+lo * k=lo * n:=by grind
 have e2:hi * (n - k)+hi * k=hi * n:=by grind
 have yl:lo * n<=crsY f0 f1 t0 t1 k:=by omega
 have yh:crsY f0 f1 t0 t1 k<=hi * n:=by omega
 have y0:0<=crsY f0 f1 t0 t1 k:=by have:=qZ h0 (show 0<=n by omega); omega
 have hnp:0<n:=by omega
 have td:(crsY f0 f1 t0 t1 k).tdiv n=crsY f0 f1 t0 t1 k / n:=Int.tdiv_eq_ediv_of_nonneg y0
 have tm:(crsY f0 f1 t0 t1 k).tmod n=crsY f0 f1 t0 t1 k % n:=jaq y0
 have q1:lo<=crsY f0 f1 t0 t1 k / n:=(jaV hnp).2 yl
 have q2:crsY f0 f1 t0 t1 k / n<=hi:=jaZ hnp (by rw[Int.mul_comm] at yh; rw[Int.mul_comm]; exact yh)
 have hm:=Int.emod_nonneg (crsY f0 f1 t0 t1 k) (show n≠0 by omega)
 have hml:=Int.emod_lt_of_pos (crsY f0 f1 t0 t1 k) hnp
 have hd:=Int.emod_add_mul_ediv (crsY f0 f1 t0 t1 k) n
 refine⟨?_,?_,?_,?_⟩
 ·rw[hx]; split <;> omega
 ·rw[hn,td]; exact⟨q1,q2⟩
 ·rw[hn,tm]; exact⟨hm,hml⟩
 rw[hn,tm,td]
 intro hr
 rcases Int.lt_or_le (crsY f0 f1 t0 t1 k / n) hi with h | h
 ·omega
 have e:crsY f0 f1 t0 t1 k / n=hi:=by omega
 rw[e,Int.mul_comm] at hd
 omega
theorem zho (p:Place):Spec PP 310 [p.v] [.agg [I p.X,I p.Y]]:=by
 refine sA Tryz.func310 ?_
 exact r1C rfl rfl rfl rfl rfl rfl (zjN rfl rfl)
theorem zeU (x y:Int):Spec PP 311 [.agg [I x,I y]] [(Place.mk x y).v]:=by
 refine sA Tryz.func311 ?_
 refine⟨by decide,⟨by decide,?_⟩⟩
 exact r1C rfl rfl rfl rfl rfl rfl (zjN rfl rfl)
theorem zly {a b c d e a' b' c' d' e':Int} (h1:a=a') (h2:b=b') (h3:c=c') (h4:d=d') (h5:e=e'):eqvs [I a,I b,I c,I d,I e] [I a',I b',I c',I d',I e']:=⟨⟨rfl,h1⟩,⟨rfl,h2⟩,⟨rfl,h3⟩,⟨rfl,h4⟩,⟨rfl,h5⟩,trivial⟩
theorem zdx (m:Mp) (a b:Place) (k:Int) (hv:validM m=true) (ha:onM m a=true) (hb:onM m b=true) (hk:1<=k/\k<((b.X - a.X).natAbs:Int)):Spec PP 297 [m.v,a.v,b.v,N 0,N k] [(crs0 m a b k).v]:=by
 obtain⟨w,h,-,-⟩:=zak hv
 obtain⟨a1,a2⟩:=zaj.1 ha
 obtain⟨b1,b2⟩:=zaj.1 hb
 have C:=zht (f0:=a.X) (f1:=a.Y) (t0:=b.X) (t1:=b.Y) (k:=k) (lo:=0) (hi:=m.H - 1) (by omega) (by omega) (by omega) hk
 have m1:=mulB (a:=k) (b:=b.X - a.X) (x:=48) (y:=48) (by omega) (by omega)
 have m2:=mulB (a:=k) (b:=b.Y - a.Y) (x:=48) (y:=48) (by omega) (by omega)
 have m3:=mulB (a:=a.Y) (b:=((b.X - a.X).natAbs:Int)) (x:=48) (y:=48) (by omega) (by omega)
 have hx:=C.x
 have hw:=C.w
 have hr:=C.r
 have hu:=C.u
 have eX:(k * (b.X - a.X)).tdiv ((b.X - a.X).natAbs:Int)=crsX a.X b.X k - a.X:=by unfold crsX; omega
 have eY:a.Y * ((b.X - a.X).natAbs:Int)+k * (b.Y - a.Y)=crsY a.X a.Y b.X b.Y k:=rfl
 have o1:onM m ⟨(crsX a.X b.X k),((crsY a.X a.Y b.X b.Y k).tdiv ((b.X - a.X).natAbs:Int))⟩=true:=zaj.2 (by dsimp only; omega)
 have d1:=(zbD hv o1).2
 have m4:=mulB (a:=((b.X - a.X).natAbs:Int) - (crsY a.X a.Y b.X b.Y k).tmod ((b.X - a.X).natAbs:Int)) (x:=48) (y:=4000) (by omega) (b:=grd m ⟨(crsX a.X b.X k),((crsY a.X a.Y b.X b.Y k).tdiv ((b.X - a.X).natAbs:Int))⟩) (by omega)
 refine sA Tryz.func297 ?_
 refine Exists.intro [0,1,2,3,2004,2005,6,7] (And.intro (by kernel_rfl) (fNo ?_))
 refine oP (zho a) rfl rfl ?_
 refine oP (zho b) rfl rfl ?_
 refine⟨rfl,⟨rfl,?_⟩⟩
 refine oN 9 ?_
 refine⟨by decide,⟨by decide,⟨i6,?_⟩⟩⟩
 refine oP (zhn (b.X - a.X) (by omega)) rfl rfl ?_
 refine⟨zaZ (by decide) (by decide),?_⟩
 refine oN 17 ?_
 refine⟨by decide,⟨by decide,⟨by decide,⟨i6,⟨i6,⟨⟨by omega,i6⟩,⟨i6,⟨by decide,?_⟩⟩⟩⟩⟩⟩⟩⟩
 refine oN 16 ?_
 refine⟨by decide,⟨i6,⟨by decide,⟨by decide,⟨i6,⟨i6,⟨i6,?_⟩⟩⟩⟩⟩⟩⟩
 refine⟨⟨by omega,zaZ (by rw[eY]; omega) (by rw[eY]; omega)⟩,⟨by decide,?_⟩⟩
 refine⟨by omega,?_⟩
 refine oN 9 ?_
 refine⟨zaZ (by rw[eY]; omega) (by rw[eY]; omega),?_⟩
 refine oP (zeU (crsX a.X b.X k) ((crsY a.X a.Y b.X b.Y k).tdiv ((b.X - a.X).natAbs:Int))) rfl rfl ?_
 refine oP (zbQ m ⟨(crsX a.X b.X k),((crsY a.X a.Y b.X b.Y k).tdiv ((b.X - a.X).natAbs:Int))⟩ hv o1) rfl rfl ?_
 refine⟨zaZ (by rw[eY]; omega) (by rw[eY]; omega),?_⟩
 apply bY <;> intro h1
 ·have h1:0<(crsY a.X a.Y b.X b.Y k).tmod ((b.X - a.X).natAbs:Int):=dT h1
  have hu1:=hu h1
  have o2:onM m ⟨(crsX a.X b.X k),(((crsY a.X a.Y b.X b.Y k).tdiv ((b.X - a.X).natAbs:Int))+1)⟩=true:=zaj.2 (by dsimp only; omega)
  have d2:=(zbD hv o2).2
  have m5:=mulB (a:=(crsY a.X a.Y b.X b.Y k).tmod ((b.X - a.X).natAbs:Int)) (x:=48) (y:=4000) (by omega) (b:=grd m ⟨(crsX a.X b.X k),(((crsY a.X a.Y b.X b.Y k).tdiv ((b.X - a.X).natAbs:Int))+1)⟩) (by omega)
  refine⟨by decide,⟨zaZ (by rw[eY]; omega) (by rw[eY]; omega),⟨by decide,?_⟩⟩⟩
  refine oN 9 ?_
  refine oP (zeU (crsX a.X b.X k) (((crsY a.X a.Y b.X b.Y k).tdiv ((b.X - a.X).natAbs:Int))+1)) rfl rfl ?_
  refine oP (zbQ m ⟨(crsX a.X b.X k),(((crsY a.X a.Y b.X b.Y k).tdiv ((b.X - a.X).natAbs:Int))+1)⟩ hv o2) rfl rfl ?_
  refine⟨zaZ (by rw[eY]; omega) (by rw[eY]; omega),⟨zaZ (by rw[eY]; omega) (by rw[eY]; omega),?_⟩⟩
  refine r1C rfl rfl rfl rfl rfl rfl (zly rfl rfl rfl rfl ?_)
  unfold crs0 crsH
  rw[kG h1]; rfl
 have h1:¬ 0<(crsY a.X a.Y b.X b.Y k).tmod ((b.X - a.X).natAbs:Int):=dF h1
 refine r1C rfl rfl rfl rfl rfl rfl (zly rfl rfl rfl rfl ?_)
 unfold crs0 crsH
 rw[kF h1]; rfl
theorem zdw (m:Mp) (a b:Place) (k:Int) (hv:validM m=true) (ha:onM m a=true) (hb:onM m b=true) (hk:1<=k/\k<((b.Y - a.Y).natAbs:Int)):Spec PP 297 [m.v,a.v,b.v,N 1,N k] [(crs1 m a b k).v]:=by
 obtain⟨w,h,-,-⟩:=zak hv
 obtain⟨a1,a2⟩:=zaj.1 ha
 obtain⟨b1,b2⟩:=zaj.1 hb
 have C:=zht (f0:=a.Y) (f1:=a.X) (t0:=b.Y) (t1:=b.X) (k:=k) (lo:=0) (hi:=m.W - 1) (by omega) (by omega) (by omega) hk
 have m1:=mulB (a:=k) (b:=b.Y - a.Y) (x:=48) (y:=48) (by omega) (by omega)
 have m2:=mulB (a:=k) (b:=b.X - a.X) (x:=48) (y:=48) (by omega) (by omega)
 have m3:=mulB (a:=a.X) (b:=((b.Y - a.Y).natAbs:Int)) (x:=48) (y:=48) (by omega) (by omega)
 have hx:=C.x
 have hw:=C.w
 have hr:=C.r
 have hu:=C.u
 have eX:(k * (b.Y - a.Y)).tdiv ((b.Y - a.Y).natAbs:Int)=crsX a.Y b.Y k - a.Y:=by unfold crsX; omega
 have eY:a.X * ((b.Y - a.Y).natAbs:Int)+k * (b.X - a.X)=crsY a.Y a.X b.Y b.X k:=rfl
 have o1:onM m ⟨((crsY a.Y a.X b.Y b.X k).tdiv ((b.Y - a.Y).natAbs:Int)),(crsX a.Y b.Y k)⟩=true:=zaj.2 (by dsimp only; omega)
 have d1:=(zbD hv o1).2
 have m4:=mulB (a:=((b.Y - a.Y).natAbs:Int) - (crsY a.Y a.X b.Y b.X k).tmod ((b.Y - a.Y).natAbs:Int)) (x:=48) (y:=4000) (by omega) (b:=grd m ⟨((crsY a.Y a.X b.Y b.X k).tdiv ((b.Y - a.Y).natAbs:Int)),(crsX a.Y b.Y k)⟩) (by omega)
 refine sA Tryz.func297 ?_
 refine Exists.intro [0,1,2,3,2004,2005,6,7] (And.intro (by kernel_rfl) (fNo ?_))
 refine oP (zho a) rfl rfl ?_
 refine oP (zho b) rfl rfl ?_
 refine⟨rfl,⟨rfl,?_⟩⟩
 refine oN 9 ?_
 refine⟨by decide,⟨by decide,⟨i6,?_⟩⟩⟩
 refine oP (zhn (b.Y - a.Y) (by omega)) rfl rfl ?_
 refine⟨zaZ (by decide) (by decide),?_⟩
 refine oN 17 ?_
 refine⟨by decide,⟨by decide,⟨by decide,⟨i6,⟨i6,⟨⟨by omega,i6⟩,⟨i6,⟨by decide,?_⟩⟩⟩⟩⟩⟩⟩⟩
 refine oN 16 ?_
 refine⟨by decide,⟨i6,⟨by decide,⟨by decide,⟨i6,⟨i6,⟨i6,?_⟩⟩⟩⟩⟩⟩⟩
 refine⟨⟨by omega,zaZ (by rw[eY]; omega) (by rw[eY]; omega)⟩,⟨by decide,?_⟩⟩
 refine⟨by omega,?_⟩
 refine oN 9 ?_
 refine⟨zaZ (by rw[eY]; omega) (by rw[eY]; omega),?_⟩
 refine oP (zeU ((crsY a.Y a.X b.Y b.X k).tdiv ((b.Y - a.Y).natAbs:Int)) (crsX a.Y b.Y k)) rfl rfl ?_
 refine oP (zbQ m ⟨((crsY a.Y a.X b.Y b.X k).tdiv ((b.Y - a.Y).natAbs:Int)),(crsX a.Y b.Y k)⟩ hv o1) rfl rfl ?_
 refine⟨zaZ (by rw[eY]; omega) (by rw[eY]; omega),?_⟩
 apply bY <;> intro h1
 ·have h1:0<(crsY a.Y a.X b.Y b.X k).tmod ((b.Y - a.Y).natAbs:Int):=dT h1
  have hu1:=hu h1
  have o2:onM m ⟨(((crsY a.Y a.X b.Y b.X k).tdiv ((b.Y - a.Y).natAbs:Int))+1),(crsX a.Y b.Y k)⟩=true:=zaj.2 (by dsimp only; omega)
  have d2:=(zbD hv o2).2
  have m5:=mulB (a:=(crsY a.Y a.X b.Y b.X k).tmod ((b.Y - a.Y).natAbs:Int)) (x:=48) (y:=4000) (by omega) (b:=grd m ⟨(((crsY a.Y a.X b.Y b.X k).tdiv ((b.Y - a.Y).natAbs:Int))+1),(crsX a.Y b.Y k)⟩) (by omega)
  refine⟨by decide,⟨zaZ (by rw[eY]; omega) (by rw[eY]; omega),⟨by decide,?_⟩⟩⟩
  refine oN 9 ?_
  refine oP (zeU (((crsY a.Y a.X b.Y b.X k).tdiv ((b.Y - a.Y).natAbs:Int))+1) (crsX a.Y b.Y k)) rfl rfl ?_
  refine oP (zbQ m ⟨(((crsY a.Y a.X b.Y b.X k).tdiv ((b.Y - a.Y).natAbs:Int))+1),(crsX a.Y b.Y k)⟩ hv o2) rfl rfl ?_
  refine⟨zaZ (by rw[eY]; omega) (by rw[eY]; omega),⟨zaZ (by rw[eY]; omega) (by rw[eY]; omega),?_⟩⟩
  refine r1C rfl rfl rfl rfl rfl rfl (zly rfl rfl rfl rfl ?_)
  unfold crs1 crsH
  rw[kG h1]; rfl
 have h1:¬ 0<(crsY a.Y a.X b.Y b.X k).tmod ((b.Y - a.Y).natAbs:Int):=dF h1
 refine r1C rfl rfl rfl rfl rfl rfl (zly rfl rfl rfl rfl ?_)
 unfold crs1 crsH
 rw[kF h1]; rfl
def dX (a b:Place):Int:=((b.X - a.X).natAbs:Int)
def dY (a b:Place):Int:=((b.Y - a.Y).natAbs:Int)
def ptsF (m:Mp) (a b:Place):Nat->Int->Int->List Pnt
 | 0,_,_=>[]
 | f+1,k0,k1=>
  if k0<dX a b \/ k1<dY a b then
   if dX a b<=k0 \/ (k1<dY a b/\k1 * dX a b<k0 * dY a b) then crs1 m a b k1 :: ptsF m a b f k0 (k1+1)
   else crs0 m a b k0 :: ptsF m a b f (k0+1) k1
  else []
def ptsN (a b:Place) (k0 k1:Int):Nat:=(dX a b - k0).toNat+(dY a b - k1).toNat
def ptsL (m:Mp) (a b:Place):List Pnt:=ptsF m a b (ptsN a b 1 1) 1 1
theorem ziO {a b:Place} {k0 k1:Int} (h:k0<dX a b):ptsN a b k0 k1=ptsN a b (k0+1) k1+1:=by unfold ptsN; omega
theorem ziN {a b:Place} {k0 k1:Int} (h:k1<dY a b):ptsN a b k0 k1=ptsN a b k0 (k1+1)+1:=by unfold ptsN; omega
theorem zmY {m:Mp} {a b:Place} {k0 k1:Int} (h0:dX a b<=k0) (h1:dY a b<=k1):ptsF m a b (ptsN a b k0 k1) k0 k1=[]:=by
 have:ptsN a b k0 k1=0:=by unfold ptsN; omega
 rw[this]; rfl
theorem zox {m:Mp} {a b:Place} {k0 k1:Int} (h:k1<dY a b) (hc:dX a b<=k0 \/ (k1<dY a b/\k1 * dX a b<k0 * dY a b)):ptsF m a b (ptsN a b k0 k1) k0 k1=crs1 m a b k1 :: ptsF m a b (ptsN a b k0 (k1+1)) k0 (k1+1):=by
 rw[ziN h]
 show (if _ then _ else _)=_
 rw[kG (.inr h),kG hc]
theorem zoy {m:Mp} {a b:Place} {k0 k1:Int} (h:k0<dX a b) (hc:¬ (dX a b<=k0 \/ (k1<dY a b/\k1 * dX a b<k0 * dY a b))):ptsF m a b (ptsN a b k0 k1) k0 k1=crs0 m a b k0 :: ptsF m a b (ptsN a b (k0+1) k1) (k0+1) k1:=by
 rw[ziO h]
 show (if _ then _ else _)=_
 rw[kG (.inl h),kF hc]
def pntEnc (p:Pnt):List V1:=[p.v]
theorem eqv2 {m:Nat} {x0 x1:D} {h:Nat->D} (hm:m=2) (h0:D.eqv x0 (h 0)) (h1:D.eqv x1 (h 1)):D.eqv (.ptr ([x0,x1].length - 0) fun j=>getD' [x0,x1] (0+j)) (.ptr m h):=by
 subst hm
 refine⟨rfl,fun j hj=>?_⟩
 match j,hj with
 | 0,_=>exact h0
 | 1,_=>exact h1
abbrev capP (p:Place):D:=capB [I p.X,I p.Y]
def ptsCap (m:Mp) (a b:Place) (j:Nat):D:=getD' [capP a,capP b,capB m.ds] j
theorem zm9 {m:Mp} {a b:Place} (hv:validM m=true) (ha:onM m a=true) (hb:onM m b=true):(-48<=b.X - a.X/\b.X - a.X<=48)/\(-48<=b.Y - a.Y/\b.Y - a.Y<=48)/\(0<=dX a b/\dX a b<=48)/\(0<=dY a b/\dY a b<=48):=by
 obtain⟨w,h,-,-⟩:=zak hv
 obtain⟨a1,a2⟩:=zaj.1 ha
 obtain⟨b1,b2⟩:=zaj.1 hb
 unfold dX dY
 omega
theorem zjF (m:Mp) (a b:Place) (hv:validM m=true) (ha:onM m a=true) (hb:onM m b=true):SeqC PP 295 3 (ptsCap m a b) pntEnc (ptsL m a b):=by
 obtain⟨e1,e2,e3,e4⟩:=zm9 hv ha hb
 refine zex Tryz.func295 rfl (by kernel_rfl) rfl rfl pntEnc _ fun y=>?_
 refine oN 15 ?_
 refine⟨i6,?_⟩
 refine oP (zhn (a.X - b.X) (by omega)) rfl rfl ?_
 refine⟨i6,?_⟩
 refine oP (zhn (a.Y - b.Y) (by omega)) rfl rfl ?_
 refine LoopOb.of (σ:=Int × Int × Nat) (fun x=>([(G,.gho (some x.2.2)),(0,.yl y),(1,avOf (.d (capP a))),(2,avOf (.d (capP b))),(3,avOf (.d (capB m.ds))),(5,.roe 2 (getD' [I (dX a b),I (dY a b)])),(6,.box 6 0)],[(6,.box [.d (I x.1),.d (I x.2.1)])]))
  (fun x=>(1<=x.1/\x.1<=49/\1<=x.2.1/\x.2.1<=49)/\x.2.2<=(ptsL m a b).length/\(ptsL m a b).drop x.2.2=ptsF m a b (ptsN a b x.1 x.2.1) x.1 x.2.1) (fun x=>ptsN a b x.1 x.2.1) (1,1,0)
  ⟨rfl,⟨obD [I 1,I 1] rfl,trivial⟩,avQ rfl,avQ rfl,avQ rfl,avQ rfl,avQ rfl,avBx rfl rfl rfl rfl (eqv2 rfl ⟨rfl,by unfold dX; omega⟩ ⟨rfl,by unfold dY; omega⟩),avQ rfl,trivial⟩ ⟨by decide,jF _,rfl⟩ fun⟨k0,k1,i⟩ ⟨hk,hi,hd⟩=>?_
 dsimp only at hk hi hd ⊢
 refine⟨by decide,⟨by decide,?_⟩⟩
 apply bY <;> intro c0
 ·have c0:k0<dX a b:=dT c0
  have q0:¬ dX a b<=k0:=by omega
  refine sT ?_
  refine⟨by decide,⟨by decide,?_⟩⟩
  refine Split.no (jH (by omega)) ?_
  refine⟨by decide,⟨by decide,?_⟩⟩
  apply bY <;> intro c1
  ·have c1:k1<dY a b:=dT c1
   have m1:=mulB (a:=k1) (b:=dX a b) (x:=48) (y:=48) (by omega) (by omega)
   have m2:=mulB (a:=k0) (b:=dY a b) (x:=48) (y:=48) (by omega) (by omega)
   refine⟨by decide,⟨by decide,⟨i6,⟨by decide,⟨by decide,⟨i6,?_⟩⟩⟩⟩⟩⟩
   refine sT (sF ?_)
   apply bY <;> intro c2
   ·have c2:k1 * dX a b<k0 * dY a b:=dT c2
    have hp:=zox (m:=m) c1 (.inr ⟨c1,c2⟩)
    have hx:(ptsL m a b)[i]?=some (crs1 m a b k1):=by
     have:=jI List.head? hd
     rwa [hp,List.head?_drop] at this
    have hd':(ptsL m a b).drop (i+1)=ptsF m a b (ptsN a b (k0) (k1+1)) (k0) (k1+1):=by
     rw[<- List.tail_drop,hd,hp]; rfl
    have hi':i<(ptsL m a b).length:=(kC.1 hx).1
    have hm:=ziN (k0:=k0) c1
    refine Exists.intro [0,1,2,3,4,5,6,7,8,3009,10] (And.intro (by kernel_rfl) (fNo ?_))
    refine⟨by decide,?_⟩
    refine oP (zdw m a b k1 hv ha hb ⟨hk.2.2.1,c1⟩) rfl rfl ?_
    refine CallSt.ydM (d:=68) [(0,.yl y),(1,avOf (.d (capP a))),(2,avOf (.d (capP b))),(3,avOf (.d (capB m.ds))),(5,.roe 2 (getD' [I (dX a b),I (dY a b)])),(6,.box 6 0),(7,.d (I 1))] [(6,.box [.d (I k0),.d (I k1)])] rfl rfl rfl rfl ⟨rfl,⟨obD [I k0,I k1] rfl,trivial⟩,wq rfl⟩ hx rfl rfl ?_ ?_
    ·refine sF ?_
     refine⟨by decide,⟨i6,⟨by decide,?_⟩⟩⟩
     refine⟨(k0,k1+1,i+1),⟨rfl,⟨obD [I (k0),I (k1+1)] rfl,trivial⟩,avG rfl rfl,wq rfl⟩,⟨by dsimp only; omega,hi',hd'⟩,by dsimp only; omega⟩
    refine sT ?_
    exact .inr rfl
   have c2:¬ k1 * dX a b<k0 * dY a b:=dF c2
   have hp:=zoy (m:=m) c0 (fun h=>h.elim q0 fun h=>c2 h.2)
   have hx:(ptsL m a b)[i]?=some (crs0 m a b k0):=by
    have:=jI List.head? hd
    rwa [hp,List.head?_drop] at this
   have hd':(ptsL m a b).drop (i+1)=ptsF m a b (ptsN a b (k0+1) (k1)) (k0+1) (k1):=by
    rw[<- List.tail_drop,hd,hp]; rfl
   have hi':i<(ptsL m a b).length:=(kC.1 hx).1
   have hm:=ziO (k1:=k1) c0
   refine Exists.intro [0,1,2,3,4,5,6,7,8,3009,10] (And.intro (by kernel_rfl) (fNo ?_))
   refine⟨by decide,?_⟩
   refine oP (zdx m a b k0 hv ha hb ⟨hk.1,c0⟩) rfl rfl ?_
   refine CallSt.ydM (d:=68) [(0,.yl y),(1,avOf (.d (capP a))),(2,avOf (.d (capP b))),(3,avOf (.d (capB m.ds))),(5,.roe 2 (getD' [I (dX a b),I (dY a b)])),(6,.box 6 0),(7,.d (I 0))] [(6,.box [.d (I k0),.d (I k1)])] rfl rfl rfl rfl ⟨rfl,⟨obD [I k0,I k1] rfl,trivial⟩,wq rfl⟩ hx rfl rfl ?_ ?_
   ·refine sF ?_
    refine⟨by decide,⟨i6,⟨by decide,?_⟩⟩⟩
    refine⟨(k0+1,k1,i+1),⟨rfl,⟨obD [I (k0+1),I (k1)] rfl,trivial⟩,avG rfl rfl,wq rfl⟩,⟨by dsimp only; omega,hi',hd'⟩,by dsimp only; omega⟩
   refine sT ?_
   exact .inr rfl
  have c1:¬ k1<dY a b:=dF c1
  refine sF (sF (sF ?_))
  have hp:=zoy (m:=m) c0 (fun h=>h.elim q0 fun h=>c1 h.1)
  have hx:(ptsL m a b)[i]?=some (crs0 m a b k0):=by
   have:=jI List.head? hd
   rwa [hp,List.head?_drop] at this
  have hd':(ptsL m a b).drop (i+1)=ptsF m a b (ptsN a b (k0+1) (k1)) (k0+1) (k1):=by
   rw[<- List.tail_drop,hd,hp]; rfl
  have hi':i<(ptsL m a b).length:=(kC.1 hx).1
  have hm:=ziO (k1:=k1) c0
  refine Exists.intro [0,1,2,3,4,5,6,7,8,3009,10] (And.intro (by kernel_rfl) (fNo ?_))
  refine⟨by decide,?_⟩
  refine oP (zdx m a b k0 hv ha hb ⟨hk.1,c0⟩) rfl rfl ?_
  refine CallSt.ydM (d:=68) [(0,.yl y),(1,avOf (.d (capP a))),(2,avOf (.d (capP b))),(3,avOf (.d (capB m.ds))),(5,.roe 2 (getD' [I (dX a b),I (dY a b)])),(6,.box 6 0),(7,.d (I 0))] [(6,.box [.d (I k0),.d (I k1)])] rfl rfl rfl rfl ⟨rfl,⟨obD [I k0,I k1] rfl,trivial⟩,wq rfl⟩ hx rfl rfl ?_ ?_
  ·refine sF ?_
   refine⟨by decide,⟨i6,⟨by decide,?_⟩⟩⟩
   refine⟨(k0+1,k1,i+1),⟨rfl,⟨obD [I (k0+1),I (k1)] rfl,trivial⟩,avG rfl rfl,wq rfl⟩,⟨by dsimp only; omega,hi',hd'⟩,by dsimp only; omega⟩
  refine sT ?_
  exact .inr rfl
 have c0:¬ k0<dX a b:=dF c0
 refine⟨by decide,⟨by decide,?_⟩⟩
 refine sF ?_
 apply bY <;> intro c1
 ·have c1:k1<dY a b:=dT c1
  have q0:dX a b<=k0:=by omega
  refine⟨by decide,⟨by decide,?_⟩⟩
  refine Split.yes (jG (by omega)) ?_
  refine sT (sT ?_)
  have hp:=zox (m:=m) c1 (.inl q0)
  have hx:(ptsL m a b)[i]?=some (crs1 m a b k1):=by
   have:=jI List.head? hd
   rwa [hp,List.head?_drop] at this
  have hd':(ptsL m a b).drop (i+1)=ptsF m a b (ptsN a b (k0) (k1+1)) (k0) (k1+1):=by
   rw[<- List.tail_drop,hd,hp]; rfl
  have hi':i<(ptsL m a b).length:=(kC.1 hx).1
  have hm:=ziN (k0:=k0) c1
  refine Exists.intro [0,1,2,3,4,5,6,7,8,3009,10] (And.intro (by kernel_rfl) (fNo ?_))
  refine⟨by decide,?_⟩
  refine oP (zdw m a b k1 hv ha hb ⟨hk.2.2.1,c1⟩) rfl rfl ?_
  refine CallSt.ydM (d:=68) [(0,.yl y),(1,avOf (.d (capP a))),(2,avOf (.d (capP b))),(3,avOf (.d (capB m.ds))),(5,.roe 2 (getD' [I (dX a b),I (dY a b)])),(6,.box 6 0),(7,.d (I 1))] [(6,.box [.d (I k0),.d (I k1)])] rfl rfl rfl rfl ⟨rfl,⟨obD [I k0,I k1] rfl,trivial⟩,wq rfl⟩ hx rfl rfl ?_ ?_
  ·refine sF ?_
   refine⟨by decide,⟨i6,⟨by decide,?_⟩⟩⟩
   refine⟨(k0,k1+1,i+1),⟨rfl,⟨obD [I (k0),I (k1+1)] rfl,trivial⟩,avG rfl rfl,wq rfl⟩,⟨by dsimp only; omega,hi',hd'⟩,by dsimp only; omega⟩
  refine sT ?_
  exact .inr rfl
 have c1:¬ k1<dY a b:=dF c1
 have he:i=(ptsL m a b).length:=by
  rw[zmY (by omega) (by omega)] at hd
  have:=List.drop_eq_nil_iff.1 hd
  omega
 subst he
 exact .inl rfl
end Go.Pg
namespace Go.Pg
def lOf:=@LoopOb.of
def sYe:=@Split.yes
def sNo:=@Split.no
end Go.Pg
