/- Lemmas, joined by program. -/
import Derived.Test.YtcmghlfakcppkaaGreatJE
set_option maxHeartbeats 4000000
set_option linter.all false
set_option maxRecDepth 100000
namespace Go.Pg
open Go.Proofs Go.RowKit Go.Sort Go.Shelf
abbrev btL(d:Day):List (List Nat):=bstX (fitX d) (sigL d.R).length
def btX(d:Day):List (List Nat)×Int:=if dayE d≠0 then([],dayE d)else if(btL d).length=0 then([],9)else(btL d,0)
theorem zfD(d:Day)(hn:d.R.length<=1000000):Spec PP 47 [d.v] [.d (lNN (btX d).1),.d (.int .i64 (btX d).2)]:=by
 refine sA Tryz.func47 ?_
 refine cP (ziS d hn) rfl rfl ?_
 unfold btX
 apply bY<;>intro h0
 ·rw[kH (by simpa using h0)]
  exact⟨⟨_,_,_,_,rfl,rfl,.inl rfl⟩,rtI rfl rfl,trivial⟩
 have hd:dayE d=0:=by simpa using h0
 rw[kG (fun hh=>hh hd)]
 have ok:=zaN hd
 have h7:=sig7 ok
 have hbest:=zrb (fitX d) _ h7
 refine oN 7 ?_
 refine oRo (zra ok) rfl rfl ?_
 refine oRo (zdY d hn) rfl rfl ?_
 refine oRo hbest rfl rfl ?_
 show Split _ _
 apply bY<;>intro h1
 ·have h1:(btL d).length=0:=by
   have h1:(((btL d).length:Nat):Int)=0:=by simpa using h1
   omega
  rw[kH h1]
  exact⟨⟨_,_,_,_,rfl,rfl,.inl rfl⟩,rtI rfl rfl,trivial⟩
 have h1:¬(btL d).length=0:=by
  have h1:¬(((btL d).length:Nat):Int)=0:=by simpa using h1
  omega
 rw[kG h1]
 exact⟨dE _,rtI rfl rfl,trivial⟩
theorem zub(l:List Nat):D.eqv (lN l) (lI (l.map fun x:Nat=>(x:Int))):=⟨by rw[kO],.inr ⟨rfl,fun i hi j hj=>by
 have hi:i<l.length:=hi
 show D.eqv (I ((l.getD i 0:Nat):Int)) (I ((l.map fun x:Nat=>(x:Int)).getD i 0))
 rw[hZ,hZ,jU,kF hi]
 exact dE _⟩⟩
theorem inN(l:List Nat)(m:Nat):decide ((0:Int)<=idxL (· ==((m:Nat):Int)) (l.map fun x:Nat=>(x:Int)))=l.contains m:=by
 rw[kQ,kX,kD]
 rcases idxL_cases (· ==((m:Nat):Int)) (l.map fun x:Nat=>(x:Int)) 0 with⟨e,hn⟩|⟨i,hi,e,e1,-⟩
 ·rw[e]
  refine⟨fun h=>by omega,fun hm=>?_⟩
  obtain⟨i,hi,rfl⟩:=kP hm
  have:=hn i (by rw[kO];exact hi)
  rw[hZ,jU,kF hi]at this
  simp at this
 rw[e]
 refine⟨fun _=>?_,fun _=>by omega⟩
 rw[kO]at hi
 rw[hZ,jU,kF hi]at e1
 have:((l[i]:Nat):Int)=((m:Nat):Int):=by simpa using e1
 have:l[i]=m:=by omega
 rw[<- this];exact kR hi
def alwX(L:List (List Nat))(k m:Nat):Bool:=(L.take k).all fun ix=>(bitX ix).contains m
def prS(ids:List Int)(L:List (List Nat))(k:Nat):List (List Int):=(((bitX (L.getD 0 [])).take k).filter (alwX L L.length)).map (memb ids)
theorem zrw{ids:List Int}{L:List (List Nat)}{k:Nat}(h:k<(bitX (L.getD 0 [])).length)(h1:alwX L L.length ((bitX (L.getD 0 [])).getD k 0)=true):prS ids L (k+1)=prS ids L k++[memb ids ((bitX (L.getD 0 [])).getD k 0)]:=by
 unfold prS
 rw[zav h 0,kV,qA h1,jT];rfl
theorem ztD{ids:List Int}{L:List (List Nat)}{k:Nat}(h:k<(bitX (L.getD 0 [])).length)(h1:alwX L L.length ((bitX (L.getD 0 [])).getD k 0)=false):prS ids L (k+1)=prS ids L k:=by
 unfold prS
 rw[zav h 0,kV,qF (by rw[h1];decide)];simp
theorem zrx(ids:List Int)(L:List (List Nat))(k:Nat):(prS ids L k).length<=k:=by
 unfold prS
 rw[kO]
 have:=qD (alwX L L.length) ((bitX (L.getD 0 [])).take k)
 rw[jQ]at this;omega
theorem ztE{ids:List Int}(hn:ids.Nodup){L:List (List Nat)}(h0:0<L.length)(hL:∀ix∈L,ix.length=ids.length):prS ids L (bitX (L.getD 0 [])).length=prvK (L.map (setX ids)) ((L.map (setX ids)).getD 0 []).length:=by
 have e0:(L.map (setX ids)).getD 0 []=(bitX (L.getD 0 [])).map (memb ids):=by
  rw[hZ,jU,hZ,kF h0];rfl
 unfold prS prvK
 rw[e0,jZ,jZ,List.filter_map]
 congr 1
 refine ja4 fun m hm=>?_
 have hm2:m<2^ids.length:=by
  have:=(zaT (L.getD 0 []) _ m hm).2
  rwa [hL _ (gd1 h0 [])]at this
 unfold alwX alwS
 rw[jZ,Function.comp_apply,List.any_map,kQ,jC,jY,jay]
 refine forall_congr' fun ix=>forall_congr' fun hx=>?_
 rw[kD,Function.comp_apply,jY,jao]
 unfold hasS setX
 rw[kM]
 constructor
 ·exact fun h=>⟨_,kJ.2 ⟨m,h,rfl⟩,jG rfl⟩
 rintro⟨s,hs,e⟩
 obtain⟨k,hk,rfl⟩:=kJ.1 hs
 have e:=kU e
 have hk2:k<2^ids.length:=by
  have:=(zaT ix _ k hk).2
  rwa [hL _ hx]at this
 rw[<- zje hn hk2 hm2 e];exact hk
abbrev stR(l:List (List Int))(e:Int):V1:=.agg [lII l,I e]
theorem zlh(d:Day)(hn:d.R.length<=1000000):Spec PP 19 [d.v] [stR (prvR d).1 (prvR d).2]:=by
 have hB:=zfD d hn
 unfold btX at hB
 refine sA Tryz.func19 ?_
 by_cases hd:dayE d=0
 case neg=>
  have e:prvR d=([],dayE d):=by unfold prvR;rw[kH hd]
  rw[kH hd]at hB
  rw[e]
  refine cR hB rfl rfl ?_
  refine sYe (by simpa using hd) ?_
  exact⟨rtC (a:=2) rfl rfl rfl rfl rfl rfl ⟨rfl,⟨rfl,rfl⟩,trivial⟩,trivial⟩
 rw[kG (fun hh=>hh hd)]at hB
 have ok:=zaN hd
 have h7:=sig7 ok
 have eb:=zdf hd
 have el:(bsts d).length=(btL d).length:=by rw[eb,kO]
 by_cases h0:(btL d).length=0
 ·have e:prvR d=([],9):=by unfold prvR;rw[kG (fun hh=>hh hd),kH (by rw[el];exact h0)]
  rw[kH h0]at hB
  rw[e]
  refine cR hB rfl rfl ?_
  refine sT ?_
  exact⟨rtC (a:=2) rfl rfl rfl rfl rfl rfl ⟨rfl,⟨rfl,rfl⟩,trivial⟩,trivial⟩
 have hL:∀ix∈btL d,ix.length=(sigL d.R).length:=fun x hx=>(zcN (kS.1 hx).1).2
 have e:prvR d=(prS (sigL d.R) (btL d) (bitX ((btL d).getD 0 [])).length,0):=by
  unfold prvR
  rw[kG (fun hh=>hh hd),kG (by rw[el];exact h0),ztE ok.nod (by omega) hL,<- eb]
 rw[kG h0]at hB
 rw[e]
 have hbR:Rgs (btL d):=fun x hx=>zjq h7 x (kS.1 hx).1
 have hbl:(btL d).length<=1000000:=jM (zht _ _) (zg0 h7)
 have hID:=zdY d hn
 generalize btL d=L at*
 generalize sigL d.R=ids at*
 have h00:=hbR.get (show 0<L.length by omega)
 have hF:=zev h00.1 h00.2
 refine cR hB rfl rfl ?_
 refine sF ?_
 refine cR hID rfl rfl ?_
 refine⟨⟨rfl,by decide,(show(0:Int)<((L.length:Nat):Int)by omega)⟩,?_⟩
 refine cR (zby (L.getD 0 []) h00.1 h00.2) rfl rfl ?_
 refine lOf (σ:=Nat) (fun i=>([(2,.box 2 0),(3,.d (lNN L)),(5,.d (lI ids)),(6,.d (lN (bitX (L.getD 0 [])))),(7,.own 7),(8,.d (I i))],[(2,.box (List.replicate 2 .any)),(7,.row 22 1 (prS ids L i).length (rowII (prS ids L i)))])) (fun i=>i<=(bitX (L.getD 0 [])).length) (fun i=>(bitX (L.getD 0 [])).length-i) 0
  ⟨rfl,⟨zaz rfl rfl,obR rfl ⟨rfl,.inl rfl⟩,trivial⟩,wq rfl⟩ (jF _) fun i hi=>?_
 have hi:i<=(bitX (L.getD 0 [])).length:=hi
 have hpl:=zrx ids L i
 apply bY<;>intro h3
 ·have h3:i<(bitX (L.getD 0 [])).length:=by have:((i:Nat):Int)<(((bitX (L.getD 0 [])).length:Nat):Int):=dT h3;omega
  have yes:=zrw (ids:=ids) h3
  have no:=ztD (ids:=ids) h3
  have hm2:(bitX (L.getD 0 [])).getD i 0<128:=by
   have:(bitX (L.getD 0 [])).getD i 0<2^(L.getD 0 []).length:=(zaT (L.getD 0 []) _ _ (gd1 h3 0)).2
   have h2:2^(L.getD 0 []).length<=128:=jM (jah (j:=7) (by decide) h00.2) (by decide)
   omega
  obtain⟨m,hm⟩:∃m,m=(bitX (L.getD 0 [])).getD i 0:=⟨_,rfl⟩
  rw[<- hm]at yes no hm2
  refine lOf (σ:=Nat) (fun k=>([(2,.box 2 0),(3,.d (lNN L)),(5,.d (lI ids)),(6,.d (lN (bitX (L.getD 0 [])))),(7,.own 7),(8,.d (I i)),(9,.d (.bool (alwX L k m))),(10,.d (I k))],[(2,.box (List.replicate 2 .any)),(7,.row 22 1 (prS ids L i).length (rowII (prS ids L i)))])) (fun k=>k<=L.length) (fun k=>L.length-k) 0
   ⟨rfl,⟨zaz rfl rfl,obR rfl (dE _),trivial⟩,wq rfl⟩ (jF _) fun k hk=>?_
  have hk:k<=L.length:=hk
  apply bY<;>intro h4
  ·have h4:k<L.length:=by have:((k:Nat):Int)<((L.length:Nat):Int):=dT h4;omega
   have hk0:=hbR.get h4
   have es:alwX L (k+1) m=(alwX L k m&&(bitX (L.getD k [])).contains m):=by
    unfold alwX
    rw[zav h4 [],List.all_append];simp
   refine oN 15 ?_
   cases h5:alwX L k m with
   |false=>
    repeat first|apply sT|apply sF
    refine⟨i6,?_⟩
    refine⟨k+1,⟨rfl,⟨zaz rfl rfl,obR rfl (dE _),trivial⟩,avQ rfl,avQ rfl,avQ rfl,avQ rfl,avQ rfl,avQ rfl,avBl rfl (by rw[es,h5];rfl),avQ rfl,trivial⟩,h4,msr h4⟩
   |true=>
   repeat first|apply sT|apply sF
   refine⟨⟨rfl,by omega,(show((k:Nat):Int)<((L.length:Nat):Int)by omega)⟩,?_⟩
   refine oRo (zby (L.getD k []) hk0.1 hk0.2) rfl rfl ?_
   refine⟨⟨rfl,by omega,(show((i:Nat):Int)<(((bitX (L.getD 0 [])).length:Nat):Int)by omega)⟩,?_⟩
   refine CallOb.pureE (zn6 ((bitX (L.getD k [])).map fun x:Nat=>(x:Int)) ((m:Nat):Int) (by rw[kO];have:=zev hk0.1 hk0.2;omega)) rfl ⟨zub _,(by rw[hm];exact⟨rfl,rfl⟩),trivial⟩ rfl ?_
   repeat first|apply sT|apply sF
   refine⟨i6,?_⟩
   refine⟨k+1,⟨rfl,⟨zaz rfl rfl,obR rfl (dE _),trivial⟩,avQ rfl,avQ rfl,avQ rfl,avQ rfl,avQ rfl,avQ rfl,avBl rfl (by rw[es,h5,qE];exact inN _ _),avQ rfl,trivial⟩,h4,msr h4⟩
  have h4:k=L.length:=by have:¬((k:Nat):Int)<((L.length:Nat):Int):=dF h4;omega
  subst h4
  apply bY<;>intro h5
  ·have h5:alwX L L.length m=true:=h5
   refine⟨⟨rfl,by omega,(show((i:Nat):Int)<(((bitX (L.getD 0 [])).length:Nat):Int)by omega)⟩,?_⟩
   refine cR (zdX ids m (by omega) hm2) (by rw[hm];rfl) rfl ?_
   refine⟨⟨.inr rfl,(show(prS ids L i).length+1<=maxLen by unfold maxLen;omega),(show((prS ids L i).length+1)*24<=140737488355328 by omega)⟩,?_⟩
   refine⟨i6,?_⟩
   refine⟨i+1,⟨rfl,⟨zaz rfl rfl,obR rfl ?_,trivial⟩,wq rfl⟩,h3,msr h3⟩
   rw[yes h5]
   exact zgJ rfl (dE _)
  have h5:alwX L L.length m=false:=h5
  refine⟨i6,?_⟩
  refine⟨i+1,⟨rfl,⟨zaz rfl rfl,obR rfl ?_,trivial⟩,wq rfl⟩,h3,msr h3⟩
  rw[no h5];exact dE _
 have h3:i=(bitX (L.getD 0 [])).length:=by have:¬((i:Nat):Int)<(((bitX (L.getD 0 [])).length:Nat):Int):=dF h3;omega
 subst h3
 exact⟨rtC (a:=2) rfl rfl rfl rfl rfl rfl ⟨dE _,⟨rfl,rfl⟩,trivial⟩,trivial⟩
section
variable {P:Program}{T:TT}{cx:Cx}{γ:Nat->Value}{s:St}{a:Act}{w:World}
theorem zrI(h:RG cx γ s a w){i:Nat}{o:Ob}(hi:s.ob i=some o):(γ i).oneCell'=true:=by
 have hh:=h.objs i o hi
 cases o with
 |box cs=>obtain⟨b,vs,T,h1,_⟩:=hh;rw[h1];rfl
 |row e k n f=>
  obtain⟨xs,h1,_⟩:=hh
  rcases h1.2 with⟨h2,_⟩|⟨g,cap,cur,h2,_⟩<;>rw[h2]<;>rfl
 |mp m ks f=>obtain⟨b,es,c,h1,_⟩:=hh;rw[h1];rfl
theorem RG.slot(h:RG cx γ s a w){u:Nat}{y:D}(hv:Rep w (okOf cx s γ w) y (a.tmps.getD u undef)):RG cx γ (s.put u (.d y)) a w where
  defers:=h.defers
  size:=h.size
  okA:=h.okA
  lent:=h.lent
  below:=h.below
  hold:=h.hold
  least:=h.least
  objs:=h.objs
  refs:=h.refs
  sep:=h.sep
  slots:=by
    intro t
    show M w (okOf cx s γ w) γ (upd s.sl u (.d y) t) _
    rw[zat]
    split
    · rename_i e;subst e;exact hv
    exact h.slots t
  srefs:=by
    intro t
    show ∀j∈(upd s.sl u (.d y) t).refs,_
    rw[zat]
    split
    · intro j hj;simp[AV.refs]at hj
    exact h.srefs t
  gho:=fun m hm=>h.gho m (by
    have hm:upd s.sl u (.d y) G= .gho m:=hm
    rw[zat]at hm
    split at hm
    · cases hm
    exact hm)
  ng:=h.ng
variable (hT:∀t i,T t=some i->TI.of P t=some i)
include hT
theorem zsB(h:RG cx γ s a w){t d u i:Nat}{o:Ob}{parts:Array (Nat×Operand)}(hd:d<cx.N)(hu:s.sl u= .own i)(hi:s.ob i=some o)(hn:s.ob d=none)
  (hl:∀y:D,buildSliceE T (s.put u (.d y)) t 1 parts.toList fun _ ei f=>ei.size=1/\f 0 0=y):
  ∃w',(Instr.buildSlice t 1 (parts.map fun (i,x)=>(i,a.eval x))).run P w= .ok (.slice (some ⟨w.heap.size,0,none⟩) 1 1) w'/\R cx (((s.drop d).setOb d (some (.box [.own i]))).put d (.bsl d 1 1)) (a.put (some d) (.slice (some ⟨w.heap.size,0,none⟩) 1 1)) w':=by
 have hne:i≠d:=fun e=>by subst e;rw[hi]at hn;cases hn
 have one:=zrI h hi
 have hs:a.tmps.getD u undef=γ i:=by
  have:=h.slots u
  rw[hu]at this;exact this
 have h0:=h.slot (u:=u) (y:=.val (γ i)) ⟨hs,one⟩
 obtain⟨e,ei,f,xs,⟨e1,e2⟩,h1,h2,h3,h4,h5,h6⟩:=zaO hT h0 (hl (.val (γ i)))
 obtain⟨v,hv,hr⟩:=h6 0 (by decide) 0 (by omega)
 rw[e2]at hr
 obtain⟨rfl,_⟩:=hr
 have hx:xs=[γ i]:=by
  rw[e1]at h2
  match xs,h2 with
  | [y],_=>simp at hv;rw[hv]
 subst hx
 have hb:=zaq w (.cells [γ i].toArray e)
 have hg:w.grownBy (w.alloc (.cells [γ i].toArray e)) none:=⟨hb.os,hb.tape,hb.output,hb.size,fun k hk _=>hb.block k hk⟩
 refine⟨_,h1,upd γ d (.pointer (some ⟨w.heap.size,0,none⟩)),?_⟩
 refine(h.renewR (i:=d) (o':=.box [.own i]) (v:=.pointer (some ⟨w.heap.size,0,none⟩)) (row:=none) hg (fun _=>jE _) (fun b hb=>by cases hb) (fun b hb=>.inr (by simp[blk]at hb;omega))
  (fun ok hok=>⟨w.heap.size,[γ i],e,by rw[zac],.inl h.below.size,heap_alloc_new w _,.cons ⟨by rw[show(M _ ok (upd γ d _) (.own i) (γ i))=(γ i=upd γ d _ i)from rfl,zai _ _ hne],one⟩ .nil⟩)
  (fun cs hc c hm j hj=>?_)).put hd ⟨w.heap.size,by rw[zac],rfl,jE _,by simp only[maxLen];omega⟩ fun j hj=>?_
 ·cases hc
  rw[kI]at hm
  subst hm
  simp[AV.refs]at hj
  subst hj
  exact⟨hne,by rw[hi];rfl⟩
 simp[AV.refs]at hj
 subst hj
 show(upd (s.drop j).ob j _ j).isSome=true
 simp
omit hT
theorem zsO{n:Nat}{u:Value}(h:u∈(Builtin.zeroCells #[.slice none 0 0] n).toList):u.oneCell'=true:=by
 unfold Builtin.zeroCells at h
 simp at h
 obtain⟨k,hk,e⟩:=h
 rw[Nat.mod_one]at e
 rw[<- e];rfl
theorem znR{t ty e:TypeId}{info:TypeInfo}{z:Value}(ht:P.underlying t=some (.slice e))(hi:P.info? e=some info)(hz:info.zero=some z)(h1:info.size=1)(hzc:z.cells= #[.slice none 0 0])
  {vs:List Value}{b n:Nat}{Tt:TypeId}(hg:w.heap[b]?=some (.cells vs.toArray Tt (0,0)))(hn:n<=vs.length)(hone:∀u∈vs,u.oneCell'=true)(hc:vs.length<=maxLen)
  {ad:Addr}{c1:Nat}{u:Value}(hu:w.cell? ad=some u)(hu1:u.oneCell'=true)(hl:n+1<=maxLen)(hby:(n+1)*info.bytes<=140737488355328):
  ∃(g':Nat) (rest:List Value) (w':World) (T':TypeId),(Builtin.append_ #[t,t] ty #[.slice (some ⟨b,0,none⟩) n vs.length,.slice (some ad) 1 c1]).run P w= .ok (.slice (some ⟨g',0,none⟩) (n+1) (n+1+rest.length)) w'/\
   w'.heap[g']?=some (.cells (vs.take n++u::rest).toArray T' (0,0))/\(∀x∈rest,x.oneCell'=true)/\n+1+rest.length<=maxLen/\w.grownBy w' (some b)/\(g'=b\/g'=w.heap.size):=by
 have hnews:∀j v,[u][j]?=some v->w.cell? (ad.add j)=some v:=fun j v hj=>by
  match j,hj with
  |0,hj=>
   have:ad.add 0=ad:=by unfold Addr.add;simp
   rw[this];simpa using hj▸hu
 have hl':((n:Int)+1)<=9223372036854775807:=by simp only[maxLen]at hl;omega
 by_cases hroom:n+1<=vs.length
 ·have hf:=run_firstCells_some (P:=P) w info.size 1 ad 1 c1 [u] (by simp[h1]) hnews
  have hst:=run_storeCells_at P b (n*info.size) Tt [u] 0 vs.toArray w hg (by simp[h1];omega) (by simpa using hu1)
  simp only[Nat.add_zero]at hst
  refine⟨b,vs.drop (n+1),w.setRow b (vs.take n++[u]++vs.drop (n+1)).toArray,Tt,?_,?_,fun x hx=>hone x (ja7 hx),by rw[jag];omega,⟨rfl,rfl,rfl,by simp[World.setRow],fun k _ hk=>setRow_other w b k _ fun e=>hk (by rw[e])⟩,.inl rfl⟩
  ·have e1:n+1+(vs.drop (n+1)).length=vs.length:=by rw[jag];omega
   rw[e1]
   rw[h1]at hf hst
   simp only[Nat.mul_one]at hst
   simp[Builtin.append_,run_underlying ht,sizeOf,typeInfo,hi,Builtin.lenOf,hroom,hf,Addr.add_lit,hst,h1]
  rw[setRow_heap w b _ _ Tt _ hg]
  simp
 have hcell:∀j v,(vs.take n)[j]?=some v->w.cell? ((⟨b,0,none⟩:Addr).add j)=some v:=fun j v hj=>by
  rw[jS]at hj
  split at hj
  ·rw[zaw,qB];simp[World.cell?,hg,hj]
  cases hj
 have hln:(vs.take n).length=n*info.size:=by rw[jQ,h1];omega
 have hr:=run_append_grow (P:=P) w t ty e info z ht hi hz ⟨b,0,none⟩ n vs.length (vs.take n) hln hcell ad 1 c1 [u] (by simp[h1]) hnews (by omega) (by simp only[maxLen]at hl;omega) (growslice_fits (by omega) hby)
 have hge:=grownCap_ge w (n+1) vs.length e
 have hcm:grownCap w (n+1) vs.length e<=maxLen:=grownCap_le_maxLen w (n+1) vs.length e hl
 have hsz:(Builtin.zeroCells z.cells (grownCap w (n+1) vs.length e-(n+1))).toList.length=grownCap w (n+1) vs.length e-(n+1):=by rw[kB,size_zeroCells,hzc];simp
 refine⟨w.heap.size,(Builtin.zeroCells z.cells (grownCap w (n+1) vs.length e-(n+1))).toList,w.drew.alloc (.cells ((vs.take n).toArray++[u].toArray++Builtin.zeroCells z.cells (grownCap w (n+1) vs.length e-(n+1))) e),e,?_,?_,fun x hx=>zsO (by rw[hzc]at hx;exact hx),by omega,⟨rfl,rfl,rfl,by simp,fun k hk _=>heap_alloc_old w.drew _ hk⟩,.inr rfl⟩
 ·rw[hsz,show n+1+(grownCap w (n+1) vs.length e-(n+1))=grownCap w (n+1) vs.length e by omega]
  exact hr
 have:=heap_alloc_new w.drew (.cells ((vs.take n).toArray++[u].toArray++Builtin.zeroCells z.cells (grownCap w (n+1) vs.length e-(n+1))) e)
 rw[show w.heap.size=w.drew.heap.size from rfl,this]
 congr 2
 apply Array.ext'
 simp
theorem znS{t ty e:TypeId}{info:TypeInfo}{z:Value}(ht:P.underlying t=some (.slice e))(hi:P.info? e=some info)(hz:info.zero=some z)(h1:info.size=1)(hzc:z.cells= #[.slice none 0 0])
  {ad:Addr}{c1:Nat}{u:Value}(hu:w.cell? ad=some u)(hby:info.bytes<=140737488355328):
  ∃(rest:List Value) (w':World),(Builtin.append_ #[t,t] ty #[.slice none 0 0,.slice (some ad) 1 c1]).run P w= .ok (.slice (some ⟨w.heap.size,0,none⟩) 1 (1+rest.length)) w'/\
   w'.heap[w.heap.size]?=some (.cells (u::rest).toArray e (0,0))/\(∀x∈rest,x.oneCell'=true)/\1+rest.length<=maxLen/\w.grownBy w' none:=by
 have hnews:∀j v,[u][j]?=some v->w.cell? (ad.add j)=some v:=fun j v hj=>by
  match j,hj with
  |0,hj=>
   have:ad.add 0=ad:=by unfold Addr.add;simp
   rw[this];simpa using hj▸hu
 have hr:=run_append_nil (P:=P) w t ty e info z ht hi hz ad 1 c1 [u] (by simp[h1]) hnews (by omega) (by omega) (by omega)
 have hge:=grownCap_ge w 1 0 e
 have hcm:grownCap w 1 0 e<=maxLen:=grownCap_le_maxLen w 1 0 e (by simp only[maxLen];omega)
 have hsz:(Builtin.zeroCells z.cells (grownCap w 1 0 e-1)).toList.length=grownCap w 1 0 e-1:=by rw[kB,size_zeroCells,hzc];simp
 refine⟨(Builtin.zeroCells z.cells (grownCap w 1 0 e-1)).toList,w.drew.alloc (.cells ([u].toArray++Builtin.zeroCells z.cells (grownCap w 1 0 e-1)) e),?_,?_,fun x hx=>zsO (by rw[hzc]at hx;exact hx),by omega,⟨rfl,rfl,rfl,by simp,fun k hk _=>heap_alloc_old w.drew _ hk⟩⟩
 ·rw[hsz,show 1+(grownCap w 1 0 e-1)=grownCap w 1 0 e by omega]
  exact hr
 have:=heap_alloc_new w.drew (.cells ([u].toArray++Builtin.zeroCells z.cells (grownCap w 1 0 e-1)) e)
 rw[show w.heap.size=w.drew.heap.size from rfl,this]
 congr 2
 apply Array.ext'
 simp
def slsT(T:TT)(t:Nat):Bool:=match T t with
 |some { kind:=.slice e,.. }=>(match T e with
  |some ei=>Nat.beq ei.size 1&&Nat.ble ei.bytes 24&&(match ei.zero with| [z]=>isNil z| _=>false)
  |none=>false)
 | _=>false
def bslS(s:St)(i d:Nat)(l:List AV)(m:Nat):St:=((s.drop i).setOb i (some (.box (l++List.replicate m .any)))).put d (.bsl i l.length (l.length+m))
include hT
theorem zeR{t:Nat}(h:slsT T t=true):∃e info z,P.underlying t=some (.slice e)/\P.info? e=some info/\info.zero=some z/\info.size=1/\z.cells= #[.slice none 0 0]/\info.bytes<=24:=by
 unfold slsT at h
 cases ht:T t with
 |none=>simp[ht]at h
 |some ti=>
 obtain⟨size,ag,bytes,zero,kind⟩:=ti
 cases kind with
 |slice e=>
  simp only[ht]at h
  cases he:T e with
  |none=>simp[he]at h
  |some ei=>
   simp only[he,jP]at h
   obtain⟨⟨h1,h2⟩,h3⟩:=h
   obtain⟨info,d,z,hi,hd,hzz,hs1,hby,_,hzc,_⟩:=zah (hT e _ he)
   refine⟨e,info,z,za6 hT ht,hi,hzz,by rw[hs1];exact jA h1,?_,by rw[hby];exact jD h2⟩
   match hz:ei.zero,h3 with
   | [v],h3=>
    have hv:=zjl (show isNil v=true from h3)
    rw[hz,hv]at hzc
    apply Array.ext'
    exact hzc
 | _=>simp[ht]at h
theorem zsC(h:RG cx γ s a w){t ty:TypeId}{i j d n c:Nat}{x y:Value}{cs:List AV}{q:AV}(hd:d<cx.N)(ht:slsT T t=true)(hx:M w (okOf cx s γ w) γ (.bsl i n c) x)(hi:s.ob i=some (.box cs))(hc:cs.length=c)
  (hr:(cs.take n).all (fun a=>!a.hasRef i)=true)(hy:M w (okOf cx s γ w) γ (.bsl j 1 1) y)(hj:s.ob j=some (.box [q]))(hq:q.hasRef i=false)(hn:n<=1000000):
  ∃v w' m,(Builtin.append_ #[t,t] ty #[x,y]).run P w= .ok v w'/\R cx (bslS s i d (cs.take n++[q]) m) (a.put (some d) v) w':=by
 obtain⟨e,info,z,hund,hinf,hz,h1,hzc,hby⟩:=zeR hT ht
 obtain⟨b,vs,Tt,g1,g2,g3,g4⟩:=h.objs i _ hi
 obtain⟨b',e1,rfl,e3,e4⟩:=hx
 rw[g1]at e1
 obtain rfl:b=b':=by simpa using e1
 obtain⟨bj,us,Tj,j1,j2,j3,j4⟩:=h.objs j _ hj
 obtain⟨b'',e5,rfl,_,_⟩:=hy
 rw[j1]at e5
 obtain rfl:bj=b'':=by simpa using e5
 cases j4 with| @cons _ u _ us jq j5=>
 cases j5
 have hvl:vs.length=c:=by rw[<- hc];exact g4.length.symm
 have hone:∀u∈vs,u.oneCell'=true:=fun u hu=>by
  obtain⟨k,hk,rfl⟩:=kP hu
  obtain⟨y,hy,hy2⟩:=g4.get k cs[k] (kF (by rw[g4.length];exact hk))
  rw[kF hk]at hy
  rw[jak hy];exact hy2.2
 subst hvl
 obtain⟨g',rest,w',T',r1,r2,r3,r4,r5,r6⟩:=znR (P:=P) (w:=w) (ty:=ty) (c1:=1) hund hinf hz h1 hzc g3 e3 hone e4 (ad:=⟨bj,0,none⟩) (u:=u) (by simp[World.cell?,j3]) jq.2 (by simp only[maxLen];omega) (by
  have:=jbj (show n+1<=1000001 by omega) hby
  omega)
 have hlt:(cs.take n).length=n:=by rw[jQ];omega
 have noi:∀{v:AV},v.hasRef i=false->∀k∈v.refs,k≠i:=fun {v} hv k hk e=>zbX hv (e▸hk)
 have rT:∀v∈cs.take n,v.hasRef i=false:=fun v hv=>by simpa using(jC.1 hr) v hv
 refine⟨_,w',rest.length,r1,upd γ i (.pointer (some ⟨g',0,none⟩)),?_⟩
 refine(h.renewR (i:=i) (o':=.box (cs.take n++[q]++List.replicate rest.length AV.any)) (v:=.pointer (some ⟨g',0,none⟩)) (row:=some b) r5 (fun _=>zbc _ r1) (fun b2 hb=>⟨_,hi,by rw[g1];cases hb;rfl⟩) (fun b2 hb=>?_)
  (fun ok hok=>⟨g',vs.take n++u::rest,T',by rw[zac],?_,r2,?_⟩) (fun cs' hc' v hv k hk=>?_)).put (v:=.bsl i (cs.take n++[q]).length ((cs.take n++[q]).length+rest.length)) hd ⟨g',by rw[zac],?_,by omega,?_⟩ fun k hk=>?_
 ·simp[blk]at hb
  subst hb
  rcases r6 with r6|r6
  ·exact .inl (by rw[r6])
  exact .inr (by omega)
 ·rcases r6 with rfl|rfl
  ·exact g2
  exact .inl h.below.size
 ·rw[List.append_assoc]
  refine All2.append (All2.of_get (by rw[hlt,jQ];omega) fun k v y hv hy=>?_) (.cons ⟨?_,jq.2⟩ (All2.of_get (by simp) fun k v y hv hy=>?_))
  ·have hv':=kZ hv
   rw[jS]at hv hy
   split at hv
   ·rename_i hkn
    rw[kH hkn]at hy
    obtain⟨y',hy',p1,p2⟩:=g4.get k v hv
    rw[hy]at hy'
    obtain rfl:=jak hy'
    exact⟨p1.keep hok fun k' hk'=>zai _ _ (noi (rT v hv') k' hk'),p2⟩
   cases hv
  ·exact jq.1.keep hok fun k' hk'=>zai _ _ (noi hq k' hk')
  have hv:=List.eq_of_mem_replicate (kZ hv)
  subst hv
  exact⟨trivial,r3 y (kZ hy)⟩
 ·cases hc'
  rcases kL.1 hv with hv|hv
  ·rcases kL.1 hv with hv|hv
   ·exact⟨noi (rT v hv) k hk,h.refs i cs hi v (qY hv) k hk⟩
   rw[kI]at hv
   subst hv
   exact⟨noi hq k hk,h.refs j _ hj v (by simp) k hk⟩
  rw[List.eq_of_mem_replicate hv]at hk
  simp[AV.refs]at hk
 ·rw[jR,hlt];rfl
 ·rw[jR,hlt];exact r4
 simp[AV.refs]at hk
 subst hk
 show(upd (s.drop k).ob k _ k).isSome=true
 simp
theorem zpo(h:RG cx γ s a w){t ty:TypeId}{i j d:Nat}{y:Value}{q:AV}(hd:d<cx.N)(ht:slsT T t=true)(hi:s.ob i=none)
  (hy:M w (okOf cx s γ w) γ (.bsl j 1 1) y)(hj:s.ob j=some (.box [q]))(hq:q.hasRef i=false):
  ∃v w' m,(Builtin.append_ #[t,t] ty #[.slice none 0 0,y]).run P w= .ok v w'/\R cx (bslS s i d [q] m) (a.put (some d) v) w':=by
 obtain⟨e,info,z,hund,hinf,hz,h1,hzc,hby⟩:=zeR hT ht
 obtain⟨bj,us,Tj,j1,j2,j3,j4⟩:=h.objs j _ hj
 obtain⟨b'',e5,rfl,_,_⟩:=hy
 rw[j1]at e5
 obtain rfl:bj=b'':=by simpa using e5
 cases j4 with| @cons _ u _ us jq j5=>
 cases j5
 obtain⟨rest,w',r1,r2,r3,r4,r5⟩:=znS (P:=P) (w:=w) (ty:=ty) (c1:=1) hund hinf hz h1 hzc (ad:=⟨bj,0,none⟩) (u:=u) (by simp[World.cell?,j3]) (by omega)
 have noi:∀{v:AV},v.hasRef i=false->∀k∈v.refs,k≠i:=fun {v} hv k hk e=>zbX hv (e▸hk)
 refine⟨_,w',rest.length,r1,upd γ i (.pointer (some ⟨w.heap.size,0,none⟩)),?_⟩
 refine(h.renewR (i:=i) (o':=.box ([q]++List.replicate rest.length AV.any)) (v:=.pointer (some ⟨w.heap.size,0,none⟩)) (row:=none) r5 (fun _=>zbc _ r1) (fun b2 hb=>by cases hb) (fun b2 hb=>.inr (by simp[blk]at hb;omega))
  (fun ok hok=>⟨w.heap.size,u::rest,e,by rw[zac],.inl h.below.size,r2,.cons ⟨jq.1.keep hok fun k' hk'=>zai _ _ (noi hq k' hk'),jq.2⟩ (All2.of_get (by simp) fun k v y hv hy=>?_)⟩) (fun cs' hc' v hv k hk=>?_)).put (v:=.bsl i [q].length ([q].length+rest.length)) hd ⟨w.heap.size,by rw[zac],rfl,by simp,r4⟩ fun k hk=>?_
 ·have hv:=List.eq_of_mem_replicate (kZ hv)
  subst hv
  exact⟨trivial,r3 y (kZ hy)⟩
 ·cases hc'
  rcases kL.1 hv with hv|hv
  ·rw[kI]at hv
   subst hv
   exact⟨noi hq k hk,h.refs j _ hj v (by simp) k hk⟩
  rw[List.eq_of_mem_replicate hv]at hk
  simp[AV.refs]at hk
 simp[AV.refs]at hk
 subst hk
 show(upd (s.drop k).ob k _ k).isSome=true
 simp
omit hT
end
section
variable {E:Env}{s:St}{o:Oper}{K:St->Prop}
theorem CusOb.lit{t d u i:Nat}{b:Ob}{parts:Array (Nat×Operand)}(ho:o.op= .buildSlice t 1 parts)(hd:o.dst=some d)(hu:s.sl u= .own i)(hi:s.ob i=some b)(hn:s.ob d=none)
  (hl:∀y:D,buildSliceE TTab (s.put u (.d y)) t 1 parts.toList fun _ ei f=>ei.size=1/\f 0 0=y)(hk:K (((s.drop d).setOb d (some (.box [.own i]))).put d (.bsl d 1 1))):CusOb E.dr PP s o K:=
 ⟨⟨fun s'=>s'=((s.drop d).setOb d (some (.box [.own i]))).put d (.bsl d 1 1),fun cx a w _ hdd ⟨γ,h⟩=>by
  obtain⟨w',h1,h2⟩:=zsB hT h (hdd d hd) hu hi hn hl
  exact .value (x:=.slice (some ⟨w.heap.size,0,none⟩) 1 1) (w':=w') (by simp[execOp,ho,h1]) ⟨_,by rw[hd];exact h2,rfl⟩,fun s' e=>by rw[e];exact hk⟩⟩
theorem CusOb.app{t i j d n c:Nat}{x y:Operand}{cs:List AV}{q:AV}(ho:o.op= .call { callee:=.builtin .append,args:=#[x,y],argTypes:=#[t,t] })(hd:o.dst=some d)(ht:slsT TTab t=true)
  (hx:ev s x= .bsl i n c)(hi:s.ob i=some (.box cs))(hc:cs.length=c)(hr:(cs.take n).all (fun a=>!a.hasRef i)=true)(hy:ev s y= .bsl j 1 1)(hj:s.ob j=some (.box [q]))(hq:q.hasRef i=false)(hn:n<=1000000)
  (hk:∀m,K (bslS s i d (cs.take n++[q]) m)):CusOb E.dr PP s o K:=
 ⟨⟨fun s'=>∃m,s'=bslS s i d (cs.take n++[q]) m,fun cx a w _ hdd ⟨γ,h⟩=>by
  have m1:=(ev_m h x).1
  have m2:=(ev_m h y).1
  rw[hx]at m1
  rw[hy]at m2
  obtain⟨v,w',m,h1,h2⟩:=zsC hT h (ty:=o.type) (hdd d hd) ht m1 hi hc hr m2 hj hq hn
  exact .value (x:=v) (w':=w') (by simp[execOp,ho,resolve,invoke,builtin,h1]) ⟨_,by rw[hd];exact h2,m,rfl⟩,fun s' ⟨m,e⟩=>by rw[e];exact hk m⟩⟩
theorem CusOb.app0{t i j d:Nat}{x y:Operand}{q:AV}(ho:o.op= .call { callee:=.builtin .append,args:=#[x,y],argTypes:=#[t,t] })(hd:o.dst=some d)(ht:slsT TTab t=true)
  (hx:ev s x= .nilsl)(hi:s.ob i=none)(hy:ev s y= .bsl j 1 1)(hj:s.ob j=some (.box [q]))(hq:q.hasRef i=false)
  (hk:∀m,K (bslS s i d [q] m)):CusOb E.dr PP s o K:=
 ⟨⟨fun s'=>∃m,s'=bslS s i d [q] m,fun cx a w _ hdd ⟨γ,h⟩=>by
  have m1:=(ev_m h x).1
  have m2:=(ev_m h y).1
  rw[hx]at m1
  rw[hy]at m2
  have m1:a.eval x= .slice none 0 0:=m1
  obtain⟨v,w',m,h1,h2⟩:=zpo hT h (ty:=o.type) (hdd d hd) ht hi m2 hj hq
  exact .value (x:=v) (w':=w') (by simp[execOp,ho,resolve,invoke,builtin,m1,h1]) ⟨_,by rw[hd];exact h2,m,rfl⟩,fun s' ⟨m,e⟩=>by rw[e];exact hk m⟩⟩
theorem CusOb.mv{d:Nat}{x:Operand}(ho:o.op= .assign x)(hd:o.dst=some d)(hk:K (s.put d (ev s x))):CusOb E.dr PP s o K:=
 ⟨⟨fun s'=>s'=s.put d (ev s x),fun cx a w _ hdd ⟨γ,h⟩=>by
  exact .value (x:=a.eval x) (w':=w) (by simp[execOp,ho]) ⟨_,⟨γ,by rw[hd];exact h.put (hdd d hd) (ev_m h x).1 (ev_m h x).2⟩,rfl⟩,fun s' e=>by rw[e];exact hk⟩⟩
theorem CusOb.lit1{t d r e:Nat}{f:Nat->Nat->D}{parts:Array (Nat×Operand)}(ho:o.op= .buildSlice t 1 parts)(hd:o.dst=some d)(hl:buildSliceE TTab s t 1 parts.toList fun e' ei f'=>(e'=e/\ei.size=1)/\f'=f)
  (hk:K (((s.drop r).setOb r (some (.row e 1 1 f))).put d (.own r))):CusOb E.dr PP s o K:=
 ⟨⟨fun s'=>s'=((s.drop r).setOb r (some (.row e 1 1 f))).put d (.own r),fun cx a w _ hdd ⟨γ,h⟩=>by
  obtain⟨e',ei,f',xs,⟨⟨rfl,e1⟩,rfl⟩,h1,h2,h3,h4,h5,h6⟩:=zaO hT h hl
  have hb:=zaq w (.cells xs.toArray e')
  have hg:w.grownBy (w.alloc (.cells xs.toArray e')) none:=⟨hb.os,hb.tape,hb.output,hb.size,fun k hk _=>hb.block k hk⟩
  rw[e1]at h2 h6
  refine .value (x:=.slice (some ⟨w.heap.size,0,none⟩) 1 1) (w':=w.alloc (.cells xs.toArray e')) (by simp[execOp,ho,h1]) ⟨_,⟨upd γ r (.slice (some ⟨w.heap.size,0,none⟩) 1 1),?_⟩,rfl⟩
  rw[hd]
  refine(h.renewR (i:=r) (o':=.row e' 1 1 f') (v:=.slice (some ⟨w.heap.size,0,none⟩) 1 1) (row:=none) hg (fun _=>jE _) (fun b hb=>by cases hb) (fun b hb=>.inr (by simp[blk]at hb;omega))
   (fun ok hok=>⟨xs,⟨h2,.inr ⟨w.heap.size,1,xs.toArray,by rw[zac],jF _,heap_alloc_new w _,jE _,by simp only[maxLen];omega,by simp[h2],by rw[<- h2];simp⟩⟩,(fun b hb=>by rw[zac]at hb;simp[blk]at hb;subst hb;exact .inl h.below.size),h5,fun m hm j hj=>?_⟩)
   (fun cs hc=>by cases hc)).put (v:=.own r) (hdd d hd) (by show _=upd γ r _ r;simp) fun j hj=>?_
  ·obtain⟨u,hu,hr⟩:=h6 m hm j hj
   exact⟨u,hu,Rep.keep hok hr⟩
  simp[AV.refs]at hj
  subst hj
  show(upd (s.drop j).ob j _ j).isSome=true
  simp,fun s' e=>by rw[e];exact hk⟩⟩
end
theorem clT{i m:Nat}{cs:List AV}{r:List (Nat×Ob)}{sl:List (Nat×AV)}(h1:closedS ((i,.box (cs++List.replicate m .any))::r) sl=true)(h2:(cs.all (fun c=>hasAll ((i,.box (cs++List.replicate m .any))::r) c.refs)&&closedO ((i,.box (cs++List.replicate m .any))::r) r)=true):
  (closedS ((i,.box (cs++List.replicate m .any))::r) sl&&closedO ((i,.box (cs++List.replicate m .any))::r) ((i,.box (cs++List.replicate m .any))::r))=true:=by
 rw[jP]at h2
 rw[h1,qE]
 show((cs++List.replicate m AV.any).all (fun c=>hasAll _ c.refs)&&_)=true
 rw[List.all_append,h2.1,h2.2,qE,jac,jC]
 intro c hc
 rw[List.eq_of_mem_replicate hc];rfl
theorem obNz{e k:Nat}{f:Nat->Nat->D}{s:St}{ob:Nat->Option Ob}{o:Option Ob}(h:o=none):Oble s ob o (.row e k 0 f):=by subst h;rfl
theorem avBs{s:St}{ob:Nat->Option Ob}{v:AV}{i n c m:Nat}{cs:List AV}{f:Nat->Nat->D}(h0:v= .bsl i n c)(h1:s.ob i=some (.box cs))(h2:ob i=none)(hn:m=n)(h:∀j,j<n->∃x,cs[j]?=some x/\dle s ob x (f j 0)):
  AVle s ob v (.d (.slc 1 m f)):=by subst h0;exact⟨⟨rfl,hn⟩,h2,cs,h1,h⟩
structure JnOk(j:Jns):Prop where
  F:j.F.length<=1000000
  M:j.M.length<=1000000
  f:∀f∈j.F,f.IDs.length<=1000000
  m:∀m∈j.M,m.IDs.length<=1000000/\m.R.length<=1000000
theorem JnOk.get{j:Jns}(h:JnOk j){i:Nat}(hi:i<j.F.length):(j.F.getD i default).IDs.length<=1000000:=by
 refine h.f _ ?_
 rw[hZ,kF hi];exact kR hi
abbrev Fit.ds(f:Fit):List D:=[lI f.IDs,I f.At.X,I f.At.Y]
abbrev Jns.ds(j:Jns):List D:=[lFt j.F,lMs j.M]
structure JnLt(n:Nat)(j:Jns):Prop where
  F:j.F.length<=n
  M:j.M.length<=n
  f:∀f∈j.F,f.IDs.length<=n
  m:∀m∈j.M,m.IDs.length<=n/\m.R.length<=n
theorem JnLt.ok{n:Nat}{j:Jns}(h:JnLt n j)(hn:n<=1000000):JnOk j:=⟨jM h.F hn,jM h.M hn,fun f hf=>jM (h.f f hf) hn,fun m hm=>⟨jM (h.m m hm).1 hn,jM (h.m m hm).2 hn⟩⟩
def ownC:Nat->List AV
 |1=>[.own 1001]
 |2=>[.own 1001,.own 1002]
 |3=>[.own 1001,.own 1002,.own 1003]
 |4=>[.own 1001,.own 1002,.own 1003,.own 1004]
 |5=>[.own 1001,.own 1002,.own 1003,.own 1004,.own 1005]
 | _=>[]
abbrev rwZ(l:List Int):Ob:=.row 3 1 l.length (rowI l)
abbrev ownR(g:Nat->List Int):List (Nat×Ob):=[(1001,rwZ (g 0)),(1002,rwZ (g 1)),(1003,rwZ (g 2)),(1004,rwZ (g 3)),(1005,rwZ (g 4))]
abbrev Tag(_:Nat):Prop:=True
abbrev fm{n:Nat}(_:Tag n):Nat:=n
def yesB(l:List (List (List Int)))(a b:Int):Bool:=(vdtR l a b).Ans==2
def grp1(l:List (List (List Int)))(o:List (List Int))(id:Int):List (List Int):=
 if idxL (fun g=>yesB l (g.getD 0 0) id) o<0 then o++[[id]]else o.set (idxL (fun g=>yesB l (g.getD 0 0) id) o).toNat (o.getD (idxL (fun g=>yesB l (g.getD 0 0) id) o).toNat []++[id])
def grpK(l:List (List (List Int)))(ids:List Int)(i:Nat):List (List Int):=(ids.take i).foldl (grp1 l) []
theorem zg1(l:List (List (List Int))){ids:List Int}{i:Nat}(h:i<ids.length):grpK l ids (i+1)=grp1 l (grpK l ids i) (ids.getD i 0):=by
 unfold grpK
 rw[zav h 0,wJ];rfl
def grpR(d:Day):List (List Int)×Int:=if dayE d≠0 then([],dayE d)else if(bsts d).length=0 then([],9)else(grpK (bsts d) (sigL d.R) (sigL d.R).length,0)
def outA(m:Nat):Nat->AV
 |0=>.nilsl
 |n+1=>.bsl 1000 (n+1) (n+1+m)
def outO(m:Nat)(g:Nat->List Int):Nat->List (Nat×Ob)
 |0=>ownR g
 |n+1=>(1000,.box (ownC (n+1)++List.replicate m .any))::ownR g
theorem zr6{l:List (List (List Int))}{o:List (List Int)}{id:Int}{j:Nat}(hj:j<o.length)(hy:yesB l ((o.getD j []).getD 0 0) id=true)(hno:∀q,q<j->yesB l ((o.getD q []).getD 0 0) id=false):grp1 l o id=o.set j (o.getD j []++[id]):=by
 have e:=zaj (p:=fun g:List Int=>yesB l (g.getD 0 0) id) (l:=o) [] hj hy hno
 unfold grp1
 rw[e,kG (by omega),wB]
theorem zul{l:List (List (List Int))}{o:List (List Int)}{id:Int}(hno:∀q,q<o.length->yesB l ((o.getD q []).getD 0 0) id=false):grp1 l o id=o++[[id]]:=by
 unfold grp1
 rcases idxL_cases (fun g:List Int=>yesB l (g.getD 0 0) id) o []with⟨e,-⟩|⟨k,hk,e,e1,-⟩
 ·rw[kH (by rw[e];decide)]
 have:=hno k hk
 have e1:yesB l ((o.getD k []).getD 0 0) id=true:=e1
 rw[this]at e1;cases e1
theorem zmE{α:Type}{l:List α}{x d:α}{q:Nat}(h:q<=l.length):(l++[x]).getD q d=if q=l.length then x else l.getD q d:=by
 rw[hZ]
 split
 ·rename_i e
  rw[jK (by omega),e,kE];rfl
 rw[jJ (by omega),<- hZ]
theorem obXt{s:St}{ob:Nat->Option Ob}{o:Option Ob}{l:List AV}{i m:Nat}(h:o=some (.box (l++(List.replicate m AV.any).map (AV.purge i)))):Oble s ob o (.box (l++List.replicate m AV.any)):=by
 have e:(List.replicate m AV.any).map (AV.purge i)=List.replicate m AV.any:=by rw[List.map_replicate];rfl
 rw[e]at h
 exact obX h
theorem lit1R{f:Nat->Nat->D}{x:Int}(h:f 0 0=I x):D.eqv (.slc 1 1 f) (.slc 1 [x].length (rowI [x])):=⟨rfl,.inr ⟨rfl,fun a ha j hj=>by
 obtain rfl:a=0:=by omega
 obtain rfl:j=0:=by omega
 rw[h];exact dE _⟩⟩
theorem zoO(d:Day)(hn:d.R.length<=1000000)(h5':dayE d=0->(sigL d.R).length<=5):Spec PP 9 [d.v] [.d (lII (grpR d).1),.d (.int .i64 (grpR d).2)]:=by
  refine zb9 [19,3000000007,3000000057,3000000058,3000000059] Tryz.func9 rfl (by kernel_rfl) rfl ?_
  refine cP (zcu d hn) rfl rfl ?_
  unfold grpR
  apply bY<;>intro h0
  · rw[kH (by simpa using h0)]
    exact⟨⟨_,_,_,_,rfl,rfl,.inl rfl⟩,rtI rfl rfl,trivial⟩
  have h0:dayE d=0:=by simpa using h0
  have h5:=h5' h0
  have h:=zaN h0
  rw[kG (fun hh=>hh h0)]
  refine cR (zeb h) rfl rfl ?_
  by_cases h2:(bsts d).length=0
  · have e:bsR d=([],9):=by unfold bsR;rw[kH h2]
    rw[e,kH h2]
    refine sT ?_
    exact⟨⟨_,_,_,_,rfl,rfl,.inl rfl⟩,rtI rfl rfl,trivial⟩
  have e:bsR d=(bsts d,0):=by unfold bsR;rw[kG h2]
  rw[e,kG h2]
  refine sF ?_
  have hl:(bsts d).length<=1000000:=by have:(bsts d).length<=(parts d).length:=zcS (parts d);have:=zbU h;omega
  have hp:∀p∈bsts d,p.length<=1000000/\∀s∈p,s.length<=1000000:=fun p hp=>by
    have:=zbT h (zcj hp)
    exact⟨by omega,fun s hs=>by have:=this.2 s hs;omega⟩
  generalize bsts d=l at*
  refine CusOb.mv rfl rfl ?_
  refine cR (za7 d hn) rfl rfl ?_
  generalize sigL d.R=ids at*
  refine lOf (σ:=Nat×Nat×Nat×(Nat->List Int)) (fun x=>([(5,.d (lPP l)),(7,outA x.2.2.1 x.2.1),(26,.d (lI ids)),(27,.d (I ids.length)),(28,.d (I x.1))],outO x.2.2.1 x.2.2.2 x.2.1))
    (fun x=>x.1<=ids.length/\x.2.1=(grpK l ids x.1).length/\(∀q,q<x.2.1->x.2.2.2 q=(grpK l ids x.1).getD q []/\0<(x.2.2.2 q).length)/\(∀q,(x.2.2.2 q).length<=x.1)/\x.2.1<=x.1) (fun x=>ids.length-x.1) (0,0,0,fun _=>[])
    ⟨rfl,⟨obNz rfl,obNz rfl,obNz rfl,obNz rfl,obNz rfl,trivial⟩,wq rfl⟩ ⟨jF _,rfl,fun q hq=>absurd hq (qJ _),fun q=>jE _,jE _⟩ fun x hx=>?_
  obtain⟨i,n,m,g⟩:=x
  obtain⟨i1,i2,i3,i4,i5⟩:i<=ids.length/\n=(grpK l ids i).length/\(∀q,q<n->g q=(grpK l ids i).getD q []/\0<(g q).length)/\(∀q,(g q).length<=i)/\n<=i:=hx
  apply bY<;>intro g0
  · have gi:i<ids.length:=by have:=dT g0;omega
    have nx:=zg1 l gi
    refine⟨⟨rfl,by omega,(show(i:Int)<(ids.length:Int)by omega)⟩,?_⟩
    have hn5:n=0\/n=1\/n=2\/n=3\/n=4:=by omega
    have tg:Tag n:=trivial
    have ft:fm tg=n:=rfl
    rcases hn5 with rfl|rfl|rfl|rfl|rfl
    all_goals
      have oL:(grpK l ids i).length=fm tg:=i2.symm
      refine lOf (σ:=Nat) (fun j=>([(5,.d (lPP l)),(7,outA m (fm tg)),(9,.d (I (ids.getD i 0))),(26,.d (lI ids)),(27,.d (I ids.length)),(28,.d (I i)),(32,outA m (fm tg)),(33,.d (I (fm tg))),(34,.d (I j))],outO m g (fm tg)))
        (fun j=>j<=fm tg/\∀q,q<j->yesB l ((g q).getD 0 0) (ids.getD i 0)=false) (fun j=>fm tg-j) 0
        ⟨?_,?_,wq rfl⟩ z0L fun j hj=>?_
      · first|exact rfl|exact clT rfl rfl
      · first|exact⟨obX rfl,obR rfl (dE _),obR rfl (dE _),obR rfl (dE _),obR rfl (dE _),obR rfl (dE _),trivial⟩|exact⟨obR rfl (dE _),obR rfl (dE _),obR rfl (dE _),obR rfl (dE _),obR rfl (dE _),trivial⟩
      obtain⟨j1,j2⟩:=hj
      apply bY<;>intro k1
      · have k1:j<fm tg:=by have:=dT k1;omega
        have hj5:j=0\/j=1\/j=2\/j=3:=by omega
        have tj:Tag j:=trivial
        have fj:fm tj=j:=rfl
        rcases hj5 with rfl|rfl|rfl|rfl
        all_goals first|(exfalso;omega)|skip
        all_goals
          obtain⟨q1,q2⟩:=i3 (fm tj) k1
          have q3:(g (fm tj)).length<=i:=i4 (fm tj)
          refine⟨⟨by omega,by show((fm tj:Nat):Int)<((fm tg:Nat):Int);omega⟩,?_⟩
          refine⟨⟨by decide,(show(0:Int)<((g (fm tj)).length:Int)by omega)⟩,?_⟩
          refine⟨(show 0<(g (fm tj)).length from q2),?_⟩
          refine cR (zgV l ((g (fm tj)).getD 0 0) (ids.getD i 0) hl hp) rfl rfl ?_
          apply bY<;>intro k2
          · have k2:yesB l ((g (fm tj)).getD 0 0) (ids.getD i 0)=true:=k2
            have tm:Tag m:=trivial
            rcases m with _|m
            all_goals
             refine⟨⟨.inr rfl,(show(g (fm tj)).length+1<=maxLen by unfold maxLen;omega),(show((g (fm tj)).length+1)*8<=140737488355328 by omega)⟩,?_⟩
             refine⟨⟨by omega,by show((fm tj:Nat):Int)<((fm tg:Nat):Int);omega⟩,?_⟩
             refine Eq.mpr (zcf _ _) ?_
             refine⟨i6,?_⟩
             have eN:grpK l ids (i+1)=(grpK l ids i).set (fm tj) ((grpK l ids i).getD (fm tj) []++[ids.getD i 0]):=by
               rw[nx]
               exact zr6 (by omega) (by rw[<- q1];exact k2) fun q hq=>by rw[<- (i3 q (by omega)).1];exact j2 q hq
             refine⟨(i+1,fm tg,fm tm,fun q=>if q=fm tj then g (fm tj)++[ids.getD i 0]else g q),⟨?_,⟨?_,?_,?_,?_,?_,?_,trivial⟩,wq rfl⟩,⟨gi,?_,fun q hq=>?_,fun q=>?_,(show fm tg<=i+1 by omega)⟩,msr gi⟩
             · first|exact clT rfl rfl|exact rfl
             · first|exact obX rfl|exact obXt rfl
             iterate 5 (first|exact obR rfl (dE _)|exact obR rfl (zlu rfl))
             · show fm tg=(grpK l ids (i+1)).length
               rw[eN,jal];exact i2
             · show(if q=fm tj then g (fm tj)++[ids.getD i 0]else g q)=(grpK l ids (i+1)).getD q []/\0<(if q=fm tj then g (fm tj)++[ids.getD i 0]else g q).length
               rw[eN,zbn _ _ _ _ _ (by omega)]
               by_cases e:q=fm tj
               · rw[kH e,kH e,<- q1];exact⟨rfl,by simp⟩
               rw[kG e,kG e];exact i3 q hq
             show(if q=fm tj then g (fm tj)++[ids.getD i 0]else g q).length<=i+1
             have h1:(g q).length<=i:=i4 q
             split
             · rw[jR,qR];omega
             omega
          have k2:yesB l ((g (fm tj)).getD 0 0) (ids.getD i 0)=false:=k2
          refine⟨i6,?_⟩
          refine⟨fm tj+1,⟨?_,?_,wq rfl⟩,⟨k1,fun q hq=>?_⟩,msr k1⟩
          · exact clT rfl rfl
          · exact⟨obX rfl,obR rfl (dE _),obR rfl (dE _),obR rfl (dE _),obR rfl (dE _),obR rfl (dE _),trivial⟩
          by_cases e:q=fm tj
          · rw[e];exact k2
          exact j2 q (by omega)
      have k1:j=fm tg:=by have:=dF k1;omega
      subst k1
      have eN:grpK l ids (i+1)=grpK l ids i++[[ids.getD i 0]]:=by
        rw[nx]
        exact zul fun q hq=>by rw[<- (i3 q (by omega)).1];exact j2 q (by omega)
      refine CusOb.lit1 (r:=1001+fm tg) rfl rfl ⟨⟨rfl,rfl⟩,rfl⟩ ?_
      refine CusOb.lit (u:=57) (i:=1001+fm tg) rfl rfl rfl rfl rfl (fun y=>⟨rfl,rfl⟩) ?_
      first|refine CusOb.app0 (i:=1000) rfl rfl (by kernel_rfl) rfl rfl rfl rfl rfl (fun m'=>?_)|refine CusOb.app (i:=1000) rfl rfl (by kernel_rfl) rfl rfl (by rw[kO,kO,jR,List.length_replicate];rfl) rfl rfl rfl rfl (by decide) (fun m'=>?_)
      refine CusOb.mv rfl rfl ?_
      refine⟨i6,?_⟩
      refine⟨(i+1,fm tg+1,m',fun q=>if q=fm tg then [ids.getD i 0]else g q),⟨clT rfl rfl,⟨obX rfl,?_,?_,?_,?_,?_,trivial⟩,wq rfl⟩,⟨gi,?_,fun q hq=>?_,fun q=>?_,(show fm tg+1<=i+1 by omega)⟩,msr gi⟩
      iterate 5 (first|exact obR rfl (dE _)|exact obR rfl (lit1R rfl))
      · show fm tg+1=(grpK l ids (i+1)).length
        rw[eN,jR,oL];rfl
      · have hq:q<fm tg+1:=hq
        show(if q=fm tg then [ids.getD i 0]else g q)=(grpK l ids (i+1)).getD q []/\0<(if q=fm tg then [ids.getD i 0]else g q).length
        rw[eN,zmE (by omega),oL]
        by_cases e:q=fm tg
        · rw[kH e,kH e];exact⟨rfl,Nat.lt_succ_self 0⟩
        rw[kG e,kG e];exact i3 q (by omega)
      show(if q=fm tg then [ids.getD i 0]else g q).length<=i+1
      have h1:(g q).length<=i:=i4 q
      split
      · exact Nat.le_add_left 1 i
      omega
  have gi:i=ids.length:=by have:=dF g0;omega
  subst gi
  have hn5:n=0\/n=1\/n=2\/n=3\/n=4\/n=5:=by omega
  have tg:Tag n:=trivial
  have ft:fm tg=n:=rfl
  rcases hn5 with rfl|rfl|rfl|rfl|rfl|rfl
  all_goals
    refine kAt [(7,.d (lII (grpK l ids ids.length)))] [] ⟨rfl,trivial,?_,trivial⟩ ?_
    · first
        |exact i2.symm
        |refine avBs rfl rfl rfl i2.symm fun j hj=>?_
         have hj:j<fm tg:=hj
         have hj5:j=0\/j=1\/j=2\/j=3\/j=4:=by omega
         rcases hj5 with rfl|rfl|rfl|rfl|rfl
         all_goals first|(exfalso;omega)|skip
         all_goals exact⟨_,rfl,rfl,_,_,_,_,rfl,by rw[<- (i3 _ hj).1];exact dE _⟩
    exact⟨dE _,rtI rfl rfl,trivial⟩
structure Rl where
  At:Place
  Z:List Int
  deriving Inhabited
abbrev Rl.ds(x:Rl):List D:=[I x.At.X,I x.At.Y,lI x.Z]
abbrev Rl.v(x:Rl):V1:=.agg x.ds
@[irreducible] def det(g h:Half):Int:=g.A*h.B-h.A*g.B
abbrev Form:=Place
@[irreducible] def value(f:Form)(p:Corner):Frac:=let n:=f.X*p.X+f.Y*p.Y;let g:Int:=gcdL [n,p.Den];⟨n.tdiv g,p.Den.tdiv g⟩
def sidesL:List Half:=[⟨-1,0,0⟩,⟨1,0,48⟩,⟨0,-1,0⟩,⟨0,1,48⟩]
def leC(p q:Corner):Prop:=p.X*q.Den<q.X*p.Den\/(p.X*q.Den=q.X*p.Den/\p.Y*q.Den<=q.Y*p.Den)
theorem zgr{p:Corner}(h:valid p=true):Nat.gcd (Nat.gcd p.X.natAbs p.Y.natAbs) p.Den.natAbs=1:=by
 unfold valid at h
 simp only[jP,jai]at h
 have:=h.2
 simp only[gcdL,jaE,List.foldl_nil,Nat.gcd_zero_left]at this
 exact_mod_cast this
theorem zgS{p q:Corner}(hp:valid p=true)(hq:valid q=true)(h1:leC p q)(h2:leC q p):p=q:=by
 have dp:=(zlO hp).d
 have dq:=(zlO hq).d
 have ex:p.X*q.Den=q.X*p.Den:=by unfold leC at*;omega
 have ey:p.Y*q.Den=q.Y*p.Den:=by unfold leC at*;omega
 have nx:p.X.natAbs*q.Den.natAbs=q.X.natAbs*p.Den.natAbs:=by rw[<- Int.natAbs_mul,<- Int.natAbs_mul,ex]
 have ny:p.Y.natAbs*q.Den.natAbs=q.Y.natAbs*p.Den.natAbs:=by rw[<- Int.natAbs_mul,<- Int.natAbs_mul,ey]
 have g1:Nat.gcd (Nat.gcd (p.X.natAbs*q.Den.natAbs) (p.Y.natAbs*q.Den.natAbs)) (p.Den.natAbs*q.Den.natAbs)=q.Den.natAbs:=by
  rw[Nat.gcd_mul_right,Nat.gcd_mul_right,zgr hp,Nat.one_mul]
 have g2:Nat.gcd (Nat.gcd (q.X.natAbs*p.Den.natAbs) (q.Y.natAbs*p.Den.natAbs)) (q.Den.natAbs*p.Den.natAbs)=p.Den.natAbs:=by
  rw[Nat.gcd_mul_right,Nat.gcd_mul_right,zgr hq,Nat.one_mul]
 rw[nx,ny,qM p.Den.natAbs,g2]at g1
 have ed:p.Den=q.Den:=by omega
 have hx:p.X=q.X:=by
  rw[ed]at ex
  exact Int.eq_of_mul_eq_mul_right (by omega) ex
 have hy:p.Y=q.Y:=by
  rw[ed]at ey
  exact Int.eq_of_mul_eq_mul_right (by omega) ey
 cases p;cases q;simp_all
abbrev VC:={ p:Corner//valid p=true }
theorem VC.den(p:VC):0<p.1.Den:=by have:=(zlO p.2).d;omega
abbrev Num.v(x:Num):V1:=.agg [I x.n,I x.h.A,I x.h.B,I x.h.C]
def Num.val(x:Num):Value:=.agg #[.int .i64 x.n,.int .i64 x.h.A,.int .i64 x.h.B,.int .i64 x.h.C]
def Num.sl(l:List Num):D:=.slc 4 l.length fun i=>(l.getD i default).at
@[irreducible] def keepC(l:List Corner)(i:Nat):Bool:=i==0|| !(l.getD i default==l.getD (i-1) default)
theorem keep0(l:List Corner){i:Nat}(h:i<1):keepC l i=true:=by
 obtain rfl:i=0:=by omega
 unfold keepC;rfl
theorem zhh{l:List Half}(h:checkL l=0):l.length<=40/\(∀x∈l,fit x=true)/\∀x∈l,okH x:=by
 unfold checkL at h
 split at h
 ·cases h
 split at h
 ·rename_i h1 h2
  have h3:∀x∈l,fit x=true:=jC.1 h2
  exact⟨by omega,h3,fun x hx=>ztV (h3 x hx)⟩
 cases h
end Go.Pg
