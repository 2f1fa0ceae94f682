/- Lemmas, joined by program. -/
import Derived.Test.YtcmghlfakcppkaaGreatJ3
set_option maxHeartbeats 4000000
set_option linter.all false
namespace Go.Pg
open Go.RowKit
section
variable {P:Program}{T:TT}{E:Env}{cx:Cx}{γ:Nat->Value}{s:St}{a:Act}{w:World}
theorem zrJ(h:RG cx γ s a w){d e k:Nat}(hd:d<cx.N):R cx (mk s d (.row e k 0 fun _ _=>dflt) (.own d)) (a.put (some d) (.slice none 0 0)) w:=
 ⟨upd γ d (.slice none 0 0),zgO h hd (Below.refl _ _) (fun _=>jE _) (fun b hb=>by simp[blk]at hb) (fun ok hok=>⟨[],by rw[zac];exact World.ownsRow_nil w _ e k,(fun b hb=>by rw[zac]at hb;cases hb),by simp,fun m hm=>absurd hm (qJ _)⟩) (fun cs e=>by cases e) (fun _=>by show _=upd γ d _ d;simp) (fun j hj=>by simpa [AV.refs]using hj)⟩
theorem zky{ok:Nat->Prop}{γ:Nat->Value}:∀{zs:List Value},zs.all (·.oneCell')=true->All2 (fun c v=>M w ok γ c v/\v.oneCell'=true) (zs.map cv) zs
 | [],_=>.nil
 |z::zs,h=>by
  simp only[jaA,jP]at h
  exact .cons ⟨(cv_m z).1,h.1⟩ (zky h.2)
theorem zlV(h:RG cx γ s a w){d:Nat}{t:TypeId}{cs:List AV}{vs:List Value}(hd:d<cx.N)(hcs:∀(ok:Nat->Prop) (γ':Nat->Value) (w':World),(∀b,okOf cx s γ w b->ok b/\w'.heap[b]?=w.heap[b]?)->All2 (fun c v=>M w' ok γ' c v/\v.oneCell'=true) cs vs)(hr:∀c∈cs,c.refs=[]):
  R cx (mk s d (.box cs) (.box d 0)) (a.put (some d) (.pointer (some ⟨w.heap.size,0,none⟩))) (w.alloc (.cells vs.toArray t)):=
 ⟨upd γ d (.pointer (some ⟨w.heap.size,0,none⟩)),zgO h hd (zaq w _) (fun _=>jE _) (fun b hb=>by simp[blk]at hb;omega)
  (fun ok hok=>⟨w.heap.size,vs,t,by rw[zac],.inl h.below.size,heap_alloc_new w _,hcs ok _ _ hok⟩) (fun cs' e=>by cases e;exact hr) (fun _=>⟨w.heap.size,by rw[zac],rfl⟩) (fun j hj=>by simpa [AV.refs]using hj)⟩
variable (hT:∀t i,T t=some i->TI.of P t=some i)(hE:∀t,E.eq t=true->EqFact P t)
include hT hE
variable (hD:cx.dr=true->E.dr=true)
include hD
theorem zmW(h:RG cx γ s a w){o:Oper}{fo:Operand}{args:Array Operand}{at':Array TypeId}(hop:o.op= .call { callee:=.value fo,args,argTypes:=at' })(hd:∀d,o.dst=some d->d<cx.N){K:St->Prop}
  (hc:CallSt E P s o fo args.toList K)(hny:¬YieldOb E s o fo args.toList K/\¬CallY E P s o fo args.toList K):OpOK P o a w fun a' w'=>∃s',R cx s' a' w'/\K s':=by
 simp only[zag]at hc
 rcases hc with⟨ids,f,ex,hcal,hc⟩|⟨ids,f,ex,d,hcal,hdst,hc⟩|⟨s',hc,hK⟩|hc|hc
 ·obtain⟨γ',h'⟩:=R.freezes ids ⟨γ,h⟩
  obtain⟨cvs,hx,hcm⟩:=za1 hcal (ev_m h' fo).1
  obtain⟨hent,hcall⟩:=zig h' hD (o:=o) ((zbN h' args.toList).append hcm) hd hc
  exact .enter (zaD hop hx hent) (hcall.mono fun e w' ⟨v,h1,u,h2,h3⟩=>⟨v,h1,_,⟨γ',h2⟩,h3⟩)
 ·obtain⟨γ',h'⟩:=R.freezes ids ⟨γ,h⟩
  obtain⟨cvs,hx,hcm⟩:=za1 hcal (ev_m h' fo).1
  obtain⟨hent,hcall⟩:=zi6 h' hdst hD ((zbN h' args.toList).append hcm) (hd d hdst) hc
  exact .enter (zaD hop hx hent) (hcall.mono fun e w' ⟨v,h1,ob,r,h2,h3⟩=>⟨v,h1,_,h2,h3⟩)
 ·simp only[zfk]at hc
  exact(hc cx a w hD hd ⟨γ,h⟩).mono fun a' w' h'=>⟨s',h',hK⟩
 ·exact absurd hc hny.1
 exact absurd hc hny.2
theorem zhv(h0:R cx s a w){o:Oper}(hd:∀d,o.dst=some d->d<cx.N){K:St->Prop}(hny:∀fo args at',o.op= .call { callee:=.value fo,args,argTypes:=at' }->¬YieldOb E s o fo args.toList K/\¬CallY E P s o fo args.toList K)(hl:stE P T E s o K):OpOK P o a w fun a' w'=>∃s',R cx s' a' w'/\K s':=by
 obtain⟨γ,h⟩:=h0
 have plain:∀{s:St}{γ:Nat->Value},RG cx γ s a w->(opE P T E s o.op fun v=>K (s.putO o.dst v))->OpOK P o a w fun a' w'=>∃s',R cx s' a' w'/\K s':=fun {s γ} h he=>
  (zlK hT hE hD h hd he).mono fun a' w' ⟨v,h1,h2⟩=>⟨_,⟨γ,h1⟩,h2⟩
 have cust:(∃s',Custom E.dr P s o s'/\K s')->OpOK P o a w fun a' w'=>∃s',R cx s' a' w'/\K s':=fun⟨s',hc,hK⟩=>by
  simp only[zfk]at hc
  exact(hc cx a w hD hd ⟨γ,h⟩).mono fun a' w' h'=>⟨s',h',hK⟩
 obtain⟨dst,op,type,pos,after,guard⟩:=o
 cases op with
 |alloc t=>
  simp only[stE]at hl
  cases dst with
  |none=>simp at hl
  |some d=>
   cases ht:T t with
   |none=>simp[ht]at hl
   |some ti=>
    simp only[ht]at hl
    cases hb:ti.zero.all (·.oneCell')with
    |false=>simp[hb]at hl
    |true=>
     simp only[hb,kT]at hl
     obtain⟨info,ds,z,hi,hds,hz,_,_,_,hzc,_⟩:=zah (hT t _ ht)
     refine .value (x:=.pointer (some ⟨w.heap.size,0,none⟩)) (w':=w.alloc (.cells ti.zero.toArray t)) ?_ ⟨_,zlV h (vs:=ti.zero) (t:=t) (hd d rfl) (fun ok γ' w' _=>zky hb) (fun c hc=>by obtain⟨v,_,rfl⟩:=kJ.1 hc;exact(cv_m (w:=w) (ok:=fun _=>True) (γ:=γ) v).2),hl⟩
     have hzero:(zeroValue t).run P w= .ok z w:=by simp[zeroValue,typeInfo,hi,hz]
     have hzv:z.cells=ti.zero.toArray:=by rw[<- hzc]
     simp only[execOp,Instr.alloc,Sem.run_bind,hzero,Result.andThen_ok,newVar,newRow,run_newObj,Sem.run_pure,hzv]
     rfl
 |box t x=>
  simp only[stE]at hl
  cases dst with
  |none=>simp at hl
  |some d=>
   cases ht:T t with
   |none=>simp[ht]at hl
   |some ti=>
    cases hc:cellsA (ev s x)with
    |none=>simp[ht,hc]at hl
    |some cs=>
     simp only[ht,hc]at hl
     cases hb:(Nat.beq cs.length ti.size&&cs.all fun c=>c.refs.isEmpty)with
     |false=>simp[hb]at hl
     |true=>
      simp only[hb,kT]at hl
      simp only[jP]at hb
      have hx:=ev_m h x
      have hrefs:∀c∈cs,c.refs=[]:=fun c hc=>by have:=jC.1 hb.2 c hc;simpa using this
      obtain⟨hm,_⟩:=zjJ hc hx.1 fun i hi u hu=>by rw[hu];exact zlG h (hx.2 i hi)
      refine .value (x:=.pointer (some ⟨w.heap.size,0,none⟩)) (w':=w.alloc (.cells (a.eval x).cells.toList.toArray t)) ?_ ⟨_,zlV h (t:=t) (vs:=(a.eval x).cells.toList) (hd d rfl) (fun ok γ' w' hok=>hm.imp fun c v hc' ⟨p1,p2⟩=>⟨p1.keep hok (fun j hj=>(by rw[hrefs c hc']at hj;cases hj)),p2⟩) hrefs,hl⟩
      simp only[execOp,Instr.box,Sem.run_bind,newVar,newRow,run_newObj,Result.andThen_ok,Sem.run_pure,jaa]
      rfl
 |store t x y=>
  simp only[stE]at hl
  cases dst with
  |some d=>simp at hl
  |none=>
   obtain⟨w',s',h1,h2,h3⟩:=zkW hT h (ev_m h x).1 (ev_m h y).1 (ev_m h y).2 hl
   exact .skip (w':=w') (by simp[execOp,h1]) ⟨s',⟨γ,h2⟩,h3⟩
 |buildSlice t len parts=>
  simp only[stE]at hl
  cases dst with
  |none=>simp at hl
  |some d=>
   cases hfr:E.cut (frzN+d)&& !Nat.beq len 0 with
   |true=>
    simp only[hfr]at hl
    obtain⟨e,ei,f,xs,hK,h1,h2,h3,h4,h5,h6⟩:=zaO hT h hl
    have hg:=h.grow (zaq w (.cells xs.toArray e)) (fun _=>jE _)
    have hok:∀b,okOf cx s γ w b->okOf cx s γ (w.alloc (.cells xs.toArray e)) b:=fun b hb=>by
     rcases hb with h7|⟨h7,h8,h9⟩
     ·exact .inl h7
     exact .inr ⟨h7,jN h8 (zaq w _).size,h9⟩
    have hrep:Rep (w.alloc (.cells xs.toArray e)) (okOf cx s γ (w.alloc (.cells xs.toArray e))) (.slc ei.size len f) (.slice (some ⟨w.heap.size,0,none⟩) len len):=by
     refine .inr ⟨⟨w.heap.size,0,none⟩,len,rfl,jE _,by simp only[maxLen];omega,fun i hi j hj=>?_⟩
     obtain⟨u,hu,hr⟩:=h6 i hi j hj
     refine⟨.inr ⟨.inl h.below.size,by simp,fun p o ho e'=>?_⟩,u,?_,Rep.keep (fun b hb=>⟨hok b hb,(zaq w _).block b (zal h hb)⟩) hr⟩
     ·have:=(zax h ho e').2
      exact absurd this (by simp)
     rw[zaw,qB]
     have:=heap_alloc_new w (.cells xs.toArray e)
     simp only[World.cell?,this];simpa using hu
    exact .value (x:=.slice (some ⟨w.heap.size,0,none⟩) len len) (w':=w.alloc (.cells xs.toArray e)) (by simp[execOp,h1]) ⟨_,⟨γ,hg.put (v:=.d (.slc ei.size len f)) (hd d rfl) hrep (fun j hj=>by simp[AV.refs]at hj)⟩,hK⟩
   |false=>
   simp only[hfr]at hl
   obtain⟨e,ei,f,xs,hK,h1,h2,h3,h4,h5,h6⟩:=zaO hT h hl
   refine .value (x:=.slice (some ⟨w.heap.size,0,none⟩) len len) (w':=w.alloc (.cells xs.toArray e)) (by simp[execOp,h1]) ⟨_,⟨upd γ d (.slice (some ⟨w.heap.size,0,none⟩) len len),?_⟩,hK⟩
   refine zgO h (hd d rfl) (zaq w _) (fun _=>jE _) (fun b hb=>by simp[blk]at hb;omega) (fun ok hok=>⟨xs,⟨h2,.inr ⟨w.heap.size,len,xs.toArray,by rw[zac],jF _,heap_alloc_new w _,jE _,by simp only[maxLen];omega,by simp[h2],by rw[<- h2];simp⟩⟩,(fun b hb=>by rw[zac]at hb;simp[blk]at hb;subst hb;exact .inl h.below.size),h5,fun m hm j hj=>?_⟩) (fun cs e=>by cases e) (fun _=>by show _=upd γ d _ d;simp) (fun j hj=>by simpa [AV.refs]using hj)
   obtain⟨u,hu,hr⟩:=h6 m hm j hj
   exact⟨u,hu,Rep.keep hok hr⟩
 |makeSlice t l c=>
  simp only[stE]at hl
  cases dst with
  |none=>simp at hl
  |some d=>
   obtain⟨e,n,ei,f,xs,hK,h1,h2,h3,h4,h5,h6⟩:=zov hT h hl
   refine .value (x:=.slice (some ⟨w.heap.size,0,none⟩) n n) (w':=w.alloc (.cells xs.toArray e)) (by simp[execOp,h1]) ⟨_,⟨upd γ d (.slice (some ⟨w.heap.size,0,none⟩) n n),?_⟩,hK⟩
   refine zgO h (hd d rfl) (zaq w _) (fun _=>jE _) (fun b hb=>by simp[blk]at hb;omega) (fun ok hok=>⟨xs,⟨h2,.inr ⟨w.heap.size,n,xs.toArray,by rw[zac],jF _,heap_alloc_new w _,jE _,by simp only[maxLen];omega,by simp[h2],by rw[<- h2];simp⟩⟩,(fun b hb=>by rw[zac]at hb;simp[blk]at hb;subst hb;exact .inl h.below.size),h5,fun m hm j hj=>?_⟩) (fun cs e=>by cases e) (fun _=>by show _=upd γ d _ d;simp) (fun j hj=>by simpa [AV.refs]using hj)
   obtain⟨u,hu,hr⟩:=h6 m hm j hj
   exact⟨u,hu,Rep.keep hok hr⟩
 |makeMap t r=>
  cases r with
  |some r=>exact plain h hl
  |none=>
   simp only[stE]at hl
   cases dst with
   |none=>simp at hl
   |some d=>
    cases hmn:mapN T t with
    |none=>simp[hmn]at hl
    |some m=>
    simp only[hmn]at hl
    refine .value (x:=.map (some w.heap.size)) (w':=w.alloc (.map #[] 0)) (by simp[execOp,Instr.makeMap,Result.andThen]) ⟨_,⟨upd γ d (.map (some w.heap.size)),?_⟩,hl⟩
    exact zgO h (hd d rfl) (zaq w _) (fun _=>jE _) (fun b hb=>by simp[blk]at hb;omega) (fun ok hok=>⟨w.heap.size,[],0,by rw[zac],.inl h.below.size,heap_alloc_new w _,⟨rfl,fun k hk=>by cases hk⟩,fun j hj=>absurd hj (qJ _)⟩) (fun cs e=>by cases e) (fun _=>by show _=upd γ d _ d;simp) (fun j hj=>by simpa [AV.refs]using hj)
 |lookup t x i ok=>
  simp only[stE]at hl
  obtain⟨z,u,h1,h2,h3,h4⟩:=zjg hT h (ev_m h x).1 (ev_m h i).1 hl
  exact .value (x:=z) (w':=w) (by simp[execOp,h1]) ⟨_,⟨γ,h.putO (v:=u) hd h2 (fun j hj=>by rw[h3]at hj;cases hj)⟩,h4⟩
 |mapUpdate t m k v=>
  simp only[stE]at hl
  cases dst with
  |some d=>simp at hl
  |none=>
   obtain⟨w',s',h1,h2,h3⟩:=zqH hT h (ev_m h m).1 (ev_m h k).1 (ev_m h v).1 hl
   exact .skip (w':=w') (by simp[execOp,h1]) ⟨s',⟨γ,h2⟩,h3⟩
 |assign x=>
  simp only[stE]at hl
  cases hn:isNilOp x with
  |false=>simp only[hn]at hl;exact plain h hl
  |true=>
   cases dst with
   |none=>simp only[hn]at hl;exact plain h hl
   |some d=>
    cases hs:isSl T type with
    |false=>simp only[hn,hs]at hl;exact plain h hl
    |true=>
     simp only[hn,hs]at hl
     unfold isSl at hs
     cases ht:T type with
     |none=>simp[ht]at hs
     |some ti=>
      obtain⟨size,ag,bytes,zero,kind⟩:=ti
      cases kind with
      |slice e=>
       simp only[ht]at hl
       cases he:T e with
       |none=>simp[he]at hl
       |some ei=>
        simp only[he]at hl
        have hxv:a.eval x= .slice none 0 0:=by
         cases x with
         |const v=>exact zjl hn
         | _=>simp[isNilOp]at hn
        exact .value (x:=.slice none 0 0) (w':=w) (by simp[execOp,hxv]) ⟨_,zrJ h (hd d rfl),hl⟩
      | _=>simp[ht]at hs
 |slice t x lo hi mx=>
  cases lo with
  |some l=>exact plain h hl
  |none=>
   cases hi with
   |none=>exact plain h hl
   |some hv=>
    cases mx with
    |some m=>exact plain h hl
    |none=>
     simp only[stE]at hl
     cases hx:ev s x with
     |own i=>
      cases hh:ev s hv with
      |d p=>
       cases p with
       |int kh ih=>
        simp only[hx,hh]at hl
        cases ho:s.ob i with
        |none=>simp[ho]at hl
        |some ob=>
         cases ob with
         |box cs=>simp[ho]at hl
         |mp m ks f=>simp[ho]at hl
         |row e k n f=>
          cases hel:hasEl T t with
          |false=>simp[ho,hel]at hl
          |true=>
           simp only[ho,hel]at hl
           obtain⟨⟨hh0,hhn⟩,hK⟩:=hl
           unfold hasEl at hel
           cases ht:T t with
           |none=>simp[ht]at hel
           |some ti=>
            obtain⟨size,ag,bytes,zero,kind⟩:=ti
            cases kind with
            |slice e'=>
             simp only[ht]at hel
             cases he:T e' with
             |none=>simp[he]at hel
             |some ei=>
              have hund:=za6 hT ht
              have hxv:a.eval x=γ i:=by have:=(ev_m h x).1;rw[hx]at this;exact this
              have hhv:a.eval hv= .int kh ih:=by have:=(ev_m h hv).1;rw[hh]at this;exact this
              obtain⟨xs,hown,hO,hone,hrep⟩:=h.objs i _ ho
              have small:∀m,m<ih.toNat->∀j,j<k->m*k+j<ih.toNat*k:=fun m hm j hj=>by
               have:(m+1)*k<=ih.toNat*k:=jW _ hm
               rw[qG]at this;omega
              have hle:ih.toNat*k<=n*k:=jW _ (by omega)
              have hsub:∀(ok:Nat->Prop),(∀b,okOf cx s γ w b->ok b/\w.heap[b]?=w.heap[b]?)->(∀u∈xs.take (ih.toNat*k),u.oneCell'=true)/\∀m,m<ih.toNat->∀j,j<k->∃u,(xs.take (ih.toNat*k))[m*k+j]?=some u/\Rep w ok (f m j) u:=fun ok hok=>
               ⟨fun u hu=>hone u (qY hu),fun m hm j hj=>by
                obtain⟨u,hu,hr⟩:=hrep m (by omega) j hj
                exact⟨u,by rw[jS,kH (small m hm j hj)];exact hu,Rep.keep hok hr⟩⟩
              rcases hown.2 with⟨e1,e2⟩|⟨g,cap,cur,e1,e2,e3,e4,e5,e6,e7⟩
              ·have h0:ih.toNat=0:=by omega
               refine .value (x:=.slice none 0 0) (w':=w) ?_ ⟨_,zc2 (o':=.row e k ih.toNat f) h ho hd ⟨rfl,rfl,rfl,jE _,fun _ _ _=>rfl⟩ (fun _=>jE _) (fun b hb=>by simp[blk]at hb) (fun ok hok=>⟨[],by rw[zac,h0];exact World.ownsRow_nil w _ e k,(fun b hb=>by rw[zac]at hb;cases hb),by simp,fun m hm=>by omega⟩) (fun cs e=>by cases e),hK⟩
               have hih:ih=0:=by omega
               subst hih
               subst e2
               simp[execOp,hxv,e1,hhv,Instr.sliceAt,Instr.slice,run_underlying hund,Instr.sliceBounds,Instr.sliceBound,asIntOf,zae (hT _ _ he)]
              ·refine .value (x:=.slice (some ⟨g,0,none⟩) ih.toNat cap) (w':=w) ?_ ⟨_,zc2 (o':=.row e k ih.toNat f) h ho hd ⟨rfl,rfl,rfl,jE _,fun _ _ _=>rfl⟩ (fun _=>jE _) (fun b hb=>.inl (by rw[e1];exact hb)) (fun ok hok=>⟨xs.take (ih.toNat*k),⟨by rw[jQ,hown.1];omega,.inr ⟨g,cap,cur,by rw[zac],e2,e3,by omega,e5,e6,by rw[<- e7,List.take_take];congr 1;omega⟩⟩,(fun b hb=>by rw[zac]at hb;exact hO b (by rw[e1];exact hb)),hsub ok hok⟩) (fun cs e=>by cases e),hK⟩
               have hb:(0:Int)<=ih/\ih<=(cap:Int):=⟨hh0,by omega⟩
               have hadd:∀q:Nat,(⟨g,0,none⟩:Addr).add (0*q)=⟨g,0,none⟩:=fun q=>by simp[Addr.add]
               simp[execOp,hxv,e1,hhv,Instr.sliceAt,Instr.slice,run_underlying hund,Instr.sliceBounds,Instr.sliceBound,asIntOf,hb,zae (hT _ _ he),hadd,Addr.add]
            | _=>simp[ht]at hel
       | _=>simp only[hx,hh]at hl;exact plain h hl
      | _=>simp only[hx,hh]at hl;exact plain h hl
     | _=>simp only[hx]at hl;exact plain h hl
 |build t parts=>
  simp only[stE]at hl
  cases hmi:mapIn s parts.toList with
  |true=>
   simp only[hmi]at hl
   exact((zds hT h hl).ok (o:=⟨dst,.build t parts,type,pos,after,guard⟩) h hd fun z w' hz=>by simp[execOp,hz]).mono fun a' w' ⟨v,h1,h2⟩=>⟨_,⟨γ,h1⟩,h2⟩
  |false=>
   simp only[hmi]at hl
   obtain⟨γ',h'⟩:=R.freezes (ownIds (parts.toList.map fun p=>ev s p.2)) ⟨γ,h⟩
   exact plain h' hl
 |call c=>
  obtain⟨callee,args,argTypes⟩:=c
  cases callee with
  |value f=>
   simp only[stE]at hl
   exact zmW hT hE hD h rfl hd hl (hny _ _ _ rfl)
  |invoke r m=>exact plain h hl
  |builtin b=>
   cases b with
   |append=>
    simp only[stE]at hl
    cases ha:args.toList with
    |nil=>simp[ha]at hl
    |cons x r=>
     cases r with
     |nil=>simp[ha]at hl
     |cons y r=>
      cases r with
      |cons z r=>simp[ha]at hl
      |nil=>
       cases hat:argTypes.toList with
       |nil=>simp[ha,hat]at hl
       |cons t r=>
        cases r with
        |nil=>simp[ha,hat]at hl
        |cons t' r=>
         cases r with
         |cons z r=>simp[ha,hat]at hl
         |nil=>
          simp only[ha,hat]at hl
          cases hb:Nat.beq t t' with
          |false=>simp[hb]at hl
          |true=>
           simp only[hb,kT]at hl
           have:=jA hb
           subst this
           have h1:args= #[x,y]:=by rw[<- jaa (xs:=args),ha]
           have h2:argTypes= #[t,t]:=by rw[<- jaa (xs:=argTypes),hat]
           subst h1;subst h2
           exact zsJ hT h rfl hd hl
   |len=>exact plain h hl
   |max=>exact plain h hl
   |min=>exact plain h hl
   |clear=>
    simp only[stE]at hl
    cases ha:args.toList with
    |nil=>simp[ha]at hl
    |cons x r=>
     cases r with
     |cons y r=>simp[ha]at hl
     |nil=>
      cases hat:argTypes.toList with
      |nil=>simp[ha,hat]at hl
      |cons t r=>
       cases r with
       |cons t' r=>simp[ha,hat]at hl
       |nil=>
        cases dst with
        |some d=>simp[ha,hat]at hl
        |none=>
         simp only[ha,hat]at hl
         have h1:args= #[x]:=by rw[<- jaa (xs:=args),ha]
         have h2:argTypes= #[t]:=by rw[<- jaa (xs:=argTypes),hat]
         subst h1;subst h2
         obtain⟨w',s',h3,h4,h5⟩:=zmS hT h (ty:=type) (ev_m h x).1 hl
         exact .value (x:=.tuple #[]) (w':=w') (by simp[execOp,resolve,invoke,builtin,h3]) ⟨s',⟨γ,h4⟩,h5⟩
   | _=>exact cust hl
 |binOp op t x y yt=>
  simp only[stE]at hl
  cases hq:nilQ T op t (ev s x) (ev s y)with
  |none=>simp only[hq]at hl;exact plain h hl
  |some un=>
   obtain⟨u,n⟩:=un
   simp only[hq]at hl
   have shape:isSl T t=true/\(∃k f,ev s x= .d (.slc k n f))/\ev s y= .nilsl/\((op= .eql/\u=true)\/(op= .neq/\u=false)):=by
    unfold nilQ at hq
    split at hq
    ·rename_i q1 q2 q3;simp at hq;obtain⟨rfl,rfl⟩:=hq;exact⟨q1,⟨_,_,q2⟩,q3,.inl ⟨rfl,rfl⟩⟩
    ·rename_i q1 q2 q3;simp at hq;obtain⟨rfl,rfl⟩:=hq;exact⟨q1,⟨_,_,q2⟩,q3,.inr ⟨rfl,rfl⟩⟩
    cases hq
   obtain⟨hs,⟨k,f,hx⟩,hy,hop⟩:=shape
   obtain⟨e,hund⟩:=zpG hT hs
   have hmx:=(ev_m h x).1
   rw[hx]at hmx
   have hmy:=(ev_m h y).1
   rw[hy]at hmy
   have hyv:a.eval y= .slice none 0 0:=hmy
   have put:∀(b:Bool),RG cx γ (s.putO dst (.d (.bool b))) (a.put dst (.bool b)) w:=fun b=>by
    cases dst with
    |none=>exact h
    |some d=>exact h.put (hd d rfl) rfl (fun j hj=>by simp[AV.refs]at hj)
   have shp:∃ad n' c,a.eval x= .slice ad n' c/\(ad=none->n=0):=by
    rcases hmx with⟨h1,h2⟩|⟨ad,c,h1,_⟩
    ·exact⟨none,0,0,h1,fun _=>h2⟩
    exact⟨some ad,n,c,h1,fun e=>by cases e⟩
   obtain⟨ad,n',c,hxv,hnil⟩:=shp
   rcases hop with⟨rfl,rfl⟩|⟨rfl,rfl⟩
   ·refine .value (x:=.bool ad.isNone) (w':=w) ?_ ⟨_,⟨γ,put _⟩,hl ad.isNone fun e=>hnil (by simpa using e)⟩
    have:=Go.run_eql_slice_nil (P:=P) w t e ad n' c hund
    simp[execOp,hxv,hyv,eqGuard,this]
   ·refine .value (x:=.bool (!ad.isNone)) (w':=w) ?_ ⟨_,⟨γ,put _⟩,hl (!ad.isNone) fun e=>hnil (by simpa using e)⟩
    have:=Go.run_neq_slice_nil (P:=P) w t e ad n' c hund
    simp[execOp,hxv,hyv,eqGuard,this]
 | _=>exact plain h hl
def YLaw(Fm:Cx->Prop)(P:Program)(E:Env):Prop:=
 (∀cx,Fm cx->cx.gn=none)\/∃(ys:List (List V1)) (Y:YC P ys) (N:Nat) (w:World) (ok pub K0:Nat->Prop),(∀k vs,E.yd k vs↔ys[k]?=some vs)/\E.l=Y.l/\Fm=FamY Y N w ok pub K0
omit hT hE hD in
theorem YLaw.none{cx:Cx}(h:cx.gn= .none):YLaw (·=cx) P E:=.inl fun c hc=>by subst hc;exact h
omit hT hE hD in
theorem zoX{sl:List (Nat×AV)}{ob:List (Nat×Ob)}(h:(closedS ob sl&&closedO ob ob)=true):goodM sl [] [] ob []=true:=by
 rw[jP]at h
 simp only[goodM,jP,jC]
 refine⟨⟨⟨fun p _=>⟨rfl,rfl⟩,fun i hi=>by cases hi⟩,fun p hp j hj=>?_⟩,fun p hp=>?_⟩
 ·rw[jX];exact .inr (zcv h.1 (t:=p.1) (v:=p.2) hp j hj)
 split
 ·rename_i cs e
  refine jC.2 fun c hc=>jC.2 fun j hj=>?_
  rw[jX];exact .inr (zbs h.2 (t:=p.1) (cs:=cs) (by rw[<- e];exact hp) c hc j hj)
 rfl
omit hT hE hD in
theorem znq{Fm:Cx->Prop}{N:Nat}(hNf:∀cx,Fm cx->cx.N=N)(hY:YLaw Fm P E)(hcx:Fm cx)(h:RG cx γ s a w){o:Oper}{fo:Operand}{args:Array Operand}{at':Array TypeId}(hop:o.op= .call { callee:=.value fo,args,argTypes:=at' })(hd:∀d,o.dst=some d->d<cx.N){K:St->Prop}
  (hy:YieldOb E s o fo args.toList K):OpOK P o a w fun a' w'=>∃s',RF Fm s' a' w'/\K s':=by
 obtain⟨n,d,sl,ob,vs,hdst,hf,hg,hG,hw,hvs,hno,hyd,k1,k2⟩:=hy.out
 rcases hY with hY|⟨ys,Y,N',W,ok,pub,K0,hq,hl,rfl⟩
 ·have:=h.gho _ hg;rw[hY cx hcx]at this;cases this
 obtain⟨us,hus⟩:∃us:List Value,us=args.toList.map a.eval:=⟨_,rfl⟩
 have hm:=(zbw h hvs (zbN h args.toList)).2 hno
 rw[<- hus]at hm
 have hfo:=(ev_m h fo).1
 rw[hf]at hfo
 have hfo:a.eval fo= .func (.yield Y.l) #[] #[]:=by rw[<- hl];exact hfo
 obtain⟨γ',h',hok⟩:=h.weakL hw
 obtain⟨pubc,a1,a2,-⟩:=hcx.here (h.gho _ hg) h'
 have hv:=(hq _ _).1 hyd
 obtain⟨fn,tmps,asg,body,hrun,hround⟩:=Y.hY n vs pubc w _ us a1.j hv (fun b hb=>⟨(a1.rd b hb).1,zal h' hb,(a1.rd b hb).2⟩) (hm.imp fun _ _ _ hr=>Rep1.keep (fun b hb=>⟨hok b hb,rfl⟩) hr)
 refine .round (l:=Y.l) (fn:=fn) (tmps:=tmps) (asg:=asg) (body:=body) ?_ (zdk (zhD hround) ?_)
 ·have he:args.map a.eval=us.toArray:=by rw[hus,<- Array.toList_map]
  simp[execOp,hop,resolve,hfo,Deferred.ofValue,invoke,he,hrun]
 rintro e w' (⟨rfl,⟨pub',hp,hj⟩,kp⟩|⟨rfl,hj⟩)
 ·obtain⟨cx',γ2,c1,c2,-⟩:=hcx.over (obs:=[]) (obs':=[]) (pins:=[]) (h.gho _ hg) h' a1 a2 (YEnd.round a1 hv (fun b hb=>zal h' hb) hp hj kp) (zoX hw.1) hG
  refine⟨_,rfl,_,⟨cx',c1,γ2,?_⟩,k1⟩
  rw[hdst]
  exact c2.put (by rw[hNf _ c1,<- hNf _ hcx];exact hd d hdst) rfl (fun j hj=>by simp[AV.refs]at hj)
 obtain⟨cx',c1,c2⟩:=hcx.none' h' hj
 refine⟨_,rfl,_,⟨cx',c1,γ',?_⟩,k2⟩
 rw[hdst]
 exact c2.put (by rw[hNf _ c1,<- hNf _ hcx];exact hd d hdst) rfl (fun j hj=>by simp[AV.refs]at hj)
omit hT hE hD in
theorem zpj{Fm:Cx->Prop}{N:Nat}(hNf:∀cx,Fm cx->cx.N=N)(hY:YLaw Fm P E)(hcx:Fm cx)(h:RG cx γ s a w){o:Oper}{fo:Operand}{args:Array Operand}{at':Array TypeId}(hop:o.op= .call { callee:=.value fo,args,argTypes:=at' })(hd:∀d,o.dst=some d->d<cx.N){K:St->Prop}
  (hy:CallY E P s o fo args.toList K):OpOK P o a w fun a' w'=>∃s',RF Fm s' a' w'/\K s':=by
 obtain⟨ys2,n,m,f,ex,xs,sl,rest,obsL,obsL',pins,res,resF,q1,⟨hent,hfl,q2⟩,hg,hG,hw,hcal,hxs,hcl,hgd,k1,k2⟩:=hy.out
 rcases hY with hY|⟨ys,Y,N',W,ok,pub,K0,hq,hl,rfl⟩
 ·have:=h.gho _ hg;rw[hY cx hcx]at this;cases this
 have e:ys2=ys:=List.ext_getElem? fun k=>by
  cases h1:ys2[k]? with
  |some v=>exact((hq k v).1 ((q1 k v).2 h1)).symm
  |none=>
  cases h2:ys[k]? with
  |none=>rfl
  |some v=>rw[(q1 k v).1 ((hq k v).2 h2)]at h1;cases h1
 subst e
 replace q2:=q2 Y
 rw[hl]at hw hcal hxs hcl hgd k1
 generalize obsL Y.l=obs at q2 hw hcal hxs hcl hgd k1
 generalize obsL' Y.l=obs' at q2 hgd k1
 obtain⟨γ',h',-⟩:=h.weakL hw
 obtain⟨pubc,a1,a2,-⟩:=hcx.here (h.gho _ hg) h'
 obtain⟨caps,hfv,hcm⟩:=zmV hcal (ev_m h' fo).1
 have o1:∀{i o},look obs i=some o->(St.of sl (obs++rest)).ob i=some o:=fun {i o} hi=>by
  show look (obs++rest) i=_
  rw[zap,hi,ja8]
 have hm:=zf9 (obs:=obs) (fun i o hi=>h'.objs i o (o1 hi)) ((zbN h' args.toList).append hcm)
 rw[hxs]at hm
 refine .enter (zaD hop hfv hent) ?_
 refine(q2 w _ pubc γ' _ (fun b hb=>zal h' hb) ⟨fun i o hi=>(h'.objs i o (o1 hi)).reO rfl (fun _ _ _ _ _ _=>rfl) (fun _ _=>trivial) (fun _ hb=>hb),fun i cs hi c hc' j hj=>?_,fun i j p q hi hj=>h'.sep i j p q (o1 hi) (o1 hj),fun i p b hi hb hok=>zck h' hok (o1 hi) hb⟩ hm ⟨a1.w0,a1.j,a1.le,a1.rd,a1.own,a1.pb,fun b ⟨i,p,hi,hb⟩=>a1.kp b ⟨i,p,o1 hi,hb⟩⟩).mono fun en w' ⟨r,he,hr⟩=>⟨r,he,?_⟩
 ·have:=jC.1 hcl _ (zak hi)
  exact jC.1 (jC.1 this c hc') j hj
 rcases hr with⟨γ2,okc,pub2,hend,hres⟩|⟨hres,hj⟩
 ·obtain⟨cx',γ3,c1,c2,c3⟩:=hcx.over (h.gho _ hg) h' a1 a2 hend hgd hG
  exact⟨_,⟨cx',c1,γ3,c2.putO (by rw[hNf _ c1,<- hNf _ hcx];exact hd) (zaX (.inl c3) hres) (fun j hj=>by rw[zaB]at hj;cases hj)⟩,k1⟩
 obtain⟨cx',c1,c2⟩:=hcx.none' h' hj
 exact⟨_,⟨cx',c1,γ',c2.putO (by rw[hNf _ c1,<- hNf _ hcx];exact hd) (zaX (.inl fun b hb=>hb.elim) hres) (fun j hj=>by rw[zaB]at hj;cases hj)⟩,k2⟩
omit hD in
theorem zpJ{Fm:Cx->Prop}{N:Nat}(hNf:∀cx,Fm cx->cx.N=N)(hDf:∀cx,Fm cx->cx.dr=true->E.dr=true)(hY:YLaw Fm P E)(h0:RF Fm s a w){o:Oper}(hd:∀d,o.dst=some d->d<N){K:St->Prop}(hl:stE P T E s o K):OpOK P o a w fun a' w'=>∃s',RF Fm s' a' w'/\K s':=by
 obtain⟨cx,hcx,γ,h⟩:=h0
 have hd':∀d,o.dst=some d->d<cx.N:=by rw[hNf cx hcx];exact hd
 by_cases hy:∃fo args at',o.op= .call { callee:=.value fo,args,argTypes:=at' }/\(YieldOb E s o fo args.toList K\/CallY E P s o fo args.toList K)
 ·obtain⟨fo,args,at',hop,hy|hy⟩:=hy
  ·exact znq hNf hY hcx h hop hd' hy
  exact zpj hNf hY hcx h hop hd' hy
 exact(zhv hT hE (hDf cx hcx) ⟨γ,h⟩ hd' (fun fo args at' hop=>⟨fun hyy=>hy ⟨fo,args,at',hop,.inl hyy⟩,fun hyy=>hy ⟨fo,args,at',hop,.inr hyy⟩⟩) hl).mono fun a' w' ⟨s',h1,h2⟩=>⟨s',⟨cx,hcx,h1⟩,h2⟩
end
def FW(F:Fence):Prop:=F=Fence.wide\/∃l,F=Fence.wide.inRound l
theorem FWc.fw{cx:Cx}{F:Fence}(h:FWc cx F):FW F:=h.imp id fun⟨l,_,h,_⟩=>⟨l,h⟩
theorem FW.fn{F:Fence}(h:FW F)(f:FuncId):F.fn f:=by rcases h with rfl|⟨l,rfl⟩<;>exact trivial
theorem FW.depth{F:Fence}(h:FW F):F.depth=none:=by rcases h with rfl|⟨l,rfl⟩<;>rfl
theorem FW.calls{F:Fence}(h:FW F){n:Nat}{P:Program}{f:FuncId}{args:Array Value}{w:World}{R:Ending->World->Prop}(hc:Calls P f args w R):CallsIn F n P f args w R:=by
 rcases h with rfl|⟨l,rfl⟩
 ·exact callsIn_wide.2 hc
 exact(callsIn_wide (n:=n)).2 hc
section
variable {P:Program}{T:TT}{E:Env}{cx:Cx}{γ:Nat->Value}{s:St}{a:Act}{w:World}{F:Fence}{n:Nat}
theorem OpOK.noDefer{o:Oper}{Post:Act->World->Prop}(h:OpOK P o a w Post)(c:Call):o.op≠ .defer c:=by
 intro e
 unfold OpOK at h
 simp only[execOp,e,Sem.run_bind]at h
 cases hr:(resolve a.eval c o.type).run P w with
 |ok d w'=>simp[hr]at h
 |halt x w'=>simp[hr]at h
theorem OpOK.wpIn(hF:FW F){o:Oper}{K:Act->World->Prop}{Q:Exit->Act->World->Prop}(h:OpOK P o a w K):o.wpIn F n P a w K Q:=by
 refine⟨fun f _=>hF.fn f,?_⟩
 rw[Oper.semAt_eq _ _ _ h.noDefer]
 unfold OpOK at h
 generalize (execOp a.eval o).run P w=r at*
 cases r with
 |halt x w'=>exact h.elim
 |ok x w'=>
 cases x<;>simp only at h<;>simp only[Oper.uponIn]
 case value v=>exact h
 case skip=>exact h
 case round l fn tmps asg body=>
  have:RoundIn F (n-1) P l fn tmps asg body w' fun e w''=>∃v,e= .returned v/\K (a.put o.dst v) w'':=by
   rcases hF with rfl|⟨l,rfl⟩<;>exact⟨trivial,fun c cs _=>h.2 c cs (room_wide _)⟩
  refine⟨fun hd=>(by rw[hF.depth]at hd;cases hd),zdk this fun e w'' ⟨v,he,hp⟩=>?_⟩
  subst he;exact hp
 case enter f args=>
  refine⟨fun hd=>(by rw[hF.depth]at hd;cases hd),hF.calls (h.mono fun e w'' ⟨v,he,hp⟩=>?_)⟩
  subst he;exact hp
theorem zaP{ops:List Oper}{i:Nat}{d:Option Nat}{K:St->Prop}(h:splitAt ops i d s K):K s:=by
 unfold splitAt at h
 cases hg:guardUsed ops i with
 |false=>simp only[hg]at h;exact h
 |true=>
 cases d with
 |none=>simp only[hg]at h;exact h
 |some t=>
 simp only[hg]at h
 cases hs:s.sl t with
 |d p=>
  cases p with
  |bool b=>
   simp only[hs]at h
   have:=h.out
   rw[<- hs,ziV]at this
   exact this
  | _=>simp only[hs]at h;exact h
 | _=>simp only[hs]at h;exact h
theorem zeM{Fm:Cx->Prop}(h:RF Fm s a w){ops:Array Oper}{j:Nat}{b:Bool}(hg:gval s ops.toList j= .d (.bool b)):yielded ops a.tmps j=some b:=by
 obtain⟨_,_,γ,h⟩:=h
 unfold gval dstOf at hg
 rw[zau]at hg
 unfold yielded
 cases hj:ops.toList[j]? with
 |none=>simp[hj]at hg
 |some o=>
 have hj':ops[j]?=some o:=by simpa using hj
 cases hd:o.dst with
 |none=>simp[hj,hd]at hg
 |some t=>
 simp only[hj,hd]at hg
 have hm:=h.slots t
 rw[hg]at hm
 have hv:a.tmps.getD t Go.undef= .bool b:=hm
 have:a.tmps[t]?=some (.bool b):=by
  rw[qP]at hv
  cases hx:a.tmps[t]? with
  |none=>rw[hx]at hv;simp[Go.undef]at hv
  |some x=>rw[hx]at hv;simp at hv;rw[hv]
 simp[hj',hd,this]
theorem zdO{Fm:Cx->Prop}(h:RF Fm s a w){ops:Array Oper}{j:Nat}(hg:gval s ops.toList j= .undef):yielded ops a.tmps j=none:=by
 obtain⟨_,_,γ,h⟩:=h
 unfold gval dstOf at hg
 rw[zau]at hg
 unfold yielded
 cases hj:ops.toList[j]? with
 |none=>simp[hj]at hg
 |some o=>
 have hj':ops[j]?=some o:=by simpa using hj
 cases hd:o.dst with
 |none=>simp[hj,hd]at hg
 |some t=>
 simp only[hj,hd]at hg
 have hm:=h.slots t
 rw[hg]at hm
 have hv:a.tmps.getD t Go.undef=Go.undef:=hm
 rw[qP]at hv
 cases hx:a.tmps[t]? with
 |none=>simp[hj',hd,hx]
 |some x=>rw[hx]at hv;simp at hv;subst hv;simp[hj',hd,hx,Go.undef]
theorem zgH(h:R cx s a w){d:Option Nat}(hd:∀t,d=some t->t<cx.N):R cx (s.putO d .undef) (a.put d Go.undef) w:=by
 obtain⟨γ,h⟩:=h
 exact⟨γ,h.putO hd rfl (fun j hj=>by simp[AV.refs]at hj)⟩
theorem zka{Fm:Cx->Prop}{N:Nat}(hNf:∀cx,Fm cx->cx.N=N)(h:RF Fm s a w){d:Option Nat}(hd:∀t,d=some t->t<N):RF Fm (s.putO d .undef) (a.put d Go.undef) w:=by
 obtain⟨cx,hcx,h⟩:=h
 exact⟨cx,hcx,zgH h (by rw[hNf cx hcx];exact hd)⟩
theorem zcg{N:Nat}{ops:List Oper}(h:dstsOK N ops=true){o:Oper}(ho:o∈ops):∀d,o.dst=some d->d<N:=fun d hd=>by
 have:=jC.1 h o ho
 rw[hd]at this
 exact jD this
variable (hT:∀t i,T t=some i->TI.of P t=some i)(hE:∀t,E.eq t=true->EqFact P t)
include hT hE
variable {Fm:Cx->Prop}{N:Nat}(hNf:∀cx,Fm cx->cx.N=N)(hD:∀cx,Fm cx->cx.dr=true->E.dr=true)(hY:YLaw Fm P E)
include hNf hD hY
theorem zcD(hF:FW F){ops:Array Oper}(hN:dstsOK N ops.toList=true){Q:Exit->Act->World->Prop}{K:St->Prop}(hQ:∀s a w,RF Fm s a w->K s->Q .normal a w):
  ∀(rest:List Oper) (i:Nat),(∀j,rest[j]?=ops.toList[i+j]?)->∀{s:St}{a:Act}{w:World},RF Fm s a w->runOps P T E ops.toList i rest s K->wpOpsIn F n P ops Q (List.range' i rest.length) a w
 | [],i,hr,s,a,w,h,hl=>by simpa [wpOpsIn]using hQ s a w h hl
 |o::r,i,hr,s,a,w,h,hl=>by
  have ho:ops[i]?=some o:=by have:=hr 0;simpa using this.symm
  have hmem:o∈ops.toList:=by simpa using jaP ho
  have hd:=zcg hN hmem
  have hr':∀j,r[j]?=ops.toList[i+1+j]?:=fun j=>by have:=hr (j+1);rw[show i+1+j=i+(j+1)by omega];simpa using this
  simp only[jbp,List.range'_succ,wpOpsIn,ho]
  have go:(stU P T E s o fun s'=>splitAt ops.toList i o.dst s' fun s'=>runOps P T E ops.toList (i+1) r s' K)->o.wpIn F n P a w (wpOpsIn F n P ops Q (List.range' (i+1) r.length)) Q:=fun hl=>by
   unfold stU at hl
   cases hcu:cusB E o.dst with
   |false=>
    simp only[hcu]at hl
    refine OpOK.wpIn hF ((zpJ hT hE hNf hD hY h hd (zdR hl)).mono fun a' w' ⟨s',h1,h2⟩=>?_)
    exact zcD hF hN hQ r (i+1) hr' h1 (zaP h2)
   |true=>
   simp only[hcu,znp]at hl
   obtain⟨q,q1,q2⟩:=hl
   obtain⟨cx,hcx,h⟩:=h
   refine OpOK.wpIn hF ((q1 cx a w (hD cx hcx) (by rw[hNf cx hcx];exact hd) h).mono fun a' w' ⟨s',h1,h2⟩=>?_)
   exact zcD hF hN hQ r (i+1) hr' ⟨cx,hcx,h1⟩ (zaP (q2 s' h2))
  have no:runOps P T E ops.toList (i+1) r (s.putO o.dst .undef) K->(∀f,o.about P w a.eval=some f->F.fn f)/\wpOpsIn F n P ops Q (List.range' (i+1) r.length) (a.put o.dst Go.undef) w:=fun hl=>
   ⟨fun f _=>hF.fn f,zcD hF hN hQ r (i+1) hr' (zka hNf h hd) hl⟩
  simp only[zhC]at hl
  cases hg:o.guard with
  |none=>
   have:Region.wanted o (yielded ops a.tmps)=true:=by simp[Region.wanted,hg]
   simp only[this,jbe]
   simp only[hg]at hl
   exact go hl
  |some p=>
  obtain⟨j,want⟩:=p
  simp only[hg]at hl
  cases hv:gval s ops.toList j with
  |d q=>
   cases q with
   |bool b=>
    simp only[hv]at hl
    have hy:=zeM h hv
    cases hbw:(b==want)with
    |true=>
     have hw:Region.wanted o (yielded ops a.tmps)=true:=by
      have:b=want:=by simpa using hbw
      simp[Region.wanted,hg,hy,this]
     simp only[hw,jbe]
     simp only[hbw]at hl
     exact go hl
    |false=>
     have hw:Region.wanted o (yielded ops a.tmps)=false:=by
      have:b≠want:=by simpa using hbw
      simp[Region.wanted,hg,hy,this]
     simp only[hw,qT,jaG]
     simp only[hbw]at hl
     exact no hl
   | _=>simp[hv]at hl
  |undef=>
   simp only[hv]at hl
   have hy:=zdO h hv
   have hw:Region.wanted o (yielded ops a.tmps)=false:=by simp[Region.wanted,hg,hy]
   simp only[hw,qT,jaG]
   exact no hl
  | _=>simp[hv]at hl
theorem zlc(hF:FW F){id:Nat}{ops:Array Oper}(hN:dstsOK N ops.toList=true){Q:Exit->Act->World->Prop}{K:St->Prop}(hQ:∀s a w,RF Fm s a w->K s->Q .normal a w)(h:RF Fm s a w)(hl:runOps P T E ops.toList 0 ops.toList s K):
  (Code.region id ops false).wpIn F n P Q a w:=by
 refine wpIn_region ?_
 have:=zcD hT hE hNf hD hY (n:=n) hF hN hQ ops.toList 0 (by simp) h hl
 rw[List.range_eq_range']
 simpa using this
end
section
variable {P:Program}{T:TT}{E:Env}{cx:Cx}{γ:Nat->Value}{s s':St}{a:Act}{w:World}{F:Fence}{n:Nat}
def Spl(f:(AV->Prop)->Prop):Prop:=∀K,f K↔∃v,f (fun u=>u=v)/\K v
theorem Spl.k(v:AV):Spl fun K=>K v:=fun K=>⟨fun h=>⟨v,rfl,h⟩,fun⟨u,h,hk⟩=>by rw[show v=u from h];exact hk⟩
theorem Spl.false:Spl fun _=>False:=fun K=>⟨fun h=>h.elim,fun⟨_,h,_⟩=>h⟩
theorem Spl.and{p:Prop}{f:(AV->Prop)->Prop}(h:Spl f):Spl fun K=>p/\f K:=fun K=>
 ⟨fun⟨hp,hf⟩=>let ⟨v,h1,h2⟩:=(h K).1 hf;⟨v,⟨hp,h1⟩,h2⟩,fun⟨v,⟨hp,h1⟩,h2⟩=>⟨hp,(h K).2 ⟨v,h1,h2⟩⟩⟩
theorem Spl.cond{b:Bool}{f g:(AV->Prop)->Prop}(h1:Spl f)(h2:Spl g):Spl fun K=>bif b then f K else g K:=by
 cases b
 ·exact h2
 exact h1
theorem Spl.split{b:Bool}{f:(AV->Prop)->Bool->Prop}(h:Spl fun K=>f K b):Spl fun K=>Split b (f K):=fun K=>
 ⟨fun hs=>let ⟨v,h1,h2⟩:=(h K).1 hs.out;⟨v,.of h1,h2⟩,fun⟨v,h1,h2⟩=>.of ((h K).2 ⟨v,h1.out,h2⟩)⟩
theorem zl8(s:St)(ti:TI)(v:AV):Spl (loadP s ti v):=by
 unfold loadP
 split
 ·split
  ·split
   ·split
    ·exact .cond (.k _) .false
    split
    ·exact .cond (.k _) .false
    exact .false
   split
   ·exact .k _
   exact .false
  exact .false
 ·split
  ·exact .cond (.k _) .false
  exact .cond (.k _) .false
 ·split
  ·split
   ·exact .cond (.and (.k _)) .false
   exact .cond (.and (.k _)) .false
  exact .false
 exact .false
theorem zl9(s:St)(ti:TI)(v:AV):Spl (loadE s ti v):=zl8 s ti v.asPtr
theorem zeJ(T:TT)(st fld:Nat)(v:AV):Spl (fieldAddrE T st fld v):=by
 unfold fieldAddrE
 split
 ·split
  ·split
   ·exact .cond .false (.k _)
   exact .false
  exact .false
 exact .false
theorem zeH(T:TT)(s:St)(t:Nat)(x ix:AV):Spl (indexAddrP T s t x ix):=by
 unfold indexAddrP
 split
 ·split
  ·exact .and (.k _)
  ·split
   ·exact .and (.cond (.k _) .false)
   exact .false
  ·exact .and (.cond (.k _) .false)
  ·exact .and (.cond (.k _) .false)
  exact .false
 ·split
  ·exact .and (.k _)
  ·exact .and (.cond (.k _) .false)
  exact .false
 exact .false
theorem zeI(T:TT)(s:St)(t:Nat)(x ix:AV):Spl (indexAddrE T s t x ix):=zeH T s t x.asPtr ix
theorem zgL(ti:TI)(xs:List D)(off:Nat):Spl (partE ti xs off):=by
 unfold partE
 split
 ·exact .cond (.k _) .false
 split
 ·exact .k _
 exact .false
theorem zkm(T:TT)(st fld:Nat)(v:AV):Spl (fieldE T st fld v):=by
 unfold fieldE
 split
 ·split
  ·split
   ·exact zgL _ _ _
   exact .false
  exact .false
 exact .false
theorem zkk(T:TT)(t:Nat)(x ix:AV):Spl (indexE T t x ix):=by
 unfold indexE
 split
 ·split
  ·exact .and (zgL _ _ _)
  exact .false
 exact .false
theorem ze8(op:BinOp)(k:IntKind)(a b:Int):Spl fun K=>intBin op k a b fun r=>K (.d r):=by
 unfold intBin
 cases op<;>first|exact .and (.k _)|exact .k _
theorem zh2(op:BinOp)(k:IntKind)(a b:Int):Spl fun K=>intBinW op k a b fun r=>K (.d r):=by
 have old:=fun op=>ze8 op k a b
 cases op with
 |add=>exact .k _
 |sub=>exact .k _
 |mul=>exact .k _
 |quo=>exact old .quo
 |rem=>exact old .rem
 |shl=>exact old .shl
 |shr=>exact old .shr
 |eql=>exact old .eql
 |neq=>exact old .neq
 |lss=>exact old .lss
 |leq=>exact old .leq
 |gtr=>exact old .gtr
 |geq=>exact old .geq
 |and=>exact old .and
 |or=>exact old .or
 |xor=>exact old .xor
 |andNot=>exact old .andNot
theorem ziZ(T:TT)(op:BinOp)(t:Nat)(b:Bool):Spl (ptrQ T op t b):=by
 unfold ptrQ
 split<;>first|exact .k _|exact .false
theorem zpq(T:TT)(E:Env)(op:BinOp)(t:Nat)(x y:AV):Spl (binE T E op t x y):=by
 unfold binE
 split
 ·refine .cond ?_ .false
  split
  ·exact zh2 _ _ _ _
  exact ze8 _ _ _ _
 ·split<;>first|exact .k _|exact .false
 ·split
  ·refine .cond ?_ .false
   split<;>first|exact .k _|exact .false
  exact .false
 ·exact ziZ _ _ _ _
 ·exact ziZ _ _ _ _
 exact .false
theorem zqJ(op:UnOp)(x:AV):Spl (unE op x):=by
 unfold unE
 split<;>first|exact .and (.k _)|exact .k _|exact .false
theorem zkr(T:TT)(s:St)(t:Nat)(parts:List (Nat×Operand)):Spl (buildE T s t parts):=by
 unfold buildE
 split
 ·split
  ·split<;>first|exact .k _|exact .false
  exact .false
 ·split
  ·split<;>first|exact .k _|exact .false
  exact .false
 exact .false
theorem zff(T:TT)(s:St)(t:Nat)(parts:List (Nat×Operand)):Spl (buildC T s t parts):=by
 unfold buildC
 split
 ·split
  ·split<;>first|exact .k _|exact .false
  exact .false
 exact .false
theorem zet(T:TT)(s:St)(t len:Nat)(parts:List (Nat×Operand)):Spl fun K=>buildSliceE T s t len parts fun _ ei f=>K (.d (.slc ei.size len f)):=by
 unfold buildSliceE
 split
 ·split
  ·split
   ·split
    ·exact .cond (.k _) .false
    exact .false
   exact .false
  exact .false
 exact .false
theorem zj2(T:TT)(s:St)(t:Nat)(x:AV)(lo hi:Option AV):Spl (sliceE T s t x lo hi):=by
 unfold sliceE
 split
 ·split
  ·split<;>first|exact .and (.k _)|exact .false
  exact .false
 ·split
  ·split<;>first|exact .and (.k _)|exact .false
  exact .false
 exact .false
theorem zhA(T:TT)(t:Nat)(x:AV)(lo hi:Option AV)(m:AV):Spl (slice3E T t x lo hi m):=by
 unfold slice3E
 split
 ·split
  ·exact .and (.k _)
  exact .false
 exact .false
theorem zha(v:AV)(i:Nat):Spl (extractE v i):=by
 unfold extractE
 split
 ·split<;>first|exact .k _|exact .false
 ·split
  ·exact .k _
  split<;>first|exact .k _|exact .false
 ·split
  ·exact .k _
  split<;>first|exact .k _|exact .false
 exact .false
theorem zoz(T:TT)(t:Nat)(s:St)(v:AV):Spl (lenE T t s v):=by
 unfold lenE
 split
 ·exact .cond (.k _) .false
 ·exact .cond (.k _) .false
 ·exact .cond (.k _) .false
 ·exact .cond (.k _) .false
 ·exact .cond (.k _) .false
 ·split
  ·exact .cond (.k _) .false
  ·exact .cond (.k _) .false
  exact .false
 ·exact .cond (.k _) .false
 exact .false
theorem zfT(mx:Bool):∀(r:List AV) (v:AV),Spl (maxE mx v r)
 | [],v=>by
  have:maxE mx v []=fun K=>K v:=by funext K;cases v<;>rfl
  rw[this];exact .k _
 |u::r,v=>by
  have no:(∀K,¬maxE mx v (u::r) K)->Spl (maxE mx v (u::r)):=fun h=>by
   have:maxE mx v (u::r)=fun _=>False:=by funext K;exact eq_false (h K)
   rw[this];exact .false
  cases v with
  |d p=>
   cases p with
   |int k a=>
    cases u with
    |d q=>
     cases q with
     |int k' b=>exact zfT mx r _
     | _=>exact no fun K h=>by simp[maxE]at h
    | _=>exact no fun K h=>by simp[maxE]at h
   | _=>exact no fun K h=>by cases u<;>simp[maxE]at h
  | _=>exact no fun K h=>by simp[maxE]at h
theorem zch(d:Bool)(P:Program)(s:St)(f:FuncId)(args:List AV):Spl (CallOb d P s f args):=fun K=>by
 rw[zaI]
 constructor
 ·rintro(⟨xs,res,h1,h2,h3,h4⟩|⟨xs,res,h1,h2,h4⟩)
  ·exact⟨_,⟨.inl ⟨xs,res,h1,h2,h3,rfl⟩⟩,h4⟩
  exact⟨_,⟨.inr ⟨xs,res,h1,h2,rfl⟩⟩,h4⟩
 rintro⟨v,⟨⟨xs,res,h1,h2,h3,h4⟩|⟨xs,res,h1,h2,h4⟩⟩,h5⟩
 ·exact .inl ⟨xs,res,h1,h2,h3,by rw[h4];exact h5⟩
 exact .inr ⟨xs,res,h1,h2,by rw[h4];exact h5⟩
theorem zms(d:Bool)(P:Program)(s:St)(r:AV)(nm:String)(args:List AV):Spl (InvOb d P s r nm args):=fun K=>by
 simp only[zeC]
 constructor
 ·rintro⟨u,m,g,f,h1,h2,h3⟩
  obtain⟨v,h4,h5⟩:=(zch d P s f _ K).1 h3
  exact⟨v,⟨u,m,g,f,h1,h2,h4⟩,h5⟩
 rintro⟨v,⟨u,m,g,f,h1,h2,h4⟩,h5⟩
 exact⟨u,m,g,f,h1,h2,(zch d P s f _ K).2 ⟨v,h4,h5⟩⟩
theorem zos(v:AV):Spl (nilE v):=by
 unfold nilE
 split<;>first|exact .k _|exact .false
theorem zkl(T:TT)(t:Nat)(v:AV):Spl (ifaceE T t v):=by
 unfold ifaceE
 split<;>first|exact .k _|exact .false
theorem zin(T:TT)(t:Nat)(v:AV):Spl (assertE T t v):=by
 unfold assertE
 split
 ·split
  ·exact .k _
  split
  ·exact .cond .false (.k _)
  exact .false
 exact .false
theorem zhU(P:Program)(T:TT)(E:Env)(s:St)(op:Op):Spl (opE P T E s op):=by
 unfold opE
 split
 ·exact .k _
 ·exact .k _
 ·split
  ·exact .split (.k _)
  exact .false
 ·split
  ·exact zl9 _ _ _
  exact .false
 ·exact zeJ _ _ _ _
 ·exact zeI _ _ _ _ _
 ·exact zkm _ _ _ _
 ·exact zkk _ _ _ _
 ·exact zpq _ _ _ _ _ _
 ·exact zqJ _ _
 ·split<;>first|exact .k _|exact .false
 ·exact zkr _ _ _ _
 ·exact zj2 _ _ _ _ _ _
 ·exact zhA _ _ _ _ _ _
 ·exact zha _ _
 ·split<;>first|exact .k _|exact .false|(split<;>first|exact .k _|exact .false)
 ·split
  ·exact zoz _ _ _ _
  exact .false
 ·split
  ·exact zfT _ _ _
  exact .false
 ·split
  ·exact zfT _ _ _
  exact .false
 ·split
  ·exact zch _ _ _ _ _
  exact .false
 ·exact zms _ _ _ _ _ _
 ·exact zos _
 ·exact zkl _ _ _
 ·exact zin _ _ _
 exact .false
theorem Spl.ex{α:Type}{f:α->(AV->Prop)->Prop}(h:∀x,Spl (f x)):Spl fun K=>∃x,f x K:=fun K=>
 ⟨fun⟨x,hf⟩=>let ⟨v,h1,h2⟩:=(h x K).1 hf;⟨v,⟨x,h1⟩,h2⟩,fun⟨v,⟨x,h1⟩,h2⟩=>⟨x,(h x K).2 ⟨v,h1,h2⟩⟩⟩
theorem zl5(P:Program)(T:TT)(s:St)(t:Nat)(x i:AV)(ok:Bool):Spl (lookE P T s t x i ok):=by
 unfold lookE
 split
 ·split
  ·exact .and (.ex fun _=>.and (.k _))
  exact .false
 exact .false
theorem zb6(P:Program)(T:TT)(E:Env)(s:St)(op:Op):Spl (valD P T E s op):=by
 unfold valD
 split
 ·exact zet _ _ _ _ _
 ·exact zl5 _ _ _ _ _ _ _
 ·split
  ·exact zff _ _ _ _
  exact zhU _ _ _ _ _
 exact zhU _ _ _ _ _
def More(s s':St):Prop:=∀i o,s.ob i=some o->s'.ob i=some o
theorem zkf{s s':St}(h:More s s'){ti:TI}{v:AV}{K:AV->Prop}(hl:loadP s ti v K):loadP s' ti v K:=by
 cases v with
 |box i off=>
  simp only[loadP]at*
  cases ho:s.ob i with
  |none=>simp[ho]at hl
  |some o=>rw[h i o ho];rw[ho]at hl;exact hl
 |elt i k n c=>
  simp only[loadP]at*
  cases ho:s.ob i with
  |none=>simp[ho]at hl
  |some o=>rw[h i o ho];rw[ho]at hl;exact hl
 | _=>exact hl
theorem zkg{s s':St}(h:More s s'){ti:TI}{v:AV}{K:AV->Prop}(hl:loadE s ti v K):loadE s' ti v K:=zkf h hl
theorem zhz{s s':St}(h:More s s'){T:TT}{t:Nat}{x:AV}{lo hi:Option AV}{K:AV->Prop}(hl:sliceE T s t x lo hi K):sliceE T s' t x lo hi K:=by
 cases ht:T t with
 |none=>simp[sliceE,ht]at hl
 |some ti=>
 obtain⟨size,ag,bytes,zero,kind⟩:=ti
 cases kind with
 |slice e=>
  cases x with
  |own id=>
   simp only[sliceE,ht]at*
   cases ho:s.ob id with
   |none=>simp[ho]at hl
   |some o=>rw[h id o ho];rw[ho]at hl;exact hl
  |d y=>cases y<;>first|exact(by simpa only[sliceE,ht]using hl)|(simp[sliceE,ht]at hl;done)
  | _=>simp[sliceE,ht]at hl
 | _=>simp[sliceE,ht]at hl
theorem zed{s s':St}(h:More s s'){T:TT}{t:Nat}{x ix:AV}{K:AV->Prop}(hl:indexAddrP T s t x ix K):indexAddrP T s' t x ix K:=by
 cases ht:T t with
 |none=>simp[indexAddrP,ht]at hl
 |some ti=>
 obtain⟨size,ag,bytes,zero,kind⟩:=ti
 cases kind with
 |slice e=>
  cases ix with
  |d y=>
   cases y with
   |int k i=>
    simp only[indexAddrP,ht]at*
    cases he:T e with
    |none=>simp[he]at hl
    |some ei=>
     cases x with
     |own id=>
      simp only[he]at*
      cases ho:s.ob id with
      |none=>simp[ho]at hl
      |some o=>rw[h id o ho];rw[ho]at hl;exact hl
     |d p=>cases p<;>first|(simp only[he]at*;exact hl)|(simp[he]at hl;done)
     |sub id k' lo n=>simp only[he]at*;exact hl
     |bsl id n c=>simp only[he]at*;exact hl
     | _=>simp[he]at hl
   | _=>simp[indexAddrP,ht]at hl
  | _=>simp[indexAddrP,ht]at hl
 |array n e=>
  cases ix with
  |d y=>
   cases y with
   |int k i=>simp only[indexAddrP,ht]at*;exact hl
   | _=>simp[indexAddrP,ht]at hl
  | _=>simp[indexAddrP,ht]at hl
 | _=>simp[indexAddrP,ht]at hl
theorem zee{s s':St}(h:More s s'){T:TT}{t:Nat}{x ix:AV}{K:AV->Prop}(hl:indexAddrE T s t x ix K):indexAddrE T s' t x ix K:=zed h hl
theorem zmd{s s':St}(h:More s s'){T:TT}{t:Nat}{v:AV}{K:AV->Prop}(hl:lenE T t s v K):lenE T t s' v K:=by
 cases v with
 |own i=>
  simp only[lenE]at*
  cases ho:s.ob i with
  |none=>simp[ho]at hl
  |some o=>rw[h i o ho];rw[ho]at hl;exact hl
 |d p=>cases p<;>exact hl
 | _=>exact hl
theorem zdc{s s':St}(h:More s s'):∀{l:List Cap}{xs:List D},capsV s l=some xs->capsV s' l=some xs
 | [],_,hv=>hv
 | .dat x::r,xs,hv=>by
  simp only[capsV]at*
  cases hr:capsV s r with
  |none=>simp[hr]at hv
  |some l=>rw[zdc h hr];rw[hr]at hv;exact hv
 | .own i::r,xs,hv=>by
  simp only[capsV]at*
  cases ho:s.ob i with
  |none=>simp[ho]at hv
  |some o=>
  cases hr:capsV s r with
  |none=>cases o<;>simp[ho,hr]at hv
  |some l=>rw[h i o ho,zdc h hr];rw[ho,hr]at hv;exact hv
theorem zgw{s s':St}(h:More s s'){v:AV}{y:V1}(hv:toV1 s v=some y):toV1 s' v=some y:=by
 cases v with
 |own i=>
  simp only[toV1]at*
  cases ho:s.ob i with
  |none=>simp[ho]at hv
  |some o=>rw[h i o ho];rw[ho]at hv;exact hv
 |aggc l=>
  simp only[toV1]at*
  cases hc:capsV s l with
  |none=>simp[hc]at hv
  |some xs=>rw[zdc h hc];rw[hc]at hv;exact hv
 | _=>exact hv
theorem zbx{s s':St}(h:More s s'):∀{vs:List AV}{ys:List V1},toV1s s vs=some ys->toV1s s' vs=some ys
 | [],_,hv=>hv
 |v::vs,ys,hv=>by
  simp only[toV1s]at*
  cases ha:toV1 s v with
  |none=>simp[ha]at hv
  |some y=>
  cases hb:toV1s s vs with
  |none=>simp[ha,hb]at hv
  |some l=>rw[zgw h ha,zbx h hb];rw[ha,hb]at hv;exact hv
theorem zbq{s s':St}{place:Nat->Option (Nat×Nat)}:∀{parts:List (Nat×Operand)}{l:List D},(∀p∈parts,ev s' p.2=ev s p.2)->fillE place s' parts l=fillE place s parts l
 | [],l,_=>rfl
 |(i,x)::r,l,h=>by
  have h1:=h (i,x) (by simp)
  have ih:=fun l=>zbq (s:=s) (s':=s') (place:=place) (parts:=r) (l:=l) fun p hp=>h p (by simp[hp])
  simp only at h1
  simp only[fillE,h1,ih]
theorem zif{s s':St}(h:More s s'){v:AV}{y:D}(hv:cellD2 s v=some y):cellD2 s' v=some y:=by
 cases v with
 |own i=>
  simp only[cellD2]at*
  cases ho:s.ob i with
  |none=>simp[ho]at hv
  |some o=>rw[h i o ho];rw[ho]at hv;exact hv
 | _=>exact hv
theorem zdr{s s':St}(h:More s s'):∀{vs:List AV}{ys:List D},cellsD2 s vs=some ys->cellsD2 s' vs=some ys
 | [],ys,hv=>hv
 |v::vs,ys,hv=>by
  simp only[cellsD2]at*
  cases ha:cellD2 s v with
  |none=>simp[ha]at hv
  |some y=>
  cases hb:cellsD2 s vs with
  |none=>simp[ha,hb]at hv
  |some l=>rw[zif h ha,zdr h hb];rw[ha,hb]at hv;exact hv
theorem zkP{s s':St}(h:More s s'){v:AV}{y:V1}(hv:toV2 s v=some y):toV2 s' v=some y:=by
 cases v with
 |box i off=>
  simp only[toV2]at*
  cases ho:s.ob i with
  |none=>simp[ho]at hv
  |some o=>
   rw[h i o ho]
   cases o with
   |box cs=>
    simp only[ho]at hv⊢
    cases hc:cellsD2 s cs with
    |none=>simp[hc]at hv
    |some xs=>rw[zdr h hc];rw[hc]at hv;exact hv
   |row _ _ _ _=>simp[ho]at hv
   |mp _=>simp[ho]at hv
 | _=>simp only[toV2]at hv⊢;exact zgw h hv
theorem zcX{s s':St}(h:More s s'):∀{vs:List AV}{ys:List V1},toV2s s vs=some ys->toV2s s' vs=some ys
 | [],ys,hv=>hv
 |v::vs,ys,hv=>by
  simp only[toV2s]at*
  cases ha:toV2 s v with
  |none=>simp[ha]at hv
  |some y=>
  cases hb:toV2s s vs with
  |none=>simp[ha,hb]at hv
  |some l=>rw[zkP h ha,zcX h hb];rw[ha,hb]at hv;exact hv
def SameOn(s s':St)(op:Op):Prop:=∀x∈op.operands,ev s' x=ev s x
theorem zja{s s':St}(h:More s s'){op:Op}(hs:SameOn s s' op){K:AV->Prop}(hl:opE P T E s op K):opE P T E s' op K:=by
 unfold SameOn at hs
 cases op with
 |move x=>have:=hs x (by simp[Op.operands]);simp only[opE,this]at*;exact hl
 |assign x=>have:=hs x (by simp[Op.operands]);simp only[opE,this]at*;exact hl
 |pick c a b=>
  have h1:=hs c (by simp[Op.operands])
  have h2:=hs a (by simp[Op.operands])
  have h3:=hs b (by simp[Op.operands])
  simp only[opE,h1,h2,h3]at*;exact hl
 |load t x=>
  have:=hs x (by simp[Op.operands])
  simp only[opE,this]at*
  cases ht:T t with
  |none=>simp[ht]at hl
  |some ti=>simp only[ht]at*;exact zkg h hl
 |fieldAddr st x f=>have:=hs x (by simp[Op.operands]);simp only[opE,this]at*;exact hl
 |indexAddr t x i=>
  have h1:=hs x (by simp[Op.operands])
  have h2:=hs i (by simp[Op.operands])
  simp only[opE,h1,h2]at*;exact zee h hl
 |field st x f=>have:=hs x (by simp[Op.operands]);simp only[opE,this]at*;exact hl
 |index t x i=>
  have h1:=hs x (by simp[Op.operands])
  have h2:=hs i (by simp[Op.operands])
  simp only[opE,h1,h2]at*;exact hl
 |binOp op t x y yt=>
  have h1:=hs x (by simp[Op.operands])
  have h2:=hs y (by simp[Op.operands])
  simp only[opE,h1,h2]at*;exact hl
 |unOp op t x=>have:=hs x (by simp[Op.operands]);simp only[opE,this]at*;exact hl
 |convert src dst x=>have:=hs x (by simp[Op.operands]);simp only[opE,this]at*;exact hl
 |build t parts=>
  have hp:∀p∈parts.toList,ev s' p.2=ev s p.2:=fun p hp=>hs p.2 (by simp only[Op.operands,jbo,kJ];exact⟨p,hp,rfl⟩)
  have e:∀place l,fillE place s' parts.toList l=fillE place s parts.toList l:=fun _ _=>zbq hp
  simp only[opE,buildE,e]at*;exact hl
 |slice t x lo hi mx=>
  cases mx with
  |some m=>
   have h1:=hs x (by simp[Op.operands])
   have h4:=hs m (by simp[Op.operands])
   have h2:lo.map (ev s')=lo.map (ev s):=by
    cases lo with
    |none=>rfl
    |some l=>simp only[qL];rw[hs l (by simp[Op.operands])]
   have h3:hi.map (ev s')=hi.map (ev s):=by
    cases hi with
    |none=>rfl
    |some l=>simp only[qL];rw[hs l (by simp[Op.operands])]
   simp only[opE,h1,h2,h3,h4]at*;exact hl
  |none=>
   have h1:=hs x (by simp[Op.operands])
   have h2:lo.map (ev s')=lo.map (ev s):=by
    cases lo with
    |none=>rfl
    |some l=>simp only[qL];rw[hs l (by simp[Op.operands])]
   have h3:hi.map (ev s')=hi.map (ev s):=by
    cases hi with
    |none=>rfl
    |some l=>simp only[qL];rw[hs l (by simp[Op.operands])]
   simp only[opE,h1,h2,h3]at*;exact zhz h hl
 |extract x i=>have:=hs x (by simp[Op.operands]);simp only[opE,this]at*;exact hl
 |makeFunc fn first caps=>
  cases fn with
  |func f=>
   have h1:caps.toList.map (ev s')=caps.toList.map (ev s):=qH fun x hx=>hs x (by simp only[Op.operands,jan];exact .inr (by simpa using hx))
   have hm:∀p∈first.toList,ev s' p=ev s p:=fun p hp=>hs p (by simp only[Op.operands,jan];exact .inl (by simpa using hp))
   simp only[opE,h1]at*
   generalize capsOf (caps.toList.map (ev s))=cs at*
   generalize first.toList=fl at*
   match fl,cs,hm,hl with
   | [],some [],_,hl=>exact hl
   | [],some (_::_),_,hl=>exact hl
   | [x],some [],hm,hl=>
    have:=hm x (kI.2 rfl)
    simp only[this]at*;exact hl
  | _=>exact hl
 |call c=>
  obtain⟨callee,args,argTypes⟩:=c
  have hargs:args.toList.map (ev s')=args.toList.map (ev s):=qH fun x hx=>hs x (by simp only[Op.operands,Call.operands,jan];exact .inr (by simpa using hx))
  cases callee with
  |value f=>
   have h1:=hs f (by simp[Op.operands,Call.operands])
   simp only[opE,h1,hargs]at*
   split at hl
   ·simp only[zaI]at*
    rcases hl with⟨xs,res,h2,h3,h4,h5⟩|⟨xs,res,h2,h3,h5⟩
    ·exact .inl ⟨xs,res,zbx h h2,h3,h4,h5⟩
    exact .inr ⟨xs,res,zcX h h2,h3,h5⟩
   ·exact hl.elim
  |invoke r nm=>
   have h1:=hs r (by simp[Op.operands,Call.operands])
   simp only[opE,h1,hargs,zeC]at*
   obtain⟨u,m,g,f,g1,g2,g3⟩:=hl
   refine⟨u,m,g,f,g1,g2,?_⟩
   simp only[zaI]at*
   rcases g3 with⟨xs,res,h2,h3,h4,h5⟩|⟨xs,res,h2,h3,h5⟩
   ·exact .inl ⟨xs,res,zbx h h2,h3,h4,h5⟩
   ·exact .inr ⟨xs,res,zcX h h2,h3,h5⟩
  |builtin b=>
   cases b<;>try exact hl
   case len=>
    simp only[opE]at*
    cases ha:args.toList with
    |nil=>simp[ha]at hl
    |cons x r=>
    cases r with
    |cons y r=>simp[ha]at hl
    |nil=>
    rw[ha]at hargs
    simp only[kY,ja1,jas,and_true]at hargs
    cases hat:argTypes.toList with
    |nil=>simp[ha,hat]at hl
    |cons t r'=>
    cases r' with
    |cons y r=>simp[ha,hat]at hl
    |nil=>simp only[ha,hat,hargs]at*;exact zmd h hl
   case max=>
    simp only[opE]at*
    cases ha:args.toList with
    |nil=>simp[ha]at hl
    |cons x r=>
    rw[ha]at hargs
    simp only[kY,jas]at hargs
    simp only[ha,hargs.1,hargs.2]at*;exact hl
   case min=>
    simp only[opE]at*
    cases ha:args.toList with
    |nil=>simp[ha]at hl
    |cons x r=>
     rw[ha]at hargs
     simp only[kY,jas]at hargs
     simp only[ha,hargs.1,hargs.2]at*;exact hl
 |nilCheck x=>have:=hs x (by simp[Op.operands]);simp only[opE,this]at*;exact hl
 |makeInterface t x=>have:=hs x (by simp[Op.operands]);simp only[opE,this]at*;exact hl
 |typeAssert x xt t ok=>
  cases ok with
  |false=>exact hl
  |true=>have:=hs x (by simp[Op.operands]);simp only[opE,this]at*;exact hl
 | _=>exact hl
theorem zep{s s':St}{place:Nat->Option (Nat×Nat)}:∀{parts:List (Nat×Operand)}{l:List Cap},(∀p∈parts,ev s' p.2=ev s p.2)->fillC place s' parts l=fillC place s parts l
 | [],l,_=>rfl
 |(i,x)::r,l,h=>by
  have h1:ev s' x=ev s x:=h (i,x) (jar ..)
  simp only[fillC,h1]
  split
  ·rename_i off size ys _ _
   cases hb:(Nat.beq ys.length size&&Nat.ble (off+size) l.length)with
   |false=>rfl
   |true=>
   simp only[kT]
   cases setRange l off ys with
   |none=>rfl
   |some l'=>exact zep fun p hp=>h p (jav _ hp)
  rfl
theorem zke{s s':St}(h:More s s'){t:Nat}{x i:AV}{ok:Bool}{K:AV->Prop}(hl:lookE P T s t x i ok K):lookE P T s' t x i ok K:=by
 have e:∀q,mapD s x=some q->mapD s' x=some q:=fun q hq=>by
  cases x with
  |own j=>
   simp only[mapD]at*
   cases ho:s.ob j with
   |none=>simp[ho]at hq
   |some o=>rw[h j o ho];rw[ho]at hq;exact hq
  |d y=>cases y<;>exact hq
  | _=>exact hq
 unfold lookE at*
 split at hl
 ·split at hl
  ·rename_i h1 h2 h3
   rw[e _ h1,h2,h3]
   exact hl
  exact hl.elim
 exact hl.elim
theorem zgs{s s':St}(h:More s s'){op:Op}(hs:SameOn s s' op){K:AV->Prop}(hl:valD P T E s op K):valD P T E s' op K:=by
 cases op with
 |buildSlice t len parts=>
  have hp:∀p∈parts.toList,ev s' p.2=ev s p.2:=fun p hp=>hs p.2 (by simp only[Op.operands,jbo,kJ];exact⟨p,hp,rfl⟩)
  have e:∀place l,fillE place s' parts.toList l=fillE place s parts.toList l:=fun _ _=>zbq hp
  simp only[valD,buildSliceE,e]at*;exact hl
 |lookup t x i ok=>
  have h1:=hs x (by simp[Op.operands])
  have h2:=hs i (by simp[Op.operands])
  simp only[valD,h1,h2]at*
  exact zke h hl
 |build t parts=>
  have hp:∀p∈parts.toList,ev s' p.2=ev s p.2:=fun p hp=>hs p.2 (by simp only[Op.operands,jbo,kJ];exact⟨p,hp,rfl⟩)
  have e:(parts.toList.any fun p=>isOid (ev s' p.2))=parts.toList.any fun p=>isOid (ev s p.2):=by
   rw[kQ,kM,kM]
   exact⟨fun⟨p,h1,h2⟩=>⟨p,h1,by rw[<- hp p h1];exact h2⟩,fun⟨p,h1,h2⟩=>⟨p,h1,by rw[hp p h1];exact h2⟩⟩
  have ec:∀place l,fillC place s' parts.toList l=fillC place s parts.toList l:=fun _ _=>zep hp
  simp only[valD]at hl⊢
  rw[e]
  cases hb:(parts.toList.any fun p=>isOid (ev s p.2))with
  |true=>simp only[hb]at hl⊢;unfold buildC at*;simp only[ec];exact hl
  |false=>simp only[hb]at hl⊢;exact zja (P:=P) (T:=T) (E:=E) (K:=K) h hs hl
 | _=>exact zja (P:=P) (T:=T) (E:=E) (K:=K) h hs hl
theorem zkG{s s':St}{op:Op}(hp:isPu op=true)(hs:SameOn s s' op){K:AV->Prop}(hl:valD P T E s op K):valD P T E s' op K:=by
 unfold SameOn at hs
 cases op with
 |move x=>have:=hs x (by simp[Op.operands]);simp only[valD,opE,this]at*;exact hl
 |pick c a b=>
  have h1:=hs c (by simp[Op.operands])
  have h2:=hs a (by simp[Op.operands])
  have h3:=hs b (by simp[Op.operands])
  simp only[valD,opE,h1,h2,h3]at*;exact hl
 |fieldAddr st x f=>have:=hs x (by simp[Op.operands]);simp only[valD,opE,this]at*;exact hl
 |field st x f=>have:=hs x (by simp[Op.operands]);simp only[valD,opE,this]at*;exact hl
 |index t x i=>
  have h1:=hs x (by simp[Op.operands])
  have h2:=hs i (by simp[Op.operands])
  simp only[valD,opE,h1,h2]at*;exact hl
 |binOp op t x y yt=>
  have h1:=hs x (by simp[Op.operands])
  have h2:=hs y (by simp[Op.operands])
  simp only[valD,opE,h1,h2]at*;exact hl
 |unOp op t x=>have:=hs x (by simp[Op.operands]);simp only[valD,opE,this]at*;exact hl
 |convert src dst x=>have:=hs x (by simp[Op.operands]);simp only[valD,opE,this]at*;exact hl
 |extract x i=>have:=hs x (by simp[Op.operands]);simp only[valD,opE,this]at*;exact hl
 |nilCheck x=>have:=hs x (by simp[Op.operands]);simp only[valD,opE,this]at*;exact hl
 |call c=>
  obtain⟨callee,args,argTypes⟩:=c
  have hargs:args.toList.map (ev s')=args.toList.map (ev s):=qH fun x hx=>hs x (by simp only[Op.operands,Call.operands,jan];exact .inr (by simpa using hx))
  cases callee with
  |builtin b=>
   cases b<;>first|(simp[isPu]at hp;done)|skip
   all_goals
    simp only[valD,opE]at*
    cases ha:args.toList with
    |nil=>simp[ha]at hl
    |cons x r=>
     rw[ha]at hargs
     simp only[kY,jas]at hargs
     simp only[ha,hargs.1,hargs.2]at*;exact hl
  | _=>simp[isPu]at hp
 | _=>cases hp
def MoreV(s s':St)(v:AV):Prop:=∀b∈v.refs,∀o,s.ob b=some o->s'.ob b=some o
theorem zox{s s':St}{ti:TI}{v:AV}(h:MoreV s s' v){K:AV->Prop}(hl:loadE s ti v K):loadE s' ti v K:=by
 have h:MoreV s s' v.asPtr:=fun b hb=>h b (by rw[<- zdg];exact hb)
 unfold loadE at*
 generalize v.asPtr=u at*
 cases u with
 |box i off=>
  simp only[loadP]at*
  cases ho:s.ob i with
  |none=>simp[ho]at hl
  |some o=>rw[h i (by simp[AV.refs]) o ho];rw[ho]at hl;exact hl
 |elt i k n c=>
  simp only[loadP]at*
  cases ho:s.ob i with
  |none=>simp[ho]at hl
  |some o=>rw[h i (by simp[AV.refs]) o ho];rw[ho]at hl;exact hl
 | _=>exact hl
theorem zkY{s s':St}{T:TT}{t:Nat}{x:AV}(h:MoreV s s' x){lo hi:Option AV}{K:AV->Prop}(hl:sliceE T s t x lo hi K):sliceE T s' t x lo hi K:=by
 cases ht:T t with
 |none=>simp[sliceE,ht]at hl
 |some ti=>
 obtain⟨size,ag,bytes,zero,kind⟩:=ti
 cases kind with
 |slice e=>
  cases x with
  |own id=>
   simp only[sliceE,ht]at*
   cases ho:s.ob id with
   |none=>simp[ho]at hl
   |some o=>rw[h id (by simp[AV.refs]) o ho];rw[ho]at hl;exact hl
  |d y=>cases y<;>first|exact(by simpa only[sliceE,ht]using hl)|(simp[sliceE,ht]at hl;done)
  | _=>simp[sliceE,ht]at hl
 | _=>simp[sliceE,ht]at hl
theorem zkH{s s':St}{op:Op}(hp:isPl op=true)(hs:SameOn s s' op)(h:∀x∈op.operands,MoreV s s' (ev s x)){K:AV->Prop}(hl:valD P T E s op K):valD P T E s' op K:=by
 unfold SameOn at hs
 cases op with
 |move x=>have:=hs x (by simp[Op.operands]);simp only[valD,opE,this]at*;exact hl
 |nilCheck x=>have:=hs x (by simp[Op.operands]);simp only[valD,opE,this]at*;exact hl
 |fieldAddr t x f=>have:=hs x (by simp[Op.operands]);simp only[valD,opE,this]at*;exact hl
 |load t x=>
  have:=hs x (by simp[Op.operands])
  have hm:=h x (by simp[Op.operands])
  simp only[valD,opE,this]at*
  cases ht:T t with
  |none=>simp[ht]at hl
  |some ti=>simp only[ht]at*;exact zox hm hl
 |binOp op t x y yt=>
  have h1:=hs x (by simp[Op.operands])
  have h2:=hs y (by simp[Op.operands])
  simp only[valD,opE,h1,h2]at*;exact hl
 |buildSlice t len parts=>
  have hp:∀p∈parts.toList,ev s' p.2=ev s p.2:=fun p hp=>hs p.2 (by simp only[Op.operands,jbo,kJ];exact⟨p,hp,rfl⟩)
  have e:∀place l,fillE place s' parts.toList l=fillE place s parts.toList l:=fun _ _=>zbq hp
  simp only[valD,buildSliceE,e]at*;exact hl
 |slice t x lo hi mx=>
  cases mx with
  |some m=>
   have h1:=hs x (by simp[Op.operands])
   have h4:=hs m (by simp[Op.operands])
   have h2:lo.map (ev s')=lo.map (ev s):=by
    cases lo with
    |none=>rfl
    |some l=>simp only[qL];rw[hs l (by simp[Op.operands])]
   have h3:hi.map (ev s')=hi.map (ev s):=by
    cases hi with
    |none=>rfl
    |some l=>simp only[qL];rw[hs l (by simp[Op.operands])]
   simp only[valD,opE,h1,h2,h3,h4]at*;exact hl
  |none=>
   have h1:=hs x (by simp[Op.operands])
   have hm:=h x (by simp[Op.operands])
   have h2:lo.map (ev s')=lo.map (ev s):=by
    cases lo with
    |none=>rfl
    |some l=>simp only[qL];rw[hs l (by simp[Op.operands])]
   have h3:hi.map (ev s')=hi.map (ev s):=by
    cases hi with
    |none=>rfl
    |some l=>simp only[qL];rw[hs l (by simp[Op.operands])]
   simp only[valD,opE,h1,h2,h3]at*;exact zkY hm hl
 | _=>cases hp
end
end Go.Pg
