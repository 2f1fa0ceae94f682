/- Lemmas, joined by program. -/
import Derived.Test.YtcmghlfakcppkaaGreatJ2
import Derived.MapKept
import Derived.Laws.CopyRow
import Derived.Maps.AppendAt
import Derived.Deep.AppendLies
import Derived.Lib.LazyBuf
import Derived.Laws.MakeOwn
set_option maxHeartbeats 4000000
set_option linter.all false
namespace Go.Pg
open Go.RowKit
section
variable {P:Program}{T:TT}{E:Env}{cx:Cx}{γ:Nat->Value}{s:St}{a:Act}{w:World}
theorem zaF{f:FuncId}(h:Ent P f)(args:Array Value)(w:World):(callFunc f args).run P w= .ok (.enter f args) w:=by
 obtain⟨fn,h1,h2,h3⟩:=h
 have h2':fn.name≠ "runtime.NumGoroutine" :=by simpa using h2
 have h3':¬fn.body=none:=fun e=>by simp [e]at h3
 simp [callFunc,h1,h2',h3']
theorem zkM{op:UnOp}{v:AV}{x:Value}(hm:M w (okOf cx s γ w) γ v x){K:AV->Prop}(hl:unE op v K):Yd P cx γ s w (Op.unary op x) K:=by
 cases v with
 |d p=>
  cases p with
  |int k n=>
   have hx:x= .int k n:=hm
   subst hx
   cases op<;>simp only[unE]at hl
   case neg=>exact .of (v:=.d (.int k (-n))) (x:=.int k (-n)) (by simp[Op.unary,Op.intArith];exact zcz hl.1) rfl (fun j hj=>by simp[AV.refs]at hj) hl.2
   case xor=>exact .of (v:=.d (.int k (k.wrap (BitVec.ofInt k.bits (if k.signed then -1 else k.max) ^^^ BitVec.ofInt k.bits n).toNat))) (x:=.int k (k.wrap (BitVec.ofInt k.bits (if k.signed then -1 else k.max) ^^^ BitVec.ofInt k.bits n).toNat)) (by unfold Op.unary Op.intBits;rfl) rfl (fun j hj=>by simp[AV.refs]at hj) hl
  |bool b=>
   have hx:x= .bool b:=hm
   subst hx
   cases op<;>simp only[unE]at hl
   case not=>exact .of (v:=.d (.bool (!b))) (x:=.bool (!b)) (by simp[Op.unary]) rfl (fun j hj=>by simp[AV.refs]at hj) hl
  | _=>cases op<;>simp[unE]at hl
 | _=>cases op<;>simp[unE]at hl
theorem zeL{i:Nat}{v:AV}{x:Value}(hm:M w (okOf cx s γ w) γ v x)(hrf:∀j∈v.refs,(s.ob j).isSome=true){K:AV->Prop}(hl:extractE v i K):Yd P cx γ s w (Instr.extract x i) K:=by
 cases v with
 |tup l=>
  obtain⟨vs,rfl,h⟩:=hm
  simp only[extractE,zau]at hl
  cases hi:l[i]? with
  |none=>simp[hi]at hl
  |some y=>
   obtain⟨u,hu,hr⟩:=h.get i y hi
   simp only[hi]at hl
   cases y with
   |d y=>exact .of (v:=.d y) (x:=u) (by simp[Instr.extract,hu]) hr (fun j hj=>by simp[AV.refs]at hj) hl
   |agg ys=>exact .of (v:=.agg ys) (x:=u) (by simp[Instr.extract,hu]) hr (fun j hj=>by simp[AV.refs]at hj) hl
 |tupo o l=>
  obtain⟨b,vs,h0,rfl,h⟩:=hm
  cases i with
  |zero=>exact .of (v:=.box o 0) (x:=.pointer (some ⟨b,0,none⟩)) (by simp[Instr.extract]) ⟨b,h0,rfl⟩ (fun j hj=>hrf j hj) hl
  |succ i=>
   simp only[extractE,zau]at hl
   cases hi:l[i]? with
   |none=>simp[hi]at hl
   |some y=>
    obtain⟨u,hu,hr⟩:=h.get i y hi
    simp only[hi]at hl
    cases y with
    |d y=>exact .of (v:=.d y) (x:=u) (by simp[Instr.extract,hu]) hr (fun j hj=>by simp[AV.refs]at hj) hl
    |agg ys=>exact .of (v:=.agg ys) (x:=u) (by simp[Instr.extract,hu]) hr (fun j hj=>by simp[AV.refs]at hj) hl
 |tupr o l=>
  obtain⟨vs,rfl,h⟩:=hm
  cases i with
  |zero=>exact .of (v:=.own o) (x:=γ o) (by simp[Instr.extract]) rfl (fun j hj=>hrf j hj) hl
  |succ i=>
   simp only[extractE,zau]at hl
   cases hi:l[i]? with
   |none=>simp[hi]at hl
   |some y=>
    obtain⟨u,hu,hr⟩:=h.get i y hi
    simp only[hi]at hl
    cases y with
    |d y=>exact .of (v:=.d y) (x:=u) (by simp[Instr.extract,hu]) hr (fun j hj=>by simp[AV.refs]at hj) hl
    |agg ys=>exact .of (v:=.agg ys) (x:=u) (by simp[Instr.extract,hu]) hr (fun j hj=>by simp[AV.refs]at hj) hl
 | _=>simp[extractE]at hl
theorem zcd(mx:Bool):∀{r:List AV}{v:AV}{x:Value}{ys:List Value},M w (okOf cx s γ w) γ v x->(∀j∈v.refs,(s.ob j).isSome=true)->All2 (M w (okOf cx s γ w) γ) r ys->∀{K:AV->Prop},maxE mx v r K->
  Yd P cx γ s w (ys.foldlM (match mx with|true=>Builtin.max2|false=>Builtin.min2) x) K
 | [],v,x,_,hm,hr,.nil,K,hl=>⟨v,x,by simp,hm,hr,by simpa [maxE]using hl⟩
 |u::r,v,x,y::ys,hm,hr,.cons h1 h2,K,hl=>by
  cases v with
  |d p=>
   cases p with
   |int k n=>
    cases u with
    |d q=>
     cases q with
     |int k' m=>
      have hx:x= .int k n:=hm
      have hy:y= .int k' m:=h1
      subst hx;subst hy
      simp only[maxE]at hl
      cases mx with
      |true=>
       simp only at hl⊢
       obtain⟨v,x,h3,h4⟩:=zcd true (v:=.d (.int k (max n m))) (x:=.int k (max n m)) rfl (fun j hj=>by simp[AV.refs]at hj) h2 hl
       refine⟨v,x,?_,h4⟩
       have:(if m > n then m else n)=max n m:=by split<;>omega
       simpa [Builtin.max2,this]using h3
      |false=>
       simp only at hl⊢
       obtain⟨v,x,h3,h4⟩:=zcd false (v:=.d (.int k (min n m))) (x:=.int k (min n m)) rfl (fun j hj=>by simp[AV.refs]at hj) h2 hl
       refine⟨v,x,?_,h4⟩
       have:(if m<n then m else n)=min n m:=by split<;>omega
       simpa [Builtin.min2,this]using h3
     | _=>simp[maxE]at hl
    | _=>simp[maxE]at hl
   | _=>cases u<;>simp[maxE]at hl
  | _=>simp[maxE]at hl
theorem zbN(h:RG cx γ s a w):∀xs:List Operand,All2 (M w (okOf cx s γ w) γ) (xs.map (ev s)) (xs.map a.eval)
 | []=>.nil
 |x::xs=>.cons (ev_m h x).1 (zbN h xs)
theorem zgg(h:RG cx γ s a w):∀{vs:List AV}{caps:List Cap}{xs:List Value},capsOf vs=some caps->All2 (M w (okOf cx s γ w) γ) vs xs->(∀v∈vs,∀j∈v.refs,(s.ob j).isSome=true)->All2 (CapM w (okOf cx s γ w) γ) caps xs/\∀j∈capRefs caps,(s.ob j).isSome=true
 | [],caps,[],hb,.nil,_=>by simp[capsOf]at hb;subst hb;exact⟨.nil,by simp[capRefs]⟩
 |v::vs,caps,x::xs,hb,.cons h1 h2,hr=>by
  simp only[capsOf]at hb
  cases hc:capOf v with
  |none=>simp[hc]at hb
  |some c=>
  cases hr':capsOf vs with
  |none=>simp[hc,hr']at hb
  |some l=>
  simp only[hc,hr',jO]at hb
  subst hb
  obtain⟨h3,h4⟩:=zgg h hr' h2 fun v hv=>hr v (by simp[hv])
  have one:CapM w (okOf cx s γ w) γ c x/\∀j∈capRefs [c],j∈v.refs:=by
   cases v with
   |box i o=>
    cases o with
    |zero=>
     simp only[capOf,jO]at hc;subst hc
     obtain⟨b,h5,h6⟩:=h1
     exact⟨h6.trans h5.symm,fun j hj=>by simpa [capRefs,AV.refs]using hj⟩
    |succ o=>simp[capOf]at hc
   |roe m g=>simp only[capOf,jO]at hc;subst hc;exact⟨h1,fun j hj=>by simp[capRefs]at hj⟩
   |d y=>simp only[capOf,jO]at hc;subst hc;exact⟨h1,fun j hj=>by simp[capRefs]at hj⟩
   | _=>simp[capOf]at hc
  refine⟨.cons one.1 h3,fun j hj=>?_⟩
  cases c with
  |own i=>
   simp only[capRefs,qC]at hj
   rcases hj with rfl|hj
   ·exact hr v (by simp) j (one.2 j (by simp[capRefs]))
   ·exact h4 j hj
  |dat y=>exact h4 j (by simpa [capRefs]using hj)
theorem zkQ(h:RG cx γ s a w){v:AV}{y:V1}{x:Value}(hv:toV1 s v=some y)(hm:M w (okOf cx s γ w) γ v x):Rep1 w (fun b=>b<w.heap.size) y x/\(v.isOwn=false->Rep1 w (okOf cx s γ w) y x):=by
  have hlt:∀b,okOf cx s γ w b->(fun b=>b<w.heap.size) b/\w.heap[b]?=w.heap[b]?:=fun b hb=>⟨zal h hb,rfl⟩
  have caps:∀{cs:List Cap}{xs:List D}{vs:List Value},capsV s cs=some xs->All2 (CapM w (okOf cx s γ w) γ) cs vs->All2 (Rep w fun b=>b<w.heap.size) xs vs:=by
    intro cs xs vs h1 h2
    induction h2 generalizing xs with
    |nil=>simp [capsV]at h1;subst h1;exact .nil
    | @cons c u cs vs hu _ ih=>
      cases c with
      |dat z=>
       simp only [capsV]at h1
       cases hr:capsV s cs with
       |none=>simp [hr]at h1
       |some l=>simp only [hr,jO]at h1;subst h1;exact .cons (Rep.keep hlt hu) (ih hr)
      |own i=>
       simp only [capsV]at h1
       have hx:u=γ i:=hu
       cases ho:s.ob i with
       |none=>simp [ho]at h1
       |some o=>
        cases hr:capsV s cs with
        |none=>cases o<;>simp [ho,hr]at h1
        |some l=>
         cases o with
         |box q=>simp [ho,hr]at h1
         |row e k n f=>
          simp only [ho,hr,jO]at h1;subst h1
          refine .cons ?_ (ih hr)
          obtain⟨xs,h1,_,_,h3⟩:=h.objs i _ ho
          rw [hx]
          exact zc1 h1 (fun m hm j hj=>by obtain⟨u,hu,hr⟩:=h3 m hm j hj;exact⟨u,hu,Rep.keep hlt hr⟩) fun b hb=>(zax h ho hb).2
         |mp m ks f=>
          simp only [ho,hr,jO]at h1;subst h1
          refine .cons ?_ (ih hr)
          obtain⟨b,es,c,h1,h2,h3,h4,h5⟩:=h.objs i _ ho
          rw [hx]
          exact⟨b,es,c,h1,(jB.1 h3).1,h3,h4,fun j hj=>by obtain⟨e,he,hr⟩:=h5 j hj;exact⟨e,he,Rep.keep hlt hr⟩⟩
  have plain:v.isOwn=false->(∀xs,v≠ .agg xs)->Rep1 w (fun b=>b<w.heap.size) y x/\Rep1 w (okOf cx s γ w) y x:=fun h1 h2=>by
    have: ∃z,avD v=some z/\y= .d z:=by
      cases v<;>simp only [toV1]at hv<;>first
        |(simp [AV.isOwn]at h1;done)
        |exact absurd rfl (h2 _)
        |(split at hv
          · rename_i z hz;exact⟨z,hz,by simpa using hv.symm⟩
          cases hv)
    obtain⟨z,hz,rfl⟩:=this
    have hr:=(zcw hz hm).1
    exact⟨Rep.keep hlt hr,hr⟩
  cases v with
  |agg xs=>simp only [toV1,jO]at hv;subst hv;exact⟨Rep1.keep (x:= .agg xs) hlt hm,fun _=>hm⟩
  |aggc cs=>
   simp only [toV1]at hv
   cases hc:capsV s cs with
   |none=>simp [hc]at hv
   |some xs=>
    simp only [hc,jO]at hv;subst hv
    obtain⟨vs,rfl,h2⟩:=hm
    exact⟨⟨vs,rfl,caps hc h2⟩,fun h=>by simp [AV.isOwn]at h⟩
  |own i=>
   simp only [toV1]at hv
   cases ho:s.ob i with
   |none=>simp [ho]at hv
   |some o=>
    cases o with
    |box cs=>simp [ho]at hv
    |mp m ks f=>
     simp only [ho,jO]at hv;subst hv
     obtain⟨b,es,c,h1,h2,h3,h4,h5⟩:=h.objs i _ ho
     have hx:x=γ i:=hm
     rw [hx]
     refine⟨⟨b,es,c,h1,(jB.1 h3).1,h3,h4,fun j hj=> ?_⟩,fun h=>by simp [AV.isOwn]at h⟩
     obtain⟨e,he,hr⟩:=h5 j hj
     exact⟨e,he,Rep.keep hlt hr⟩
    |row e k n f=>
     simp only [ho,jO]at hv;subst hv
     obtain⟨xs,h1,_,_,h3⟩:=h.objs i _ ho
     have hx:x=γ i:=hm
     rw [hx]
     refine⟨zc1 h1 (fun m hm j hj=> ?_) fun b hb=>(zax h ho hb).2,fun h=>by simp [AV.isOwn]at h⟩
     obtain⟨u,hu,hr⟩:=h3 m hm j hj
     exact⟨u,hu,Rep.keep hlt hr⟩
  | _=>exact⟨(plain rfl (fun _ e=>by cases e)).1,fun _=>(plain rfl (fun _ e=>by cases e)).2⟩
theorem zbw(h:RG cx γ s a w):∀{vs:List AV}{ys:List V1}{xs:List Value},toV1s s vs=some ys->All2 (M w (okOf cx s γ w) γ) vs xs->
  All2 (Rep1 w (fun b=>b<w.heap.size)) ys xs/\(vs.all (fun v=>!v.isOwn)=true->All2 (Rep1 w (okOf cx s γ w)) ys xs)
 | [],ys,[],hv,.nil=>by simp[toV1s]at hv;subst hv;exact⟨.nil,fun _=>.nil⟩
 |v::vs,ys,x::xs,hv,.cons h1 h2=>by
  simp only[toV1s]at hv
  cases ha:toV1 s v with
  |none=>simp[ha]at hv
  |some y=>
  cases hb:toV1s s vs with
  |none=>simp[ha,hb]at hv
  |some ys'=>
  simp only[ha,hb,jO]at hv;subst hv
  obtain⟨h3,h4⟩:=zkQ h ha h1
  obtain⟨h5,h6⟩:=zbw h hb h2
  refine⟨.cons h3 h5,fun hall=>?_⟩
  simp only[jaA,jP]at hall
  exact .cons (h4 (by simpa using hall.1)) (h6 hall.2)
theorem Rep.flat{ok ok':Nat->Prop}{w':World}{x:D}{v:Value}(hf:x.flat=true)(h:Rep w ok x v):Rep w' ok' x v:=by
 cases x with
 |slc k n f=>simp[D.flat]at hf
 |ptr m g=>simp[D.flat]at hf
 |clo f m g=>simp[D.flat]at hf
 |ifc f m g|bnd f m g=>simp[D.flat]at hf
 |mp m ks f=>simp[D.flat]at hf
 | _=>exact h
theorem Rep1.flat{ok ok':Nat->Prop}{w':World}{x:V1}{v:Value}(hf:x.flat=true)(h:Rep1 w ok x v):Rep1 w' ok' x v:=by
 cases x with
 |d x=>exact Rep.flat hf h
 |agg xs=>
 obtain⟨vs,h1,h2⟩:=h
 exact⟨vs,h1,h2.imp fun x _ hx=>Rep.flat (jC.1 hf x hx)⟩
theorem zaX{ok ok':Nat->Prop}{γ:Nat->Value}{w:World}{res:List V1}{v:Value}(hk:(∀b,ok b->ok' b)\/res.all V1.flat=true)(h:ResRep w ok res v):M w ok' γ (resAV res) v:=by
 have conv:∀x u,x∈res->Rep1 w ok x u->Rep1 w ok' x u:=fun x u hx hr=>by
  rcases hk with hk|hk
  ·exact Rep1.keep (fun b hb=>⟨hk b hb,rfl⟩) hr
  exact Rep1.flat (jC.1 hk x hx) hr
 match res,h with
 | [],h=>obtain⟨vs,h1,h2⟩:=h;exact⟨vs,h1,h2.imp conv⟩
 | [.d x],h=>exact conv (.d x) v (by simp) h
 | [.agg x],h=>exact conv (.agg x) v (by simp) h
 |x::y::l,h=>
  obtain⟨vs,h1,h2⟩:=h
  have:M w ok' γ (.tup (x::y::l)) v:=⟨vs,h1,h2.imp conv⟩
  cases x<;>exact this
theorem zaB(res:List V1):(resAV res).refs=[]:=by
 match res with
 | []=>rfl
 | [.d x]=>rfl
 | [.agg x]=>rfl
 | .d _::_::_=>rfl
 | .agg _::_::_=>rfl
theorem zfQ(h:RG cx γ s a w){w':World}(hb:Below w.heap.size w w')(b:Nat)(hok:okOf cx s γ w b\/(w.heap.size<=b/\b<w'.heap.size)):okOf cx s γ w' b:=by
 rcases hok with h1|⟨h1,h2⟩
 ·rcases h1 with h1|⟨h1,h2,h3⟩
  ·exact .inl h1
  exact .inr ⟨h1,jN h2 hb.size,h3⟩
 refine .inr ⟨.inl (jM h.below.size h1),h2,fun i o ho e=>?_⟩
 have:=(zax h ho e).2
 omega
theorem za1{ok:Nat->Prop}{v:AV}{f:FuncId}{ex:List AV}{x:Value}(h:callee v=some (f,ex))(hm:M w ok γ v x):∃caps:List Value,x= .func (.func f) #[] caps.toArray/\All2 (M w ok γ) ex caps:=by
 unfold callee at h
 split at h
 ·cases h;exact⟨[],hm,.nil⟩
 ·cases h
  rename_i f' m g
  obtain⟨vs,h1,h2,h3⟩:=hm
  refine⟨vs,h1,.map_left (All2.of_get (by simp[h2]) fun j q y hx hy=>?_)⟩
  have hj:j<m:=by have:=(kC.1 hx).1;simpa using this
  rw[wF hj]at hx
  cases hx
  obtain⟨u,hu,hr⟩:=h3 j hj
  rw[hy]at hu;cases hu;exact hr
 ·rename_i f' caps
  split at h
  ·rename_i xs hx
   cases h
   obtain⟨vs,h1,h2⟩:=hm
   exact⟨vs,h1,.map_left (zcQ hx h2).1⟩
  cases h
 cases h
theorem zaD{o:Oper}{fo:Operand}{f:FuncId}{args:Array Operand}{at':Array TypeId}(hop:o.op= .call { callee:=.value fo,args,argTypes:=at' }){caps:List Value}(hfo:a.eval fo= .func (.func f) #[] caps.toArray)(hent:Ent P f):
  (execOp a.eval o).run P w= .ok (.enter f (args.toList.map a.eval++caps).toArray) w:=by
 have:(args.toList.map a.eval++caps).toArray=args.map a.eval++caps.toArray:=by simp
 rw[this]
 simp[execOp,hop,resolve,hfo,Deferred.ofValue,invoke,zaF hent]
theorem zpf(h:RG cx γ s a w){c:AV}{x:D}{v:Value}(hc:cellD2 s c=some x)(hm:M w (okOf cx s γ w) γ c v):Rep w (fun b=>b<w.heap.size) x v:=by
 have h1:toV1 s c=some (.d x):=by
  cases c with
  |own i=>
   simp only[cellD2]at hc
   simp only[toV1]
   cases ho:s.ob i with
   |none=>simp[ho]at hc
   |some o=>
    cases o with
    |row e k n f=>simp only[ho,jO]at hc⊢;rw[hc]
    |box _=>simp[ho]at hc
    |mp m ks f=>simp only[ho,jO]at hc⊢;rw[hc]
  |agg xs=>exact absurd hc (by simp[cellD2,avD])
  |aggc xs=>exact absurd hc (by simp[cellD2,avD])
  | _=>simp only[cellD2]at hc;simp only[toV1,hc]
 exact(zkQ h h1 hm).1
theorem zhi(h:RG cx γ s a w):∀{cs:List AV}{xs:List D}{vs:List Value},cellsD2 s cs=some xs->All2 (fun c v=>M w (okOf cx s γ w) γ c v/\v.oneCell'=true) cs vs->All2 (Rep w (fun b=>b<w.heap.size)) xs vs
 | [],xs,[],hv,.nil=>by simp[cellsD2]at hv;subst hv;exact .nil
 |c::cs,xs,v::vs,hv,.cons h1 h2=>by
  simp only[cellsD2]at hv
  cases ha:cellD2 s c with
  |none=>simp[ha]at hv
  |some y=>
  cases hb:cellsD2 s cs with
  |none=>simp[ha,hb]at hv
  |some l=>
  simp only[ha,hb,jO]at hv
  subst hv
  exact .cons (zpf h ha h1.1) (zhi h hb h2)
theorem zsX(h:RG cx γ s a w){v:AV}{y:V1}{x:Value}(hv:toV2 s v=some y)(hm:M w (okOf cx s γ w) γ v x):Rep1 w (fun b=>b<w.heap.size) y x:=by
 cases v with
 |box i off=>
  simp only[toV2]at hv
  cases ho:s.ob i with
  |none=>simp[ho]at hv
  |some o=>
   cases o with
   |row _ _ _ _=>simp[ho]at hv
   |mp _=>simp[ho]at hv
   |box cs=>
    simp only[ho]at hv
    cases hc:cellsD2 s cs with
    |none=>simp[hc]at hv
    |some xs=>
     simp only[hc,jO]at hv
     subst hv
     obtain⟨b,e1,e2⟩:=hm
     obtain⟨b',vs,T,g1,g2,g3,g4⟩:=h.objs i _ ho
     rw[e1]at g1
     obtain rfl:b=b':=by simpa using g1
     have hx:=zhi h hc g4
     have hlen:=hx.length
     refine⟨⟨b,off,none⟩,e2,fun j hj=>⟨(jB.1 g3).1,?_⟩⟩
     have hj':off+j<xs.length:=by omega
     obtain⟨u,hu,hr⟩:=hx.get (off+j) xs[off+j] (by rw[kF hj'])
     refine⟨u,?_,?_⟩
     ·rw[zaw]
      simp only[World.cell?,g3]
      simpa using hu
     ·have:getD' xs (off+j)=xs[off+j]:=by simp[getD',zau,hj']
      show Rep w _ (getD' xs (off+j)) u
      rw[this];exact hr
 | _=>simp only[toV2]at hv;exact(zkQ h hv hm).1
theorem zkO(h:RG cx γ s a w):∀{vs:List AV}{ys:List V1}{xs:List Value},toV2s s vs=some ys->All2 (M w (okOf cx s γ w) γ) vs xs->All2 (Rep1 w (fun b=>b<w.heap.size)) ys xs
 | [],ys,[],hv,.nil=>by simp[toV2s]at hv;subst hv;exact .nil
 |v::vs,ys,x::xs,hv,.cons h1 h2=>by
  simp only[toV2s]at hv
  cases ha:toV2 s v with
  |none=>simp[ha]at hv
  |some y=>
  cases hb:toV2s s vs with
  |none=>simp[ha,hb]at hv
  |some l=>
  simp only[ha,hb,jO]at hv;subst hv
  exact .cons (zsX h ha h1) (zkO h hb h2)
theorem zig(h:RG cx γ s a w){o:Oper}{f:FuncId}{avs:List AV}{vs:List Value}{dr:Bool}(hD:cx.dr=true->dr=true)(hm:All2 (M w (okOf cx s γ w) γ) avs vs){K:AV->Prop}(hd:∀d,o.dst=some d->d<cx.N)(hc:CallOb dr P s f avs K):
  (Ent P f)/\Calls P f vs.toArray w fun e w''=>∃v,e= .returned v/\∃u,RG cx γ (s.putO o.dst u) (a.put o.dst v) w''/\K u:=by
 simp only[zaI]at hc
 rcases hc with⟨xs,res,h1,⟨hent,h2⟩,h3,hK⟩|⟨xs,res,h1,⟨hent,h2⟩,hK⟩
 case inr=>
  refine⟨hent,(h2 w _ _ (fun b hb=>hb) (zkO h h1 hm)).mono fun e w' ⟨v,he,hb,hr⟩=>⟨v,he,resAV res,?_,hK⟩⟩
  exact(h.grow hb.1 fun e=>hb.2 (hD e)).putO hd (zaX (.inl fun b hok=>zfQ h hb.1 b (.inr hok)) hr) (fun j hj=>by rw[zaB]at hj;cases hj)
 obtain⟨h4,h5⟩:=zbw h h1 hm
 refine⟨hent,?_⟩
 rcases h3 with h3|h3
 ·refine(h2 w _ _ (fun b hb=>hb) h4).mono fun e w' ⟨v,he,hb,hr⟩=>⟨v,he,resAV res,?_,hK⟩
  exact(h.grow hb.1 fun e=>hb.2 (hD e)).putO hd (zaX (.inr h3) hr) (fun j hj=>by rw[zaB]at hj;cases hj)
 refine(h2 w _ _ (fun b hb=>zal h hb) (h5 h3)).mono fun e w' ⟨v,he,hb,hr⟩=>⟨v,he,resAV res,?_,hK⟩
 exact(h.grow hb.1 fun e=>hb.2 (hD e)).putO hd (zaX (.inl fun b hok=>zfQ h hb.1 b hok) hr) (fun j hj=>by rw[zaB]at hj;cases hj)
theorem OpOK.value{o:Oper}{Post:Act->World->Prop}{x:Value}{w':World}(h:(execOp a.eval o).run P w= .ok (.value x) w')(hp:Post (a.put o.dst x) w'):OpOK P o a w Post:=by
 unfold OpOK;rw[h];exact hp
theorem OpOK.skip{o:Oper}{Post:Act->World->Prop}{w':World}(h:(execOp a.eval o).run P w= .ok .skip w')(hp:Post (a.put o.dst Go.undef) w'):OpOK P o a w Post:=by
 unfold OpOK;rw[h];exact hp
theorem OpOK.enter{o:Oper}{Post:Act->World->Prop}{f:FuncId}{args:Array Value}(h:(execOp a.eval o).run P w= .ok (.enter f args) w)
  (hp:Calls P f args w fun e w''=>∃v,e= .returned v/\Post (a.put o.dst v) w''):OpOK P o a w Post:=by
 unfold OpOK;rw[h];exact hp
theorem OpOK.round{o:Oper}{Post:Act->World->Prop}{l:Nat}{fn:FuncId}{tmps:Array Value}{asg body:Code}(h:(execOp a.eval o).run P w= .ok (.round l fn tmps asg body) w)
  (hp:RoundIn Fence.wide 0 P l fn tmps asg body w fun e w''=>∃v,e= .returned v/\Post (a.put o.dst v) w''):OpOK P o a w Post:=by
 unfold OpOK;rw[h];exact hp
theorem zdk{F:Fence}{n l:Nat}{fn:FuncId}{tmps:Array Value}{asg body:Code}{R R':Ending->World->Prop}(h:RoundIn F n P l fn tmps asg body w R)(hr:∀e w,R e w->R' e w):RoundIn F n P l fn tmps asg body w R':=
 ⟨h.1,fun c cs hc=>let ⟨e,w',h1,h2⟩:=h.2 c cs hc;⟨e,w',hr _ _ h1,h2⟩⟩
theorem OpOK.mono{o:Oper}{Post Post':Act->World->Prop}(h:OpOK P o a w Post)(hp:∀a w,Post a w->Post' a w):OpOK P o a w Post':=by
 unfold OpOK at*
 generalize (execOp a.eval o).run P w=r at*
 cases r with
 |halt x w'=>exact h
 |ok x w'=>
 cases x<;>first
  |exact hp _ _ h
  |exact h.mono fun e w' ⟨v,h1,h2⟩=>⟨v,h1,hp _ _ h2⟩
  |exact h
theorem Yd.ok(h:RG cx γ s a w){o:Oper}{e:Sem Value}{K:AV->Prop}(hd:∀d,o.dst=some d->d<cx.N)(hy:Yd P cx γ s w e K)(he:∀x w',e.run P w= .ok x w'->(execOp a.eval o).run P w= .ok (.value x) w'):
  OpOK P o a w fun a' w'=>∃v,RG cx γ (s.putO o.dst v) a' w'/\K v:=by
 obtain⟨v,x,h1,h2,h3,h4⟩:=hy
 exact .value (he x w h1) ⟨v,h.putO hd h2 h3,h4⟩
variable (hT:∀t i,T t=some i->TI.of P t=some i)(hE:∀t,E.eq t=true->EqFact P t)
include hT
theorem zpG{t:TypeId}(ht:isSl T t=true):∃e,P.underlying t=some (.slice e):=by
 unfold isSl at ht
 cases hi:T t with
 |none=>simp[hi]at ht
 |some ti=>
 obtain⟨size,ag,bytes,zero,kind⟩:=ti
 cases kind with
 |slice e=>
  obtain⟨info,d,z,_,hd,_,_,_,_,_,hk⟩:=zah (hT t _ hi)
  have hds:=TK.of_slice hk
  subst hds
  exact⟨e,hd⟩
 | _=>simp[hi]at ht
theorem zqI{t:TypeId}(ht:isStrT T t=true):P.underlying t=some .string:=by
 unfold isStrT at ht
 cases hi:T t with
 |none=>simp[hi]at ht
 |some ti=>
 obtain⟨size,ag,bytes,zero,kind⟩:=ti
 cases kind with
 |str=>
  obtain⟨info,d,z,_,hd,_,_,_,_,_,hk⟩:=zah (hT t _ hi)
  have:d= .string:=by cases d<;>simp[TK.of]at hk;rfl
  subst this
  exact hd
 | _=>simp[hi]at ht
theorem zkh(h:RG cx γ s a w){t ty:TypeId}{v:AV}{x:Value}(hm:M w (okOf cx s γ w) γ v x){K:AV->Prop}(hl:lenE T t s v K):Yd P cx γ s w (Builtin.len_ #[t] ty #[x]) K:=by
 have fin:∀(a:Option Addr) (n c:Nat),isSl T t=true->x= .slice a n c->K (.d (.int .i64 n))->Yd P cx γ s w (Builtin.len_ #[t] ty #[x]) K:=fun ad n c ht hx hK=>by
  obtain⟨e,hd⟩:=zpG hT ht
  subst hx
  exact .of (v:=.d (.int .i64 n)) (x:=.int .i64 n) (by simp[Builtin.len_,underlying,hd,goInt]) rfl (fun j hj=>by simp[AV.refs]at hj) hK
 cases v with
 |d p=>
  cases p with
  |slc k n f=>
   simp only[lenE]at hl
   cases hb:isSl T t with
   |false=>simp[hb]at hl
   |true=>
    simp only[hb,kT]at hl
    rcases hm with⟨hx,h0⟩|⟨ad,cap,hx,_⟩
    ·subst h0;exact fin none 0 0 hb hx hl
    ·exact fin (some ad) n cap hb hx hl
  |str z=>
   simp only[lenE]at hl
   cases hb:isStrT T t with
   |false=>simp[hb]at hl
   |true=>
    simp only[hb,kT]at hl
    have hx:x= .string z:=hm
    subst hx
    exact .of (v:=.d (.int .i64 z.size)) (x:=.int .i64 z.size) (by simp[Builtin.len_,underlying,zqI hT hb,goInt]) rfl (fun j hj=>by simp[AV.refs]at hj) hl
  |nil=>
   simp only[lenE]at hl
   cases hb:isSl T t with
   |false=>simp[hb]at hl
   |true=>simp only[hb,kT]at hl;exact fin none 0 0 hb hm hl
  | _=>simp[lenE]at hl
 |nilsl=>
  simp only[lenE]at hl
  cases hb:isSl T t with
  |false=>simp[hb]at hl
  |true=>simp only[hb,kT]at hl;exact fin none 0 0 hb hm hl
 |sub i k lo n=>
  simp only[lenE]at hl
  cases hb:isSl T t with
  |false=>simp[hb]at hl
  |true=>
   simp only[hb,kT]at hl
   rcases hm with⟨rfl,ad,c,rfl⟩|⟨_,_,_,_,_,rfl⟩
   ·exact fin _ _ _ hb rfl hl
   ·exact fin _ _ _ hb rfl hl
 |own i=>
  simp only[lenE]at hl
  cases ho:s.ob i with
  |none=>simp[ho]at hl
  |some o=>
   cases o with
   |box cs=>simp[ho]at hl
   |mp m ks f=>
    simp only[ho]at hl
    cases hb:isMpT T t with
    |false=>simp[hb]at hl
    |true=>
     simp only[hb,kT]at hl
     unfold isMpT at hb
     cases hi:T t with
     |none=>simp[hi]at hb
     |some ti=>
      obtain⟨size,ag,bytes,zero,kind⟩:=ti
      cases kind with
      |map kt et=>
       obtain⟨info,d,z,_,hd,_,_,_,_,_,hk⟩:=zah (hT t _ hi)
       have:=TK.of_map hk
       subst this
       obtain⟨b,es,c,h1,h2,h3,h4,h5⟩:=h.objs i _ ho
       have hx:x= .map (some b):=jbI (show x=γ i from hm) h1
       subst hx
       have hlen:es.length=ks.length:=by have:=jI List.length h4.1;simpa using this
       exact .of (v:=.d (.int .i64 ks.length)) (x:=.int .i64 ks.length) (by simp[Builtin.len_,underlying,hd,goInt,Go.MapKept.run_getObj_map h3,hlen,Result.andThen]) rfl (fun j hj=>by simp[AV.refs]at hj) hl
      | _=>simp[hi]at hb
   |row e k n f=>
    simp only[ho]at hl
    cases hb:isSl T t with
    |false=>simp[hb]at hl
    |true=>
     simp only[hb,kT]at hl
     obtain⟨xs,h1,_⟩:=h.objs i _ ho
     have hx:x=γ i:=hm
     rcases h1.2 with⟨h2,h0⟩|⟨g,cap,cur,h2,_⟩
     ·subst h0;exact fin none 0 0 hb (hx.trans h2) hl
     ·exact fin _ n cap hb (hx.trans h2) hl
 |bsl i n c=>
  simp only[lenE]at hl
  cases hb:isSl T t with
  |false=>simp[hb]at hl
  |true=>
   simp only[hb,kT]at hl
   obtain⟨b,_,hx,_⟩:=hm
   exact fin _ n c hb hx hl
 | _=>simp[lenE]at hl
theorem zcr(w:World):∀{fs:List Field}{ps:List (Nat×Nat)},placesS T (fs.map fun f=>(f.offset,f.type))=some ps->(fs.mapM fun f=>do pure (f.offset,<- sizeOf f.type):Sem (List (Nat×Nat))).run P w= .ok ps w
 | [],ps,h=>by simp[placesS]at h;subst h;simp
 |f::fs,ps,h=>by
  simp only[kY,placesS]at h
  cases hf:T f.type with
  |none=>simp[hf]at h
  |some fi=>
  cases hr:placesS T (fs.map fun f=>(f.offset,f.type))with
  |none=>simp[hf,hr]at h
  |some l=>
  simp only[hf,hr,jO]at h;subst h
  have ih:=zcr w hr
  simp only[bind_pure_comp]at ih
  simp[jbC,zae (hT _ _ hf),ih]
theorem zhl(h:RG cx γ s a w){t:Nat}{parts:Array (Nat×Operand)}{K:AV->Prop}(hl:buildE T s t parts.toList K):Yd P cx γ s w (Instr.build t (parts.map fun (i,x)=>(i,a.eval x))) K:=by
 unfold buildE at hl
 cases hst:T t with
 |none=>simp[hst]at hl
 |some ti=>
 obtain⟨size,ag,bytes,zero,kind⟩:=ti
 obtain⟨info,d,z,hi,hd,hz,_,_,_,hzc,hk⟩:=zah (hT t _ hst)
 have hzero:(zeroValue t).run P w= .ok z w:=by simp[zeroValue,typeInfo,hi,hz]
 have hzv:z.cells=zero.toArray:=by have h0:z.cells.toList=zero:=hzc;rw[<- h0]
 have hparts:(parts.map fun (i,x)=>(i,a.eval x)).toList=parts.toList.map fun p=>(p.1,a.eval p.2):=by simp
 cases kind with
 |struct fs=>
  simp only[hst]at hl
  obtain⟨F,rfl,hF⟩:=TK.of_struct hk
  cases hc:cds zero with
  |none=>simp[hc]at hl
  |some zs=>
   cases hp:placesS T fs with
   |none=>simp[hc,hp]at hl
   |some ps=>
    simp only[hc,hp]at hl
    cases hf:fillE (nth ps) s parts.toList zs with
    |none=>simp[hf]at hl
    |some l=>
     simp only[hf]at hl
     obtain⟨m,h1,h2⟩:=zbM h hf (zbQ hc)
     have hps:=zcr hT w (by rw[<- hF];exact hp)
     refine .of (v:=.agg l) (x:=.agg m.toArray) ?_ ⟨m,rfl,h2⟩ (fun j hj=>by simp[AV.refs]at hj) hl
     have hnth:(fun x=>ps.toArray[x]?)=nth ps:=by funext x;rw[zau];simp
     unfold Instr.build
     simp only[Sem.run_bind,hzero,Result.andThen_ok,Sem.run_map,underlying,Sem.run_pure,run_program,hd,jbD,hps,hparts,hzv,hnth,h1]
 |array n e=>
  simp only[hst]at hl
  have hds:=TK.of_array hk
  subst hds
  cases he:T e with
  |none=>simp[he]at hl
  |some ei=>
   cases hc:cds zero with
   |none=>simp[he,hc]at hl
   |some zs=>
    simp only[he,hc]at hl
    cases hf:fillE (placesA ei) s parts.toList zs with
    |none=>simp[hf]at hl
    |some l=>
     simp only[hf]at hl
     obtain⟨m,h1,h2⟩:=zbM h hf (zbQ hc)
     refine .of (v:=.agg l) (x:=.agg m.toArray) ?_ ⟨m,rfl,h2⟩ (fun j hj=>by simp[AV.refs]at hj) hl
     unfold Instr.build
     simp only[Sem.run_bind,hzero,Result.andThen_ok,underlying,Sem.run_pure,run_program,hd,zae (hT _ _ he),hparts,hzv]
     rw[show(fun i=>some (i*ei.size,ei.size))=placesA ei from rfl,h1]
     rfl
 | _=>simp[hst]at hl
theorem zds(h:RG cx γ s a w){t:Nat}{parts:Array (Nat×Operand)}{K:AV->Prop}(hl:buildC T s t parts.toList K):Yd P cx γ s w (Instr.build t (parts.map fun (i,x)=>(i,a.eval x))) K:=by
 unfold buildC at hl
 cases hst:T t with
 |none=>simp[hst]at hl
 |some ti=>
 obtain⟨size,ag,bytes,zero,kind⟩:=ti
 obtain⟨info,d,z,hi,hd,hz,_,_,_,hzc,hk⟩:=zah (hT t _ hst)
 have hzero:(zeroValue t).run P w= .ok z w:=by simp[zeroValue,typeInfo,hi,hz]
 have hzv:z.cells=zero.toArray:=by have h0:z.cells.toList=zero:=hzc;rw[<- h0]
 have hparts:(parts.map fun (i,x)=>(i,a.eval x)).toList=parts.toList.map fun p=>(p.1,a.eval p.2):=by simp
 cases kind with
 |struct fs=>
  simp only[hst]at hl
  obtain⟨F,rfl,hF⟩:=TK.of_struct hk
  cases hc:cds zero with
  |none=>simp[hc]at hl
  |some zs=>
   cases hp:placesS T fs with
   |none=>simp[hc,hp]at hl
   |some ps=>
    simp only[hc,hp]at hl
    cases hf:fillC (nth ps) s parts.toList (zs.map .dat)with
    |none=>simp[hf]at hl
    |some l=>
     simp only[hf]at hl
     have hr0:∀l:List D,capRefs (l.map Cap.dat)=[]:=fun l=>by induction l<;>simp_all [capRefs]
     obtain⟨m,h1,h2,h3⟩:=zeo h hf (.map_left (zbQ hc)) (fun j hj=>by rw[hr0]at hj;cases hj)
     have hps:=zcr hT w (by rw[<- hF];exact hp)
     refine .of (v:=.aggc l) (x:=.agg m.toArray) ?_ ⟨m,rfl,h2⟩ h3 hl
     have hnth:(fun x=>ps.toArray[x]?)=nth ps:=by funext x;rw[zau];simp
     unfold Instr.build
     simp only[Sem.run_bind,hzero,Result.andThen_ok,Sem.run_map,underlying,Sem.run_pure,run_program,hd,jbD,hps,hparts,hzv,hnth,h1]
 | _=>simp[hst]at hl
omit hT in
theorem zrK{u:Nat}{nm:String}{f:FuncId}(h:mthB P u nm=some f){v:Value}(n:Nat):(Go.method (n+1) u v nm).run P w= .ok (f,v) w:=by
 unfold mthB at h
 cases hi:P.info? u with
 |none=>simp[hi]at h
 |some i=>
 cases hu:P.underlying u with
 |none=>simp[hi,hu]at h
 |some d=>
 cases d with
 |struct fs=>
  simp only[hi,hu]at h
  cases hm:i.methods.find? (·.name==nm)with
  |none=>simp[hm]at h
  |some m=>
   simp only[hm]at h
   cases hp:m.path.isEmpty with
   |false=>simp[hp]at h
   |true=>
    simp only[hp,kT]at h
    have hpath:m.path.toList=[]:=by simpa using hp
    cases hf:m.func with
    |none=>simp[hf]at h
    |some q=>
     obtain⟨g,b⟩:=q
     cases b with
     |true=>simp[hf]at h
     |false=>
      simp only[hf,jO]at h
      subst h
      unfold Go.method
      simp[typeInfo,hi,hm,hpath,Go.follow,hf,hp,Go.receiverAt,underlying,hu,Go.Place.get]
 | _=>simp[hi,hu]at h
include hE
variable (hD:cx.dr=true->E.dr=true)
include hD
theorem zlK(h:RG cx γ s a w){o:Oper}{K:AV->Prop}(hd:∀d,o.dst=some d->d<cx.N)(he:opE P T E s o.op K):
  OpOK P o a w fun a' w'=>∃v,RG cx γ (s.putO o.dst v) a' w'/\K v:=by
 obtain⟨dst,op,type,pos,after,guard⟩:=o
 have val:∀{e:Sem Value},Yd P cx γ s w e K->(∀x w',e.run P w= .ok x w'->(execOp a.eval ⟨dst,op,type,pos,after,guard⟩).run P w= .ok (.value x) w')->OpOK P ⟨dst,op,type,pos,after,guard⟩ a w fun a' w'=>∃v,RG cx γ (s.putO dst v) a' w'/\K v:=
  fun hy hx=>hy.ok h hd hx
 cases op with
 |move x=>
  obtain⟨h1,h2⟩:=ev_m h x
  exact val (e:=pure (a.eval x)) (.of rfl h1 h2 he) fun y w' hy=>by simp at hy;obtain⟨rfl,rfl⟩:=hy;simp[execOp]
 |assign x=>
  obtain⟨h1,h2⟩:=ev_m h x
  exact val (e:=pure (a.eval x)) (.of rfl h1 h2 he) fun y w' hy=>by simp at hy;obtain⟨rfl,rfl⟩:=hy;simp[execOp]
 |pick c x y=>
  have hc:=(ev_m h c).1
  have hx:=ev_m h x
  have hy:=ev_m h y
  simp only[opE]at he
  cases hev:ev s c with
  |d p=>
   cases p with
   |bool b=>
    simp only[hev]at he hc
    have hb:a.eval c= .bool b:=hc
    have hk:=he.out
    cases b with
    |true=>exact val (e:=pure (a.eval x)) (.of rfl hx.1 hx.2 hk) fun z w' hz=>by simp at hz;obtain⟨rfl,rfl⟩:=hz;simp[execOp,hb,asBool]
    |false=>exact val (e:=pure (a.eval y)) (.of rfl hy.1 hy.2 hk) fun z w' hz=>by simp at hz;obtain⟨rfl,rfl⟩:=hz;simp[execOp,hb,asBool]
   | _=>simp[hev]at he
  | _=>simp[hev]at he
 |load t x=>
  simp only[opE]at he
  cases ht:T t with
  |none=>simp[ht]at he
  |some ti=>
   simp only[ht]at he
   exact val (zct h (hT t _ ht) (ev_m h x).1 he) fun z w' hz=>by simp[execOp,hz]
 |fieldAddr st x f=>exact val (zdv hT h (ev_m h x).1 (ev_m h x).2 he) fun z w' hz=>by simp[execOp,hz]
 |indexAddr t x i=>exact val (zdu hT h (ev_m h x).1 (ev_m h x).2 (ev_m h i).1 he) fun z w' hz=>by simp[execOp,hz]
 |field st x f=>exact val (zg8 hT (ev_m h x).1 he) fun z w' hz=>by simp[execOp,hz]
 |index t x i=>exact val (zgX hT (ev_m h x).1 (ev_m h i).1 he) fun z w' hz=>by simp[execOp,hz]
 |binOp op t x y yt=>exact val (zkt hT hE (ox:=x) (oy:=y) (ev_m h x).1 (ev_m h y).1 he) fun z w' hz=>by simp only[execOp,Sem.run_bind]at*;simp only[hz,Result.andThen_ok,Sem.run_pure]
 |unOp op t x=>exact val (zkM (ev_m h x).1 he) fun z w' hz=>by simp[execOp,hz]
 |convert src dst' x=>
  simp only[opE]at he
  cases hts:T src with
  |none=>simp[hts]at he
  |some tis=>
  cases ht:T dst' with
  |none=>simp[ht,hts]at he
  |some ti=>
   obtain⟨size,ag,bytes,zero,kind⟩:=ti
   cases kind with
   |int k=>
    cases hev:ev s x with
    |d p=>
     cases p with
     |int k' n=>
      simp only[hts,ht,hev]at he
      have hx:=(ev_m h x).1
      rw[hev]at hx
      have hx':a.eval x= .int k' n:=hx
      obtain⟨info,d,z,_,hd',_,_,_,_,_,hk⟩:=zah (hT dst' _ ht)
      have hds:=TK.of_int hk
      subst hds
      obtain⟨_,ds,_,_,hds,_⟩:=zah (hT src _ hts)
      refine val (e:=pure (.int k (k.wrap n))) (.of (v:=.d (.int k (k.wrap n))) rfl rfl (fun j hj=>by simp[AV.refs]at hj) he) fun z w' hz=>?_
      simp at hz;obtain⟨rfl,rfl⟩:=hz
      simp[execOp,hx',convert,underlying,hd',hds,Conv.intToInt]
     | _=>simp[hts,ht,hev]at he
    | _=>simp[hts,ht,hev]at he
   | _=>simp[hts,ht]at he
 |build t parts=>exact val (zhl hT h he) fun z w' hz=>by simp[execOp,hz]
 |slice t x lo hi mx=>
  cases mx with
  |some m=>
   refine val (zfw hT h (ev_m h x).1 (xlo:=lo.map a.eval) (xhi:=hi.map a.eval) ?_ ?_ (ev_m h m).1 he) fun z w' hz=>by simp[execOp,hz]
   ·intro hu;cases lo with
    |none=>rfl
    |some l=>cases hu
   ·intro u hu;cases hi with
    |none=>cases hu
    |some l=>cases hu;exact⟨_,rfl,(ev_m h l).1⟩
  |none=>
   refine val (zgz hT h (ev_m h x).1 (xlo:=lo.map a.eval) (xhi:=hi.map a.eval) ?_ ?_ ?_ ?_ he) fun z w' hz=>by simp[execOp,hz]
   ·intro u hu;cases lo with
    |none=>cases hu
    |some l=>cases hu;exact⟨_,rfl,(ev_m h l).1⟩
   ·intro hu;cases lo with
    |none=>rfl
    |some l=>cases hu
   ·intro u hu;cases hi with
    |none=>cases hu
    |some l=>cases hu;exact⟨_,rfl,(ev_m h l).1⟩
   ·intro hu;cases hi with
    |none=>rfl
    |some l=>cases hu
 |extract x i=>exact val (zeL (ev_m h x).1 (ev_m h x).2 he) fun z w' hz=>by simp[execOp,hz]
 |makeFunc fn first caps=>
  cases fn with
  |func f=>
   simp only[opE]at he
   cases hf:first.toList with
   |cons p l=>
    cases l with
    |cons q l=>simp[hf]at he
    |nil=>
    cases hb:capsOf (caps.toList.map (ev s))with
    |none=>simp[hf,hb]at he
    |some ids=>
    cases ids with
    |cons i l=>simp[hf,hb]at he
    |nil=>
    have hbm:=zgg h hb (zbN h caps.toList) fun v hv=>by
     obtain⟨x,_,rfl⟩:=kJ.1 hv
     exact(ev_m h x).2
    have hcaps:caps.map a.eval=(caps.toList.map a.eval).toArray:=by rw[<- Array.toList_map]
    have hnil:caps.toList.map a.eval=[]:=by have:=hbm.1.length;simpa using this.symm
    rw[hnil]at hcaps
    have hfa:first.map a.eval= #[a.eval p]:=by
     have:first= #[p]:=by apply Array.toList_inj.1;simpa using hf
     rw[this];simp
    have hx:=(ev_m h p).1
    simp only[hf,hb]at he
    cases hv:ev s p with
    |agg xs=>
     rw[hv]at hx
     simp only[hv]at he
     obtain⟨vs,hvs,hall⟩:=hx
     refine val (e:=pure (.func (.func f) #[a.eval p] #[])) (.of (v:=.d (.bnd f xs.length (getD' xs))) rfl ⟨vs,by rw[hvs],hall.length.symm,fun j hj=>?_⟩ (fun j hj=>by simp[AV.refs]at hj) he) fun y w' hy=>?_
     ·obtain⟨u,hu,hr⟩:=hall.get j xs[j] (kF hj)
      exact⟨u,hu,by rw[show getD' xs j=xs[j]by simp[getD',zau,hj]];exact hr⟩
     ·simp at hy;obtain⟨rfl,rfl⟩:=hy
      simp[execOp,Instr.makeFunc,hcaps,hfa]
    | _=>simp[hv]at he
   |nil=>
    have hf':first= #[]:=by simpa using hf
    subst hf'
    cases hb:capsOf (caps.toList.map (ev s))with
    |none=>simp[hb]at he
    |some ids=>
     have hbm:=zgg h hb (zbN h caps.toList) fun v hv=>by
      obtain⟨x,_,rfl⟩:=kJ.1 hv
      exact(ev_m h x).2
     have hcaps:caps.map a.eval=(caps.toList.map a.eval).toArray:=by rw[<- Array.toList_map]
     cases ids with
     |nil=>
      have hnil:caps.toList.map a.eval=[]:=by have:=hbm.1.length;simpa using this.symm
      rw[hnil]at hcaps
      simp only[hb]at he
      refine val (e:=pure (.func (.func f) #[] #[])) (.of (v:=.d (.fn f)) rfl rfl (fun j hj=>by simp[AV.refs]at hj) he) fun z w' hz=>?_
      simp at hz;obtain⟨rfl,rfl⟩:=hz
      simp[execOp,Instr.makeFunc,hcaps]
     |cons i l=>
      simp only[hb]at he
      refine val (e:=pure (.func (.func f) #[] (caps.toList.map a.eval).toArray)) (.of (v:=.clo f (i::l)) rfl ⟨_,rfl,hbm.1⟩ (fun j hj=>hbm.2 j hj) he) fun z w' hz=>?_
      simp at hz;obtain⟨rfl,rfl⟩:=hz
      simp[execOp,Instr.makeFunc,hcaps]
  | _=>exact False.elim he
 |call c=>
  obtain⟨callee,args,argTypes⟩:=c
  cases callee with
  |value f=>
   simp only[opE]at he
   cases hev:callee (ev s f)with
   |none=>simp[hev]at he
   |some p=>
    obtain⟨g,ex⟩:=p
    simp only[hev]at he
    obtain⟨cvs,hx,hcm⟩:=za1 hev (ev_m h f).1
    obtain⟨hent,hc⟩:=zig h hD (o:=⟨dst,.call ⟨.value f,args,argTypes⟩,type,pos,after,guard⟩) ((zbN h args.toList).append hcm) hd he
    exact .enter (zaD rfl hx hent) hc
  |invoke r nm=>
   simp only[opE,zeC]at he
   obtain⟨u,m,g,f,hr,hmt,hc⟩:=he
   have hx:=(ev_m h r).1
   rw[hr]at hx
   obtain⟨vs,hv,hl,hcell⟩:=hx
   have hm1:All2 (M w (okOf cx s γ w) γ) (.agg ((List.range m).map g)::args.toList.map (ev s)) (.agg vs.toArray::args.toList.map a.eval):=by
    refine .cons ⟨vs,rfl,All2.of_get (by simp[hl]) fun j x y hx hy=>?_⟩ (zbN h args.toList)
    rw[jU]at hx
    have hj:j<m:=by
     rcases jaD j m with h1|h1
     ·exact h1
     rw[jad (by simpa using h1)]at hx;cases hx
    rw[wF hj]at hx
    cases hx
    obtain⟨z,hz,hrz⟩:=hcell j hj
    rw[hz]at hy;cases hy;exact hrz
   obtain⟨hent,hc⟩:=zig h hD (o:=⟨dst,.call ⟨.invoke r nm,args,argTypes⟩,type,pos,after,guard⟩) hm1 hd hc
   refine .enter (f:=f) (args:=(Value.agg vs.toArray::args.toList.map a.eval).toArray) ?_ hc
   have hmeth:∀n,(Go.method (n+1) u (.agg vs.toArray) nm).run P w= .ok (f,.agg vs.toArray) w:=fun n=>zrK hmt n
   obtain⟨i,hi⟩:∃i,P.info? u=some i:=by
    unfold mthB at hmt
    cases hi:P.info? u with
    |none=>simp[hi]at hmt
    |some i=>exact⟨i,rfl⟩
   have hsz:∃n,P.types.size+Made.depth=n+1:=⟨P.types.size+Made.depth-1,by unfold Made.depth;omega⟩
   obtain⟨n,hn⟩:=hsz
   have hrecv:a.eval r= .iface u (.agg vs.toArray):=hv
   have hargs:(#[Value.iface u (.agg vs.toArray)]++args.map a.eval).extract 1 (#[Value.iface u (.agg vs.toArray)]++args.map a.eval).size=args.map a.eval:=by
    apply Array.ext'
    simp
    exact List.take_of_length_le (by simp)
   have hg0:(#[Value.iface u (.agg vs.toArray)]++args.map a.eval)[0]?=some (.iface u (.agg vs.toArray)):=by rw[jaN (by simp)];rfl
   have hfin:(Value.agg vs.toArray::args.toList.map a.eval).toArray= #[Value.agg vs.toArray]++args.map a.eval:=by
    rw[<- Array.toList_inj];simp
   rw[hfin]
   simp only[execOp,resolve,hrecv,Sem.run_bind,Sem.run_pure,Result.andThen_ok,invoke,hg0,hargs,callMethod,run_program,hn,hmeth]
   exact zaF hent _ w
  |builtin b=>
   have hargs:args=args.toList.toArray:=by simp
   cases b<;>try (simp[opE]at he;done)
   case len=>
    simp only[opE]at he
    cases ha:args.toList with
    |nil=>simp[ha]at he
    |cons x r=>
    cases r with
    |cons y r=>simp[ha]at he
    |nil=>
    cases hat:argTypes.toList with
    |nil=>simp[ha,hat]at he
    |cons t r'=>
    cases r' with
    |cons y r=>simp[ha,hat]at he
    |nil=>
    simp only[ha,hat]at he
    have hat':argTypes= #[t]:=by rw[<- jaa (xs:=argTypes),hat]
    rw[ha]at hargs
    exact val (zkh hT h (ty:=type) (ev_m h x).1 he) fun z w' hz=>by simp[execOp,resolve,invoke,builtin,hargs,hat',hz]
   case max=>
    simp only[opE]at he
    cases ha:args.toList with
    |nil=>simp[ha]at he
    |cons x r=>
    simp only[ha]at he
    rw[ha]at hargs
    exact val (zcd true (ev_m h x).1 (ev_m h x).2 (zbN h r) he) fun z w' hz=>by
     simp only at hz
     simp[execOp,resolve,invoke,builtin,hargs,Builtin.max_,hz]
   case min=>
    simp only[opE]at he
    cases ha:args.toList with
    |nil=>simp[ha]at he
    |cons x r=>
     simp only[ha]at he
     rw[ha]at hargs
     exact val (zcd false (ev_m h x).1 (ev_m h x).2 (zbN h r) he) fun z w' hz=>by
      simp only at hz
      simp[execOp,resolve,invoke,builtin,hargs,Builtin.min_,hz]
 |nilCheck x=>
  simp only[opE]at he
  have hx:=ev_m h x
  have key:∀q:Option Addr,(∃ad,q=some ad)->a.eval x= .pointer q->K (ev s x)->OpOK P ⟨dst,.nilCheck x,type,pos,after,guard⟩ a w fun a' w'=>∃v,RG cx γ (s.putO dst v) a' w'/\K v:=fun q hq hp hk=>by
   obtain⟨ad,rfl⟩:=hq
   exact val (e:=pure (a.eval x)) (.of rfl hx.1 hx.2 hk) fun z w' hz=>by simp at hz;obtain⟨rfl,rfl⟩:=hz;simp[execOp,hp]
  cases hv:ev s x with
  |box i o=>
   rw[hv]at he hx key
   obtain⟨b,_,hb⟩:=hx.1
   exact key _ ⟨_,rfl⟩ hb he
  |roe m g=>
   rw[hv]at he hx key
   obtain⟨ad,hb,_⟩:=hx.1
   exact key _ ⟨_,rfl⟩ hb he
  |elt i k n c=>
   rw[hv]at he hx key
   obtain⟨_,_,_,_,hb⟩:=hx.1
   exact key _ ⟨_,rfl⟩ hb he
  |d p=>
   cases p with
   |ptr m g=>
    rw[hv]at he hx key
    obtain⟨ad,hb,_⟩:=hx.1
    exact key _ ⟨_,rfl⟩ hb he
   | _=>rw[hv]at he;exact he.elim
  | _=>rw[hv]at he;exact he.elim
 |makeInterface t x=>
  simp only[opE,ifaceE]at he
  cases hst:T t with
  |none=>simp[hst]at he
  |some ti=>
   obtain⟨size,ag,bytes,zero,kind⟩:=ti
   cases kind with
   |struct fs=>
    obtain⟨info,d,z,hi,hdd,_,_,_,_,_,hk⟩:=zah (hT t _ hst)
    obtain⟨F,rfl,_⟩:=TK.of_struct hk
    have hx:=(ev_m h x).1
    cases hv:ev s x with
    |agg xs=>
     rw[hv]at hx
     simp only[hst,hv]at he
     obtain⟨vs,hvs,hall⟩:=hx
     refine val (e:=pure (.iface t (a.eval x))) (.of (v:=.d (.ifc t xs.length (getD' xs))) rfl ⟨vs,by rw[hvs],hall.length.symm,fun j hj=>?_⟩ (fun j hj=>by simp[AV.refs]at hj) he) fun y w' hy=>?_
     ·obtain⟨u,hu,hr⟩:=hall.get j xs[j] (kF hj)
      exact⟨u,hu,by rw[show getD' xs j=xs[j]by simp[getD',zau,hj]];exact hr⟩
     ·simp at hy;obtain⟨rfl,rfl⟩:=hy
      simp[execOp,Instr.makeInterface,underlying,hdd]
    | _=>simp[hst,hv]at he
   | _=>simp[hst]at he
 |typeAssert x xt t ok=>
  cases ok with
  |false=>exact False.elim he
  |true=>
   simp only[opE,assertE]at he
   cases hst:T t with
   |none=>simp[hst]at he
   |some ti=>
    obtain⟨size,ag,bytes,zero,kind⟩:=ti
    cases kind with
    |struct fs=>
     obtain⟨info,d,z,hi,hdd,hz,_,_,_,hzc,hk⟩:=zah (hT t _ hst)
     obtain⟨F,rfl,_⟩:=TK.of_struct hk
     have hzero:(zeroValue t).run P w= .ok z w:=by simp[zeroValue,typeInfo,hi,hz]
     have hx:=(ev_m h x).1
     cases hv:ev s x with
     |d p=>
      cases p with
      |ifc u m g=>
       rw[hv]at hx
       simp only[hst,hv]at he
       obtain⟨vs,hvs,hl,hcell⟩:=hx
       cases hut:Nat.beq u t with
       |true=>
        have:=jA hut
        subst this
        simp only[hut]at he
        have hall:All2 (Rep w (okOf cx s γ w)) (rangeD m g) vs:=All2.of_get (by simp[rangeD,hl]) fun j x y hx hy=>by
         unfold rangeD at hx
         rw[jU]at hx
         have hj:j<m:=by
          rcases jaD j m with h1|h1
          ·exact h1
          rw[jad (by simpa using h1)]at hx;cases hx
         rw[wF hj]at hx
         cases hx
         obtain⟨z,hz,hrz⟩:=hcell j hj
         rw[hz]at hy;cases hy;exact hrz
        refine val (e:=pure (.tuple #[.agg vs.toArray,.bool true])) (.of (v:=.tup [.agg (rangeD m g),.d (.bool true)]) rfl ⟨[.agg vs.toArray,.bool true],rfl,.cons ⟨vs,rfl,hall⟩ (.cons rfl .nil)⟩ (fun j hj=>by simp[AV.refs]at hj) he) fun y w' hy=>?_
        simp at hy;obtain⟨rfl,rfl⟩:=hy
        simp[execOp,Instr.typeAssert,underlying,hdd,hvs]
       |false=>
        have hne:u≠t:=fun e=>by rw[e,zay]at hut;cases hut
        simp only[hut]at he
        cases hc:cds zero with
        |none=>simp[hc]at he
        |some zs=>
         cases h1:Nat.beq zero.length 1 with
         |true=>simp[hc,h1]at he
         |false=>
          simp only[hc,h1,cond_false]at he
          have hzc:z.cells.toList=zero:=hzc
          obtain⟨cs,rfl⟩:∃cs,z= .agg cs:=by
           cases z<;>first|exact⟨_,rfl⟩|(simp[Value.cells]at hzc;subst hzc;simp[Nat.beq]at h1)
          have hcs:cs.toList=zero:=by simpa [Value.cells]using hzc
          refine val (e:=pure (.tuple #[.agg cs,.bool false])) (.of (v:=.tup [.agg zs,.d (.bool false)]) rfl ⟨[.agg cs,.bool false],rfl,.cons ⟨cs.toList,by simp,by rw[hcs];exact zbQ hc⟩ (.cons rfl .nil)⟩ (fun j hj=>by simp[AV.refs]at hj) he) fun y w' hy=>?_
          simp at hy;obtain⟨rfl,rfl⟩:=hy
          simp[execOp,Instr.typeAssert,underlying,hdd,hvs,hne,hzero]
      | _=>simp[hst,hv]at he
     | _=>simp[hst,hv]at he
    | _=>simp[hst]at he
 | _=>exact False.elim he
end
section
variable {P:Program}{T:TT}{E:Env}{cx:Cx}{γ:Nat->Value}{s:St}{a:Act}{w:World}
theorem zgO(h:RG cx γ s a w){d:Nat}{o':Ob}{v:Value}{w':World}{av:AV}{x:Value}(hd:d<cx.N)(hb:Below w.heap.size w w')(hdr:cx.dr=true->w.drawn<=w'.drawn)(hv:∀b,blk v=some b->w.heap.size<=b)
  (ho:∀ok:Nat->Prop,(∀b,okOf cx s γ w b->ok b/\w'.heap[b]?=w.heap[b]?)->Holds w' cx.O ok (upd γ d v) d o')(hr:∀cs,o'= .box cs->∀c∈cs,c.refs=[])
  (hav:∀ok,M w' ok (upd γ d v) av x)(hrf:∀j∈av.refs,j=d):RG cx (upd γ d v) (mk s d o' av) (a.put (some d) x) w':=by
 unfold mk
 cases hs:s.ob d with
 |none=>
  refine(h.make hs hb hdr hv ho hr).put hd (hav _) fun j hj=>?_
  rw[hrf j hj]
  show(upd s.ob d (some o') d).isSome=true
  simp
 |some o=>
 have hg:w.grownBy w' none:=⟨hb.os,hb.tape,hb.output,hb.size,fun k hk _=>hb.block k hk⟩
 refine(h.renew (i:=d) (row:=none) hg hdr (fun b hb=>by cases hb) (fun b hb=>.inr (hv b hb)) ho hr).put hd (hav _) fun j hj=>?_
 rw[hrf j hj]
 show(upd (s.drop d).ob d (some o') d).isSome=true
 simp
theorem zaq(w:World)(o:Obj):Below w.heap.size w (w.alloc o):=(Below.refl _ _).alloc (jE _) o
theorem zjJ{ok:Nat->Prop}{γ:Nat->Value}{v:AV}{x:Value}{cs:List AV}(h:cellsA v=some cs)(hm:M w ok γ v x)(hown:∀i∈v.refs,∀u,u=γ i->u.oneCell'=true):
  All2 (fun c u=>M w ok γ c u/\u.oneCell'=true) cs x.cells.toList/\∀c∈cs,∀j∈c.refs,j∈v.refs:=by
 have one:x.oneCell'=true->x.cells.toList=[x]:=fun h=>by cases x<;>first|rfl|(simp[Value.oneCell']at h)
 cases v with
 |d y=>
  simp only[cellsA,jO]at h;subst h
  have h1:=Rep.one hm
  rw[one h1];exact⟨.cons ⟨hm,h1⟩ .nil,fun c hc j hj=>by simp at hc;subst hc;exact hj⟩
 |agg xs=>
  simp only[cellsA,jO]at h;subst h
  obtain⟨vs,rfl,h⟩:=hm
  refine⟨?_,fun c hc j hj=>by simp at hc;obtain⟨y,_,rfl⟩:=hc;simp[AV.refs]at hj⟩
  simp only[Value.cells]
  refine All2.of_get (by simp[h.length]) fun j c u hc hu=>?_
  rw[jU]at hc
  cases hx:xs[j]? with
  |none=>simp[hx]at hc
  |some y=>
   simp only[hx,qL,jO]at hc;subst hc
   obtain⟨u',hu',hr⟩:=h.get j y hx
   have:u'=u:=by simpa [hu]using hu'.symm
   subst this
   exact⟨hr,Rep.one hr⟩
 |nilsl=>
  simp only[cellsA,jO]at h;subst h
  have hx:x= .slice none 0 0:=hm
  subst hx
  exact⟨.cons ⟨rfl,rfl⟩ .nil,fun c hc j hj=>by simp at hc;subst hc;exact hj⟩
 |own i=>
  simp only[cellsA,jO]at h;subst h
  have h1:=hown i (by simp[AV.refs]) _ hm
  rw[one h1];exact⟨.cons ⟨hm,h1⟩ .nil,fun c hc j hj=>by simp at hc;subst hc;exact hj⟩
 |box i o=>
  simp only[cellsA,jO]at h;subst h
  obtain⟨b,h1,rfl⟩:=hm
  exact⟨.cons ⟨⟨b,h1,rfl⟩,rfl⟩ .nil,fun c hc j hj=>by simp at hc;subst hc;exact hj⟩
 |clo f l=>
  simp only[cellsA,jO]at h;subst h
  obtain⟨vs,rfl,hm⟩:=hm
  exact⟨.cons ⟨⟨vs,rfl,hm⟩,rfl⟩ .nil,fun c hc j hj=>by simp at hc;subst hc;exact hj⟩
 |roe m g=>
  simp only[cellsA,jO]at h;subst h
  obtain⟨ad,rfl,hm⟩:=hm
  exact⟨.cons ⟨⟨ad,rfl,hm⟩,rfl⟩ .nil,fun c hc j hj=>by simp at hc;subst hc;exact hj⟩
 |yl l=>
  simp only[cellsA,jO]at h;subst h
  have hx:x= .func (.yield l) #[] #[]:=hm
  subst hx
  exact⟨.cons ⟨rfl,rfl⟩ .nil,fun c hc j hj=>by simp at hc;subst hc;exact hj⟩
 |aggc l=>
  simp only[cellsA,jO]at h;subst h
  obtain⟨vs,rfl,hm⟩:=hm
  refine⟨?_,fun c hc j hj=>?_⟩
  ·simp only[Value.cells]
   refine .map_left (All2.imp hm fun c u hc hcu=>⟨by cases c<;>exact hcu,?_⟩)
   cases c with
   |dat x=>exact Rep.one hcu
   |own i=>exact hown i (za8 hc (by simp[capRefs])) u hcu
  ·obtain⟨q,hq,rfl⟩:=kJ.1 hc
   cases q with
   |own i=>
    have:j=i:=by simpa [capA,AV.refs]using hj
    subst this
    exact za8 hq (by simp[capRefs])
   |dat x=>simp[capA,AV.refs]at hj
 | _=>simp[cellsA]at h
theorem zlG(h:RG cx γ s a w){i:Nat}(hi:(s.ob i).isSome=true):(γ i).oneCell'=true:=by
 obtain⟨o,ho⟩:=wA.1 hi
 have hh:=h.objs i o ho
 cases o with
 |box cs=>obtain⟨b,vs,T',h1,_⟩:=hh;rw[h1];rfl
 |mp m ks f=>obtain⟨b,es,c,h1,_⟩:=hh;rw[h1];rfl
 |row e k n f=>
 obtain⟨xs,h1,_⟩:=hh
 rcases h1.2 with⟨h2,_⟩|⟨g,cap,cur,h2,_⟩<;>rw[h2]<;>rfl
theorem Rep.ones{ok:Nat->Prop}{ys:List D}{vs:List Value}(h:All2 (Rep w ok) ys vs):∀v∈vs,v.oneCell'=true:=by
 induction h with
 |nil=>simp
 |cons h1 _ ih=>intro v hv;rcases qC.1 hv with rfl|hv;exact Rep.one h1;exact ih v hv
theorem zk2{cur:List Value}{off:Nat}{us m:List Value}(h:setRange cur off us=some m)(hf:off+us.length<=cur.length):cur.take off++us++cur.drop (off+us.length)=m:=by
 obtain⟨h1,_,h3⟩:=zaE h
 refine List.ext_getElem? fun i=>?_
 rw[h3]
 by_cases hc:off<=i/\i<off+us.length
 ·rw[kH hc,jJ (by simp;omega),jK (by simp;omega)]
  congr 1;simp;omega
 rw[kG hc]
 by_cases hlt:i<off
 ·rw[jJ (by simp;omega),jJ (by simp;omega),jS,kH hlt]
 rw[jK (by simp;omega),wC]
 congr 1;simp;omega
theorem zbY(w:World)(g:Nat)(cs:Array Value):w.grownBy (w.setRow g cs) (some g):=
 ⟨rfl,rfl,rfl,by simp[World.setRow],fun k _ hk=>setRow_other w g k _ fun e=>hk (by rw[e])⟩
variable (hT:∀t i,T t=some i->TI.of P t=some i)
include hT
theorem zkW(h:RG cx γ s a w){t:TypeId}{av xv:AV}{ad x:Value}(hm:M w (okOf cx s γ w) γ av ad)(hx:M w (okOf cx s γ w) γ xv x)(hxr:∀j∈xv.refs,(s.ob j).isSome=true){K:St->Prop}(hl:storeE T s t av xv K):
  ∃w' s',(Instr.storeAt t ad x).run P w= .ok () w'/\RG cx γ s' a w'/\K s':=by
 unfold storeE at hl
 cases ht:T t with
 |none=>simp[ht]at hl
 |some ti=>
 have hsz:=zae (hT t _ ht)
 cases av with
 |box i off=>
  simp only[ht]at hl
  obtain⟨b,hb,rfl⟩:=hm
  cases ho:s.ob i with
  |none=>simp[ho]at hl
  |some o=>
   cases o with
   |row e k n f=>simp[ho]at hl
   |mp m ks f=>simp[ho]at hl
   |box cs=>
    cases hc:cellsA xv with
    |none=>simp[ho,hc]at hl
    |some ys=>
     simp only[ho,hc]at hl
     cases hbq:Nat.beq ys.length ti.size with
     |false=>simp[hbq]at hl
     |true=>
      simp only[hbq,kT]at hl
      have hlen:=jA hbq
      cases hs:setRange cs off ys with
      |none=>simp[hs]at hl
      |some cs'=>
       simp only[hs]at hl
       obtain⟨b',vs,T',h1,h2,h3,h4⟩:=h.objs i _ ho
       rw[hb]at h1;simp at h1;subst h1
       obtain⟨hxc,hxr'⟩:=zjJ hc hx fun j hj u hu=>by rw[hu];exact zlG h (hxr j hj)
       obtain⟨m,hm1,hm2⟩:=zaW h4 hxc hs
       obtain⟨g1,g2,_⟩:=zaE hm1
       have hcell:x.cells.toList.length=ti.size:=by rw[<- hxc.length];exact hlen
       have ones:∀v∈x.cells.toList,v.oneCell'=true:=fun v hv=>by
        obtain⟨j,hj,rfl⟩:=kP hv
        have hj2:j<ys.length:=by rw[hxc.length];exact hj
        obtain⟨y,hy,_,h5⟩:=hxc.get j _ (kF hj2)
        rw[kF hj]at hy;cases hy;exact h5
       have hrefs:∀c∈cs',∀j∈c.refs,(s.ob j).isSome=true:=fun c hc' j hj=>by
        obtain⟨p,hp⟩:=jaK hc'
        obtain⟨_,_,q3⟩:=zaE hs
        rw[q3]at hp
        split at hp
        ·exact hxr j (hxr' c (kZ hp) j hj)
        exact h.refs i cs ho c (kZ hp) j hj
       rcases g2 with g2|g2
       ·--nothing is written
        have hz:ti.size=0:=by rw[<- hcell,g2];rfl
        have hmv:m=vs:=by rw[g2]at hm1;simp[setRange]at hm1;exact hm1.symm
        subst hmv
        refine⟨w,_,?_,h.change (i:=i) (o':=.box cs') ho ⟨rfl,rfl,rfl,jE _,fun _ _ _=>rfl⟩ (fun _=>jE _) (fun ok hok=>⟨b,_,T',hb,h2,h3,hm2.imp fun c v _ ⟨p1,p2⟩=>⟨M.keep hok (fun _ _=>rfl) p1,p2⟩⟩) (fun cs'' e c hc' j hj=>by cases e;exact hrefs c hc' j hj),hl⟩
        have:x.cells.size=0:=by rw[<- kB,hcell,hz]
        simp[Instr.storeAt,Instr.sureAddr,storeVar,hsz,this,hz,g2,storeCells]
       ·have hrun:=run_storeCells_at P b off T' x.cells.toList 0 vs.toArray w h3 (by simpa using g2) ones
        simp only[Nat.add_zero]at hrun
        rw[zk2 hm1 g2]at hrun
        refine⟨_,_,?_,h.change (i:=i) (o':=.box cs') ho (by rw[hb];exact zbY w b _) (fun _=>zbc _ hrun) (fun ok hok=>⟨b,m,T',hb,h2,setRow_heap w b _ _ T' _ h3,hm2.imp fun c v _ ⟨p1,p2⟩=>⟨M.keep hok (fun _ _=>rfl) p1,p2⟩⟩) (fun cs'' e c hc' j hj=>by cases e;exact hrefs c hc' j hj),hl⟩
        have:x.cells.size=ti.size:=by rw[<- kB,hcell]
        simp[Instr.storeAt,Instr.sureAddr,storeVar,hsz,this,hrun]
 |elt i k n c=>
  simp only[ht]at hl
  obtain⟨g,len,cap,hg,rfl⟩:=hm
  cases ho:s.ob i with
  |none=>simp[ho]at hl
  |some o=>
   cases o with
   |box cs=>simp[ho]at hl
   |mp m ks f=>simp[ho]at hl
   |row e k' N f=>
    cases hc:cellsD xv with
    |none=>simp[ho,hc]at hl
    |some ys=>
     simp only[ho,hc]at hl
     cases hbq:(Nat.beq k k'&&Nat.beq ys.length ti.size&&Nat.ble (c+ti.size) k)with
     |false=>simp[hbq]at hl
     |true=>
      simp only[hbq,kT]at hl
      simp only[jP]at hbq
      have hk:=jA hbq.1.1
      subst hk
      have hlen:=jA hbq.1.2
      have hle:=jD hbq.2
      obtain⟨hn,hK⟩:=hl
      have hxc:=zgf hc hx
      have hcell:x.cells.toList.length=ti.size:=by rw[<- hxc.length];exact hlen
      obtain⟨xs,h1,h0,h2,h3⟩:=h.objs i _ ho
      rcases h1.2 with⟨e1,_⟩|⟨g',cap',cur,e1,e2,e3,e4,e5,e6,e7⟩
      ·rw[e1]at hg;cases hg
      ·rw[e1]at hg
       obtain⟨rfl,rfl,rfl⟩:g'=g/\N=len/\cap'=cap:=by simpa using hg
       have hcs:x.cells.size=ti.size:=by rw[<- kB,hcell]
       have hbound:n*k+c+ti.size<=N*k:=by
        have:(n+1)*k<=N*k:=jW k hn
        rw[qG]at this;omega
       have hNk:N*k<=cap'*k:=jW k e4
       have hrun:=run_storeCells_at P g' (n*k+c) e x.cells.toList 0 cur w e3 (by rw[hcell,e6];omega) (Rep.ones hxc)
       simp only[Nat.add_zero]at hrun
       generalize hnew:(cur.toList.take (n*k+c)++x.cells.toList++cur.toList.drop (n*k+c+x.cells.toList.length))=new at hrun
       have hnl:new.length=cur.size:=by rw[<- hnew];simp only[jR,jQ,jag,kB,hcs];omega
       have hget:∀q,new[q]?=if n*k+c<=q/\q<n*k+c+ti.size then x.cells.toList[q-(n*k+c)]? else cur.toList[q]?:=fun q=>by
        rw[<- hnew]
        by_cases hq:n*k+c<=q/\q<n*k+c+ti.size
        ·rw[kH hq,jJ (by simp only[jR,jQ,kB,hcs];omega),jK (by simp only[jQ,kB];omega)]
         congr 1;simp only[jQ,kB];omega
        rw[kG hq]
        by_cases hlt:q<n*k+c
        ·rw[jJ (by simp only[jR,jQ,kB,hcs];omega),jJ (by simp only[jQ,kB];omega),jS,kH hlt]
        rw[jK (by simp only[jR,jQ,kB,hcs];omega),wC]
        congr 1;simp only[jR,jQ,kB,hcs];omega
       have hxs:∀q,q<N*k->xs[q]?=cur.toList[q]?:=fun q hq=>by rw[<- e7,jS,kH hq]
       refine⟨_,_,?_,h.change (i:=i) (o':=.row e k N (storeRow f n c ys)) ho (by rw[e1];exact zbY w g' _) (fun _=>zbc _ hrun) (fun ok hok=>⟨new.take (N*k),⟨by simp;omega,.inr ⟨g',cap',new.toArray,e1,e2,setRow_heap w g' _ _ e _ e3,e4,e5,by simp[hnl,e6],by simp⟩⟩,h0,?_,?_⟩) (fun cs'' e'=>by cases e'),hK⟩
       ·have:x.cells.size=ti.size:=by rw[<- kB,hcell]
        simp[Instr.storeAt,Instr.sureAddr,storeVar,hsz,this,hrun]
       ·intro u hu
        obtain⟨q,hq⟩:=jaK hu
        rw[jS]at hq
        split at hq
        ·rename_i hlt
         rw[hget]at hq
         split at hq
         ·exact Rep.ones hxc u (kZ hq)
         rw[<- hxs q hlt]at hq;exact h2 u (kZ hq)
        cases hq
       ·intro m hm j hj
        have hmj:m*k+j<N*k:=by
         have:(m+1)*k<=N*k:=jW k hm
         rw[qG]at this;omega
        rw[jS,kH hmj,hget]
        by_cases hq:m=n/\c<=j/\j<c+ys.length
        ·obtain⟨rfl,hq1,hq2⟩:=hq
         rw[kH (by omega)]
         have hyl:j-c<ys.length:=by omega
         obtain⟨u,hu,hr⟩:=hxc.get (j-c) _ (kF hyl)
         refine⟨u,?_,?_⟩
         ·rw[<- hu];congr 1;omega
         have:storeRow f m c ys m j=ys[j-c]:=by
          simp[storeRow,hq1,hq2,getD',zau,hyl]
         rw[this];exact Rep.keep hok hr
        ·have hno:¬(n*k+c<=m*k+j/\m*k+j<n*k+c+ti.size):=by
          intro hh
          refine hq ?_
          have hmn:m=n:=by
           rcases jbf m n with hlt|heq|hgt
           ·have:(m+1)*k<=n*k:=jW k hlt
            rw[qG]at this;omega
           ·exact heq
           have:(n+1)*k<=m*k:=jW k hgt
           rw[qG]at this;omega
          subst hmn
          exact⟨rfl,by omega,by omega⟩
         rw[kG hno,<- hxs _ hmj]
         obtain⟨u,hu,hr⟩:=h3 m hm j hj
         refine⟨u,hu,?_⟩
         have:storeRow f n c ys m j=f m j:=by simp only[storeRow,kG hq]
         rw[this];exact Rep.keep hok hr
 | _=>simp[ht]at hl
end
end Go.Pg
namespace Go.Pg
open Go.RowKit Go.MapKept
section
variable {P:Program}{T:TT}{E:Env}{cx:Cx}{γ:Nat->Value}{s:St}{a:Act}{w:World}
theorem zdl{base e k n:Nat}{v:Value}{xs:List Value}(h:w.ownsRow base e k v n xs):v.ownBlock=blk v:=by
 rcases h.2 with⟨rfl,_⟩|⟨g,cap,cur,rfl,_⟩<;>rfl
theorem ziQ{z:List D}(hk:0<z.length):∀(n q:Nat),(repD n z)[q]?=if q<n*z.length then z[q%z.length]? else none
 |0,q=>by simp[repD]
 |n+1,q=>by
  simp only[repD]
  by_cases hq:q<z.length
  ·rw[jJ hq,jaI hq,kH]
   rw[qG];omega
  rw[jK (by omega),ziQ hk n]
  have e1:q%z.length=(q-z.length)%z.length:=Nat.mod_eq_sub_mod (by omega)
  by_cases hc:q-z.length<n*z.length
  ·rw[kH hc,kH (by rw[qG];omega),e1]
  rw[kG hc,kG (by rw[qG];omega)]
theorem zcp(z:List D):∀n:Nat,(repD n z).length=n*z.length
 |0=>by simp[repD]
 |n+1=>by simp only[repD,jR,zcp z n,qG];omega
theorem znY{ok:Nat->Prop}{z:List D}{zv:Array Value}(h:All2 (Rep w ok) z zv.toList)(hk:0<z.length)(n:Nat):All2 (Rep w ok) (repD n z) ((Array.range (n*z.length)).map (zv[· %zv.size]!)).toList:=by
 have hl:zv.size=z.length:=by rw[<- kB,h.length]
 refine All2.of_get (by simp[zcp]) fun q x y hx hy=>?_
 rw[ziQ hk]at hx
 split at hx
 ·rename_i hq
  obtain⟨u,hu,hr⟩:=h.get _ x hx
  simp only[Array.toList_map,Array.toList_range,jU,wF hq,qL,jO]at hy
  subst hy
  have hlt:q%z.length<zv.size:=by rw[hl];exact jau _ hk
  have:zv[q%zv.size]! =u:=by
   rw[hl,jaV zv _ hlt]
   have:zv.toList[q%z.length]?=some zv[q%z.length]:=by simp[hlt]
   rw[this]at hu;exact jak hu
  rw[this];exact hr
 cases hx
def Src(w:World)(ok:Nat->Prop)(size m:Nat)(g:Nat->Nat->D)(x:Value):Prop:=
 (∃c,x= .slice none 0 c/\m=0)\/∃(ad:Addr) (c:Nat) (news:List Value),x= .slice (some ad) m c/\news.length=m*size/\(∀j u,news[j]?=some u->w.cell? (ad.add j)=some u)/\(∀u∈news,u.oneCell'=true)/\
  ∀i,i<m->∀j,j<size->∃u,news[i*size+j]?=some u/\Rep w ok (g i j) u
theorem zbg(h:RG cx γ s a w){v:AV}{x:Value}{size:Nat}(hsz:0<size)(hm:M w (okOf cx s γ w) γ v x){K:Nat->Nat->(Nat->Nat->D)->Prop}(hl:srcE s v K):
  ∃k m g,K k m g/\((m=0\/k=size)->Src w (okOf cx s γ w) size m g x):=by
 cases v with
 |d p=>
  cases p with
  |slc k m g=>
   refine⟨k,m,g,hl,fun hk=>?_⟩
   rcases hm with⟨rfl,h0⟩|⟨ad,cap,rfl,h1,h2,h3⟩
   ·exact .inl ⟨0,rfl,h0⟩
   ·refine .inr ?_
    rcases hk with hk|hk
    ·exact⟨ad,cap,[],rfl,by simp[hk],by simp,by simp,fun i hi=>by omega⟩
    ·subst hk
     have hex:∀q,∃u,q<m*k->w.cell? (ad.add q)=some u/\Rep w (okOf cx s γ w) (g (q/k) (q%k)) u:=fun q=>by
      by_cases hq:q<m*k
      ·have h4:q/k<m:=jaR (by rwa [qM]at hq)
       obtain⟨_,u,h5,h6⟩:=h3 (q/k) h4 (q%k) (jau _ hsz)
       refine⟨u,fun _=>⟨?_,h6⟩⟩
       rw[<- h5];congr 2;rw[qM];exact(ja0 q k).symm
      exact⟨Go.undef,fun h=>absurd h hq⟩
     obtain⟨f,hf⟩:=jbJ hex
     have get:∀q,q<m*k->((List.range (m*k)).map f)[q]?=some (f q):=fun q hq=>by simp[hq]
     refine⟨ad,cap,(List.range (m*k)).map f,rfl,by simp,fun j u hj=>?_,fun u hu=>?_,fun i hi j hj=>?_⟩
     ·have hlt:j<m*k:=by have:=(kC.1 hj).1;simpa using this
      rw[get j hlt]at hj;cases hj;exact(hf j hlt).1
     ·obtain⟨q,hq,rfl⟩:=kJ.1 hu
      exact Rep.one (hf q (by simpa using hq)).2
     ·have hlt:i*k+j<m*k:=by
       have:(i+1)*k<=m*k:=jW k hi
       rw[qG]at this;omega
      refine⟨_,get _ hlt,?_⟩
      have:=(hf _ hlt).2
      have e1:(i*k+j)/k=i:=by rw[qM,Nat.mul_add_div hsz,jbn hj];simp
      have e2:(i*k+j)%k=j:=by rw[qM,jbd,jaI hj]
      rwa [e1,e2]at this
  |nil=>exact⟨0,0,_,hl,fun _=>.inl ⟨0,hm,rfl⟩⟩
  | _=>simp[srcE]at hl
 |nilsl=>exact⟨0,0,_,hl,fun _=>.inl ⟨0,hm,rfl⟩⟩
 |own i=>
  simp only[srcE]at hl
  cases ho:s.ob i with
  |none=>simp[ho]at hl
  |some o=>
   cases o with
   |box cs=>simp[ho]at hl
   |mp m ks f=>simp[ho]at hl
   |row e k m g=>
    simp only[ho]at hl
    refine⟨k,m,g,hl,fun hk=>?_⟩
    obtain⟨xs,h1,_,h2,h3⟩:=h.objs i _ ho
    have hx:x=γ i:=hm
    rcases h1.2 with⟨e1,h0⟩|⟨g',cap,cur,e1,_⟩
    ·exact .inl ⟨0,hx.trans e1,h0⟩
    ·refine .inr ?_
     rcases hk with hk|hk
     ·exact⟨⟨g',0,none⟩,cap,[],hx.trans e1,by simp[hk],by simp,by simp,fun i hi=>by omega⟩
     ·subst hk
      exact⟨⟨g',0,none⟩,cap,xs,hx.trans e1,h1.1,h1.cells (g:=g') (by rw[e1];rfl),h2,h3⟩
 | _=>simp[srcE]at hl
theorem zc0{base:Nat}{t ty e:TypeId}{i:TypeInfo}{size:Nat}(ht:P.underlying t=some (.slice e))(hi:P.info? e=some i)
  {v:Value}{n:Nat}{xs:List Value}(hown:w.ownsRow base e size v n xs)(c:Nat):(Builtin.append_ #[t,t] ty #[v,.slice none 0 c]).run P w= .ok v w:=by
 rcases hown.2 with⟨rfl,rfl⟩|⟨g,cap,cur,rfl,_,_,hnc,_⟩
 ·simp[Builtin.append_,run_underlying ht,sizeOf,typeInfo,hi,Builtin.lenOf,Builtin.firstCells]
 simp[Builtin.append_,run_underlying ht,sizeOf,typeInfo,hi,Builtin.lenOf,Builtin.firstCells,hnc,storeCells]
theorem zdh{t ty e:TypeId}{ei:TI}(ht:P.underlying t=some (.slice e))(he:TI.of P e=some ei)(hsz:0<ei.size)(hzl:ei.zero.length=ei.size){base n:Nat}{v:Value}{xs:List Value}(hown:w.ownsRow base e ei.size v n xs)(h1:∀u∈xs,u.oneCell'=true)
  {ok:Nat->Prop}{f g:Nat->Nat->D}{m:Nat}{x:Value}(hf:∀i,i<n->∀j,j<ei.size->∃u,xs[i*ei.size+j]?=some u/\Rep w ok (f i j) u)(hs:Src w ok ei.size m g x)
  (hlen:n+m<=maxLen)(hby:(n+m)*ei.bytes<=140737488355328)(hbase:base<=w.heap.size):
  ∃v' w' ys,(Builtin.append_ #[t,t] ty #[v,x]).run P w= .ok v' w'/\w'.ownsRow base e ei.size v' (n+m) ys/\w.grownBy w' (blk v)/\(blk v'=blk v\/blk v'=some w.heap.size)/\(∀u∈ys,u.oneCell'=true)/\
   ∀ok':Nat->Prop,(∀b,ok b->ok' b/\w'.heap[b]?=w.heap[b]?)->∀i,i<n+m->∀j,j<ei.size->∃u,ys[i*ei.size+j]?=some u/\Rep w' ok' (appRow n f g i j) u:=by
 obtain⟨info,d,z,hi,hd,hz,h4,h5,h6,h7,h8⟩:=zah he
 have inrow:∀i j,i<n->j<ei.size->i*ei.size+j<n*ei.size:=fun i j hi hj=>by
  have:(i+1)*ei.size<=n*ei.size:=jW _ hi
  rw[qG]at this;omega
 rcases hs with⟨c,rfl,rfl⟩|⟨ad,c,news,rfl,hl,hc,hn1,hg⟩
 ·refine⟨v,w,xs,zc0 ht hi hown c,by simpa using hown,⟨rfl,rfl,rfl,jE _,fun _ _ _=>rfl⟩,.inl rfl,h1,fun ok' hok i hi j hj=>?_⟩
  obtain⟨u,hu,hr⟩:=hf i (by omega) j hj
  exact⟨u,hu,by rw[show appRow n f g i j=f i j from kH (by omega)];exact Rep.keep hok hr⟩
 have hzs':z.cells.size=ei.size:=by rw[<- kB,h7,hzl]
 obtain⟨v',w',hrun,h2,h3,_,h9⟩:=run_append_own_at (P:=P) w base t ty e info z ei.size ei.bytes ht hi hz h4 h5 hzs' hsz v n xs hown ad m c news hl hc hn1 hlen hby hbase
 rw[zdl hown]at h3 h9
 rw[zdl h2]at h9
 refine⟨v',w',xs++news,hrun,h2,h3,h9,fun u hu=>?_,fun ok' hok i hi j hj=>?_⟩
 ·rcases kL.1 hu with hu|hu
  ·exact h1 u hu
  exact hn1 u hu
 by_cases hin:i<n
 ·obtain⟨u,hu,hr⟩:=hf i hin j hj
  refine⟨u,?_,by rw[show appRow n f g i j=f i j from kH hin];exact Rep.keep hok hr⟩
  rw[jJ (by rw[hown.1];exact inrow i j hin hj)];exact hu
 obtain⟨u,hu,hr⟩:=hg (i-n) (by omega) j hj
 refine⟨u,?_,by rw[show appRow n f g i j=g (i-n) j from kG hin];exact Rep.keep hok hr⟩
 have e1:n*ei.size+((i-n)*ei.size+j)=i*ei.size+j:=by
  rw[<- jaz,<- qG];congr 2;omega
 rw[jK (by rw[hown.1,<- e1];omega),hown.1,<- hu];congr 1;omega
theorem zk9(h:RG cx γ s a w){i e k N:Nat}{f f':Nat->Nat->D}(ho:s.ob i=some (.row e k N f)){g len cap:Nat}(hg:γ i= .slice (some ⟨g,0,none⟩) len cap)(off:Nat)(vs:List Value)(hle:off+vs.length<=N*k)(h1:∀v∈vs,v.oneCell'=true)
  (hin:∀m,m<N->∀j,j<k->off<=m*k+j->m*k+j<off+vs.length->∃u,vs[m*k+j-off]?=some u/\Rep w (okOf cx s γ w) (f' m j) u)
  (hout:∀m,m<N->∀j,j<k->¬(off<=m*k+j/\m*k+j<off+vs.length)->f' m j=f m j):
  ∃w',(storeCells ⟨g,off,none⟩ vs).run P w= .ok () w'/\RG cx γ (s.setOb i (some (.row e k N f'))) a w':=by
 obtain⟨xs,p1,p0,p2,p3⟩:=h.objs i _ ho
 rcases p1.2 with⟨e1,_⟩|⟨g',cap',cur,e1,e2,e3,e4,e5,e6,e7⟩
 ·rw[e1]at hg;cases hg
 rw[e1]at hg
 obtain⟨rfl,rfl,rfl⟩:g'=g/\N=len/\cap'=cap:=by simpa using hg
 have hNk:N*k<=cap'*k:=jW k e4
 have hrun:=run_storeCells_at P g' off e vs 0 cur w e3 (by rw[e6];omega) h1
 simp only[Nat.add_zero]at hrun
 generalize hnew:(cur.toList.take off++vs++cur.toList.drop (off+vs.length))=new at hrun
 have hnl:new.length=cur.size:=by rw[<- hnew];simp only[jR,jQ,jag,kB];omega
 have hget:∀q,new[q]?=if off<=q/\q<off+vs.length then vs[q-off]? else cur.toList[q]?:=fun q=>by
  rw[<- hnew]
  by_cases hq:off<=q/\q<off+vs.length
  ·rw[kH hq,jJ (by simp only[jR,jQ,kB];omega),jK (by simp only[jQ,kB];omega)]
   congr 1;simp only[jQ,kB];omega
  rw[kG hq]
  by_cases hlt:q<off
  ·rw[jJ (by simp only[jR,jQ,kB];omega),jJ (by simp only[jQ,kB];omega),jS,kH hlt]
  rw[jK (by simp only[jR,jQ,kB];omega),wC]
  congr 1;simp only[jR,jQ,kB];omega
 have hxs:∀q,q<N*k->xs[q]?=cur.toList[q]?:=fun q hq=>by rw[<- e7,jS,kH hq]
 refine⟨_,hrun,h.change (i:=i) (o':=.row e k N f') ho (by rw[e1];exact zbY w g' _) (fun _=>zbc _ hrun) (fun ok hok=>⟨new.take (N*k),⟨by simp;omega,.inr ⟨g',cap',new.toArray,e1,e2,setRow_heap w g' _ _ e _ e3,e4,e5,by simp[hnl,e6],by simp⟩⟩,p0,?_,?_⟩) (fun cs'' e'=>by cases e')⟩
 ·intro u hu
  obtain⟨q,hq⟩:=jaK hu
  rw[jS]at hq
  split at hq
  ·rename_i hlt
   rw[hget]at hq
   split at hq
   ·exact h1 u (kZ hq)
   rw[<- hxs q hlt]at hq;exact p2 u (kZ hq)
  cases hq
 intro m hm j hj
 have hmj:m*k+j<N*k:=by
  have:(m+1)*k<=N*k:=jW k hm
  rw[qG]at this;omega
 rw[jS,kH hmj,hget]
 by_cases hq:off<=m*k+j/\m*k+j<off+vs.length
 ·rw[kH hq]
  obtain⟨u,hu,hr⟩:=hin m hm j hj hq.1 hq.2
  exact⟨u,hu,Rep.keep hok hr⟩
 rw[kG hq,<- hxs _ hmj,hout m hm j hj hq]
 obtain⟨u,hu,hr⟩:=p3 m hm j hj
 exact⟨u,hu,Rep.keep hok hr⟩
theorem zfn(z:Array Value)(n q:Nat)(h:q<n*z.size):(Builtin.zeroCells z n).toList[q]?=z.toList[q%z.size]?:=by
 have hz:0<z.size:=by
  rcases jaq z.size with h0|h0
  ·rw[h0]at h;simp at h
  exact h0
 have hm:=jau q hz
 simp[Builtin.zeroCells,h,hm,jaV]
theorem zfm(z:Array Value)(n:Nat):(Builtin.zeroCells z n).toList.length=n*z.size:=by simp[Builtin.zeroCells]
theorem zmt{ok:Nat->Prop}:∀{xs:List D}{l:List Int}{vs:List Value},intsD xs=some l->All2 (Rep w ok) xs vs->vs=l.map (Value.int .i64)
 | [],l,_,h,.nil=>by simp[intsD]at h;subst h;rfl
 | .int .i64 n::r,l,v::vs,h,.cons h1 h2=>by
  simp only[intsD]at h
  cases hr:intsD r with
  |none=>simp[hr]at h
  |some m=>
  simp only[hr,jO]at h;subst h
  rw[zmt hr h2,show v= .int .i64 n from h1];rfl
theorem zqb{ok:Nat->Prop}{i:AV}{y:Value}{k:List Int}(h:keyD i=some k)(hm:M w ok γ i y):y=kv k:=by
 unfold keyD at h
 split at h
 ·cases h;exact hm
 ·rename_i xs
  split at h
  ·cases h
  obtain⟨vs,rfl,h2⟩:=hm
  rw[zmt h h2]
  rename_i hne
  unfold kv
  split
  ·exact absurd h (hne _)
  rfl
 cases h
theorem zmv{ks:List (List Int)}{k:List Int}:(putK ks k).length=(if ks.idxOf k<ks.length then ks.length else ks.length+1):=by
 unfold putK
 split<;>simp
theorem zt3(h:RG cx γ s a w){v:AV}{x:Value}{m:Nat}{ks:List (List Int)}{f:Nat->D}(hd:mapD s v=some (m,ks,f))(hm:M w (okOf cx s γ w) γ v x):∃(b:Nat) (es:List MapEntry) (c:Nat),x= .map (some b)/\w.heap[b]?=some (.map es.toArray c)/\((es.map fun e=>e.key)=ks.map kv/\(∀k∈ks,k.length=m))/\∀j,j<ks.length->∃e,es[j]?=some e/\Rep w (okOf cx s γ w) (f j) e.val:=by
 unfold mapD at hd
 split at hd
 ·rename_i i
  split at hd
  ·rename_i ho
   cases hd
   obtain⟨b,es,c,h1,h2,h3,h4,h5⟩:=h.objs i _ ho
   exact⟨b,es,c,jbI (show x=γ i from hm) h1,h3,h4,h5⟩
  cases hd
 ·cases hd
  obtain⟨b,es,c,h1,h2,h3,h4,h5⟩:=hm
  exact⟨b,es,c,h1,h3,h4,h5⟩
 cases hd
section
variable (hT:∀t i,T t=some i->TI.of P t=some i)
include hT
theorem zmS(h:RG cx γ s a w){t ty:TypeId}{v:AV}{x:Value}(hm:M w (okOf cx s γ w) γ v x){K:St->Prop}(hl:clearE T s t v K):
  ∃w' s',(Builtin.clear_ #[t] ty #[x]).run P w= .ok (.tuple #[]) w'/\RG cx γ s' a w'/\K s':=by
 unfold clearE at hl
 cases ht:T t with
 |none=>simp[ht]at hl
 |some ti=>
 obtain⟨size,ag,bytes,zero,kind⟩:=ti
 cases kind with
 |slice e=>
  cases v with
  |sub i k lo n=>
   simp only[ht]at hl
   cases he:T e with
   |none=>simp[he]at hl
   |some ei=>
    cases ho:s.ob i with
    |none=>simp[he,ho]at hl
    |some o=>
     cases o with
     |box cs=>simp[he,ho]at hl
     |mp m ks f=>simp[he,ho]at hl
     |row e' k' N f=>
      simp only[he,ho]at hl
      cases hz:cds ei.zero with
      |none=>simp[hz]at hl
      |some zs=>
       simp only[hz]at hl
       cases hb:(Nat.beq k k'&&Nat.beq ei.size k&&Nat.beq ei.zero.length k&&Nat.ble 1 k)with
       |false=>simp[hb]at hl
       |true=>
        simp only[hb,kT]at hl
        simp only[jP]at hb
        obtain⟨hN,hK⟩:=hl
        have hkk:=jA hb.1.1.1
        subst hkk
        have hek:=jA hb.1.1.2
        have hzl:=jA hb.1.2
        have hk1:=jD hb.2
        obtain⟨info,ds,_,_,hds,_,_,_,_,_,hkd⟩:=zah (hT t _ ht)
        have hds':=TK.of_slice hkd
        subst hds'
        obtain⟨info',ds',z,hi',_,hz',_,_,_,hzc,_⟩:=zah (hT e _ he)
        have hzero:(zeroValue e).run P w= .ok z w:=by simp[zeroValue,typeInfo,hi',hz']
        have hzs:z.cells.size=k:=by rw[<- kB,hzc,hzl]
        by_cases hn:n=0
        ·subst hn
         refine⟨w,_,?_,?_,hK⟩
         ·rcases hm with⟨_,ad,c,rfl⟩|⟨_,_,_,_,_,rfl⟩
          ·cases ad<;>simp[Builtin.clear_,run_underlying hds]
          simp[Builtin.clear_,run_underlying hds]
         have:clrRow f lo 0 zs=f:=by funext m j;simp only[clrRow];rw[kG (by omega)]
         rw[this,zeT ho];exact h
        ·rcases hm with⟨h0,_⟩|⟨g,len,cap,cap',hg,rfl⟩
         ·exact absurd h0 hn
         ·have hrz:All2 (Rep w (okOf cx s γ w)) zs z.cells.toList:=by rw[hzc];exact zbQ hz
          have hlen:=zfm z.cells n
          rw[hzs]at hlen
          have hnk:(lo+n)*k<=N*k:=jW k hN
          rw[qG]at hnk
          have hgetz:∀q,q<n*k->(Builtin.zeroCells z.cells n).toList[q]?=z.cells.toList[q%k]?:=fun q hq=>by
           rw[zfn _ _ _ (by rw[hzs];exact hq),hzs]
          have hones:∀v∈z.cells.toList,v.oneCell'=true:=Rep.ones hrz
          obtain⟨w',hrun,hr⟩:=zk9 (P:=P) (f':=clrRow f lo n zs) h ho hg (lo*k) (Builtin.zeroCells z.cells n).toList (by omega) (fun v hv=>by
           obtain⟨q,hq⟩:=jaK hv
           have hql:q<n*k:=by have:=(kC.1 hq).1;omega
           rw[hgetz q hql]at hq
           exact hones v (kZ hq)) (fun m hm' j hj q1 q2=>by
           have hlm:lo<=m:=by
            rcases jaD m lo with hlt|hge
            ·have:(m+1)*k<=lo*k:=jW k hlt
             rw[qG]at this;omega
            exact hge
           have hmn:m<lo+n:=by
            rcases jaD m (lo+n)with hlt|hge
            ·exact hlt
            have:(lo+n)*k<=m*k:=jW k hge
            rw[qG]at this;omega
           have e1:m*k+j-lo*k=(m-lo)*k+j:=by
            rw[Nat.sub_mul]
            have:lo*k<=m*k:=jW k hlm
            omega
           have e2:((m-lo)*k+j)%k=j:=by rw[qM,jbd,jaI hj]
           have hlz:j<zs.length:=by rw[hrz.length,kB,hzs];exact hj
           obtain⟨u,hu,hru⟩:=hrz.get j _ (kF hlz)
           refine⟨u,?_,?_⟩
           ·rw[hgetz _ (by omega),e1,e2];exact hu
           ·have:clrRow f lo n zs m j=zs[j]:=by simp[clrRow,hlm,hmn,getD',zau,hlz]
            rw[this];exact hru) (fun m hm' j hj hno=>by
           unfold clrRow
           rw[kG fun hh=>hno ?_]
           have q1:lo*k<=m*k:=jW k hh.1
           have q2:(m+1)*k<=(lo+n)*k:=jW k hh.2
           rw[qG,qG]at q2
           omega)
          obtain⟨n',rfl⟩:∃n',n=n'+1:=⟨n-1,by omega⟩
          exact⟨w',_,by simp[Builtin.clear_,run_underlying hds,hzero,hrun],hr,hK⟩
  | _=>simp[ht]at hl
 | _=>simp[ht]at hl
theorem zjg(h:RG cx γ s a w){t:TypeId}{v i:AV}{x y:Value}(hm:M w (okOf cx s γ w) γ v x)(hi:M w (okOf cx s γ w) γ i y){ok:Bool}{K:AV->Prop}(hl:lookE P T s t v i ok K):
  ∃z u,(Instr.lookup t x y ok).run P w= .ok z w/\M w (okOf cx s γ w) γ u z/\u.refs=[]/\K u:=by
 unfold lookE at hl
 cases ht:T t with
 |none=>simp[ht]at hl
 |some ti=>
 obtain⟨size,ag,bytes,zero,kind⟩:=ti
 cases kind with
 |map kt et=>
  simp only[ht]at hl
  cases h1:mapD s v with
  |none=>simp[h1]at hl
  |some q=>
   obtain⟨m,ks,f⟩:=q
   cases h2:keyD i with
   |none=>simp[h1,h2]at hl
   |some k=>
    cases h3:zD T et with
    |none=>simp[h1,h2,h3]at hl
    |some z=>
     simp only[h1,h2,h3]at hl
     obtain⟨⟨hkf,hkl⟩,q,hq,hK⟩:=hl
     obtain⟨info,ds,_,_,hds,_,_,_,_,_,hkd⟩:=zah (hT t _ ht)
     have hmap:=TK.of_map hkd
     subst hmap
     obtain⟨b,es,c,rfl,g3,⟨g4,g5⟩,g6⟩:=zt3 h h1 hm
     obtain rfl:=zqb h2 hi
     obtain⟨f1,f2,f3⟩:=hkf k hkl
     have hrun:=f3 w es ks g4 g5
     have hlen:es.length=ks.length:=by have:=jI List.length g4;simpa using this
     have key:∃u,(Instr.lookup t (.map (some b)) (kv k) ok).run P w= .ok (match ok with|true=>.tuple #[u,.bool (decide (ks.idxOf k<ks.length))]|false=>u) w/\Rep w (okOf cx s γ w) (lkD ks f k z) u:=by
      by_cases hx:ks.idxOf k<ks.length
      ·obtain⟨e,he,hr⟩:=g6 _ hx
       rw[he]at hrun
       refine⟨e.val,?_,by unfold lkD;rw[kH hx];exact hr⟩
       cases ok<;>simp[Instr.lookup,run_underlying hds,Go.MapKept.run_getObj_map g3,f1,hrun,Result.andThen,hx]
      rw[jad (by omega)]at hrun
      unfold zD at h3
      split at h3
      ·rename_i z0 kk he
       split at h3
       ·rename_i hone
        obtain⟨ie,z1,hie,hz1,hz2⟩:=zsZ (hT et _ he) hone
        have hz2:[z0]=[z1]:=hz2
        cases hz2
        have hzero:(zeroValue et).run P w= .ok z0 w:=by simp[zeroValue,typeInfo,hie,hz1]
        refine⟨z0,?_,by unfold lkD;rw[kG hx];exact zqo h3⟩
        cases ok<;>simp[Instr.lookup,run_underlying hds,Go.MapKept.run_getObj_map g3,f1,hrun,hzero,Result.andThen,hx]
       cases h3
      cases h3
     obtain⟨u,hu,hr⟩:=key
     have hr:=hr.eqv hq
     cases ok with
     |true=>exact⟨_,.tup [.d q,.d (.bool (decide (ks.idxOf k<ks.length)))],hu,⟨[u,.bool (decide (ks.idxOf k<ks.length))],rfl,.cons hr (.cons rfl .nil)⟩,rfl,hK⟩
     |false=>exact⟨u,.d q,hu,hr,rfl,hK⟩
 | _=>simp[ht]at hl
theorem zqH(h:RG cx γ s a w){t:TypeId}{v i u:AV}{x y z:Value}(hm:M w (okOf cx s γ w) γ v x)(hi:M w (okOf cx s γ w) γ i y)(hu:M w (okOf cx s γ w) γ u z){K:St->Prop}(hl:updE P T s t v i u K):
  ∃w' s',(Instr.mapUpdate t x y z).run P w= .ok () w'/\RG cx γ s' a w'/\K s':=by
 unfold updE at hl
 split at hl
 ·rename_i size ag bytes zero kt et id k yd ht hk hy
  split at hl
  ·rename_i m ks f ho
   obtain⟨⟨hkf,hkl⟩,hK⟩:=hl
   obtain⟨info,ds,_,_,hds,_,_,_,_,_,hkd⟩:=zah (hT t _ ht)
   have hmap:=TK.of_map hkd
   subst hmap
   obtain⟨b,es,c,g1,g2,g3,⟨g4,g5⟩,g6⟩:=h.objs id _ ho
   obtain rfl:x= .map (some b):=jbI (show x=γ id from hm) g1
   obtain rfl:=zqb hk hi
   obtain⟨f1,f2,f3⟩:=hkf k hkl
   have hrun:=f3 w es ks g4 g5
   have hlen:es.length=ks.length:=by have:=jI List.length g4;simpa using this
   have hlt:=(jB.1 g3).1
   have hz:=(zcw hy hu).1
   have step:∀(es':List MapEntry) (c':Nat),(Instr.mapUpdate t (.map (some b)) (kv k) z).run P w= .ok () { w with heap:=w.heap.setIfInBounds b (.map es'.toArray c') }->((es'.map fun e=>e.key)=(putK ks k).map kv)->
     (∀j,j<(putK ks k).length->∃e,es'[j]?=some e/\(j=ks.idxOf k/\e.val=z\/j≠ks.idxOf k/\j<ks.length/\∃e0,es[j]?=some e0/\e.val=e0.val))->∃w' s',(Instr.mapUpdate t (.map (some b)) (kv k) z).run P w= .ok () w'/\RG cx γ s' a w'/\K s':=fun es' c' h1 h2 h3=>by
    refine⟨_,_,h1,h.change (i:=id) (o':=.mp m (putK ks k) (putF ks f k yd)) ho (by rw[g1];exact⟨rfl,rfl,rfl,by simp,fun r _ hr=>by
     have:r≠b:=fun e=>hr (by rw[e];rfl)
     exact(Go.MapKept.heap_set g3).2 r this⟩) (fun _=>jE _) (fun okk hok=>⟨b,es',c',g1,g2,(Go.MapKept.heap_set g3).1,⟨h2,fun q hq=>?_⟩,fun j hj=>?_⟩) (fun cs e=>by cases e),hK⟩
    ·unfold putK at hq
     split at hq
     ·exact g5 q hq
     rcases kL.1 hq with hq|hq
     ·exact g5 q hq
     rw[kI.1 hq];exact hkl
    obtain⟨e,he,h4⟩:=h3 j hj
    refine⟨e,he,?_⟩
    unfold putF
    rcases h4 with⟨h5,h6⟩|⟨h5,h6,e0,h7,h8⟩
    ·rw[kH h5,h6];exact Rep.keep hok hz
    rw[kG h5,h8]
    obtain⟨e1,q1,q2⟩:=g6 j h6
    rw[h7]at q1;cases q1
    exact Rep.keep hok q2
   by_cases hx:ks.idxOf k<ks.length
   ·obtain⟨e,he,-⟩:=g6 _ hx
    rw[he]at hrun
    have hkey:e.key=kv k:=by
     have q1:(es.map fun e=>e.key)[ks.idxOf k]?=some e.key:=by rw[jU,he];rfl
     rw[g4,jU,kF hx,List.getElem_idxOf hx]at q1
     simpa using q1.symm
    refine step ((es.toArray.modify (ks.idxOf k) fun e=>{ e with key:=kv k,val:=z }).toList) c ?_ ?_ fun j hj=>?_
    ·simp[Instr.mapUpdate,run_underlying hds,Go.MapKept.run_getObj_map g3,f1,hrun,he,hkey,f2,Go.MapKept.run_setObj_map _ g3,Result.andThen]
    ·rw[Go.MapKept.modify_keys (ks.idxOf k) _ fun e0 h0=>by
      have:e0=e:=by simpa [he]using h0.symm
      rw[this];exact hkey.symm]
     unfold putK;rw[kH hx];exact g4
    rw[zmv,kH hx]at hj
    obtain⟨e0,h0,-⟩:=g6 j hj
    by_cases ej:j=ks.idxOf k
    ·subst ej
     refine⟨{ e with key:=kv k,val:=z },?_,.inl ⟨rfl,rfl⟩⟩
     rw[ja2,jbm,kH rfl]
     simp[he]
    refine⟨e0,?_,.inr ⟨ej,hj,e0,h0,rfl⟩⟩
    rw[ja2,jbm,kG fun e=>ej e.symm]
    simpa using h0
   rw[jad (by omega)]at hrun
   refine step (es++[({ key:=kv k,val:=z,born:=c }:MapEntry)]) (c+1) ?_ ?_ fun j hj=>?_
   ·simp[Instr.mapUpdate,run_underlying hds,Go.MapKept.run_getObj_map g3,f1,hrun,Go.MapKept.run_setObj_map _ g3,Result.andThen]
   ·unfold putK;rw[kG hx,jT,jT,g4];rfl
   have hidx:ks.idxOf k=ks.length:=Nat.le_antisymm List.idxOf_le_length (by omega)
   rw[zmv,kG hx]at hj
   by_cases ej:j=ks.length
   ·exact⟨_,by rw[jK (by omega),ej,hlen,kE];rfl,.inl ⟨by omega,rfl⟩⟩
   obtain⟨e0,h0,-⟩:=g6 j (by omega)
   exact⟨e0,by rw[jJ (by omega)];exact h0,.inr ⟨by omega,by omega,e0,h0,rfl⟩⟩
  exact hl.elim
 exact hl.elim
end
end
section
variable {P:Program}{T:TT}{E:Env}{cx:Cx}{γ:Nat->Value}{s:St}{a:Act}{w:World}
theorem za3(s:St)(ob':Nat->Option Ob)(v:AV):AVle s ob' v v:=by
 cases v with
 |d x=>exact D.eqv_refl x
 |agg xs=>exact zaa xs
 |box i o=>exact⟨rfl,rfl⟩
 |own i=>exact rfl
 |elt i k n c=>exact⟨rfl,rfl,rfl,rfl⟩
 |sub i k lo n=>exact⟨rfl,rfl,rfl,rfl⟩
 |pre i n=>exact rfl
 |clo f l=>
  refine⟨rfl,?_⟩
  induction l with
  |nil=>exact trivial
  |cons c l ih=>exact⟨by cases c with|own i=>exact rfl|dat x=>exact D.eqv_refl x,ih⟩
 |pin i v=>exact⟨rfl,rfl⟩
 |pbox i v=>exact⟨rfl,rfl⟩
 |gho m=>exact rfl
 |yl l=>exact rfl
 |any=>exact trivial
 |nilsl=>exact trivial
 |tup l=>exact rfl
 |tupo i l=>exact rfl
 |tupr i l=>exact rfl
 |aggc l=>exact rfl
 |bsl i n c=>exact rfl
 |roe m h=>exact⟨rfl,fun j _=>D.eqv_refl _⟩
 |undef=>exact rfl
theorem zfl(s:St)(ob':Nat->Option Ob)(i:Nat)(v:AV):AVle s ob' v (v.purge i):=by
 unfold AV.purge
 cases v.hasRef i with
 |true=>cases v<;>exact trivial
 |false=>exact za3 s ob' v
def FzOK(s:St)(i:Nat):Fz->Prop
 | .row x=>(∃e k n f,s.ob i=some (.row e k n f)/\x= .slc k n f)\/∃m ks f,s.ob i=some (.mp m ks f)/\x= .mp m ks f
 | .box xs=>∃cs,s.ob i=some (.box cs)/\allD cs=some xs
theorem zg2{i:Nat}{xs:List D}{ob':Nat->Option Ob}(hz:FzOK s i (.box xs))(h0:ob' i=none):∀l:List Cap,capsle s ob' l (l.map (fzCap i xs))
 | []=>trivial
 |c::l=>by
  refine⟨?_,zg2 hz h0 l⟩
  cases c with
  |dat x=>exact D.eqv_refl x
  |own j=>
  simp only[fzCap]
  cases hb:Nat.beq j i with
  |false=>exact rfl
  |true=>
  have:=jA hb
  subst this
  obtain⟨cs,h1,h2⟩:=hz
  exact⟨h0,cs,xs,h1,h2,D.eqv_refl _⟩
theorem zut{i:Nat}{z:Fz}{ob':Nat->Option Ob}(hz:FzOK s i z)(h0:ob' i=none)(v:AV):AVle s ob' v (fz i z v):=by
 cases z with
 |row x=>
  unfold fz
  cases v with
  |own j=>
   simp only
   cases hb:Nat.beq j i with
   |true=>
    have:=jA hb
    subst this
    rcases hz with⟨e,k,n,f,hi,rfl⟩|⟨m,ks,f,hi,rfl⟩
    ·exact⟨h0,e,k,n,f,hi,D.eqv_refl _⟩
    ·exact⟨h0,m,ks,f,hi,D.eqv_refl _⟩
   |false=>exact rfl
  | _=>exact zfl s ob' i _
 |box xs=>
 unfold fz
 cases v with
 |box j o=>
  simp only
  cases hb:Nat.beq j i with
  |true=>
   have:=jA hb
   subst this
   obtain⟨cs,h1,h2⟩:=hz
   exact⟨h0,cs,xs,h1,h2,D.eqv_refl _⟩
  |false=>exact⟨rfl,rfl⟩
 |clo f l=>exact⟨rfl,zg2 hz h0 l⟩
 | _=>exact zfl s ob' i _
theorem zbo{i:Nat}{xs:List D}{j:Nat}:∀{l:List Cap},j∈capRefs (l.map (fzCap i xs))->j∈capRefs l/\j≠i
 | [],h=>by simp[capRefs]at h
 |c::l,h=>by
  cases c with
  |dat x=>simpa [capRefs]using zbo (l:=l) (by simpa [fzCap,capRefs]using h)
  |own m=>
  simp only[kY,fzCap]at h
  cases hb:Nat.beq m i with
  |true=>
   rw[hb]at h
   have:=zbo (l:=l) (by simpa [capRefs]using h)
   exact⟨by simp[capRefs,this.1],this.2⟩
  |false=>
  rw[hb]at h
  simp only[cond_false,capRefs,qC]at h⊢
  rcases h with rfl|h
  ·exact⟨.inl rfl,fun e=>by subst e;rw[zay]at hb;cases hb⟩
  exact⟨.inr (zbo h).1,(zbo h).2⟩
theorem zmH{i:Nat}{z:Fz}{v:AV}{j:Nat}(hj:j∈(fz i z v).refs):j∈v.refs/\j≠i:=by
 cases z with
 |row x=>
  unfold fz at hj
  cases v with
  |own m=>
   simp only at hj
   cases hb:Nat.beq m i with
   |true=>rw[hb]at hj;simp[AV.refs]at hj
   |false=>
    rw[hb]at hj
    simp only[cond_false,AV.refs,kI]at hj
    subst hj
    exact⟨by simp[AV.refs],fun e=>by subst e;rw[zay]at hb;cases hb⟩
  | _=>exact zaU hj
 |box xs=>
 unfold fz at hj
 cases v with
 |box m o=>
  simp only at hj
  cases hb:Nat.beq m i with
  |true=>rw[hb]at hj;simp[AV.refs]at hj
  |false=>
   rw[hb]at hj
   simp only[cond_false,AV.refs,kI]at hj
   subst hj
   exact⟨by simp[AV.refs],fun e=>by subst e;rw[zay]at hb;cases hb⟩
 |clo f l=>exact zbo hj
 | _=>exact zaU hj
theorem RG.fzAll(h:RG cx γ s a w){i:Nat}{z:Fz}(hz:FzOK s i z):R cx (fzAll s i z) a w:=by
 have hob:∀j,upd (fun j=>(s.ob j).map (fzO i z)) i none j=if j=i then none else(s.ob j).map (fzO i z):=fun j=>zat _ _ _ _
 have h0:upd (fun j=>(s.ob j).map (fzO i z)) i none i=none:=by rw[hob,kH rfl]
 have hsome:∀j,j≠i->(s.ob j).isSome=true->(upd (fun j=>(s.ob j).map (fzO i z)) i none j).isSome=true:=fun j hj hs=>by rw[hob,kG hj];simpa using hs
 refine h.weak (s':=Go.Pg.fzAll s i z) (fun t=>zut hz h0 _) (fun j o' hj=>?_) (fun t j hj=>?_) (fun j cs hj c hc m hm=>?_)
 ·have hj':upd (fun j=>(s.ob j).map (fzO i z)) i none j=some o':=hj
  rw[hob]at hj'
  split at hj'
  ·cases hj'
  cases hs':s.ob j with
  |none=>rw[hs']at hj';cases hj'
  |some q=>
  rw[hs']at hj';cases hj'
  cases q with
  |row e' k' n' f'=>exact⟨rfl,D.eqv_refl _,rfl⟩
  |mp m ks f=>exact D.eqv_refl _
  |box cs=>
  show avles s _ cs (cs.map (fz i z))
  clear hs' hj
  induction cs with
  |nil=>exact trivial
  |cons c cs ih=>exact⟨zut hz h0 c,ih⟩
 ·have hj':=zmH (show j∈(fz i z (s.sl t)).refs from hj)
  exact hsome j hj'.2 (h.srefs t j hj'.1)
 have hj':upd (fun j=>(s.ob j).map (fzO i z)) i none j=some (.box cs):=hj
 rw[hob]at hj'
 split at hj'
 ·cases hj'
 cases hs':s.ob j with
 |none=>rw[hs']at hj';cases hj'
 |some q=>
 rw[hs']at hj'
 cases q with
 |row e' k' n' f'=>cases hj'
 |mp m ks f=>cases hj'
 |box cs'=>
 simp only[qL,fzO,jO,Ob.box.injEq]at hj'
 subst hj'
 obtain⟨c',hc',rfl⟩:=kJ.1 hc
 have hm':=zmH hm
 exact hsome m hm'.2 (h.refs j cs' hs' c' hc' m hm'.1)
theorem RG.freeze(h:RG cx γ s a w)(i:Nat):R cx (s.freeze i) a w:=by
 unfold St.freeze
 cases hi:s.ob i with
 |none=>exact⟨γ,h⟩
 |some o=>
 cases o with
 |mp m ks f=>exact h.fzAll (z:=.row _) (.inr ⟨m,ks,f,hi,rfl⟩)
 |row e k n f=>exact h.fzAll (z:=.row _) (.inl ⟨e,k,n,f,hi,rfl⟩)
 |box cs=>
 simp only
 cases hx:allD cs with
 |none=>exact⟨γ,h⟩
 |some xs=>exact h.fzAll (z:=.box xs) ⟨cs,hi,hx⟩
theorem R.freezes:∀(ids:List Nat) {s:St},R cx s a w->R cx (s.freezes ids) a w
 | [],_,h=>h
 |i::r,_,⟨_,h⟩=>R.freezes r (h.freeze i)
theorem zfg(s:St)(ob':Nat->Option Ob):∀cs:List AV,avles s ob' cs cs
 | []=>trivial
 |c::r=>⟨za3 s ob' c,zfg s ob' r⟩
theorem zhq(s:St)(ob':Nat->Option Ob):∀o:Ob,Oble s ob' (some o) o
 | .box cs=>zfg s ob' cs
 | .row _ _ _ _=>⟨rfl,D.eqv_refl _,rfl⟩
 | .mp _ _ _=>D.eqv_refl _
theorem zuv{i d e k n:Nat}{f:Nat->Nat->D}(h0:R cx (remk s i (.row e k n f) (some d)) a w):R cx (frzR s i d e k n f) a w:=by
 obtain⟨γ,h⟩:=h0
 have o1:∀j,j≠i->(remk s i (.row e k n f) (some d)).ob j=(s.drop i).ob j:=fun j hj=>zai _ _ hj
 have oi:(remk s i (.row e k n f) (some d)).ob i=some (.row e k n f):=zac _ _ _
 have di:(s.drop i).ob i=none:=zac (fun j=>(s.ob j).map (Ob.purge i)) i none
 have s1:∀t,t≠d->(remk s i (.row e k n f) (some d)).sl t=(s.sl t).purge i:=fun t ht=>zai _ _ ht
 have sd:(remk s i (.row e k n f) (some d)).sl d= .own i:=zac _ _ _
 have t1:∀t,t≠d->((s.drop i).put d (.d (.slc k n f))).sl t=(s.sl t).purge i:=fun t ht=>zai _ _ ht
 have td:((s.drop i).put d (.d (.slc k n f))).sl d= .d (.slc k n f):=zac _ _ _
 have cel:∀j cs,(s.drop i).ob j=some (.box cs)->∀c∈cs,∀q∈c.refs,q≠i:=fun j cs hj c hc q hq=>by
  have hji:j≠i:=fun e=>by rw[e,di]at hj;cases hj
  have hj:upd (fun j=>(s.ob j).map (Ob.purge i)) i none j=some (.box cs):=hj
  rw[zai _ _ hji]at hj
  obtain⟨o,ho,e1⟩:=Option.map_eq_some_iff.1 hj
  cases o with
  |box ds=>
   have e1:ds.map (AV.purge i)=cs:=Ob.box.inj e1
   rw[<- e1]at hc
   obtain⟨c0,_,rfl⟩:=kJ.1 hc
   exact(zaU hq).2
  |row _ _ _ _=>cases e1
  |mp _ _ _=>cases e1
 obtain⟨γ1,h1⟩:=h.weak (s':=(s.drop i).put d (.d (.slc k n f))) (fun t=>by
  by_cases ht:t=d
  ·subst ht
   rw[sd,td]
   exact⟨di,e,k,n,f,oi,D.eqv_refl _⟩
  ·rw[s1 t ht,t1 t ht];exact za3 _ _ _) (fun j o' hj=>by
  have hj:(s.drop i).ob j=some o':=hj
  have hji:j≠i:=fun e=>by rw[e,di]at hj;cases hj
  rw[o1 j hji,hj]
  exact zhq _ _ _) (fun t j hj=>by
  by_cases ht:t=d
  ·subst ht;rw[td]at hj;cases hj
  ·rw[t1 t ht]at hj
   have hr:=h.srefs t j (by rw[s1 t ht];exact hj)
   rw[o1 j (zaU hj).2]at hr
   exact hr) (fun j cs hj c hc q hq=>by
  have hj:(s.drop i).ob j=some (.box cs):=hj
  have hji:j≠i:=fun e=>by rw[e,di]at hj;cases hj
  have hr:=h.refs j cs (by rw[o1 j hji];exact hj) c hc q hq
  rw[o1 q (cel j cs hj c hc q hq)]at hr
  exact hr)
 have p1:∀j,j≠i->(frzR s i d e k n f).ob j=(s.drop i).ob j:=fun j hj=>zai _ _ hj
 have pi:(frzR s i d e k n f).ob i=some (.row e k 0 fun _ _=>dflt):=zac _ _ _
 have some_:∀j,((s.drop i).ob j).isSome=true->((frzR s i d e k n f).ob j).isSome=true:=fun j hj=>by
  by_cases e1:j=i
  ·rw[e1,pi];rfl
  rw[p1 j e1];exact hj
 exact h1.weak (s':=frzR s i d e k n f) (fun t=>za3 _ _ _) (fun j o' hj=>by
  by_cases e1:j=i
  ·subst e1
   rw[pi]at hj
   cases hj
   show Oble _ _ ((s.drop j).ob j) _
   rw[di]
   exact rfl
  ·rw[p1 j e1]at hj
   show Oble _ _ ((s.drop i).ob j) _
   rw[hj]
   exact zhq _ _ _) (fun t j hj=>some_ j (h1.srefs t j hj)) (fun j cs hj c hc q hq=>by
  have e1:j≠i:=fun e1=>by rw[e1,pi]at hj;cases hj
  rw[p1 j e1]at hj
  exact some_ q (h1.refs j cs hj c hc q hq))
theorem zgj{base e k n:Nat}{v:Value}{xs:List Value}(h:w.ownsRow base e k v n xs):∀b,blk v=some b->base<=b:=by
 rcases h.2 with⟨rfl,_⟩|⟨g,cap,cur,rfl,h1,_⟩
 ·intro b hb;simp[blk]at hb
 intro b hb;simp[blk]at hb;omega
theorem zbV{base base' e k n:Nat}{v:Value}{xs:List Value}(h:w.ownsRow base e k v n xs)(hb:base'<=base):w.ownsRow base' e k v n xs:=by
 refine⟨h.1,?_⟩
 rcases h.2 with h1|⟨g,cap,cur,h2,h3,h4⟩
 ·exact .inl h1
 exact .inr ⟨g,cap,cur,h2,by omega,h4⟩
theorem zi6(h:RG cx γ s a w){o:Oper}{d:Nat}(ho:o.dst=some d){f:FuncId}{avs:List AV}{vs:List Value}{dr:Bool}(hD:cx.dr=true->dr=true)(hvs:All2 (M w (okOf cx s γ w) γ) avs vs){K:Ob->Option (List V1)->Prop}(hd:d<cx.N)(hc:CallOwn dr P s f avs K):
  Ent P f/\Calls P f vs.toArray w fun e w''=>∃v,e= .returned v/\∃ob r,R cx (mk s d ob (ownAV d r)) (a.put o.dst v) w''/\K ob r:=by
 simp only[zar]at hc
 obtain⟨xs,e,k,n,g,r,h1,hx,h3,hK⟩:=hc
 obtain⟨h4,h5⟩:=zbw h h1 hvs
 cases r with
 |none=>
  obtain⟨hent,h2⟩:=hx
  refine⟨hent,(h2 w _ _ (fun b hb=>hb) h4).mono fun en w' ⟨v,he,hb,ys,hown,hone,hrep⟩=>⟨v,he,.row e k n g,none,⟨upd γ d v,?_⟩,hK⟩⟩
  rw[ho]
  refine zgO h hd hb.1 (fun e=>hb.2 (hD e)) (zgj hown) (fun ok' hok'=>⟨ys,by rw[zac];exact zbV hown (jF _),fun b hb=>by rw[zac]at hb;exact .inl (jM h.below.size (zgj hown b hb)),hone,fun m hm j hj=>?_⟩) (fun cs e=>by cases e) (fun _=>by show v=upd γ d v d;simp) (fun j hj=>by simpa [ownAV,AV.refs]using hj)
  obtain⟨u,hu,hr⟩:=hrep m hm j hj
  exact⟨u,hu,Rep.flat (h3 m j hm hj) hr⟩
 |some res=>
 obtain⟨hent,h2⟩:=hx
 refine⟨hent,(h2 w _ _ (fun b hb=>hb) h4).mono fun en w' ⟨v,us,he,hb,⟨ys,hown,hone,hrep⟩,hus⟩=>⟨_,he,.row e k n g,some res,⟨upd γ d v,?_⟩,hK⟩⟩
 rw[ho]
 refine zgO h hd hb.1 (fun e=>hb.2 (hD e)) (zgj hown) (fun ok' hok'=>⟨ys,by rw[zac];exact zbV hown (jF _),fun b hb=>by rw[zac]at hb;exact .inl (jM h.below.size (zgj hown b hb)),hone,fun m hm j hj=>?_⟩) (fun cs e=>by cases e) (fun ok'=>⟨us,by rw[zac],hus ok'⟩) (fun j hj=>by simpa [ownAV,AV.refs]using hj)
 obtain⟨u,hu,hr⟩:=hrep m hm j hj
 exact⟨u,hu,Rep.flat (h3 m j hm hj) hr⟩
theorem zjl{v:Value}(h:isNil v=true):v= .slice none 0 0:=by
 cases v with
 |slice ad l c=>
  cases ad with
  |none=>
   simp only[isNil,jP]at h
   rw[jA h.1,jA h.2]
  |some ad=>simp[isNil]at h
 | _=>simp[isNil]at h
theorem zc2(h:RG cx γ s a w){i:Nat}{o o':Ob}{v:Value}{w':World}{t:Option Nat}(hi:s.ob i=some o)(ht:∀d,t=some d->d<cx.N)(hg:w.grownBy w' (blk (γ i)))(hdr:cx.dr=true->w.drawn<=w'.drawn)(hv:∀b,blk v=some b->blk (γ i)=some b\/w.heap.size<=b)
  (ho:∀ok:Nat->Prop,(∀b,okOf cx s γ w b->ok b/\w'.heap[b]?=w.heap[b]?)->Holds w' cx.O ok (upd γ i v) i o')(hr:∀cs,o'= .box cs->∀c∈cs,c.refs=[]):
  R cx (remk s i o' t) (a.put t v) w':=by
 refine⟨upd γ i v,(h.renew (i:=i) (o':=o') (v:=v) (row:=blk (γ i)) hg hdr (fun b hb=>⟨o,hi,hb⟩) hv ho hr).putO ht ?_ fun j hj=>?_⟩
 ·show v=upd γ i v i;simp
 have:j=i:=by simpa [AV.refs]using hj
 subst this
 show(upd (s.drop j).ob j (some o') j).isSome=true
 simp
variable (hT:∀t i,T t=some i->TI.of P t=some i)(hE:∀t,E.eq t=true->EqFact P t)
include hT
theorem za6{t:Nat}{e:Nat}{size bytes:Nat}{ag:Bool}{zero:List Value}(ht:T t=some ⟨size,ag,bytes,zero,.slice e⟩):P.underlying t=some (.slice e):=by
 obtain⟨info,d,z,_,hd,_,_,_,_,_,hk⟩:=zah (hT t _ ht)
 have hds:=TK.of_slice hk
 subst hds
 exact hd
theorem zkx(h:RG cx γ s a w){o:Oper}{x y:Operand}{t:TypeId}(hop:o.op= .call { callee:=.builtin .append,args:=#[x,y],argTypes:=#[t,t] })(hd:∀d,o.dst=some d->d<cx.N){K:St->Prop}{fr:Bool}(hl:appendE fr T s o.dst t (ev s x) (ev s y) K):
  OpOK P o a w fun a' w'=>∃s',R cx s' a' w'/\K s':=by
 unfold appendE at hl
 cases ht:T t with
 |none=>simp[ht]at hl
 |some ti=>
 obtain⟨size,ag,bytes,zero,kind⟩:=ti
 cases kind with
 |slice e=>
  cases hdst:o.dst with
  |none=>simp[ht,hdst]at hl
  |some d=>
   simp only[ht,hdst]at hl
   cases he:T e with
   |none=>simp[he]at hl
   |some ei=>
    simp only[he]at hl
    have hund:=za6 hT ht
    have hx:=ev_m h x
    have hy:=ev_m h y
    have run:∀{v':Value}{w':World},(Builtin.append_ #[t,t] o.type #[a.eval x,a.eval y]).run P w= .ok v' w'->(execOp a.eval o).run P w= .ok (.value v') w':=fun hr=>by
     simp[execOp,hop,resolve,invoke,builtin,hr]
    have fromNil:a.eval x= .slice none 0 0->srcE s (ev s y) (fun k m g=>bif Nat.ble 1 ei.size&&Nat.beq ei.zero.length ei.size then((m=0\/k=ei.size)/\m<=maxLen/\m*ei.bytes<=140737488355328)/\K (mk s d (.row e ei.size m g) (.own d))else False)->
      OpOK P o a w fun a' w'=>∃s',R cx s' a' w'/\K s':=fun hxv hl=>by
     cases hb:(Nat.ble 1 ei.size&&Nat.beq ei.zero.length ei.size)with
     |false=>
      exfalso
      obtain⟨k,m,g,hh,_⟩:=zbg (size:=1) h (by omega) hy.1 hl
      simp[hb]at hh
     |true=>
     have hb':=hb
     simp only[jP]at hb
     have h3:=jD hb.1
     have h4:=jA hb.2
     obtain⟨k,m,g,hh,hsrc⟩:=zbg (size:=ei.size) h (by omega) hy.1 hl
     simp only[hb',kT]at hh
     obtain⟨⟨hk,hlen,hby⟩,hK⟩:=hh
     obtain⟨v',w',ys,r1,r2,r3,r4,r5,r6⟩:=zdh (f:=fun _ _=>dflt) (ty:=o.type) (ok:=okOf cx s γ w) hund (hT _ _ he) (by omega) h4 (World.ownsRow_nil w w.heap.size e ei.size) (by simp) (fun i hi=>by omega) (hsrc hk) (by omega) (by simpa using hby) (jE _)
     refine .value (run (by rw[hxv];exact r1)) ⟨_,⟨upd γ d v',?_⟩,hK⟩
     rw[hdst]
     have hbel:Below w.heap.size w w':=⟨r3.os,r3.tape,r3.output,r3.size,fun k hk=>r3.block k hk (by simp[blk])⟩
     refine zgO h (hd d hdst) hbel (fun _=>zbc _ r1) (fun b hb=>?_) (fun ok hok=>⟨ys,by rw[zac];exact zbV (by simpa using r2) (jF _),(fun b hb=>by
      rw[zac]at hb
      rcases r4 with r4|r4
      ·rw[r4]at hb;simp[blk]at hb
      rw[r4]at hb;cases hb;exact .inl h.below.size),r5,fun p hp q hq=>?_⟩) (fun cs e=>by cases e) (fun _=>by show v'=upd γ d v' d;simp) (fun j hj=>by simpa [AV.refs]using hj)
     ·rcases r4 with r4|r4
      ·rw[r4]at hb;simp[blk]at hb
      rw[r4]at hb;cases hb;exact jE _
     obtain⟨u,hu,hr⟩:=r6 ok hok p (by omega) q hq
     refine⟨u,hu,?_⟩
     have:appRow 0 (fun _ _=>dflt) g p q=g p q:=by simp[appRow]
     rwa [this]at hr
    cases hax:ev s x with
    |own i=>
     rw[hax]at hx
     have hxv:a.eval x=γ i:=hx.1
     simp only[hax]at hl
     have key:∀(hsz:0<ei.size),∃k m g,_/\_:=fun hsz=>zbg (size:=ei.size) h hsz hy.1 hl
     cases hsz:Nat.ble 1 ei.size with
     |false=>
      exfalso
      have:∃k m g,(match s.ob i with|some (.row e' k' n f)=>bif Nat.beq e e'&&Nat.beq k' ei.size&&Nat.ble 1 ei.size&&Nat.beq ei.zero.length ei.size then((m=0\/k=ei.size)/\n+m<=maxLen/\(n+m)*ei.bytes<=140737488355328)/\K (match fr with|true=>frzR s i d e k' (n+m) (appRow n f g)|false=>remk s i (.row e k' (n+m) (appRow n f g)) (some d))else False| _=>False:Prop):=by
       obtain⟨k,m,g,hh,_⟩:=zbg (size:=1) h (by omega) hy.1 hl
       exact⟨k,m,g,hh⟩
      obtain⟨k,m,g,hh⟩:=this
      cases ho:s.ob i with
      |none=>simp[ho]at hh
      |some ob=>cases ob<;>simp[ho,hsz]at hh
     |true=>
      obtain⟨k,m,g,hh,hsrc⟩:=key (by have:=jD hsz;omega)
      cases ho:s.ob i with
      |none=>simp[ho]at hh
      |some ob=>
       cases ob with
       |box cs=>simp[ho]at hh
       |mp m ks f=>simp[ho]at hh
       |row e' k' n f=>
        simp only[ho]at hh
        cases hb:(Nat.beq e e'&&Nat.beq k' ei.size&&Nat.ble 1 ei.size&&Nat.beq ei.zero.length ei.size)with
        |false=>simp[hb]at hh
        |true=>
         simp only[hb,kT]at hh
         simp only[jP]at hb
         have h1:=jA hb.1.1.1
         have h2:=jA hb.1.1.2
         have h3:=jD hb.1.2
         have h4:=jA hb.2
         subst h1;subst h2
         obtain⟨⟨hk,hlen,hby⟩,hK⟩:=hh
         obtain⟨xs,hown,hO,hone,hrep⟩:=h.objs i _ ho
         obtain⟨v',w',ys,r1,r2,r3,r4,r5,r6⟩:=zdh (ty:=o.type) hund (hT _ _ he) (by omega) h4 hown hone hrep (hsrc hk) hlen hby (jF _)
         have hR:R cx (remk s i (.row e ei.size (n+m) (appRow n f g)) (some d)) (a.put (some d) v') w':=by
          refine zc2 (o':=.row e ei.size (n+m) (appRow n f g)) (v:=v') h ho (t:=some d) (fun d' hd'=>hd d' (by rw[hdst,<- hd'])) r3 (fun _=>zbc _ r1) (fun b hb=>?_) (fun ok hok=>⟨ys,by rw[zac];exact r2,fun b hb=>by rw[zac]at hb;rcases r4 with r4|r4;exact hO b (by rw[<- r4];exact hb);rw[r4]at hb;cases hb;exact .inl h.below.size,r5,r6 ok hok⟩) (fun cs e=>by cases e)
          rcases r4 with r4|r4
          ·exact .inl (by rw[<- r4];exact hb)
          rw[r4]at hb;cases hb;exact .inr (jE _)
         rw[<- hdst]at hR
         cases fr with
         |false=>exact .value (run (by rw[hxv];exact r1)) ⟨_,hR,by rw[hdst];exact hK⟩
         |true=>exact .value (run (by rw[hxv];exact r1)) ⟨_,zuv (by rw[hdst]at hR⊢;exact hR),hK⟩
    |nilsl=>
     rw[hax]at hx
     simp only[hax]at hl
     exact fromNil hx.1 hl
    |d p=>
     cases p with
     |nil=>
      rw[hax]at hx
      simp only[hax]at hl
      exact fromNil hx.1 hl
     | _=>
      exfalso
      simp only[hax]at hl
      obtain⟨k,m,g,hh,_⟩:=zbg (size:=1) h (by omega) hy.1 hl
      exact hh
    | _=>
     exfalso
     simp only[hax]at hl
     obtain⟨k,m,g,hh,_⟩:=zbg (size:=1) h (by omega) hy.1 hl
     exact hh
 | _=>simp[ht]at hl
theorem zsl(h:RG cx γ s a w){o:Oper}{x y:Operand}{t:TypeId}(hop:o.op= .call { callee:=.builtin .append,args:=#[x,y],argTypes:=#[t,t] })(hd:∀d,o.dst=some d->d<cx.N){K:St->Prop}{i m i' k' lo n':Nat}(hex:ev s x= .pre i m)(hey:ev s y= .sub i' k' lo n')(hl:delE T s o.dst t i m i' k' lo n' K):
  OpOK P o a w fun a' w'=>∃s',R cx s' a' w'/\K s':=by
 unfold delE at hl
 cases ht:T t with
 |none=>simp[ht]at hl
 |some ti=>
 obtain⟨size,ag,bytes,zero,kind⟩:=ti
 cases kind with
 |slice e=>
  cases hdst:o.dst with
  |none=>simp[ht,hdst]at hl
  |some d=>
   simp only[ht,hdst]at hl
   cases he:T e with
   |none=>simp[he]at hl
   |some ei=>
    cases ho:s.ob i with
    |none=>simp[he,ho]at hl
    |some ob=>
     cases ob with
     |box cs=>simp[he,ho]at hl
     |mp m ks f=>simp[he,ho]at hl
     |row e' k N f=>
      simp only[he,ho]at hl
      cases hb:(Nat.beq e e'&&Nat.beq k ei.size&&Nat.beq k' k&&Nat.beq i i'&&Nat.ble 1 ei.size&&Nat.beq ei.zero.length ei.size)with
      |false=>simp[hb]at hl
      |true=>
       simp only[hb,kT]at hl
       simp only[jP]at hb
       have q1:=jA hb.1.1.1.1.1
       have q2:=jA hb.1.1.1.1.2
       have q3:=jA hb.1.1.1.2
       have q4:=jA hb.1.1.2
       have q5:=jD hb.1.2
       have q6:=jA hb.2
       subst q1;subst q2;subst q3;subst q4
       obtain⟨⟨⟨hm1,hm2⟩,hlen,hby⟩,hK⟩:=hl
       have hund:=za6 hT ht
       have hx:=(ev_m h x).1
       have hy:=(ev_m h y).1
       rw[hex]at hx
       rw[hey]at hy
       obtain⟨g,len,cap,hg,hxv⟩:=hx
       obtain⟨xs,hown,hO,hone,hrep⟩:=h.objs i _ ho
       have run:∀{v':Value}{w':World},(Builtin.append_ #[t,t] o.type #[a.eval x,a.eval y]).run P w= .ok v' w'->(execOp a.eval o).run P w= .ok (.value v') w':=fun hr=>by
        simp[execOp,hop,resolve,invoke,builtin,hr]
       have hxl:=hown.1
       have hmN:m*ei.size<=N*ei.size:=jW _ (by omega)
       have cell:=hown.cells (g:=g) (by rw[hg];rfl)
       rcases hown.2 with⟨c1,_⟩|⟨g',cap',cur,c1,c2,c3,c4,c5,c6,c7⟩
       ·rw[hg]at c1;cases c1
       rw[hg]at c1
       have eg:g=g':=by injection c1 with c1;injection c1 with c1;injection c1
       have ec:cap=cap':=by injection c1
       subst eg;subst ec
       have hownP:w.ownsRow 0 e ei.size (a.eval x) m (xs.take (m*ei.size)):=by
        rw[hxv]
        refine⟨by rw[jQ,hxl];omega,.inr ⟨g,cap,cur,rfl,c2,c3,by omega,c5,c6,?_⟩⟩
        rw[<- c7,List.take_take]
        congr 1;omega
       have hsrc:Src w (okOf cx s γ w) ei.size n' (fun q=>f (lo+q)) (a.eval y):=by
        rcases hy with⟨h0,ad,c,hyv⟩|⟨g2,len2,cap2,cap3,h1,hyv⟩
        ·rw[hyv]
         cases ad with
         |none=>exact .inl ⟨c,rfl,h0⟩
         |some ad=>exact .inr ⟨ad,c,[],by rw[h0],by rw[h0];simp,by simp,by simp,fun q hq=>by omega⟩
        rw[hg]at h1
        have eg:g=g2:=by injection h1 with h1;injection h1 with h1;injection h1
        subst eg
        refine .inr ⟨_,_,xs.drop (lo*ei.size),hyv,?_,fun j u hj=>?_,fun u hu=>hone u (ja7 hu),fun q hq j hj=>?_⟩
        ·rw[jag,hxl,<- hm2,qG];omega
        ·rw[wC]at hj
         have:=cell _ u hj
         rw[<- this]
         simp[Addr.add]
         by_cases z:j=0<;>by_cases z2:lo*ei.size=0<;>simp_all
        obtain⟨u,hu,hr⟩:=hrep (lo+q) (by omega) j hj
        refine⟨u,?_,hr⟩
        rw[wC,<- hu]
        congr 1
        rw[qG,jaz]
       have hfP:∀q,q<m->∀j,j<ei.size->∃u,(xs.take (m*ei.size))[q*ei.size+j]?=some u/\Rep w (okOf cx s γ w) (f q j) u:=fun q hq j hj=>by
        obtain⟨u,hu,hr⟩:=hrep q (by omega) j hj
        refine⟨u,?_,hr⟩
        have:(q+1)*ei.size<=m*ei.size:=jW _ hq
        rw[qG]at this
        rw[jS,kH (by omega)];exact hu
       obtain⟨v',w',ys,r1,r2,r3,r4,r5,r6⟩:=zdh (ty:=o.type) hund (hT _ _ he) (by omega) q6 hownP (fun u hu=>hone u (qY hu)) hfP hsrc hlen hby (jF _)
       have hblk:blk (a.eval x)=blk (γ i):=by rw[hxv,hg];rfl
       rw[hblk]at r3 r4
       refine .value (run r1) ⟨_,zc2 (o':=.row e ei.size (m+n') (cutRow f m lo)) (v:=v') h ho (t:=o.dst) (by rw[hdst];exact fun d' hd'=>hd d' (by rw[hdst,<- hd'])) r3 (fun _=>zbc _ r1) (fun b hb=>?_) (fun ok hok=>⟨ys,by rw[zac];exact r2,fun b hb=>by rw[zac]at hb;rcases r4 with r4|r4;exact hO b (by rw[<- r4];exact hb);rw[r4]at hb;cases hb;exact .inl h.below.size,r5,r6 ok hok⟩) (fun cs e=>by cases e),by rw[hdst];exact hK⟩
       rcases r4 with r4|r4
       ·exact .inl (by rw[<- r4];exact hb)
       ·rw[r4]at hb;cases hb;exact .inr (jE _)
 | _=>simp[ht]at hl
theorem zsJ(h:RG cx γ s a w){o:Oper}{x y:Operand}{t:TypeId}(hop:o.op= .call { callee:=.builtin .append,args:=#[x,y],argTypes:=#[t,t] })(hd:∀d,o.dst=some d->d<cx.N){K:St->Prop}{fr:Bool}(hl:appE fr T s o.dst t (ev s x) (ev s y) K):
  OpOK P o a w fun a' w'=>∃s',R cx s' a' w'/\K s':=by
 rcases appE_cases (ev s x) (ev s y)with⟨i,m,i',k',lo,n',q1,q2⟩|q
 ·rw[q1,q2]at hl
  exact zsl hT h hop hd q1 q2 hl
 rw[q]at hl
 exact zkx hT h hop hd hl
theorem zaO(h:RG cx γ s a w){t len:Nat}{parts:Array (Nat×Operand)}{K:Nat->TI->(Nat->Nat->D)->Prop}(hl:buildSliceE T s t len parts.toList K):
  ∃(e:Nat) (ei:TI) (f:Nat->Nat->D) (xs:List Value),K e ei f/\(Instr.buildSlice t len (parts.map fun (i,x)=>(i,a.eval x))).run P w= .ok (.slice (some ⟨w.heap.size,0,none⟩) len len) (w.alloc (.cells xs.toArray e))/\xs.length=len*ei.size/\0<ei.size/\len<=16777216/\
   (∀u∈xs,u.oneCell'=true)/\∀m,m<len->∀j,j<ei.size->∃u,xs[m*ei.size+j]?=some u/\Rep w (okOf cx s γ w) (f m j) u:=by
 unfold buildSliceE at hl
 cases ht:T t with
 |none=>simp[ht]at hl
 |some ti=>
 obtain⟨size,ag,bytes,zero,kind⟩:=ti
 cases kind with
 |slice e=>
  simp only[ht]at hl
  cases he:T e with
  |none=>simp[he]at hl
  |some ei=>
   simp only[he]at hl
   cases hz:cds ei.zero with
   |none=>simp[hz]at hl
   |some zs=>
    simp only[hz]at hl
    cases hf:fillE (placesA ei) s parts.toList (repD len zs)with
    |none=>simp[hf]at hl
    |some l=>
     simp only[hf]at hl
     cases hb:(Nat.ble 1 ei.size&&Nat.beq ei.zero.length ei.size&&Nat.ble (len*ei.size) 16777216)with
     |false=>simp[hb]at hl
     |true=>
      simp only[hb,kT]at hl
      simp only[jP]at hb
      have h1:=jD hb.1.1
      have h2:=jA hb.1.2
      have hcap:=jD hb.2
      have hK:=hl
      have hund:=za6 hT ht
      obtain⟨info,d,z,hi,hd,hzz,hs1,_,_,hzc,_⟩:=zah (hT e _ he)
      have hzr:All2 (Rep w (okOf cx s γ w)) zs z.cells.toList:=by rw[hzc];exact zbQ hz
      have hzl:zs.length=ei.size:=by rw[hzr.length,hzc,h2]
      obtain⟨m,hm1,hm2⟩:=zbM h hf (znY hzr (by omega) len)
      have hll:l.length=len*ei.size:=by
       have:∀{ps:List (Nat×Operand)}{ds l:List D},fillE (placesA ei) s ps ds=some l->l.length=ds.length:=by
        intro ps
        induction ps with
        |nil=>intro ds l h;simp[fillE]at h;rw[h]
        |cons p ps ih=>
        intro ds l h
        obtain⟨i,x⟩:=p
        simp only[fillE,placesA]at h
        cases hc:cellsD (ev s x)with
        |none=>simp[hc]at h
        |some ys=>
        simp only[hc]at h
        cases hb:(Nat.beq ys.length ei.size&&Nat.ble (i*ei.size+ei.size) ds.length)with
        |false=>simp[hb]at h
        |true=>
        simp only[hb,kT]at h
        cases hr:setRange ds (i*ei.size) ys with
        |none=>simp[hr]at h
        |some ds'=>simp only[hr]at h;rw[ih h,(zaE hr).1]
       rw[this hf,zcp,hzl]
      have hml:m.length=len*ei.size:=by rw[<- hm2.length,hll]
      have hlen:len<=16777216:=by
       have:len*1<=len*ei.size:=Nat.mul_le_mul_left _ h1
       omega
      refine⟨e,ei,rowOf ei.size l,m,hK,?_,hml,h1,hlen,Rep.ones hm2,fun p hp q hq=>?_⟩
      ·have hzero:(zeroValue e).run P w= .ok z w:=by simp[zeroValue,typeInfo,hi,hzz]
       have hparts:(parts.map fun (i,x)=>(i,a.eval x)).toList=parts.toList.map fun p=>(p.1,a.eval p.2):=by simp
       have hsize:=zae (hT _ _ he) w
       unfold Instr.buildSlice
       simp only[Sem.run_bind,run_underlying hund,Result.andThen_ok,hsize,show ¬len*ei.size > 2^24 by omega,jaG,Sem.run_pure]
       rw[hzl,jaa]at hm1
       by_cases h0:len*ei.size=0
       ·rw[h0]at hm1
        have e0:∀(zv:Array Value),(Array.range 0).map (fun x=>zv[x%zv.size]!)= #[]:=fun zv=>by simp[Array.range]
        rw[e0]at hm1
        simp only[h0,jbe,Sem.run_pure,Result.andThen_ok,e0,hparts]
        rw[show(fun i=>some (i*ei.size,ei.size))=placesA ei from rfl]
        have hm1':Instr.fill (placesA ei) #[] (parts.toList.map fun p=>(p.1,a.eval p.2))=some m.toArray:=hm1
        rw[hm1']
        simp only[newRow,Sem.run_bind,run_newObj,Result.andThen_ok,Sem.run_pure]
        rfl
       simp only[h0,jaG,Sem.run_bind,hzero,Result.andThen_ok,Sem.run_pure,hparts]
       rw[show(fun i=>some (i*ei.size,ei.size))=placesA ei from rfl]
       have hm1':Instr.fill (placesA ei) (Array.map (fun x=>z.cells[x%z.cells.size]!) (Array.range (len*ei.size))) (parts.toList.map fun p=>(p.1,a.eval p.2))=some m.toArray:=hm1
       rw[hm1']
       simp only[newRow,Sem.run_bind,run_newObj,Result.andThen_ok,Sem.run_pure]
       rfl
      ·have hlt:p*ei.size+q<l.length:=by
        rw[hll]
        have:(p+1)*ei.size<=len*ei.size:=jW _ hp
        rw[qG]at this;omega
       obtain⟨u,hu,hr⟩:=hm2.get _ _ (kF hlt)
       refine⟨u,hu,?_⟩
       have:rowOf ei.size l p q=l[p*ei.size+q]:=by simp[rowOf,getD',zau,hlt]
       rw[this];exact hr
 | _=>simp[ht]at hl
theorem zov(h:RG cx γ s a w){t:Nat}{l c:Operand}{K:Nat->Nat->TI->(Nat->Nat->D)->Prop}(hl:makeE T t (ev s l) (ev s c) K):
  ∃(e n:Nat) (ei:TI) (f:Nat->Nat->D) (xs:List Value),K e n ei f/\(Instr.makeSlice t (a.eval l) (a.eval c)).run P w= .ok (.slice (some ⟨w.heap.size,0,none⟩) n n) (w.alloc (.cells xs.toArray e))/\xs.length=n*ei.size/\0<ei.size/\n<=16777216/\
   (∀u∈xs,u.oneCell'=true)/\∀m,m<n->∀j,j<ei.size->∃u,xs[m*ei.size+j]?=some u/\Rep w (okOf cx s γ w) (f m j) u:=by
 have m1:=(ev_m h l).1
 have m2:=(ev_m h c).1
 unfold makeE at hl
 cases ht:T t with
 |none=>simp[ht]at hl
 |some ti=>
 obtain⟨size,ag,bytes,zero,kind⟩:=ti
 cases kind with
 |slice e=>
  simp only[ht]at hl
  cases hvl:ev s l with
  |d x=>
   cases x with
   |int k1 n=>
    cases hvc:ev s c with
    |d y=>
     cases y with
     |int k2 m=>
      simp only[hvl,hvc]at hl
      cases he:T e with
      |none=>simp[he]at hl
      |some ei=>
       simp only[he]at hl
       cases hz:cds ei.zero with
       |none=>simp[hz]at hl
       |some zs=>
        simp only[hz]at hl
        cases hb:(Nat.ble 1 ei.size&&Nat.beq ei.zero.length ei.size)with
        |false=>simp[hb]at hl
        |true=>
         simp only[hb,kT]at hl
         simp only[jP]at hb
         obtain⟨⟨c1,c2,c3,c4⟩,hK⟩:=hl
         subst c2
         have h1:=jD hb.1
         have h2:=jA hb.2
         rw[hvl]at m1
         rw[hvc]at m2
         have m1:a.eval l= .int k1 m:=m1
         have m2:a.eval c= .int k2 m:=m2
         have hund:=za6 hT ht
         obtain⟨info,d,z,hi,hd,hzz,hs1,hby,_,hzc,_⟩:=zah (hT e _ he)
         have hzr:All2 (Rep w (okOf cx s γ w)) zs z.cells.toList:=by rw[hzc];exact zbQ hz
         have hzl:zs.length=ei.size:=by rw[hzr.length,hzc,h2]
         have hzs:z.cells.size=ei.size:=by rw[<- hzl,hzr.length];simp
         have hle:m.toNat<=16777216:=by
          have:m.toNat*1<=m.toNat*ei.size:=Nat.mul_le_mul_left _ h1
          omega
         have hrun:=run_make (P:=P) w t e info z hund hi hzz k1 k2 m m c1 (jaY _) (by
          rw[hby]
          have:((ei.bytes:Int)*m)=((m.toNat*ei.bytes:Nat):Int):=by
           rw[Int.natCast_mul,Int.toNat_of_nonneg c1,jae]
          omega) (by omega)
         rw[hs1]at hrun
         have hat:∀i,i<m.toNat*ei.size->(madeCells z.cells (m.toNat*ei.size)).toList[i]?=some z.cells[i%z.cells.size]!:=fun i hi=>by
          unfold madeCells
          simp[hi]
         refine⟨e,m.toNat,ei,_,(madeCells z.cells (m.toNat*ei.size)).toList,hK,?_,?_,h1,hle,fun u hu=>?_,fun p hp j hj=>?_⟩
         ·rw[m1,m2,jaa];exact hrun
         ·rw[kB,size_madeCells]
         ·obtain⟨i,hi,he'⟩:=kP hu
          have hi':i<m.toNat*ei.size:=by rw[kB,size_madeCells]at hi;exact hi
          have:=hat i hi'
          rw[kF hi,he']at this
          have hlt:i%z.cells.size<z.cells.size:=jau _ (by omega)
          refine Rep.ones hzr u ?_
          have e3:u=z.cells[i%z.cells.size]!:=by simpa using this
          rw[e3,jaV z.cells _ hlt]
          simp
         ·have hlt:p*ei.size+j<m.toNat*ei.size:=by
           have:(p+1)*ei.size<=m.toNat*ei.size:=jW _ hp
           rw[qG]at this;omega
          refine⟨_,hat _ hlt,?_⟩
          have hm:(p*ei.size+j)%z.cells.size=j:=by rw[hzs,qM,jbd,jaI hj]
          rw[hm]
          obtain⟨u,hu,hr⟩:=hzr.get j zs[j] (kF (by omega))
          have e4:getD' zs j=zs[j]:=by simp[getD',zau,hzl,hj]
          rw[e4,jaV z.cells j (by omega)]
          have e5:u=z.cells[j]:=by
           rw[ja2,wL (by omega)]at hu
           simpa using hu.symm
          rw[<- e5];exact hr
     | _=>simp[hvl,hvc]at hl
    | _=>simp[hvl,hvc]at hl
   | _=>simp[hvl]at hl
  | _=>simp[hvl]at hl
 | _=>simp[ht]at hl
end
theorem Holds.reO{w:World}{O O' ok ok':Nat->Prop}{γ γ':Nat->Value}{i:Nat}{o:Ob}(h:Holds w O ok γ i o)(hγ:γ' i=γ i)(hcs:∀cs,o= .box cs->∀c∈cs,∀j∈c.refs,γ' j=γ j)(hO:∀b,blk (γ i)=some b->O' b)(hk:∀b,ok b->ok' b):Holds w O' ok' γ' i o:=by
 have h':=Holds.keep (w':=w) (ok':=ok') (fun b hb=>⟨hk b hb,rfl⟩) hγ hcs (fun _ _=>rfl) h
 cases o with
 |box cs=>
  obtain⟨b,vs,T,h1,-,h3⟩:=h'
  exact⟨b,vs,T,h1,hO b (by rw[<- hγ,h1];rfl),h3⟩
 |row e k n f=>
  obtain⟨xs,h1,-,h3⟩:=h'
  exact⟨xs,h1,fun b hb=>hO b (by rw[<- hγ];exact hb),h3⟩
 |mp m ks f=>
 obtain⟨b,es,c,h1,-,h3⟩:=h'
 exact⟨b,es,c,h1,hO b (by rw[<- hγ,h1];rfl),h3⟩
theorem zap{α:Type}:∀(l m:List (Nat×α)) (i:Nat),look (l++m) i=(look l i).or (look m i)
 | [],m,i=>by simp[look]
 |(t,v)::r,m,i=>by
  show look ((t,v)::(r++m)) i=_
  simp only[look]
  cases Nat.beq i t with
  |true=>rfl
  |false=>exact zap r m i
theorem zmV{w:World}{ok:Nat->Prop}{γ:Nat->Value}{v:AV}{f:FuncId}{ex:List AV}{x:Value}(h:calleeM v=some (f,ex))(hm:M w ok γ v x):∃caps:List Value,x= .func (.func f) #[] caps.toArray/\All2 (M w ok γ) ex caps:=by
 unfold calleeM at h
 split at h
 ·cases h
  obtain⟨vs,h1,h2⟩:=hm
  exact⟨vs,h1,.map_left (h2.imp fun c u _ h=>by cases c<;>exact h)⟩
 exact za1 h hm
theorem zuA{w:World}{O ok:Nat->Prop}{γ:Nat->Value}{obs:List (Nat×Ob)}(ho:∀i o,look obs i=some o->Holds w O ok γ i o){v:AV}{x:Value}(h:M w ok γ v x):M w ok γ (fixA obs v) x:=by
 unfold fixA
 split
 ·rename_i i
  split
  ·rename_i cs e
   obtain⟨b,vs,T,h1,-,-⟩:=ho _ _ e
   have h:x=γ i:=h
   exact⟨b,h1,h.trans h1⟩
  exact h
 exact h
theorem zf9{w:World}{O ok:Nat->Prop}{γ:Nat->Value}{obs:List (Nat×Ob)}(ho:∀i o,look obs i=some o->Holds w O ok γ i o):∀{xs:List AV}{vs:List Value},All2 (M w ok γ) xs vs->All2 (M w ok γ) (xs.map (fixA obs)) vs
 | [],_,h=>by cases h;exact .nil
 |x::r,_,h=>by cases h with|cons h1 h2=>exact .cons (zuA ho h1) (zf9 ho h2)
theorem zhD{n m:Nat}{P:Program}{l:Nat}{fn:FuncId}{tmps:Array Value}{asg body:Code}{w:World}{R:Ending->World->Prop}(h:RoundIn Fence.wide n P l fn tmps asg body w R):RoundIn Fence.wide m P l fn tmps asg body w R:=
 ⟨trivial,fun c cs _=>h.2 c cs (room_wide _)⟩
theorem zgh{n m:Nat}{P:Program}{f:FuncId}{args:Array Value}{w:World}{R:Ending->World->Prop}(h:CallsIn Fence.wide n P f args w R):CallsIn Fence.wide m P f args w R:=callsIn_wide.2 (callsIn_wide.1 h)
theorem zqU{w w':World}{ok ok':Nat->Prop}{γ:Nat->Value}{v:AV}{x:Value}(h:M w ok γ v x):M w' ok' γ v.still x:=by
 cases v with
 |d x=>
  simp only[AV.still]
  cases hf:x.flat with
  |true=>exact Rep.flat hf h
  |false=>exact trivial
 |agg xs=>
  simp only[AV.still]
  cases hf:xs.all D.flat with
  |true=>exact Rep1.flat (x:=.agg xs) hf h
  |false=>exact trivial
 |undef=>exact h
 | _=>exact trivial
theorem zj0(v:AV):v.still.refs=[]:=by
 cases v with
 |d x=>simp only[AV.still];cases x.flat<;>rfl
 |agg xs=>simp only[AV.still];cases xs.all D.flat<;>rfl
 | _=>rfl
theorem zc7:∀(sl:List (Nat×AV)) (t:Nat),look (stillS sl) t=(look sl t).map AV.still
 | [],_=>rfl
 |(i,x)::r,t=>by
  simp only[stillS,look]
  cases Nat.beq t i with
  |true=>rfl
  |false=>exact zc7 r t
theorem zbe(m:Option Nat)(l:List (Nat×AV))(t:Nat):look ((G,AV.gho m)::l) t=if t=G then some (.gho m)else look l t:=by
 simp only[look]
 by_cases e:t=G
 ·subst e;simp[Nat.beq_refl]
 rw[kG e,zho e];rfl
theorem KpK.mono{B:Nat->Prop}{Q:Nat->Nat->Prop}{K K':Nat->Prop}{W W':World}(h:KpK B Q K W W')(hk:∀b,K b->K' b):KpK B Q K' W W':=⟨h.1,h.2.1,fun k o h1 h2 h3 h4=>h.2.2 k o h1 h2 h3 fun e=>h4 (hk k e)⟩
def FamY{P:Program}{ys:List (List V1)}(Y:YC P ys)(N:Nat)(w:World)(ok pub K0:Nat->Prop)(cx:Cx):Prop:=
 cx.N=N/\cx.hold=(fun _ _=>False)/\cx.dr=false/\cx.nod=true/\
  match cx.gn with
  |some n=>(∃pubc,Y.At n pubc cx.okA cx.lent cx.w0/\∀b,pubc b->pub b\/ok b\/K0 b\/w.heap.size<=b)/\KpK Y.B Y.Q K0 w cx.w0/\(∀b,ok b->cx.okA b)/\(∀b,cx.okA b->ok b\/K0 b\/w.heap.size<=b)/\∀b,cx.lent b->K0 b\/w.heap.size<=b
  |none=>cx.lent=(fun _=>False)/\Y.Jx cx.w0
section
variable {P:Program}{ys:List (List V1)}{Y:YC P ys}{cx:Cx}{γ γ2:Nat->Value}{s:St}{a:Act}{w w' W:World}{sl:List (Nat×AV)}{obs obs' rest:List (Nat×Ob)}{pins:List Nat}{n n' N:Nat}{ok pub K0 okc pubc:Nat->Prop}
theorem zng(h:Bel cx w):Grw cx.lent cx.w0 w:=⟨h.os,h.tape,h.output,h.size,fun k hk hl=>h.block k hk hl⟩
theorem zmc{ob:List (Nat×Ob)}(h:RG cx γ (St.of sl ob) a w){b:Nat}(hb:LentB γ ob b):cx.O b/\b<w.heap.size/\((∃cs T x,w.heap[b]?=some (.cells cs T x))\/∃es c,w.heap[b]?=some (.map es c)):=by
 obtain⟨i,o,h1,h2⟩:=hb
 exact zaC (h.objs i o h1) h2
theorem FamY.here{ob:List (Nat×Ob)}(hc:FamY Y N W ok pub K0 cx)(hn:cx.gn=some n)(h:RG cx γ (St.of sl ob) a w):
  ∃pubc,Y.At n pubc (okOf cx (St.of sl ob) γ w) (LentB γ ob) w/\(∀b,pubc b->pub b\/ok b\/K0 b\/W.heap.size<=b)/\KpK Y.B Y.Q K0 W w/\(∀b,ok b->okOf cx (St.of sl ob) γ w b)/\(∀b,okOf cx (St.of sl ob) γ w b->ok b\/K0 b\/W.heap.size<=b)/\∀b,LentB γ ob b->K0 b\/W.heap.size<=b:=by
 obtain⟨_,_,_,_,h5⟩:=hc
 rw[hn]at h5
 obtain⟨⟨pubc,f1,f2⟩,f3,f4,f5,f6⟩:=h5
 have hO:∀b,cx.O b->K0 b\/W.heap.size<=b:=fun b hb=>by
  rcases hb with h1|h1
  ·exact .inr (jM f3.1 h1)
  exact f6 b h1
 have hOl:∀b,cx.O b->cx.lent b\/cx.w0.heap.size<=b:=fun b hb=>hb.elim .inr .inl
 obtain⟨g1,g2⟩:=f1.grw (okA':=okOf cx (St.of sl ob) γ w) (kept':=LentB γ ob) (zng h.below) (fun b hb=>by
  rcases hb with h1|⟨h1,_⟩
  ·exact .inl h1
  exact .inr (hOl b h1)) fun b hb=>hOl b (zmc h hb).1
 exact⟨pubc,g1,f2,f3.trans g2 f6,fun b hb=>.inl (f4 b hb),fun b hb=>by
  rcases hb with h1|⟨h1,_⟩
  ·exact f5 b h1
  exact .inr (hO b h1),fun b hb=>hO b (zmc h hb).1⟩
theorem RG.over(h:RG cx γ (St.of sl (obs++rest)) a w)(hds:a.defers=[])(hat:Y.At n pub (okOf cx (St.of sl (obs++rest)) γ w) (LentB γ (obs++rest)) w)
    (he:YEnd Y n' w w' (okOf cx (St.of sl (obs++rest)) γ w) pub γ γ2 obs obs' pins okc pubc)(hc:goodM sl obs obs' rest pins=true)(hG:look sl G=none):
    ∃γ',RG ⟨w',okc,cx.N,LentB γ' (obs'++rest),fun _ _=>False,0,false,some n',true⟩ γ' (St.of ((G,.gho (some n'))::sl) (obs'++rest)) a w'/\Y.At n' pubc okc (LentB γ' (obs'++rest)) w'/\(∀i,(look obs' i).isSome=true->γ' i=γ2 i)/\
     ∀b,LentB γ' (obs'++rest) b->LentB γ (obs++rest) b\/w.heap.size<=b:=by
  simp only [goodM,jP,jC]at hc
  obtain⟨⟨⟨c1,c2⟩,c3⟩,c4⟩:=hc
  have o1:∀{i o},look obs i=some o->look (obs++rest) i=some o:=fun {i o} hi=>by rw [zap,hi,ja8]
  have r0:∀{i o},look rest i=some o->look obs i=none/\look obs' i=none:=fun {i o} hi=>by
    have:=c1 _ (zak hi)
    simpa [Option.isNone_iff_eq_none]using this
  have o2:∀{i o},look rest i=some o->look (obs++rest) i=some o:=fun {i o} hi=>by rw [zap,(r0 hi).1];exact hi
  have o3:∀{i o},look (obs'++rest) i=some o->look obs' i=some o\/(look obs' i=none/\look rest i=some o):=fun {i o} hi=>by
    rw [zap]at hi
    cases e:look obs' i with
    |some x=>rw [e]at hi;exact .inl hi
    |none=>rw [e]at hi;exact .inr ⟨rfl,hi⟩
  have o4:∀{i},(look obs' i).isSome=true->(look (obs'++rest) i).isSome=true:=fun {i} hi=>by
    rw [zap]
    cases e:look obs' i with
    |some x=>rfl
    |none=>rw [e]at hi;cases hi
  have o5:∀{i},(look rest i).isSome=true->(look (obs'++rest) i).isSome=true:=fun {i} hi=>by
    obtain⟨o,e⟩:=wA.1 hi
    rw [zap,(r0 e).2,e];rfl
  let γ':Nat->Value:=fun i=>bif (look obs' i).isSome then γ2 i else γ i
  have g1:∀{i},(look obs' i).isSome=true->γ' i=γ2 i:=fun {i} hi=>by show(bif (look obs' i).isSome then γ2 i else γ i)=_;rw [hi];rfl
  have g2:∀{i o},look rest i=some o->γ' i=γ i:=fun {i o} hi=>by show(bif (look obs' i).isSome then γ2 i else γ i)=_;rw [(r0 hi).2];rfl
  have okr:∀{j},(pins.any (Nat.beq j)||(look rest j).isSome)=true->γ' j=γ j/\(look (obs'++rest) j).isSome=true:=fun {j} hj=>by
    rw [jX,kM]at hj
    rcases hj with⟨i,hi,e⟩|hj
    · obtain rfl:=jA e
      exact⟨(g1 (c2 j hi)).trans (he.pn j hi),o4 (c2 j hi)⟩
    obtain⟨o,e⟩:=wA.1 hj
    exact⟨g2 e,o5 hj⟩
  have hsz:=he.kp.1
  have keep:∀b o,w.heap[b]?=some o->cm o=true->¬Ow Y.B Y.Q w b->¬LentB γ obs b->w'.heap[b]?=some o:=he.kp.2.2
  have hA:∀b,okOf cx (St.of sl (obs++rest)) γ w b->okc b/\Kpt w w' b:=fun b hb=>by
    have hl:¬LentB γ obs b:=fun ⟨i,o,h1,h2⟩=>zck h hb (o1 h1) h2
    have how:=(hat.rd b hb).2
    refine⟨he.ok1 b hb,fun ad u e hu=> ?_,fun es c e=>keep b _ e rfl how hl⟩
    subst e
    simp only [World.cell?]at hu⊢
    cases ho:w.heap[ad.block]? with
    |none=>rw [ho]at hu;cases hu
    |some o=>
     cases o with
     |cells c T fr=>rw [keep _ _ ho rfl how hl];rw [ho]at hu;exact hu
     | _=>rw [ho]at hu;cases hu
  have hS:∀{i o b},look rest i=some o->blk (γ i)=some b->b<w.heap.size/\¬LentB γ obs b/\LentB γ (obs++rest) b/\w'.heap[b]?=w.heap[b]?:=fun {i o b} hi hb=>by
    obtain⟨_,h1,h2⟩:=zaC (h.objs i o (o2 hi)) hb
    have hl:¬LentB γ obs b:=fun ⟨j,p,h3,h4⟩=>h.sep i j o p (o2 hi) (o1 h3) (fun e=>by subst e;rw [(r0 hi).1]at h3;cases h3) b hb h4
    have hL:LentB γ (obs++rest) b:=⟨i,o,o2 hi,hb⟩
    refine⟨h1,hl,hL,?_⟩
    rcases h2 with⟨cs,T,x,hc⟩|⟨es,c,hc⟩
    · rw [keep _ _ hc rfl (hat.kp b hL).2.2 hl,hc]
    rw [keep _ _ hc rfl (hat.kp b hL).2.2 hl,hc]
  have lentOld:∀{b},LentB γ obs b->LentB γ (obs++rest) b:=fun {b} ⟨i,o,h1,h2⟩=>⟨i,o,o1 h1,h2⟩
  have hundef:a.tmps.getD G undef=undef:=by
    rw [qP,jaj (by rw [h.size];exact h.ng)];rfl
  have hlent:∀b,LentB γ' (obs'++rest) b->(LentB γ2 obs' b\/∃i o,look rest i=some o/\blk (γ i)=some b):=fun b ⟨i,o,hi,hb⟩=>by
    rcases o3 hi with hi|⟨_,hr⟩
    · rw [g1 (by rw [hi];rfl)]at hb;exact .inl ⟨i,o,hi,hb⟩
    rw [g2 hr]at hb;exact .inr ⟨i,o,hr,hb⟩
  refine⟨γ',?_,⟨he.at'.w0,he.at'.j,he.at'.le,he.at'.rd,he.at'.own,he.at'.pb,fun b hb=> ?_⟩,fun i hi=>g1 hi,fun b hb=> ?_⟩
  · exact {
      defers:=⟨fun _=>hds,[],hds,jaf,fun D hD=>by cases hD⟩
      size:=h.size
      okA:=fun b hb=>⟨(he.ok2 b hb).2,fun e=>by
        rcases hlent b e with⟨i,o,hi,hbb⟩|⟨i,o,hi,hbb⟩
        · exact he.own.out i o b hi hbb hb
        obtain⟨h1,h2,-⟩:=hS hi hbb
        rcases(he.ok2 b hb).1 with h3|h3|h3
        · exact zck h h3 (o2 hi) hbb
        · exact h2 h3
        omega⟩
      lent:=fun b hb=>by
        rcases hlent b hb with⟨i,o,hi,hbb⟩|⟨i,o,hi,hbb⟩
        · exact(zaC (he.own.objs i o hi) hbb).2.1
        exact jN (hS hi hbb).1 hsz
      below:=⟨rfl,rfl,rfl,fun _=>jE _,jE _,fun _ _ _=>rfl⟩
      hold:=fun k o hk=>hk.elim
      least:=jF _
      objs:=fun i o hi=>by
        have hi':look (obs'++rest) i=some o:=hi
        rcases o3 hi' with hi'|⟨_,hr⟩
        · exact(he.own.objs i o hi').reO (g1 (by rw [hi'];rfl)) (fun cs e c hc j hj=>g1 (he.own.refs i cs (by rw [hi',e]) c hc j hj)) (fun b hb=> .inr ⟨i,o,hi,by rw [g1 (by rw [hi'];rfl)];exact hb⟩) fun b hb=> .inl hb
        have hk:=(h.objs i o (o2 hr)).keep0 (w':=w') (ok':=okOf ⟨w',okc,cx.N,LentB γ' (obs'++rest),fun _ _=>False,0,false,some n',true⟩ (St.of ((G,.gho (some n'))::sl) (obs'++rest)) γ' w') (γ':=γ') (fun b hb=>⟨.inl (hA b hb).1,(hA b hb).2⟩) (g2 hr) (fun cs e c hc j hj=>by
          have:=c4 _ (zak hr)
          rw [e]at this
          exact(okr (jC.1 (jC.1 this c hc) j hj)).1) fun b hb=>(hS hr hb).2.2.2
        exact hk.reO rfl (fun _ _ _ _ _ _=>rfl) (fun b hb=> .inr ⟨i,o,hi,hb⟩) fun _ hb=>hb
      refs:=fun i cs hi c hc j hj=>by
        have hi':look (obs'++rest) i=some (.box cs):=hi
        rcases o3 hi' with hi'|⟨_,hr⟩
        · exact o4 (he.own.refs i cs hi' c hc j hj)
        have:=c4 _ (zak hr)
        exact(okr (jC.1 (jC.1 this c hc) j hj)).2
      sep:=fun i j o o' hi hj hij b hb hb'=>by
        have both:∀{i j:Nat}{o o':Ob},look obs' i=some o->look rest j=some o'->blk (γ2 i)=some b->blk (γ j)=some b->False:=fun {i j o o'} hi hj h1 h2=>by
          obtain⟨h4,h5,-⟩:=hS hj h2
          rcases he.new i o b hi h1 with h6|h6
          · omega
          exact h5 h6
        rcases o3 (show look (obs'++rest) i=some o from hi)with hi|⟨_,hr⟩<;>rcases o3 (show look (obs'++rest) j=some o' from hj)with hj|⟨_,hs⟩
        · rw [g1 (by rw [hi];rfl)]at hb
          rw [g1 (by rw [hj];rfl)]at hb'
          exact he.own.sep i j o o' hi hj hij b hb hb'
        · rw [g1 (by rw [hi];rfl)]at hb
          rw [g2 hs]at hb'
          exact both hi hs hb hb'
        · rw [g2 hr]at hb
          rw [g1 (by rw [hj];rfl)]at hb'
          exact both hj hr hb' hb
        rw [g2 hr]at hb
        rw [g2 hs]at hb'
        exact h.sep i j o o' (o2 hr) (o2 hs) hij b hb hb'
      slots:=fun t=>by
        show M w' _ γ' ((look ((G,AV.gho (some n'))::sl) t).getD .any) _
        rw [zbe]
        by_cases e:t=G
        · subst e;rw [kH rfl];exact hundef
        rw [kG e]
        refine(h.slots t).keep0 (fun b hb=>⟨.inl (hA b hb).1,(hA b hb).2⟩) fun j hj=> ?_
        have hj':j∈((look sl t).getD .any).refs:=hj
        cases hl:look sl t with
        |none=>rw [hl]at hj';simp [AV.refs]at hj'
        |some v=>rw [hl]at hj';exact(okr (c3 _ (zak hl) j hj')).1
      srefs:=fun t j hj=>by
        have hj':j∈((look ((G,AV.gho (some n'))::sl) t).getD .any).refs:=hj
        rw [zbe]at hj'
        by_cases e:t=G
        · rw [kH e]at hj';cases hj'
        rw [kG e]at hj'
        cases hl:look sl t with
        |none=>rw [hl]at hj';simp [AV.refs]at hj'
        |some v=>rw [hl]at hj';exact(okr (c3 _ (zak hl) j hj')).2
      gho:=fun m hm=>by
        have hm':(look ((G,AV.gho (some n'))::sl) G).getD .any= .gho m:=hm
        rw [zbe,kH rfl]at hm'
        cases hm';rfl
      ng:=h.ng }
  · rcases hlent b hb with h1|⟨i,o,hi,hbb⟩
    · exact he.at'.kp b h1
    obtain⟨h1,h2,h3,-⟩:=hS hi hbb
    obtain⟨k1,k2,k3⟩:=hat.kp b h3
    refine⟨k1,fun hp=> ?_,fun hw=> ?_⟩
    · rcases he.pb b hp with h4|h4|h4|h4
      · exact k2 h4
      · exact zck h h4 (o2 hi) hbb
      · exact h2 h4
      omega
    rcases he.kp.2.1 b hw with h4|h4
    · exact k3 h4
    omega
  rcases hlent b hb with⟨i,o,hi,hbb⟩|⟨i,o,hi,hbb⟩
  · rcases he.new i o b hi hbb with h1|h1
    · exact .inr h1
    exact .inl (lentOld h1)
  exact .inl (hS hi hbb).2.2.1
theorem FamY.over(hc:FamY Y N W ok pub K0 cx)(hn:cx.gn=some n)(h:RG cx γ (St.of sl (obs++rest)) a w){pub1:Nat->Prop}(hat:Y.At n pub1 (okOf cx (St.of sl (obs++rest)) γ w) (LentB γ (obs++rest)) w)(hpb:∀b,pub1 b->pub b\/ok b\/K0 b\/W.heap.size<=b)
  (he:YEnd Y n' w w' (okOf cx (St.of sl (obs++rest)) γ w) pub1 γ γ2 obs obs' pins okc pubc)(hg:goodM sl obs obs' rest pins=true)(hG:look sl G=none):
  ∃cx' γ',FamY Y N W ok pub K0 cx'/\RG cx' γ' (St.of ((G,.gho (some n'))::sl) (obs'++rest)) a w'/\∀b,okc b->okOf cx' (St.of ((G,.gho (some n'))::sl) (obs'++rest)) γ' w' b:=by
 obtain⟨_,_,_,k1,k2,k3,k4⟩:=hc.here hn h
 obtain⟨c1,c2,c3,c4,-⟩:=id hc
 obtain⟨γ',g1,g2,g3,g4⟩:=h.over (h.defers.1 c4) hat he hg hG
 have hlo:∀{b},LentB γ obs b->K0 b\/W.heap.size<=b:=fun {b} ⟨i,o,h1,h2⟩=>k4 b ⟨i,o,by rw[zap,h1,ja8],h2⟩
 have hsz:=k1.1
 have hnew:∀{b},w.heap.size<=b->W.heap.size<=b:=fun {b} h=>by omega
 refine⟨⟨w',okc,cx.N,LentB γ' (obs'++rest),fun _ _=>False,0,false,some n',true⟩,γ',⟨c1,rfl,rfl,rfl,⟨pubc,g2,fun b hb=>?_⟩,k1.trans he.kp fun b hb=>hlo hb,fun b hb=>he.ok1 b (k2 b hb),fun b hb=>?_,fun b hb=>?_⟩,g1,fun b hb=>.inl hb⟩
 ·rcases he.pb b hb with h1|h1|h1|h1
  ·exact hpb b h1
  ·exact .inr (k3 b h1)
  ·exact .inr (.inr (hlo h1))
  exact .inr (.inr (.inr (hnew h1)))
 ·rcases(he.ok2 b hb).1 with h1|h1|h1
  ·exact k3 b h1
  ·exact .inr (hlo h1)
  exact .inr (.inr (hnew h1))
 rcases g4 b hb with h1|h1
 ·exact k4 b h1
 exact .inr (hnew h1)
theorem FamY.none'(hc:FamY Y N W ok pub K0 cx){ob:List (Nat×Ob)}(h:RG cx γ (St.of sl ob) a w)(hJ:Y.Jx w'):
    ∃cx',FamY Y N W ok pub K0 cx'/\RG cx' γ (St.of ((G,.gho none)::stillS sl) []) a w':=by
  obtain⟨c1,c2,c3,c4,-⟩:=id hc
  have hds:=h.defers.1 c4
  have hundef:a.tmps.getD G undef=undef:=by
    rw [qP,jaj (by rw [h.size];exact h.ng)];rfl
  refine⟨⟨w',fun _=>False,cx.N,fun _=>False,fun _ _=>False,0,false,none,true⟩,⟨c1,rfl,rfl,rfl,rfl,hJ⟩,?_⟩
  exact { defers:=⟨fun _=>hds,[],hds,jaf,fun D hD=>by cases hD⟩
          size:=h.size
          okA:=fun b hb=>hb.elim
          lent:=fun b hb=>hb.elim
          below:=⟨rfl,rfl,rfl,fun _=>jE _,jE _,fun _ _ _=>rfl⟩
          hold:=fun k o hk=>hk.elim
          least:=jF _
          objs:=fun i o hi=>by cases hi
          refs:=fun i cs hi=>by cases hi
          sep:=fun i j o o' hi=>by cases hi
          slots:=fun t=>by
            show M w' _ γ ((look ((G,AV.gho none)::stillS sl) t).getD .any) _
            rw [zbe]
            by_cases e:t=G
            · subst e;rw [kH rfl];exact hundef
            rw [kG e,zc7]
            have:=h.slots t
            rw [show(St.of sl ob).sl t=(look sl t).getD .any from rfl]at this
            cases hl:look sl t with
            |none=>exact trivial
            |some v=>rw [hl]at this;exact zqU this
          srefs:=fun t j hj=>by
            have hj':j∈((look ((G,AV.gho none)::stillS sl) t).getD .any).refs:=hj
            rw [zbe]at hj'
            by_cases e:t=G
            · rw [kH e]at hj';cases hj'
            rw [kG e,zc7]at hj'
            cases hl:look sl t with
            |none=>rw [hl]at hj';cases hj'
            |some v=>rw [hl]at hj';rw [show((some v).map AV.still).getD .any=v.still from rfl,zj0]at hj';cases hj'
          gho:=fun m hm=>by
            have hm':(look ((G,AV.gho none)::stillS sl) G).getD .any= .gho m:=hm
            rw [zbe,kH rfl]at hm'
            cases hm';rfl
          ng:=h.ng }
theorem YEnd.round{vs:List V1}{okY:Nat->Prop}(hat:Y.At n pub okY K0 w)(hv:ys[n]?=some vs)(hlt:∀b,okY b->b<w.heap.size)(hp:∀b,pubc b->pub b\/okY b\/(w.heap.size<=b/\b<w'.heap.size))(hj:Y.J (n+1) pubc w')(hk:KpB Y.B Y.Q w w'):YEnd Y (n+1) w w' okY pub γ γ [] [] [] okY pubc where
  kp:=hk.mono fun _ h=>h.elim
  pn:=fun i hi=>by cases hi
  own:=⟨fun i o hi=>(by cases hi),fun i cs hi=>(by cases hi),fun i j o o' hi=>(by cases hi),fun i o b hi=>(by cases hi)⟩
  new:=fun i o b hi=>by cases hi
  at':=⟨jM hat.w0 hk.1,hj,(kC.1 hv).1,fun b hb=>⟨(hat.rd b hb).1,fun hw=>by
    rcases hk.2.1 b hw with h1|h1
    · exact(hat.rd b hb).2 h1
    · have:=hlt b hb;omega⟩,fun k hk'=>by
    rcases hk.2.1 k hk' with h1|h1
    · exact jN (hat.own k h1) hk.1
    · exact h1.2,fun b hb=>by
    rcases hp b hb with h1|h1|h1
    · exact jN (hat.pb b h1) hk.1
    · exact jN (hlt b h1) hk.1
    exact h1.2,fun b ⟨i,o,hi,_⟩=>(by cases hi)⟩
  pb:=fun b hb=>by
    rcases hp b hb with h1|h1|h1
    · exact .inl h1
    · exact .inr (.inl h1)
    exact .inr (.inr (.inr h1.1))
  ok1:=fun b hb=>hb
  ok2:=fun b hb=>⟨.inl hb,jN (hlt b hb) hk.1⟩
end
end Go.Pg
