/- Lemmas, joined by program. -/
import Derived.Test.YtcmghlfakcppkaaGreatJ5
set_option maxHeartbeats 4000000
set_option linter.all false
namespace Go.Pg
open Go.RowKit
structure RowAt(w:World)(ok:Nat->Prop)(e k n:Nat)(g:Nat->Nat->D)(v:Value)(xs:List Value):Prop where
  own:w.ownsRow 0 e k v n xs
  one:∀u∈xs,u.oneCell'=true
  rep:∀m,m<n->∀j,j<k->∃u,xs[m*k+j]?=some u/\Rep w ok (g m j) u
  sep:∀b,blk v=some b->¬ok b
def SpecR(P:Program)(f:FuncId)(pre post:List V1)(e k n:Nat)(g g':Nat->Nat->D)(res:List V1):Prop:=
 Ent P f/\∀(w:World) (ok:Nat->Prop) (vs us:List Value) (v:Value) (xs:List Value),(∀b,ok b->b<w.heap.size)->All2 (Rep1 w ok) pre vs->All2 (Rep1 w ok) post us->RowAt w ok e k n g v xs->
  Calls P f (vs++v::us).toArray w fun en w'=>∃r,en= .returned r/\w.grownBy w' (blk v)/\ResRep w' (fun _=>False) res r/\
   ∃xs',w'.ownsRow 0 e k v n xs'/\(∀u∈xs',u.oneCell'=true)/\∀m,m<n->∀j,j<k->∃u,xs'[m*k+j]?=some u/\Rep w' (fun _=>False) (g' m j) u
def SpecT(P:Program)(f:FuncId)(pre post:List V1)(e k n:Nat)(g:Nat->Nat->D)(n':Nat)(g':Nat->Nat->D):Prop:=
 Ent P f/\∀(w:World) (ok:Nat->Prop) (vs us:List Value) (v:Value) (xs:List Value),(∀b,ok b->b<w.heap.size)->All2 (Rep1 w ok) pre vs->All2 (Rep1 w ok) post us->RowAt w ok e k n g v xs->
  Calls P f (vs++v::us).toArray w fun en w'=>∃v',en= .returned v'/\w.grownBy w' (blk v)/\(∀b,blk v'=some b->blk v=some b\/w.heap.size<=b)/\
   ∃xs',w'.ownsRow 0 e k v' n' xs'/\(∀u∈xs',u.oneCell'=true)/\∀m,m<n'->∀j,j<k->∃u,xs'[m*k+j]?=some u/\Rep w' (fun _=>False) (g' m j) u
def cxR(w:World)(ok:Nat->Prop)(N:Nat)(v:Value):Cx:=⟨w,ok,N,fun b=>blk v=some b,fun _ _=>False,0,false,none,false⟩
theorem zdF{α:Type}:∀(l m:List (Nat×α)) (t:Nat),look (l++m) t=match look l t with|some x=>some x|none=>look m t
 | [],m,t=>rfl
 |(i,x)::l,m,t=>by
  simp only[List.cons_append,look]
  cases Nat.beq t i with
  |true=>rfl
  |false=>exact zdF l m t
def rowSlots(pre post:List V1)(v:Value):List (Nat×AV):=argSlots 0 pre++(pre.length,.pin pre.length v)::argSlots (pre.length+1) post
theorem zn1{pre post:List V1}{vs us:List Value}{w:World}{ok:Nat->Prop}{N e k n:Nat}{g:Nat->Nat->D}{v:Value}{xs:List Value}(hok:∀b,ok b->b<w.heap.size)(h1:All2 (Rep1 w ok) pre vs)(h2:All2 (Rep1 w ok) post us)(hr:RowAt w ok e k n g v xs)
    (hsz:pre.length+1+post.length<=N)(hng:N<=G):
    R (cxR w ok N v) (St.of (rowSlots pre post v) [(pre.length,.row e k n g)]) { tmps:=(vs++v::us).toArray++Array.replicate (N-(vs++v::us).toArray.size) undef,defers:=[] } w:=by
  have l1:=h1.length
  have l2:=h2.length
  have hblk:∀b,blk v=some b->b<w.heap.size:=fun b hb=>by
    rcases hr.own.2 with⟨h3,_⟩|⟨q,cap,cur,h3,_,h4,_⟩
    · rw [h3]at hb;cases hb
    rw [h3]at hb;simp [blk]at hb;subst hb;exact(jB.1 h4).1
  have slot:∀t x,look (rowSlots pre post v) t=some x->M w ok (fun _=>v) x ((((vs++v::us).toArray++Array.replicate (N-(vs++v::us).toArray.size) undef)).getD t undef)/\(x.refs=[]\/x.refs=[pre.length]):=fun t x hx=>by
    unfold rowSlots at hx
    rw [zdF]at hx
    cases ha:look (argSlots 0 pre) t with
    |some y=>
     rw [ha]at hx;cases hx
     obtain⟨j,u,z,g1,g2,g3,g4⟩:=zaM pre vs 0 t h1 _ ha
     obtain rfl:t=j:=by omega
     have hj:t<vs.length:=(kC.1 g2).1
     rw [zbp (u:=u) (by rw [jJ hj];exact g2),g3]
     exact⟨zd9.2 g4,.inl (zbC z)⟩
    |none=>
     rw [ha]at hx
     simp only [look]at hx
     cases hb:Nat.beq t pre.length with
     |true=>
      rw [hb]at hx;cases hx
      have:=jA hb
      subst this
      rw [zbp (u:=v) (by rw [l1,jK (jE _)];simp)]
      exact⟨⟨rfl,rfl⟩,.inr rfl⟩
     |false=>
      rw [hb]at hx
      obtain⟨j,u,z,g1,g2,g3,g4⟩:=zaM post us (pre.length+1) t h2 x hx
      rw [zbp (u:=u) (by
        rw [jK (by omega),show t-vs.length=j+1 by omega,wG];exact g2),g3]
      exact⟨zd9.2 g4,.inl (zbC z)⟩
  refine⟨fun _=>v,?_⟩
  have hob:∀i o,look [(pre.length,Ob.row e k n g)] i=some o->i=pre.length/\o= .row e k n g:=fun i o ho=>by
    simp only [look]at ho
    cases hb:Nat.beq i pre.length with
    |true=>rw [hb]at ho;cases ho;exact⟨jA hb,rfl⟩
    |false=>rw [hb]at ho;cases ho
  have hself:look [(pre.length,Ob.row e k n g)] pre.length=some (.row e k n g):=by simp [look,zay]
  exact { defers:=⟨fun _=>rfl,[],rfl,jaf,fun D hD=>by cases hD⟩
          size:=by simp [cxR];omega
          okA:=fun b hb=>⟨hok b hb,fun e=>hr.sep b e hb⟩
          lent:=fun b hb=>hblk b hb
          below:=⟨rfl,rfl,rfl,fun _=>jE _,jE _,fun _ _ _=>rfl⟩
          hold:=fun k o hk=>hk.elim
          least:=jF _
          objs:=fun i o hi=>by
            obtain⟨rfl,rfl⟩:=hob i o hi
            exact⟨xs,hr.own,fun b hb=> .inr hb,hr.one,fun m hm j hj=>by obtain⟨u,hu,h3⟩:=hr.rep m hm j hj;exact⟨u,hu,Rep.keep (fun b hb=>⟨.inl hb,rfl⟩) h3⟩⟩
          refs:=fun i cs hi=>by obtain⟨_,h3⟩:=hob i _ hi;cases h3
          sep:=fun i j o o' hi hj hne=>absurd ((hob i o hi).1.trans (hob j o' hj).1.symm) hne
          slots:=fun t=>by
            show M w _ _ ((look (rowSlots pre post v) t).getD .any) _
            cases hx:look (rowSlots pre post v) t with
            |none=>exact trivial
            |some x=>exact(slot t x hx).1.keep (fun b hb=>⟨.inl hb,rfl⟩) fun _ _=>rfl
          ng:=hng
          gho:=fun m hm=>by
            have hm':(look (rowSlots pre post v) G).getD .any= .gho m:=hm
            cases hx:look (rowSlots pre post v) G with
            |none=>rw [hx]at hm';cases hm'
            |some x=>
             rw [hx]at hm'
             have hs:=(slot G x hx).2
             have hno:∀y:V1,avOf y≠ .gho m:=fun y=>by
               cases y with
               |d z=>cases z<;>simp [avOf]
               |agg z=>simp [avOf]
             unfold rowSlots at hx
             rw [zdF]at hx
             cases ha:look (argSlots 0 pre) G with
             |some y=>
              rw [ha]at hx;cases hx
              obtain⟨j,u,z,g1,g2,g3,g4⟩:=zaM pre vs 0 G h1 _ ha
              exact absurd (g3.symm.trans hm') (hno z)
             |none=>
              rw [ha]at hx
              simp only [look]at hx
              cases hb:Nat.beq G pre.length with
              |true=>rw [hb]at hx;cases hx;cases hm'
              |false=>
               rw [hb]at hx
               obtain⟨j,u,z,g1,g2,g3,g4⟩:=zaM post us (pre.length+1) G h2 x hx
               exact absurd (g3.symm.trans hm') (hno z)
          srefs:=fun t j hj=>by
            have hj':j∈((look (rowSlots pre post v) t).getD .any).refs:=hj
            cases hx:look (rowSlots pre post v) t with
            |none=>rw [hx]at hj';cases hj'
            |some x=>
             rw [hx]at hj'
             rcases(slot t x hx).2 with h3|h3
             · rw [show(Option.some x).getD .any=x from rfl,h3]at hj';cases hj'
             rw [show(Option.some x).getD .any=x from rfl,h3]at hj'
             simp only [kI]at hj'
             subst hj'
             show(look [(pre.length,Ob.row e k n g)] pre.length).isSome=true
             rw [hself];rfl }
theorem zdo{w w':World}{ok:Nat->Prop}{N:Nat}{v:Value}(h:Bel (cxR w ok N v) w'):w.grownBy w' (blk v):=
 ⟨h.os,h.tape,h.output,h.size,fun k hk hne=>h.block k hk fun e=>hne e.symm⟩
theorem zdW{w:World}{ok:Nat->Prop}{res:List V1}{v:Value}(hf:res.all V1.flat=true)(h:ResRep w ok res v):ResRep w (fun _=>False) res v:=by
 have:∀{l:List V1}{vs:List Value},(∀x∈l,x.flat=true)->All2 (Rep1 w ok) l vs->All2 (Rep1 w fun _=>False) l vs:=fun hl h=>h.imp fun x _ hx hr=>Rep1.flat (hl x hx) hr
 have hall:=jC.1 hf
 match res,h with
 | [],⟨vs,h1,h2⟩=>exact⟨vs,h1,this hall h2⟩
 | [x],h=>exact Rep1.flat (hall x (by simp)) h
 |x::y::r,⟨vs,h1,h2⟩=>exact⟨vs,h1,this hall h2⟩
section
variable {P:Program}{T:TT}{E:Env}
theorem znH(hT:∀t i,T t=some i->TI.of P t=some i)(hE:∀t,E.eq t=true->EqFact P t)(hm:P.follows .mixedOrders=true)
  {f:FuncId}{fn:Func}{c:Code}(hf:P.funcs[f]?=some fn)(hb:fn.body=some c)(hn:(fn.name== "runtime.NumGoroutine")=false)(hN:codeN fn.ntmps c=true)
  {pre post:List V1}{e k n n':Nat}{g g':Nat->Nat->D}(hfl:∀i,i<n'->∀j,j<k->(g' i j).flat=true)(hsz:pre.length+1+post.length<=fn.ntmps)(hng:fn.ntmps<=G)
  (h:∀v,awp P T E c (St.of (rowSlots pre post v) [(pre.length,.row e k n g)]) (retKO fn.results.toList e k n' g')):SpecT P f pre post e k n g n' g':=
 ⟨⟨fn,hf,hn,by rw [hb];rfl⟩,fun w ok vs us v xs hok h1 h2 hr=>zh6 hT hE hm hf hb hN (cx:=cxR w ok fn.ntmps v) (fun e=>by cases e) rfl rfl rfl (fun _ _=>id) (zn1 hok h1 h2 hr hsz hng) (h v) zeV fun x s a w' hx hk hR _=>by
  obtain⟨γ,hg⟩:=hR
  obtain⟨t,i,f',hrs,hv,ho,hq⟩:=ziO hx hk
  obtain⟨ys,o1,o0,o2,o3⟩:=hg.objs i _ ho
  have hsl:=hg.slots t
  rw [hv]at hsl
  have hval:a.tmps.getD t undef=γ i:=hsl
  have hrun:=zaQ (P:=P) (fn:=fn) (a:=a) (w:=w') (vs:=[γ i]) (by rw [hrs];simp [<- hval])
  refine⟨γ i,hrun,γ i,rfl,zdo hg.below,fun b hb=> ?_,ys,o1,o2,fun m hm j hj=> ?_⟩
  ·rcases o0 b hb with h3|h3
   ·exact .inr h3
   exact .inl h3
  obtain⟨u,hu,hrr⟩:=o3 m hm j hj
  exact⟨u,hu,Rep.flat (hfl m hm j hj) (hrr.eqv (hq m hm j hj))⟩⟩
end
section
variable {P:Program}{s:St}{o:Oper}{fo:Operand}{f:FuncId}{K:St->Prop}{E:Env}(hdr:E.dr=false)
theorem All2.split{α β:Type}{r:α->β->Prop}:∀{xs ys:List α}{vs:List β},All2 r (xs++ys) vs->∃v1 v2,vs=v1++v2/\All2 r xs v1/\All2 r ys v2
 | [],ys,vs,h=>⟨[],vs,rfl,.nil,h⟩
 |x::xs,ys,_,.cons h1 h2=>by
  obtain⟨v1,v2,rfl,h3,h4⟩:=All2.split h2
  exact⟨_::v1,v2,rfl,.cons h1 h3,h4⟩
structure RowArgs(s:St)(fo:Operand)(args:List Operand)(f:FuncId)(pre:List V1)(i:Nat)(post:List V1):Prop where
  out:∃a1 a0 a2 ex,args=a1++a0::a2/\callee (ev s fo)=some (f,ex)/\ev s a0= .own i/\toV1s s (a1.map (ev s))=some pre/\toV1s s (a2.map (ev s)++ex)=some post/\(a1.map (ev s)).all (fun v=>!v.isOwn)=true/\(a2.map (ev s)++ex).all (fun v=>!v.isOwn)=true
theorem zcE{cx:Cx}{γ:Nat->Value}{a:Act}{w:World}(h:RG cx γ s a w){args:List Operand}{pre post:List V1}{i e k n:Nat}{g:Nat->Nat->D}(ha:RowArgs s fo args f pre i post)(hi:s.ob i=some (.row e k n g)):
  ∃(caps vs us xs:List Value),a.eval fo= .func (.func f) #[] caps.toArray/\args.map a.eval++caps=vs++γ i::us/\All2 (Rep1 w (okOf cx s γ w)) pre vs/\All2 (Rep1 w (okOf cx s γ w)) post us/\RowAt w (okOf cx s γ w) e k n g (γ i) xs:=by
 obtain⟨a1,a0,a2,ex,rfl,h1,h2,h3,h4,h5,h6⟩:=ha.out
 obtain⟨caps,hf,hc⟩:=za1 h1 (ev_m h fo).1
 have h0:=(ev_m h a0).1
 rw[h2]at h0
 have hv0:a.eval a0=γ i:=h0
 have m1:=(zbw h h3 (zbN h a1)).2 h5
 have m2:=(zbw h h4 ((zbN h a2).append hc)).2 h6
 obtain⟨xs,o1,o0,o2,o3⟩:=h.objs i _ hi
 exact⟨caps,a1.map a.eval,a2.map a.eval++caps,xs,hf,by simp[hv0],m1,m2,⟨o1,o2,o3,fun b hb hok=>zck h hok hi hb⟩⟩
include hdr in
theorem CallSt.row{args:Array Operand}{at':Array TypeId}(hop:o.op= .call { callee:=.value fo,args,argTypes:=at' }){pre post res:List V1}{i e k n:Nat}{g g':Nat->Nat->D}(h:SpecR P f pre post e k n g g' res)
  (ha:RowArgs s fo args.toList f pre i post)(hi:s.ob i=some (.row e k n g))(hk:K ((s.setOb i (some (.row e k n g'))).putO o.dst (resAV res))):CallSt E P s o fo args.toList K:=by
 rw[zag]
 refine .inr (.inr (.inl ⟨_,⟨fun cx a w hD hd hR=>?_⟩,hk⟩))
 obtain⟨γ,hg⟩:=hR
 obtain⟨caps,vs,us,xs,h1,h2,h3,h4,h5⟩:=zcE hg ha hi
 refine .enter (zaD hop h1 h.1) ?_
 rw[h2]
 refine(h.2 w _ vs us _ xs (fun b hb=>zal hg hb) h3 h4 h5).mono fun en w' ⟨r,he,hgr,hres,ys,y1,y2,y3⟩=>⟨r,he,γ,?_⟩
 refine(hg.change (i:=i) (o':=.row e k n g') hi hgr (fun e=>by have:=hD e;rw[hdr]at this;cases this) (fun ok hok=>⟨ys,y1,fun b hb=>(zax hg hi hb).1,y2,fun m hm j hj=>?_⟩) (fun cs e=>by cases e)).putO hd (zaX (.inl fun b hb=>hb.elim) hres) (fun j hj=>by rw[zaB]at hj;cases hj)
 obtain⟨u,hu,hr⟩:=y3 m hm j hj
 exact⟨u,hu,Rep.keep0 (w:=w') (fun b hb=>hb.elim) hr⟩
include hdr in
theorem CallSt.take{args:Array Operand}{at':Array TypeId}(hop:o.op= .call { callee:=.value fo,args,argTypes:=at' }){pre post:List V1}{i e k n n':Nat}{g g':Nat->Nat->D}(h:SpecT P f pre post e k n g n' g')
  (ha:RowArgs s fo args.toList f pre i post)(hi:s.ob i=some (.row e k n g))(hk:K (remk s i (.row e k n' g') o.dst)):CallSt E P s o fo args.toList K:=by
 rw[zag]
 refine .inr (.inr (.inl ⟨_,⟨fun cx a w hD hd hR=>?_⟩,hk⟩))
 obtain⟨γ,hg⟩:=hR
 obtain⟨caps,vs,us,xs,h1,h2,h3,h4,h5⟩:=zcE hg ha hi
 refine .enter (zaD hop h1 h.1) ?_
 rw[h2]
 refine(h.2 w _ vs us _ xs (fun b hb=>zal hg hb) h3 h4 h5).mono fun en w' ⟨r,he,hgr,hbl,ys,y1,y2,y3⟩=>⟨r,he,?_⟩
 refine zc2 (o':=.row e k n' g') hg hi hd hgr (fun e=>by have:=hD e;rw[hdr]at this;cases this) (fun b hb=>hbl b hb) (fun ok hok=>⟨ys,by rw[zac];exact y1,(fun b hb=>?_),y2,fun m hm j hj=>?_⟩) (fun cs e=>by cases e)
 ·rw[zac]at hb
  rcases hbl b hb with h6|h6
  ·exact(zax hg hi h6).1
  exact .inl (jM hg.below.size h6)
 obtain⟨u,hu,hr⟩:=y3 m hm j hj
 exact⟨u,hu,Rep.keep0 (w:=w') (fun b hb=>hb.elim) hr⟩
end
def okM(w w':World)(ok:Nat->Prop)(γ γ':Nat->Value)(obs obs':List (Nat×Ob))(b:Nat):Prop:=ok b\/((w.heap.size<=b\/LentB γ obs b)/\b<w'.heap.size/\¬LentB γ' obs' b)
structure FrM(w w':World)(γ:Nat->Value)(obs:List (Nat×Ob)):Prop where
  os:w'.os=w.os
  tape:w'.tape=w.tape
  output:w'.output=w.output
  size:w.heap.size<=w'.heap.size
  block:∀k,k<w.heap.size->¬LentB γ obs k->w'.heap[k]?=w.heap[k]?
def SpecM(P:Program)(f:FuncId)(args:List AV)(obs obs':List (Nat×Ob))(pins:List Nat)(res:List V1):Prop:=
 Ent P f/\∀(w:World) (ok:Nat->Prop) (γ:Nat->Value) (vs:List Value),(∀b,ok b->b<w.heap.size)->OwnS w ok γ obs->All2 (M w ok γ) args vs->
  Calls P f vs.toArray w fun en w'=>∃r γ',en= .returned r/\FrM w w' γ obs/\(∀i∈pins,γ' i=γ i)/\OwnS w' (okM w w' ok γ γ' obs obs') γ' obs'/\(∀i o b,look obs' i=some o->blk (γ' i)=some b->w.heap.size<=b\/LentB γ obs b)/\ResRep w' (okM w w' ok γ γ' obs obs') res r
def pinA(γ:Nat->Value):AV->AV
 | .box i 0=>.pbox i (γ i)
 |v=>v
def slotsM(γ:Nat->Value):Nat->List AV->List (Nat×AV)
 | _,[]=>[]
 |i,v::r=>(i,pinA γ v)::slotsM γ (i+1) r
theorem ztJ{w:World}{ok:Nat->Prop}{γ:Nat->Value}{v:AV}{x:Value}(h:M w ok γ v x):M w ok γ (pinA γ v) x:=by
 unfold pinA
 split
 ·obtain⟨b,e1,e2⟩:=h
  exact⟨⟨b,e1,e2⟩,e2.trans e1.symm⟩
 exact h
theorem zlA{γ:Nat->Value}{v:AV}:(pinA γ v).refs=v.refs:=by
 unfold pinA
 split<;>rfl
theorem zdy{w:World}{ok:Nat->Prop}{γ:Nat->Value}:∀(args:List AV) (vs:List Value) (i t:Nat),All2 (M w ok γ) args vs->∀x,look (slotsM γ i args) t=some x->∃j u v,t=i+j/\vs[j]?=some u/\args[j]?=some v/\x=pinA γ v/\M w ok γ v u
 | [],_,_,_,_,x,hx=>by cases hx
 |v::r,vs,i,t,h,x,hx=>by
  cases h with
  |cons h1 h2=>
  simp only[slotsM,look]at hx
  cases hb:Nat.beq t i with
  |true=>rw[hb]at hx;cases hx;exact⟨0,_,_,by simpa using jA hb,rfl,rfl,rfl,h1⟩
  |false=>
  rw[hb]at hx
  obtain⟨j,u,z,g1,g2,g3,g4⟩:=zdy r _ (i+1) t h2 x hx
  exact⟨j+1,u,z,by omega,by simpa using g2,by simpa using g3,g4⟩
def ghS:Option Nat->List (Nat×AV)
 |some n=>[(G,.gho (some n))]
 |none=>[]
def cxM(w:World)(ok:Nat->Prop)(N:Nat)(γ:Nat->Value)(obs:List (Nat×Ob)):Cx:=⟨w,ok,N,LentB γ obs,fun _ _=>False,0,false,none,false⟩
theorem ziR(gn:Option Nat)(nod:Bool){args:List AV}{vs:List Value}{w:World}{ok:Nat->Prop}{N:Nat}{γ:Nat->Value}{obs:List (Nat×Ob)}(hok:∀b,ok b->b<w.heap.size)(ho:OwnS w ok γ obs)(h:All2 (M w ok γ) args vs)(hr:∀v∈args,∀j∈v.refs,(look obs j).isSome=true)
    (hsz:args.length<=N)(hng:N<=G):R ⟨w,ok,N,LentB γ obs,fun _ _=>False,0,false,gn,nod⟩ (St.of (ghS gn++slotsM γ 0 args) obs) { tmps:=vs.toArray++Array.replicate (N-vs.toArray.size) undef,defers:=[] } w:=by
  have hl:=h.length
  have hlt:∀b,LentB γ obs b->b<w.heap.size:=fun b ⟨i,o,h1,h2⟩=>(zaC (ho.objs i o h1) h2).2.1
  have hundef:(vs.toArray++Array.replicate (N-vs.toArray.size) undef).getD G undef=undef:=by
    rw [qP,jaj (by simp;omega)];rfl
  have lk:∀t,(∃m,t=G/\look (ghS gn++slotsM γ 0 args) t=some (.gho m)/\gn=m)\/look (ghS gn++slotsM γ 0 args) t=look (slotsM γ 0 args) t:=fun t=>by
    cases gn with
    |none=>exact .inr rfl
    |some n=>
     show _\/look ((G,AV.gho (some n))::slotsM γ 0 args) t=_
     rw [zbe]
     by_cases e:t=G
     · subst e;exact .inl ⟨some n,rfl,(zbe (some n) _ _).trans (kH rfl),rfl⟩
     rw [kG e];exact .inr rfl
  refine⟨γ,?_⟩
  exact { defers:=⟨fun _=>rfl,[],rfl,jaf,fun D hD=>by cases hD⟩
          size:=by simp;omega
          okA:=fun b hb=>⟨hok b hb,fun ⟨i,o,h1,h2⟩=>ho.out i o b h1 h2 hb⟩
          lent:=hlt
          below:=⟨rfl,rfl,rfl,fun _=>jE _,jE _,fun _ _ _=>rfl⟩
          hold:=fun k o hk=>hk.elim
          least:=jF _
          objs:=fun i o hi=>(ho.objs i o hi).reO rfl (fun _ _ _ _ _ _=>rfl) (fun b hb=> .inr ⟨i,o,hi,hb⟩) fun b hb=> .inl hb
          refs:=ho.refs
          sep:=ho.sep
          slots:=fun t=>by
            show M w _ _ ((look (ghS gn++slotsM γ 0 args) t).getD .any) _
            rcases lk t with⟨m,e1,e2,e3⟩|e
            · rw [e2];subst e1;exact hundef
            rw [e]
            cases hx:look (slotsM γ 0 args) t with
            |none=>exact trivial
            |some x=>
             obtain⟨j,u,v,g1,g2,g3,g4,g5⟩:=zdy args vs 0 t h x hx
             obtain rfl:t=j:=by omega
             rw [zbp g2]
             subst g4
             exact(ztJ g5).keep (fun b hb=>⟨.inl hb,rfl⟩) fun _ _=>rfl
          ng:=hng
          gho:=fun m hm=>by
            have hm':(look (ghS gn++slotsM γ 0 args) G).getD .any= .gho m:=hm
            rcases lk G with⟨m',e1,e2,e3⟩|e
            · rw [e2]at hm';cases hm';exact e3
            exfalso
            rw [e]at hm'
            cases hx:look (slotsM γ 0 args) G with
            |none=>rw [hx]at hm';cases hm'
            |some x=>
             obtain⟨j,u,v,g1,g2,g3,g4,g5⟩:=zdy args vs 0 G h x hx
             have:j<args.length:=(kC.1 g3).1
             omega
          srefs:=fun t j hj=>by
            have hj':j∈((look (ghS gn++slotsM γ 0 args) t).getD .any).refs:=hj
            rcases lk t with⟨m',e1,e2,e3⟩|e
            · rw [e2]at hj';cases hj'
            rw [e]at hj'
            cases hx:look (slotsM γ 0 args) t with
            |none=>rw [hx]at hj';cases hj'
            |some x=>
             obtain⟨j2,u,v,g1,g2,g3,g4,g5⟩:=zdy args vs 0 t h x hx
             rw [hx]at hj'
             subst g4
             rw [show(Option.some (pinA γ v)).getD .any=pinA γ v from rfl,zlA]at hj'
             exact hr v (kZ g3) j hj' }
theorem zn2{args:List AV}{vs:List Value}{w:World}{ok:Nat->Prop}{N:Nat}{γ:Nat->Value}{obs:List (Nat×Ob)}(hok:∀b,ok b->b<w.heap.size)(ho:OwnS w ok γ obs)(h:All2 (M w ok γ) args vs)(hr:∀v∈args,∀j∈v.refs,(look obs j).isSome=true)
  (hsz:args.length<=N)(hng:N<=G):R (cxM w ok N γ obs) (St.of (slotsM γ 0 args) obs) { tmps:=vs.toArray++Array.replicate (N-vs.toArray.size) undef,defers:=[] } w:=ziR none false hok ho h hr hsz hng
def pinsM(γ:Nat->Value):List (Nat×Nat)->List (Nat×AV)
 | []=>[]
 |(t,i)::r=>(t,.pbox i (γ i))::pinsM γ r
def retSl:List Nat->List V1->List (Nat×AV)
 |t::ts,x::xs=>(t,avOf x)::retSl ts xs
 | _,_=>[]
def retM(ts:List Nat)(res:List V1)(γ:Nat->Value)(pins:List (Nat×Nat))(obs':List (Nat×Ob)):KK:=fun e s=>match e with
 | .normal=>Weak s (pinsM γ pins++retSl ts res) obs'
 | .ret=>Weak s (pinsM γ pins++retSl ts res) obs'
 | _=>False
theorem zdU{cx:Cx}{γ:Nat->Value}{s:St}{a:Act}{w:World}(h:RG cx γ s a w):∀{ts:List Nat}{res:List V1},ts.length=res.length->(∀t x,(t,avOf x)∈retSl ts res->s.sl t=avOf x)->All2 (Rep1 w (okOf cx s γ w)) res (ts.map fun t=>a.tmps.getD t undef)
 | [],[],_,_=>.nil
 |t::ts,x::xs,hl,hs=>.cons (by
  have:=h.slots t
  rw[hs t x (jar ..)]at this
  exact zd9.1 this) (zdU h (by simpa using hl) fun t x hx=>hs t x (jav _ hx))
 | [],_::_,hl,_=>by cases hl
 | _::_,[],hl,_=>by cases hl
theorem zdz{P:Program}{a:Act}{w:World}:∀ts:List Nat,((ts.map ResultVar.tmp).mapM (m:=Sem) fun| .tmp t=>pure (a.tmps.getD t undef)| .cell x t=>do loadVar t (← asAddr (a.tmps.getD x undef))).run P w= .ok (ts.map fun t=>a.tmps.getD t undef) w
 | []=>by simp
 |t::ts=>by
  rw[kY,jbC]
  simp only[Sem.run_bind,Sem.run_pure,zdz ts]
  rfl
theorem zbz{α:Type}:∀{l m:List (Nat×α)}{t:Nat}{x:α},(t,x)∈m->((l++m).map Prod.fst).Nodup->look (l++m) t=some x
 | [],(t',y)::m,t,x,h,hn=>by
  show look ((t',y)::m) t=some x
  rw[List.nil_append,kY,wI]at hn
  simp only[look]
  rcases qC.1 h with h|h
  ·cases h;rw[zay];rfl
  ·have:t≠t':=fun e=>hn.1 (kJ.2 ⟨(t,x),h,e⟩)
   rw[zho this]
   exact zbz (l:=[]) h hn.2
 |(t',y)::l,m,t,x,h,hn=>by
  show look ((t',y)::(l++m)) t=some x
  rw[List.cons_append,kY,wI]at hn
  simp only[look]
  have:t≠t':=fun e=>hn.1 (kJ.2 ⟨(t,x),List.mem_append_right _ h,e⟩)
  rw[zho this]
  exact zbz h hn.2
theorem zel{γ:Nat->Value}:∀pins:List (Nat×Nat),(pinsM γ pins).map Prod.fst=pins.map Prod.fst
 | []=>rfl
 |(t,i)::r=>by simp only[pinsM,kY,zel r]
theorem zbZ:∀{ts:List Nat}{res:List V1},ts.length=res.length->(retSl ts res).map Prod.fst=ts
 | [],[],_=>rfl
 |t::ts,x::xs,h=>by simp only[retSl,kY,zbZ (ts:=ts) (res:=xs) (by simpa using h)]
 | [],_::_,h=>by cases h
 | _::_,[],h=>by cases h
theorem zc5{γ:Nat->Value}:∀{pins:List (Nat×Nat)}{t i:Nat},(t,i)∈pins->(pins.map Prod.fst).Nodup->look (pinsM γ pins) t=some (.pbox i (γ i))
 | [],_,_,h,_=>by cases h
 |(t',i')::r,t,i,h,hn=>by
  rw[kY,wI]at hn
  simp only[pinsM,look]
  rcases qC.1 h with h|h
  ·cases h;rw[zay];rfl
  have:t≠t':=fun e=>hn.1 (kJ.2 ⟨(t,i),h,e⟩)
  rw[zho this]
  exact zc5 h hn.2
theorem znK{P:Program}{T:TT}{E:Env}(hT:∀t i,T t=some i->TI.of P t=some i)(hE:∀t,E.eq t=true->EqFact P t)(hm:P.follows .mixedOrders=true)
  {f:FuncId}{fn:Func}{c:Code}(hf:P.funcs[f]?=some fn)(hb:fn.body=some c)(hn:(fn.name== "runtime.NumGoroutine")=false)(hN:codeN fn.ntmps c=true)
  {args:List AV}{obs obs':List (Nat×Ob)}(ts:List Nat)(hts:fn.results.toList=ts.map ResultVar.tmp)(pins:List (Nat×Nat)){res:List V1}(hlr:ts.length=res.length)(hr:∀v∈args,∀j∈v.refs,(look obs j).isSome=true)(hpn:(pins.map Prod.fst++ts).Nodup)(hsz:args.length<=fn.ntmps)(hng:fn.ntmps<=G)
  (h:∀γ,awp P T E c (St.of (slotsM γ 0 args) obs) (retM ts res γ pins obs')):SpecM P f args obs obs' (pins.map Prod.snd) res:=
 ⟨⟨fn,hf,hn,by rw [hb];rfl⟩,fun w ok γ vs hok ho hm2=>zh6 hT hE hm hf hb hN (cx:=cxM w ok fn.ntmps γ obs) (fun e=>by cases e) rfl rfl rfl (fun _ _=>id) (zn2 hok ho hm2 hr hsz hng) (h γ)
  (fun x h1 h2 s h=>by cases x<;>first|exact h1 rfl|exact h2 rfl|exact h) fun x s a w' hx hk hR _=>by
  have k2:Weak s (pinsM γ pins++retSl ts res) obs':=by rcases hx with rfl|rfl<;>exact hk
  obtain⟨γ',hg⟩:=hR.weak k2
  have hlt:∀b,LentB γ obs b->b<w.heap.size:=fun b ⟨i,o,h1,h2⟩=>(zaC (ho.objs i o h1) h2).2.1
  have hnd:((pinsM γ pins++retSl ts res).map Prod.fst).Nodup:=by rw [jT,zel,zbZ hlr];exact hpn
  have hsl:∀t v,look (pinsM γ pins++retSl ts res) t=some v->(St.of (pinsM γ pins++retSl ts res) obs').sl t=v:=fun t v e=>by
   show(look (pinsM γ pins++retSl ts res) t).getD .any=_
   rw [e];rfl
  have hrun:=zaQ (P:=P) (fn:=fn) (a:=a) (w:=w') (vs:=ts.map fun t=>a.tmps.getD t undef) (by rw [hts];exact zdz ts)
  have hres:=zdU hg hlr fun t x hx=>hsl t _ (zbz hx hnd)
  have hok2:∀b,okOf (cxM w ok fn.ntmps γ obs) (St.of (pinsM γ pins++retSl ts res) obs') γ' w' b->okM w w' ok γ γ' obs obs' b:=fun b hb=>by
   rcases hb with hb|⟨h1,h2,h3⟩
   ·exact .inl hb
   exact .inr ⟨h1,h2,fun ⟨j,p,g1,g2⟩=>h3 j p g1 g2⟩
  refine⟨_,hrun,_,γ',rfl,⟨hg.below.os,hg.below.tape,hg.below.output,hg.below.size,fun k hk hl=>hg.below.block k hk hl⟩,fun i hi=> ?_,⟨fun i o hi=> ?_,hg.refs,hg.sep,fun i o b hi hb hok'=> ?_⟩,fun i o b hi hb=>(zax hg hi hb).1,?_⟩
  ·obtain⟨⟨t,i'⟩,hp,rfl⟩:=kJ.1 hi
   have hs2:=hg.slots t
   have e:(St.of (pinsM γ pins++retSl ts res) obs').sl t= .pbox i' (γ i'):=by
    have h5:=zc5 (γ:=γ) hp (jbg.1 hpn).1
    refine hsl t _ ?_
    rw [zap,h5,ja8]
   rw [e]at hs2
   obtain⟨⟨b,e1,e2⟩,e3⟩:=hs2
   show γ' i'=γ i'
   rw [e1,<- e3,e2]
  ·exact(hg.objs i o hi).reO rfl (fun _ _ _ _ _ _=>rfl) (fun _ _=>trivial) hok2
  ·rcases hok' with h1|⟨_,_,h3⟩
   ·exact zeB hg (zax hg hi hb).1 h1
   exact h3 ⟨i,o,hi,hb⟩
  have h6:All2 (Rep1 w' (okM w w' ok γ γ' obs obs')) res (ts.map fun t=>a.tmps.getD t undef):=hres.imp fun x u _ hr=>by
   cases x with
   |d x=>exact Rep.keep (fun b hb=>⟨hok2 b hb,rfl⟩) hr
   |agg xs=>obtain⟨us,e,h⟩:=hr;exact⟨us,e,h.imp fun _ _ _=>Rep.keep fun b hb=>⟨hok2 b hb,rfl⟩⟩
  generalize ts.map (fun t=>a.tmps.getD t undef)=us at h6
  match res,us,h6 with
  | [],[],_=>exact⟨[],rfl,.nil⟩
  | [x],[v],.cons h _=>exact h
  |x::y::r,v::u::q,h2=>exact⟨_,rfl,h2⟩⟩
def retYM(ts:List Nat)(res resF:List V1)(γ:Nat->Value)(pins:List (Nat×Nat))(n:Nat)(obs':List (Nat×Ob)):KK:=fun e s=>
 let fin:Prop:=Weak s ((G,.gho (some n))::(pinsM γ pins++retSl ts res)) obs'\/Weak s ((G,.gho none)::retSl ts resF) []
 match e with
 | .normal=>fin
 | .ret=>fin
 | _=>False
theorem KpK.refl{B:Nat->Prop}{Q:Nat->Nat->Prop}{K:Nat->Prop}{w:World}:KpK B Q K w w:=⟨jE _,fun _ h=>.inl h,fun _ _ h _ _ _=>h⟩
theorem zdV{w:World}{ok:Nat->Prop}{res:List V1}{us:List Value}(h:All2 (Rep1 w ok) res us):ResRep w ok res (packR us):=by
 match res,us,h with
 | [],[],_=>exact⟨[],rfl,.nil⟩
 | [x],[v],.cons h _=>exact h
 |x::y::r,v::u::q,h2=>exact⟨_,rfl,h2⟩
theorem ziE{P:Program}{T:TT}(hT:∀t i,T t=some i->TI.of P t=some i){eq:Nat->Bool}(hE:∀t,eq t=true->EqFact P t)(hm:P.follows .mixedOrders=true)
  {f:FuncId}{fn:Func}{c:Code}(hf:P.funcs[f]?=some fn)(hb:fn.body=some c)(hn:(fn.name== "runtime.NumGoroutine")=false)(hN:codeN fn.ntmps c=true)(hng:fn.ntmps<=G)
  {ys:List (List V1)}{n m:Nat}(args:Nat->List AV){obs obs':Nat->List (Nat×Ob)}(ts:List Nat)(hts:fn.results.toList=ts.map ResultVar.tmp)(pins:List (Nat×Nat)){res resF:List V1}(hlr:ts.length=res.length)(hlF:ts.length=resF.length)(hfl:resF.all V1.flat=true)
  (hr:∀l,∀v∈args l,∀j∈v.refs,(look (obs l) j).isSome=true)(hpn:(G::(pins.map Prod.fst++ts)).Nodup)(hsz:∀l,(args l).length<=fn.ntmps){yd:Nat->List V1->Prop}(hyd:∀k vs,yd k vs↔ys[k]?=some vs)(cut:Nat->Bool){K:Nat->(Nat->Value)->KK}(hK:∀l γ e s,K l γ e s->retYM ts res resF γ pins (n+m) (obs' l) e s)
  (h:∀l γ,awp P T ⟨eq,false,l,yd,true,cut⟩ c (St.of ((G,.gho (some n))::slotsM γ 0 (args l)) (obs l)) (K l γ)):SpecY P f ys n m args obs obs' (pins.map Prod.snd) res resF:=by
 refine⟨⟨fn,hf,hn,by rw [hb];rfl⟩,hfl,fun Y w ok pub γ vs hok ho hm2 hat=> ?_⟩
 have hcx:FamY Y fn.ntmps w ok pub (LentB γ (obs Y.l)) ⟨w,ok,fn.ntmps,LentB γ (obs Y.l),fun _ _=>False,0,false,some n,true⟩:=⟨rfl,rfl,rfl,rfl,⟨pub,hat,fun b hb=> .inl hb⟩,KpK.refl,fun _ h=>h,fun _ h=> .inl h,fun _ h=> .inl h⟩
 refine callsIn_wide.1 (callsIn_of_wp_marks (F:=Fence.wide) (n:=0) hf hb trivial ?_)
 refine zb5 (Fm:=FamY Y fn.ntmps w ok pub (LentB γ (obs Y.l))) (N:=fn.ntmps) hT hE (fun c hc=>hc.1) (fun c hc hd=>by rw [hc.2.2.1]at hd;cases hd) (.inr ⟨ys,Y,_,w,ok,pub,_,hyd,rfl,rfl⟩) (.inl rfl) (fun _ _ _=>rfl) (fun c hc=> .inl rfl) hm c hN (fun x s a w' hR hk=> ?_) ⟨_,hcx,ziR (some n) true hok ho hm2 (hr Y.l) (hsz Y.l) hng⟩ (h Y.l γ)
 have hk:=hK _ _ _ _ hk
 have fin:(Weak s ((G,.gho (some (n+m)))::(pinsM γ pins++retSl ts res)) (obs' Y.l)\/Weak s ((G,.gho none)::retSl ts resF) [])->LeavesInM Fence.wide 0 P fn a.tmps (fun en w'=>∃r,en= .returned r/\((∃γ' okc pubc,YEnd Y (n+m) w w' ok pub γ γ' (obs Y.l) (obs' Y.l) (pins.map Prod.snd) okc pubc/\ResRep w' okc res r)\/(ResRep w' (fun _=>False) resF r/\Y.Jx w'))) a.defers .returning w':=fun hk=>by
  obtain⟨cx',hc',γ1,hg⟩:=hR
  rw [hg.defers.1 hc'.2.2.2.1]
  have hrun:=zaQ (P:=P) (fn:=fn) (a:=a) (w:=w') (vs:=ts.map fun t=>a.tmps.getD t undef) (by rw [hts];exact zdz ts)
  refine⟨_,hrun,_,rfl,?_⟩
  rcases hk with hw|hw
  ·obtain⟨γ',hg',-⟩:=hg.weakL hw
   have hnd:(((G,AV.gho (some (n+m)))::pinsM γ pins++retSl ts res).map Prod.fst).Nodup:=by rw [jT,kY,zel,zbZ hlr];exact hpn
   have hsl:∀t v,look ((G,AV.gho (some (n+m)))::(pinsM γ pins++retSl ts res)) t=some v->(St.of ((G,AV.gho (some (n+m)))::(pinsM γ pins++retSl ts res)) (obs' Y.l)).sl t=v:=fun t v e=>by
    show(look ((G,AV.gho (some (n+m)))::(pinsM γ pins++retSl ts res)) t).getD .any=_
    rw [e];rfl
   have hgn:=hg'.gho (some (n+m)) (hsl G _ (by simp only [look,zay];rfl))
   obtain⟨pubc,a1,a2,a3,a4,a5,a6⟩:=hc'.here hgn hg'
   have hres:=zdU hg' hlr fun t x hx=>hsl t _ (zbz (l:=(G,AV.gho (some (n+m)))::pinsM γ pins) hx hnd)
   refine .inl ⟨γ',_,pubc,⟨a3,fun i hi=> ?_,⟨fun i o hi=>(hg'.objs i o hi).reO rfl (fun _ _ _ _ _ _=>rfl) (fun _ _=>trivial) fun _ h=>h,hg'.refs,hg'.sep,fun i o b hi hb hok'=>zck hg' hok' hi hb⟩,fun i o b hi hb=>(a6 b ⟨i,o,hi,hb⟩).symm,a1,a2,a4,fun b hb=>⟨a5 b hb,zal hg' hb⟩⟩,zdV hres⟩
   obtain⟨⟨t,i'⟩,hp,rfl⟩:=kJ.1 hi
   have hs2:=hg'.slots t
   have hnd2:(pins.map Prod.fst).Nodup:=(jbg.1 (wI.1 hpn).2).1
   have hne:t≠G:=fun e=>(wI.1 hpn).1 (qV _ (kJ.2 ⟨_,hp,e⟩))
   have e:(St.of ((G,AV.gho (some (n+m)))::(pinsM γ pins++retSl ts res)) (obs' Y.l)).sl t= .pbox i' (γ i'):=by
    have h5:=zc5 (γ:=γ) hp hnd2
    refine hsl t _ ?_
    rw [zbe,kG hne,zap,h5,ja8]
   rw [e]at hs2
   obtain⟨⟨b,e1,e2⟩,e3⟩:=hs2
   show γ' i'=γ i'
   rw [e1,<- e3,e2]
  obtain⟨γ',hg',-⟩:=hg.weakL hw
  have hnd:(([(G,AV.gho none)]++retSl ts resF).map Prod.fst).Nodup:=by
   rw [jT,zbZ hlF]
   obtain⟨h1,h2⟩:=wI.1 hpn
   exact wI.2 ⟨fun e=>h1 (List.mem_append_right _ e),(jbg.1 h2).2.1⟩
  have hsl:∀t v,look ((G,AV.gho none)::retSl ts resF) t=some v->(St.of ((G,AV.gho none)::retSl ts resF) []).sl t=v:=fun t v e=>by
   show(look ((G,AV.gho none)::retSl ts resF) t).getD .any=_
   rw [e];rfl
  have hgn:=hg'.gho none (hsl G _ (by simp only [look,zay];rfl))
  have hres:=zdU hg' hlF fun t x hx=>hsl t _ (zbz (l:=[(G,AV.gho none)]) hx hnd)
  obtain⟨_,_,_,_,h5⟩:=hc'
  rw [hgn]at h5
  refine .inr ⟨zdV (hres.imp fun x u hx hr=>Rep1.flat (jC.1 hfl x hx) hr),Y.hJx _ _ h5.2 ?_⟩
  have:=zng hg'.below
  rw [h5.1]at this
  exact this
 cases x with
 |normal=>exact fin hk
 |ret=>exact fin hk
 | _=>exact hk.elim
def retY(len:Nat):KK:=fun x s=>
 let fin:Prop:=s.sl G= .gho (some len)\/s.sl G= .gho none
 match x with
 | .normal=>fin
 | .ret=>fin
 | _=>False
def SeqC(P:Program)(g:FuncId)(m:Nat)(cap:Nat->D){τ:Type}(enc:τ->List V1)(xs:List τ):Prop:=
 SpecY P g (xs.map enc) 0 xs.length (fun l=>.yl l::(List.range m).map fun j=>avOf (.d (cap j))) (fun _=>[]) (fun _=>[]) [] [] []
theorem zdT{γ:Nat->Value}:∀(xs:List V1) (i:Nat),slotsM γ i (xs.map avOf)=argSlots i xs
 | [],_=>rfl
 |x::r,i=>by
  show(i,pinA γ (avOf x))::slotsM γ (i+1) (r.map avOf)=(i,avOf x)::argSlots (i+1) r
  rw[zdT r (i+1)]
  congr 2
  cases x with
  |d y=>cases y<;>rfl
  |agg y=>rfl
theorem zqZ{P:Program}{T:TT}(hT:∀t i,T t=some i->TI.of P t=some i){eq:Nat->Bool}(hE:∀t,eq t=true->EqFact P t)(hm:P.follows .mixedOrders=true)
  {f:FuncId}{fn:Func}{c:Code}(hf:P.funcs[f]?=some fn)(hb:fn.body=some c)(hn:(fn.name== "runtime.NumGoroutine")=false)(hN:codeN fn.ntmps c=true)(hres:fn.results.toList=[])(hng:fn.ntmps<=G)
  {m:Nat}{cap:Nat->D}(hsz:m+1<=fn.ntmps){τ:Type}(enc:τ->List V1)(xs:List τ)(cut:Nat->Bool)
  (h:∀l,awp P T ⟨eq,false,l,fun n vs=>∃x,xs[n]?=some x/\vs=enc x,true,cut⟩ c (St.of ((G,.gho (some 0))::(0,.yl l)::argSlots 1 ((List.range m).map fun j=> .d (cap j))) []) (retY xs.length)):SeqC P f m cap enc xs:=by
 have hw:∀{s:St}{q:Option Nat},s.sl G= .gho q->Weak s [(G,.gho q)] []:=fun {s q} e=>⟨rfl,trivial,by
  show AVle s _ (s.sl G) (.gho q)
  rw [e];exact za3 _ _ _,trivial⟩
 refine ziE (pins:=[]) (ts:=[]) (yd:=fun n vs=>∃x,xs[n]?=some x/\vs=enc x) (cut:=cut) (K:=fun _ _=>retY xs.length) hT hE hm hf hb hn hN hng _ hres rfl rfl rfl (fun l v hv j hj=> ?_) (wI.2 ⟨jam,jaf⟩) (fun l=>by simpa using hsz) (fun k vs=> ?_) (fun l γ e s hk=> ?_) fun l γ=> ?_
 ·rcases qC.1 hv with rfl|hv
  ·cases hj
  obtain⟨q,_,rfl⟩:=kJ.1 hv
  rw [zbC]at hj;cases hj
 ·rw [jU]
  constructor
  ·rintro⟨x,h1,rfl⟩;rw [h1];rfl
  intro h1
  cases h2:xs[k]? with
  |none=>rw [h2]at h1;cases h1
  |some x=>rw [h2]at h1;exact⟨x,rfl,(jak h1).symm⟩
 ·have fin:(s.sl G= .gho (some xs.length)\/s.sl G= .gho none)->Weak s ((G,.gho (some (0+xs.length)))::(pinsM γ []++retSl [] [])) []\/Weak s ((G,.gho none)::retSl [] []) []:=fun hk=>by
   rw [qB]
   exact hk.imp hw hw
  cases e with
  |normal=>exact fin hk
  |ret=>exact fin hk
  | _=>exact hk.elim
 have:=h l
 rw [<- zdT (γ:=γ),jbb]at this
 exact this
def slK:AV->Bool
 | .box _ o=>Nat.beq o 0
 | .d _=>true
 | .agg _=>true
 | .tup _=>true
 | .nilsl=>true
 | .roe ..=>true
 | .any=>true
 | _=>false
def okSl(sl:List (Nat×AV)):Bool:=sl.all fun p=>slK p.2
def pin1(v:Value):AV->AV
 | .box i _=>.pbox i v
 |x=>x
def pinS(v:Nat->Value):List (Nat×AV)->List (Nat×AV)
 | []=>[]
 |(t,x)::r=>(t,pin1 (v t) x)::pinS v r
theorem zdE(v:Nat->Value):∀(sl:List (Nat×AV)) (t:Nat),look (pinS v sl) t=(look sl t).map (pin1 (v t))
 | [],_=>rfl
 |(i,x)::r,t=>by
  simp only[pinS,look]
  cases h:Nat.beq t i with
  |true=>have:=jA h;subst this;rfl
  |false=>exact zdE v r t
def hasBox(sl:List (Nat×AV))(i:Nat):Bool:=sl.any fun p=>match look sl p.1 with|some (.box j 0)=>Nat.beq j i| _=>false
def ownAt(ob:List (Nat×Ob))(i c:Nat):Option Nat:=match look ob i with
 |some (.box cs)=>match nth cs c with
  |some (.own j)=>some j
  | _=>none
 | _=>none
def okOb(sl:List (Nat×AV))(rc:List (Nat×Nat))(ob:List (Nat×Ob)):Bool:=
 (ob.all fun p=>match p.2 with
  | .box _=>hasBox sl p.1
  | .row ..=>(rc.any fun q=>match ownAt ob q.1 q.2 with|some j=>Nat.beq j p.1&&hasBox sl q.1|none=>false)
  | .mp ..=>false)&&
 (rc.all fun q=>match ownAt ob q.1 q.2 with|some _=>true|none=>false)
def Bs(sl:List (Nat×AV))(a:Act)(b:Nat):Prop:=∃t i,look sl t=some (.box i 0)/\a.tmps.getD t undef= .pointer (some ⟨b,0,none⟩)
def Qs(sl:List (Nat×AV))(rc:List (Nat×Nat))(a:Act)(b c:Nat):Prop:=∃t i,look sl t=some (.box i 0)/\a.tmps.getD t undef= .pointer (some ⟨b,0,none⟩)/\(i,c)∈rc
theorem zeg{sl:List (Nat×AV)}{i:Nat}(h:hasBox sl i=true):∃t,look sl t=some (.box i 0):=by
 obtain⟨p,_,hp⟩:=kM.1 h
 split at hp
 ·rename_i j hj
  have:=jA hp
  subst this
  exact⟨_,hj⟩
 cases hp
section
variable {cx:Cx}{γ:Nat->Value}{a:Act}{w:World}{sl:List (Nat×AV)}{rc:List (Nat×Nat)}{ob:List (Nat×Ob)}
theorem zks(h:RG cx γ (St.of sl ob) a w){t i:Nat}(ht:look sl t=some (.box i 0)):∃b,γ i= .pointer (some ⟨b,0,none⟩)/\Bs sl a b/\a.tmps.getD t undef= .pointer (some ⟨b,0,none⟩):=by
 have hm:=h.slots t
 rw[show(St.of sl ob).sl t=(look sl t).getD .any from rfl,ht]at hm
 obtain⟨b,h1,h2⟩:=hm
 exact⟨b,h1,⟨t,i,ht,h2⟩,h2⟩
theorem no_mp(hok:okOb sl rc ob=true):∀i m ks f,(St.of sl ob).ob i≠some (.mp m ks f):=fun i m ks f hi=>by
 simp only[okOb,jP]at hok
 have h1:=jC.1 hok.1 (i,.mp m ks f) (zak hi)
 cases h1
theorem zjI(h:RG cx γ (St.of sl ob) a w)(hok:okOb sl rc ob=true){i:Nat}{p:Ob}(hi:(St.of sl ob).ob i=some p){b:Nat}(e:blk (γ i)=some b):∃cs T x,w.heap[b]?=some (.cells cs T x):=by
 cases p with
 |mp m ks f=>exact(no_mp hok i _ _ _ hi).elim
 |box cs=>
  obtain⟨b',vs,T,h1,h2,h3,_⟩:=h.objs i _ hi
  rw[h1]at e;simp[blk]at e;subst e
  exact⟨_,_,_,h3⟩
 |row e' k n f=>
 obtain⟨xs,h1,_⟩:=h.objs i _ hi
 rcases h1.2 with⟨h2,_⟩|⟨g,cap,cur,h2,_,h4,_⟩
 ·rw[h2]at e;simp[blk]at e
 rw[h2]at e;simp[blk]at e;subst e
 exact⟨_,_,_,h4⟩
theorem zrE(h:RG cx γ (St.of sl ob) a w)(hok:okOb sl rc ob=true){i:Nat}{o:Ob}(hi:look ob i=some o){k:Nat}(hk:blk (γ i)=some k):Ow (Bs sl a) (Qs sl rc a) w k:=by
 simp only[okOb,jP]at hok
 have h1:=jC.1 hok.1 (i,o) (zak hi)
 cases o with
 |box cs=>
  obtain⟨t,ht⟩:=zeg h1
  obtain⟨b,hb,hbs,_⟩:=zks h ht
  rw[hb]at hk;simp[blk]at hk;subst hk
  exact .inl hbs
 |mp m ks f=>cases h1
 |row e k' n f=>
 obtain⟨⟨i',c⟩,hq,hp⟩:=kM.1 h1
 simp only at hp
 cases ho:ownAt ob i' c with
 |none=>simp[ho]at hp
 |some j=>
 simp only[ho,jP]at hp
 have:=jA hp.1
 subst this
 obtain⟨t,ht⟩:=zeg hp.2
 obtain⟨b,hb,hbs,hbt⟩:=zks h ht
 unfold ownAt at ho
 cases hl:look ob i' with
 |none=>simp[hl]at ho
 |some o'=>
 cases o' with
 |row e2 k2 n2 f2=>simp[hl]at ho
 |mp m ks f=>simp[hl]at ho
 |box cs=>
 simp only[hl]at ho
 cases hn:nth cs c with
 |none=>simp[hn]at ho
 |some v=>
 cases v with
 |own j'=>
  simp only[hn,jO]at ho;subst ho
  obtain⟨b',vs,T,g1,g2,g3,g4⟩:=h.objs i' _ hl
  rw[hb]at g1
  obtain rfl:b=b':=by simpa using g1
  rw[zau]at hn
  obtain⟨u,hu,hm,_⟩:=g4.get c _ hn
  refine .inr ⟨b,c,u,hbs,⟨t,i',ht,hbt,hq⟩,?_,?_⟩
  ·simp[World.cell?,g3,hu]
  ·rw[show u=γ j' from hm];exact hk
 | _=>simp[hn]at ho
theorem zlH(h:RG cx γ (St.of sl ob) a w)(hok:okOb sl rc ob=true)(hsr:∀t i,look sl t=some (.box i 0)->∃cs,look ob i=some (.box cs)){k:Nat}(hk:Ow (Bs sl a) (Qs sl rc a) w k):∃i o,look ob i=some o/\blk (γ i)=some k:=by
 rcases hk with⟨t,i,ht,hb⟩|⟨b,c,v,_,⟨t,i,ht,hb,hq⟩,hc,hv⟩
 ·obtain⟨b,h1,_,h2⟩:=zks h ht
  obtain⟨cs,hcs⟩:=hsr t i ht
  rw[hb]at h2
  refine⟨i,_,hcs,?_⟩
  rw[h1];simp only[blk];simpa using h2.symm
 obtain⟨b',h1,_,h2⟩:=zks h ht
 rw[hb]at h2
 obtain rfl:b=b':=by simpa using h2
 simp only[okOb,jP]at hok
 have h3:=jC.1 hok.2 (i,c) hq
 simp only at h3
 cases ho:ownAt ob i c with
 |none=>simp[ho]at h3
 |some j=>
 unfold ownAt at ho
 cases hl:look ob i with
 |none=>simp[hl]at ho
 |some o'=>
 cases o' with
 |row e2 k2 n2 f2=>simp[hl]at ho
 |mp m ks f=>simp[hl]at ho
 |box cs=>
 simp only[hl]at ho
 cases hn:nth cs c with
 |none=>simp[hn]at ho
 |some av=>
 cases av with
 |own j'=>
  simp only[hn,jO]at ho;subst ho
  obtain⟨b',vs,T,g1,g2,g3,g4⟩:=h.objs i _ hl
  rw[h1]at g1
  obtain rfl:b=b':=by simpa using g1
  have hn':=hn
  rw[zau]at hn
  obtain⟨u,hu,hm,_⟩:=g4.get c _ hn
  simp only[World.cell?,g3,Option.isSome_none,qT,jaG]at hc
  have:u=v:=by
   have:vs.toArray[c]?=some v:=hc
   simp only[List.getElem?_toArray]at this
   rw[this]at hu;exact(jak hu).symm
  subst this
  have hj:=h.refs i cs hl (.own j') (kZ hn) j' (by simp[AV.refs])
  obtain⟨o,ho⟩:=wA.1 hj
  exact⟨j',o,ho,by rw[<- show u=γ j' from hm];exact hv⟩
 | _=>simp[hn]at ho
theorem znc(h:RG cx γ (St.of sl ob) a w){t i:Nat}(ht:look sl t=some (.box i 0)):∃cs,look ob i=some (.box cs):=by
 have hs:=h.srefs t i (by rw[show(St.of sl ob).sl t=(look sl t).getD .any from rfl,ht];simp[AV.refs])
 obtain⟨o,ho⟩:=wA.1 hs
 cases o with
 |box cs=>exact⟨cs,ho⟩
 |mp m ks f=>
  exfalso
  obtain⟨b,h1,_⟩:=zks h ht
  obtain⟨b',es,c,h2,_⟩:=h.objs i _ ho
  rw[h1]at h2;cases h2
 |row e k n f=>
 exfalso
 obtain⟨b,h1,_⟩:=zks h ht
 obtain⟨xs,h2,_⟩:=h.objs i _ ho
 rw[h1]at h2
 rcases h2.2 with⟨h3,_⟩|⟨g,cap,cur,h3,_⟩<;>cases h3
def Rest(γ:Nat->Value)(ob:List (Nat×Ob))(w:World)(k:Nat)(o:Obj):Prop:=w.heap[k]?=some o/\∀i p,look ob i=some p->blk (γ i)≠some k
theorem RG.round{γ2:Nat->Value}{ob':List (Nat×Ob)}{a2:Act}{w2:World}{cx2:Cx}(hsl:okSl sl=true)(h:RG cx γ (St.of sl ob) a w)(hd:a.defers=[])(h2:RG cx2 γ2 (St.of (pinS (fun t=>a.tmps.getD t undef) sl) ob') a2 w2)
    (e0:cx2.w0=cx.w0)(e1:cx2.okA=cx.okA)(e2:cx2.lent=cx.lent)(e3:cx2.dr=cx.dr)(e4:cx.least<=cx2.least)(hH:∀k o,Rest γ ob w k o->∃o',cx2.hold k o'/\(cm o=true->o'=o))(hH2:∀k o,cx.hold k o->cx2.hold k o):RG cx γ2 (St.of sl ob') a w2:=by
  have hO:cx2.O=cx.O:=by unfold Cx.O;rw [e0,e2]
  have hokOf:∀b,okOf cx2 (St.of (pinS (fun t=>a.tmps.getD t undef) sl) ob') γ2 w2 b->okOf cx (St.of sl ob') γ2 w2 b:=fun b hb=>by
    rcases hb with h1|⟨h1,h3,h4⟩
    · exact .inl (by rw [<- e1];exact h1)
    exact .inr ⟨by rw [<- hO];exact h1,h3,h4⟩
  have hk:∀b,okOf cx (St.of sl ob) γ w b->okOf cx (St.of sl ob') γ2 w2 b/\Kpt w w2 b:=fun b hb=>by
    have hlt:=zal h hb
    have hne:∀i p,look ob i=some p->blk (γ i)≠some b:=fun i p hi=>zck h hb hi
    have ho:w.heap[b]?=some w.heap[b]:=wL hlt
    generalize w.heap[b]=o at ho
    obtain⟨o',ho1,ho2⟩:=hH b o ⟨ho,hne⟩
    have hh:=h2.hold b o' ho1
    refine⟨?_,fun ad u hb' hcell=> ?_,fun es c e=> ?_⟩
    · rcases hb with h1|⟨h1,_,_⟩
      · exact .inl h1
      exact .inr ⟨h1,(jB.1 hh.1).1,hh.2⟩
    · subst hb'
      simp only [World.cell?,ho]at hcell
      cases o with
      |cells c T x=>
       obtain rfl:=ho2 rfl
       rw [World.cell?_of_block (w:=w) (by rw [hh.1,ho])];simp only [World.cell?,ho];exact hcell
      | _=>cases hcell
    rw [ho]at e;cases e
    obtain rfl:=ho2 rfl
    exact hh.1
  exact {
    defers:=⟨fun _=>hd,[],hd,jaf,fun D hD=>by cases hD⟩
    size:=h.size,okA:=h.okA,lent:=h.lent
    below:=by
      have:=h2.below
      exact⟨by rw [<- e0];exact this.os,by rw [<- e0];exact this.tape,by rw [<- e0];exact this.output,by rw [<- e0,<- e3];exact this.drawn,by rw [<- e0];exact this.size,by rw [<- e0,<- e2];exact this.block⟩
    hold:=fun k o hk=>h2.hold k o (hH2 k o hk)
    least:=jM e4 h2.least
    objs:=fun i o hi=>by
      have:=h2.objs i o hi
      rw [hO]at this
      exact this.keep0 (fun b hb=>⟨hokOf b hb,zea rfl⟩) rfl (fun _ _ _ _ _ _=>rfl) fun _ _=>rfl
    refs:=h2.refs,sep:=h2.sep
    slots:=fun t=>by
      show M w2 _ γ2 ((look sl t).getD .any) _
      have h1:=h.slots t
      rw [show(St.of sl ob).sl t=(look sl t).getD .any from rfl]at h1
      have h3:=h2.slots t
      rw [show(St.of (pinS (fun t=>a.tmps.getD t undef) sl) ob').sl t=(look (pinS (fun t=>a.tmps.getD t undef) sl) t).getD .any from rfl,zdE]at h3
      cases hl:look sl t with
      |none=>exact trivial
      |some v=>
       have hK:=jC.1 hsl (t,v) (zak hl)
       rw [hl]at h1 h3
       have keep:v.refs=[]->M w2 (okOf cx (St.of sl ob') γ2 w2) γ2 v (a.tmps.getD t undef):=fun hr=>M.keep0 hk (fun i hi=>by rw [hr]at hi;cases hi) h1
       cases v with
       |box i o=>
        have:=jA hK
        subst this
        obtain⟨⟨b,g1,g2⟩,g3⟩:=h3
        exact⟨b,g1,by rw [<- g3];exact g2⟩
       |d x=>exact keep rfl
       |agg x=>exact keep rfl
       |tup x=>exact keep rfl
       |nilsl=>exact keep rfl
       |roe m g=>exact keep rfl
       |any=>exact trivial
       | _=>cases hK
    srefs:=fun t j hj=>by
      have h3:=h2.srefs t
      rw [show(St.of (pinS (fun t=>a.tmps.getD t undef) sl) ob').sl t=(look (pinS (fun t=>a.tmps.getD t undef) sl) t).getD .any from rfl,zdE]at h3
      have hj':j∈((look sl t).getD .any).refs:=hj
      cases hl:look sl t with
      |none=>rw [hl]at hj';cases hj'
      |some v=>
       rw [hl]at hj' h3
       refine h3 j ?_
       cases v<;>first|exact hj'|cases hj'
    gho:=fun m hm=>by
      exfalso
      have hm':(look sl G).getD .any= .gho m:=hm
      cases hl:look sl G with
      |none=>rw [hl]at hm';cases hm'
      |some v=>
       rw [hl]at hm'
       have hK:=jC.1 hsl (G,v) (zak hl)
       rw [show(some v).getD AV.any=v from rfl]at hm'
       rw [hm']at hK;cases hK
    ng:=h.ng }
end
theorem ziy{F:Fence}(hF:FW F){n m:Nat}{P:Program}{c:Code}{Q:Exit->Act->World->Prop}{a:Act}{w:World}(h:c.wpIn F n P Q a w):c.wpIn F m P Q a w:=
 fun b k cs hro hb _=>h b k cs hro hb (fun d hd=>by rw[hF.depth]at hd;cases hd)
def psl:List Nat->List V1->List (Nat×AV)
 |p::ps,x::xs=>(p,avOf x)::psl ps xs
 | _,_=>[]
theorem ztC{w:World}{ok:Nat->Prop}{γ:Nat->Value}{N:Nat}:∀(ps:List Nat) (xs:List V1) (vs:List Value) (tmps:Array Value),ps.Nodup->(∀p∈ps,p<tmps.size)->ps.length=xs.length->All2 (Rep1 w ok) xs vs->
  ((ps.zip vs).foldl (fun t (p,v)=>t.setIfInBounds p v) tmps).size=tmps.size/\
  (∀t x,look (psl ps xs) t=some x->x.refs=[]/\(∀m,x≠ .gho m)/\M w ok γ x (((ps.zip vs).foldl (fun t (p,v)=>t.setIfInBounds p v) tmps).getD t undef))/\
  (∀t,look (psl ps xs) t=none->((ps.zip vs).foldl (fun t (p,v)=>t.setIfInBounds p v) tmps).getD t undef=tmps.getD t undef)
 | [],[],_,tmps,_,_,_,_=>⟨rfl,(fun t x h=>by cases h),fun t _=>rfl⟩
 |p::ps,x::xs,_,tmps,hnd,hlt,hl,.cons (y:=v) (ys:=vs) h1 h2=>by
  have hp:=hlt p (by simp)
  obtain⟨g1,g2,g3⟩:=ztC (w:=w) (ok:=ok) (γ:=γ) (N:=N) ps xs vs (tmps.setIfInBounds p v) (wI.1 hnd).2 (fun q hq=>by simpa using hlt q (by simp[hq])) (by simpa using hl) h2
  have hno:look (psl ps xs) p=none:=by
   cases hq:look (psl ps xs) p with
   |none=>rfl
   |some y=>
   exfalso
   have:∀(ps:List Nat) (xs:List V1) (t:Nat) (y:AV),look (psl ps xs) t=some y->t∈ps:=by
    intro ps
    induction ps with
    |nil=>intro xs t y h;cases h
    |cons q ps ih=>
    intro xs t y h
    cases xs with
    |nil=>cases h
    |cons z zs=>
    simp only[psl,look]at h
    cases hb:Nat.beq t q with
    |true=>rw[jA hb];exact .head _
    |false=>rw[hb]at h;exact .tail _ (ih _ _ _ h)
   exact(wI.1 hnd).1 (this _ _ _ _ hq)
  refine⟨by simpa using g1,fun t y hy=>?_,fun t ht=>?_⟩
  ·simp only[psl,look]at hy
   cases hb:Nat.beq t p with
   |true=>
    have:=jA hb
    subst this
    rw[hb]at hy;cases hy
    refine⟨zbC x,fun m=>?_,?_⟩
    ·cases x with
     |d z=>cases z<;>simp[avOf]
     |agg z=>simp[avOf]
    ·simp only[List.zip_cons_cons,jaE]
     rw[g3 t hno,qP,Array.getElem?_setIfInBounds_self_of_lt hp]
     exact zd9.2 h1
   |false=>rw[hb]at hy;exact g2 t y hy
  ·simp only[psl,look]at ht
   cases hb:Nat.beq t p with
   |true=>rw[hb]at ht;cases ht
   |false=>
    rw[hb]at ht
    have hne:t≠p:=Nat.ne_of_beq_eq_false hb
    simp only[List.zip_cons_cons,jaE]
    rw[g3 t ht,qP,qP,jbi (fun e=>hne e.symm)]
 | [],_::_,_,_,_,_,hl,_=>by simp at hl
 | _::_,[],_,_,_,_,hl,_=>by simp at hl
def JK(K:KK)(sl:List (Nat×AV))(ob:List (Nat×Ob)):Code->Prop
 | .ret=>K .ret (St.of sl ob)
 | .exit id=>K (.exit id) (St.of sl ob)
 | .goto l=>K (.goto l) (St.of sl ob)
 | _=>False
def Kb(K:KK)(sl:List (Nat×AV))(rc:List (Nat×Nat))(v:Nat->Value){τ:Type}(ob:List τ->List (Nat×Ob))(Iv:List τ->Prop)(pre:List τ)(x:τ):KK:=fun e s=>match e with
 | .normal=>Iv (pre++[x])/\Weak s (pinS v sl) (ob (pre++[x]))
 | .ret=>∃ob',okOb sl rc ob'=true/\Weak s (pinS v sl) ob'/\K .ret (St.of sl ob')
 | .exit id=>∃ob',okOb sl rc ob'=true/\Weak s (pinS v sl) ob'/\K (.exit id) (St.of sl ob')
 | .goto l=>∃ob',okOb sl rc ob'=true/\Weak s (pinS v sl) ob'/\K (.goto l) (St.of sl ob')
 | _=>False
def Ka(P:Program)(T:TT)(E:Env)(K:KK)(sl:List (Nat×AV))(rc:List (Nat×Nat))(v:Nat->Value){τ:Type}(ob:List τ->List (Nat×Ob))(Iv:List τ->Prop)(body:Code)(pre:List τ)(x:τ):KK:=fun e s=>match e with
 | .normal=>awp P T E body s (Kb K sl rc v ob Iv pre x)
 | _=>False
def cellsAt(w:World)(b:Nat):Prop:=∃o,w.heap[b]?=some o/\cm o=true
theorem zfe{w:World}{ad:Addr}{u:Value}(h:w.cell? ad=some u):cellsAt w ad.block:=by
 simp only[World.cell?]at h
 cases ho:w.heap[ad.block]? with
 |none=>rw[ho]at h;cases h
 |some o=>
 cases o with
 |cells c T fr=>exact⟨_,ho,rfl⟩
 | _=>rw[ho]at h;cases h
theorem Rep.cells{w:World}{ok:Nat->Prop}{x:D}:∀{v:Value},Rep w ok x v->Rep w (fun b=>ok b/\cellsAt w b) x v:=by
 induction x with
 |slc k n f ih=>
  intro v h
  rcases h with h|⟨a,cap,hv,h1,h2,h3⟩
  ·exact .inl h
  ·refine .inr ⟨a,cap,hv,h1,h2,fun i hi j hj=>?_⟩
   obtain⟨h4,u,hu,hr⟩:=h3 i hi j hj
   have hc:=zfe hu
   rw[zaK]at hc
   exact⟨⟨h4,hc⟩,u,hu,ih i j hr⟩
 |ptr m g ih=>
  intro v h
  obtain⟨a,hv,h3⟩:=h
  refine⟨a,hv,fun j hj=>?_⟩
  obtain⟨h4,u,hu,hr⟩:=h3 j hj
  have hc:=zfe hu
  rw[zaK]at hc
  exact⟨⟨h4,hc⟩,u,hu,ih j hr⟩
 |clo f m g ih=>
  intro v h
  obtain⟨vs,hv,hl,h3⟩:=h
  refine⟨vs,hv,hl,fun j hj=>?_⟩
  obtain⟨u,hu,hr⟩:=h3 j hj
  exact⟨u,hu,ih j hr⟩
 |ifc f m g ih|bnd f m g ih=>
  intro v h
  obtain⟨vs,hv,hl,h3⟩:=h
  refine⟨vs,hv,hl,fun j hj=>?_⟩
  obtain⟨u,hu,hr⟩:=h3 j hj
  exact⟨u,hu,ih j hr⟩
 |mp m ks f ih=>
  intro v h
  obtain⟨b,es,c,h1,h2,h3,h4,h5⟩:=h
  refine⟨b,es,c,h1,⟨h2,_,h3,rfl⟩,h3,h4,fun j hj=>?_⟩
  obtain⟨e,he,hr⟩:=h5 j hj
  exact⟨e,he,ih j hr⟩
 | _=>exact fun h=>h
theorem Rep1.cells{w:World}{ok:Nat->Prop}{x:V1}{v:Value}(h:Rep1 w ok x v):Rep1 w (fun b=>ok b/\cellsAt w b) x v:=by
 cases x with
 |d x=>exact Rep.cells h
 |agg xs=>obtain⟨vs,hv,h⟩:=h;exact⟨vs,hv,h.imp fun _ _ _=>Rep.cells⟩
theorem CapM.cells{w:World}{ok:Nat->Prop}{γ:Nat->Value}{c:Cap}{v:Value}(h:CapM w ok γ c v):CapM w (fun b=>ok b/\cellsAt w b) γ c v:=by
 cases c with
 |own i=>exact h
 |dat x=>exact Rep.cells h
theorem M.cells{w:World}{ok:Nat->Prop}{γ:Nat->Value}{x:AV}{v:Value}(h:M w ok γ x v):M w (fun b=>ok b/\cellsAt w b) γ x v:=by
 cases x with
 |d x=>exact Rep.cells h
 |agg xs=>obtain⟨vs,hv,h⟩:=h;exact⟨vs,hv,h.imp fun _ _ _=>Rep.cells⟩
 |tup l=>obtain⟨vs,hv,h⟩:=h;exact⟨vs,hv,h.imp fun _ _ _=>Rep1.cells⟩
 |tupo i l=>obtain⟨b,vs,h0,hv,h⟩:=h;exact⟨b,vs,h0,hv,h.imp fun _ _ _=>Rep1.cells⟩
 |tupr i l=>obtain⟨vs,hv,h⟩:=h;exact⟨vs,hv,h.imp fun _ _ _=>Rep1.cells⟩
 |roe m f=>exact Rep.cells (x:=.ptr m f) h
 |clo f caps=>obtain⟨vs,hv,h⟩:=h;exact⟨vs,hv,h.imp fun _ _ _=>CapM.cells⟩
 |aggc caps=>obtain⟨vs,hv,h⟩:=h;exact⟨vs,hv,h.imp fun _ _ _=>CapM.cells⟩
 | _=>exact h
theorem Holds.cells{w:World}{O ok:Nat->Prop}{γ:Nat->Value}{i:Nat}{o:Ob}(h:Holds w O ok γ i o):Holds w O (fun b=>ok b/\cellsAt w b) γ i o:=by
 cases o with
 |box cs=>obtain⟨b,vs,T,h1,h2,h3,h4⟩:=h;exact⟨b,vs,T,h1,h2,h3,h4.imp fun _ _ _ ⟨g1,g2⟩=>⟨g1.cells,g2⟩⟩
 |row e k n f=>
  obtain⟨xs,h1,h2,h3,h4⟩:=h
  exact⟨xs,h1,h2,h3,fun m hm j hj=>by obtain⟨u,hu,hr⟩:=h4 m hm j hj;exact⟨u,hu,Rep.cells hr⟩⟩
 |mp m ks f=>
 obtain⟨b,es,c,h1,h2,h3,h4,h5⟩:=h
 exact⟨b,es,c,h1,h2,h3,h4,fun j hj=>by obtain⟨e,he,hr⟩:=h5 j hj;exact⟨e,he,Rep.cells hr⟩⟩
theorem M.okm{w:World}{ok ok':Nat->Prop}(hk:∀b,ok b->ok' b){γ:Nat->Value}{x:AV}{v:Value}(h:M w ok γ x v):M w ok' γ x v:=h.keep (fun b hb=>⟨hk b hb,rfl⟩) fun _ _=>rfl
theorem Holds.okm{w:World}{O ok ok':Nat->Prop}(hk:∀b,ok b->ok' b){γ:Nat->Value}{i:Nat}{o:Ob}(h:Holds w O ok γ i o):Holds w O ok' γ i o:=h.keep0 (fun b hb=>⟨hk b hb,zea rfl⟩) rfl (fun _ _ _ _ _ _=>rfl) fun _ _=>rfl
theorem Holds.opens{w:World}{O O' ok:Nat->Prop}{γ:Nat->Value}{i:Nat}{o:Ob}(h:Holds w O ok γ i o)(hO:∀b,blk (γ i)=some b->O' b):Holds w O' ok γ i o:=by
 cases o with
 |box cs=>obtain⟨b,vs,T,h1,h2,h3⟩:=h;exact⟨b,vs,T,h1,hO b (by rw[h1];rfl),h3⟩
 |row e k n f=>obtain⟨xs,h1,h2,h3⟩:=h;exact⟨xs,h1,fun b hb=>hO b hb,h3⟩
 |mp m ks f=>obtain⟨b,es,c,h1,h2,h3⟩:=h;exact⟨b,es,c,h1,hO b (by rw[h1];rfl),h3⟩
def ownB(s:St)(γ:Nat->Value)(b:Nat):Prop:=∃i o,s.ob i=some o/\blk (γ i)=some b
def cxJ(cx:Cx)(W:World)(okJ own:Nat->Prop)(l:Nat):Cx:=⟨W,okJ,cx.N,fun b=>own b\/b=l,cx.hold,0,cx.dr,cx.gn,cx.nod⟩
theorem zgk(cx:Cx){W:World}(h:cx.w0=W):Bel cx W:=by subst h;exact⟨rfl,rfl,rfl,fun _=>jE _,jE _,fun _ _ _=>rfl⟩
section
variable {cx:Cx}{γ:Nat->Value}{s:St}{a:Act}{W W':World}{okJ:Nat->Prop}{l:Nat}
theorem okJ_of{b:Nat}(h:okOf (cxJ cx W okJ (ownB s γ) l) s γ W b):okJ b\/b=l:=by
 rcases h with h|⟨h1,h2,h3⟩
 ·exact .inl h
 rcases h1 with h1|⟨i,o,hi,hb⟩|h1
 ·have:W.heap.size<=b:=h1;omega
 ·exact absurd hb (h3 i o hi)
 exact .inr h1
theorem RG.reb(h:RG cx γ s a W)(hd:a.defers=[]){lp:Loop}(hl:W.heap[l]?=some (.loop lp)):RG (cxJ cx W (fun b=>okOf cx s γ W b/\cellsAt W b) (ownB s γ) l) γ s a W:=by
  have hk:∀b,(okOf cx s γ W b/\cellsAt W b)->okOf (cxJ cx W (fun b=>okOf cx s γ W b/\cellsAt W b) (ownB s γ) l) s γ W b:=fun b hb=> .inl hb
  exact { defers:=⟨fun _=>hd,[],hd,jaf,fun D hD=>by cases hD⟩
          size:=h.size
          okA:=fun b hb=>⟨zal h hb.1,fun e=>by
            rcases e with⟨i,o,hi,e⟩|e
            · exact zck h hb.1 hi e
            subst e;obtain⟨o,hc,hm⟩:=hb.2;rw [hl]at hc;cases hc;cases hm⟩
          lent:=fun b e=>by
            rcases e with⟨i,o,hi,e⟩|e
            · exact(zax h hi e).2
            subst e;exact(jB.1 hl).1
          below:=zgk _ rfl
          hold:=h.hold
          least:=jF _
          objs:=fun i o hi=>((h.objs i o hi).cells.okm hk).opens fun b hb=> .inr (.inl ⟨i,o,hi,hb⟩)
          refs:=h.refs,sep:=h.sep
          slots:=fun t=>(h.slots t).cells.okm hk
          srefs:=h.srefs,gho:=h.gho,ng:=h.ng }
theorem RG.stab(h:RG (cxJ cx W okJ (ownB s γ) l) γ s a W)(hd:a.defers=[]){K:Nat->Prop}(hg:Grw K W W')(hr:∀r,K r->¬okJ r/\¬ownB s γ r/\r≠l/\∀p,¬cx.hold r p):RG (cxJ cx W' okJ (ownB s γ) l) γ s a W':=by
  have same:∀b,b<W.heap.size->(okJ b\/ownB s γ b\/b=l)->W'.heap[b]?=W.heap[b]?:=fun b hb h1=>hg.block b hb fun e=>by
    obtain⟨g1,g2,g3,_⟩:=hr b e
    rcases h1 with h1|h1|h1
    · exact g1 h1
    · exact g2 h1
    exact g3 h1
  have hk:∀b,okOf (cxJ cx W okJ (ownB s γ) l) s γ W b->okOf (cxJ cx W' okJ (ownB s γ) l) s γ W' b/\W'.heap[b]?=W.heap[b]?:=fun b hb=>by
    have hlt:=zal h hb
    rcases okJ_of hb with h1|h1
    · exact⟨.inl h1,same b hlt (.inl h1)⟩
    exact⟨.inr ⟨.inr (.inr h1),jN hlt hg.size,fun i o hi=>zck h hb hi⟩,same b hlt (.inr (.inr h1))⟩
  exact { defers:=⟨fun _=>hd,[],hd,jaf,fun D hD=>by cases hD⟩
          size:=h.size
          okA:=fun b hb=>⟨jN (h.okA b hb).1 hg.size,(h.okA b hb).2⟩
          lent:=fun b hb=>jN (h.lent b hb) hg.size
          below:=zgk _ rfl
          hold:=fun k o hk'=>by
            have h1:=h.hold k o hk'
            refine⟨?_,h1.2⟩
            rw [hg.block k (jB.1 h1.1).1 fun e=>(hr k e).2.2.2 o hk']
            exact h1.1
          least:=jF _
          objs:=fun i o hi=>((h.objs i o hi).keep0 (fun b hb=>⟨(hk b hb).1,zea (hk b hb).2⟩) rfl (fun _ _ _ _ _ _=>rfl) fun b hb=>same b (zax h hi hb).2 (.inr (.inl ⟨i,o,hi,hb⟩))).opens fun b hb=> .inr (.inl ⟨i,o,hi,hb⟩)
          refs:=h.refs,sep:=h.sep
          slots:=fun t=>(h.slots t).keep hk fun _ _=>rfl
          srefs:=h.srefs,gho:=h.gho,ng:=h.ng }
structure Old(cx:Cx)(s:St)(γ:Nat->Value)(okJ:Nat->Prop)(W:World):Prop where
  ok:∀b,okJ b->cx.okA b\/cx.O b
  own:∀b,ownB s γ b->cx.O b
  bel:Bel cx W
  least:cx.least<=W.heap.size
theorem RG.old(h:RG cx γ s a W):Old cx s γ (fun b=>okOf cx s γ W b/\cellsAt W b) W:=
 ⟨fun b hb=>by
  rcases hb.1 with h1|⟨h1,_⟩
  ·exact .inl h1
  exact .inr h1,fun b ⟨i,o,hi,e⟩=>(zax h hi e).1,h.below,h.least⟩
theorem Old.grow(ho:Old cx s γ okJ W)(hdr:cx.dr=false){K:Nat->Prop}(hg:Grw K W W')(hr:∀r,K r->cx.w0.heap.size<=r):Old cx s γ okJ W':=
 ⟨ho.ok,ho.own,⟨hg.os.trans ho.bel.os,hg.tape.trans ho.bel.tape,hg.output.trans ho.bel.output,(fun e=>by rw[hdr]at e;cases e),jM ho.bel.size hg.size,fun k hk hl=>(hg.block k (jN hk ho.bel.size) fun e=>by have:=hr k e;omega).trans (ho.bel.block k hk hl)⟩,jM ho.least hg.size⟩
theorem RG.back(h:RG (cxJ cx W okJ (ownB s γ) l) γ s a W)(hd:a.defers=[])(ho:Old cx s γ okJ W)(hl:cx.O l)(hA:∀b,cx.okA b->b<cx.w0.heap.size/\¬cx.lent b)(hL:∀b,cx.lent b->b<cx.w0.heap.size):RG cx γ s a W:=by
  have hk:∀b,okOf (cxJ cx W okJ (ownB s γ) l) s γ W b->okOf cx s γ W b:=fun b hb=>by
    have hlt:=zal h hb
    have hne:∀i o,s.ob i=some o->blk (γ i)≠some b:=fun i o hi=>zck h hb hi
    rcases okJ_of hb with h1|h1
    · rcases ho.ok b h1 with h2|h2
      · exact .inl h2
      exact .inr ⟨h2,hlt,hne⟩
    subst h1;exact .inr ⟨hl,hlt,hne⟩
  exact { defers:=⟨fun _=>hd,[],hd,jaf,fun D hD=>by cases hD⟩
          size:=h.size,okA:=hA,lent:=hL,below:=ho.bel,hold:=h.hold,least:=ho.least
          objs:=fun i o hi=>((h.objs i o hi).okm hk).opens fun b hb=>ho.own b ⟨i,o,hi,hb⟩
          refs:=h.refs,sep:=h.sep
          slots:=fun t=>(h.slots t).okm hk
          srefs:=h.srefs,gho:=h.gho,ng:=h.ng }
theorem Old.on{s':St}{γ':Nat->Value}(ho:Old cx s γ okJ W)(hl:cx.O l)(hlw:cx.w0.heap.size<=l)(h:RG (cxJ cx W okJ (ownB s γ) l) γ' s' a W'):Old cx s' γ' (fun b=>okOf (cxJ cx W okJ (ownB s γ) l) s' γ' W' b/\cellsAt W' b) W':=by
 have hO:∀b,(cxJ cx W okJ (ownB s γ) l).O b->cx.O b:=fun b hb=>by
  rcases hb with h1|h1|h1
  ·exact .inl (jM ho.bel.size h1)
  ·exact ho.own b h1
  subst h1;exact hl
 refine⟨fun b hb=>?_,fun b ⟨i,o,hi,e⟩=>hO b (zax h hi e).1,?_,jM ho.least h.below.size⟩
 ·rcases hb.1 with h1|⟨h1,_⟩
  ·exact ho.ok b h1
  exact .inr (hO b h1)
 have h1:=ho.bel
 have h2:=h.below
 have hs1:cx.w0.heap.size<=W.heap.size:=h1.size
 have hs2:W.heap.size<=W'.heap.size:=h2.size
 exact⟨h2.os.trans h1.os,h2.tape.trans h1.tape,h2.output.trans h1.output,fun e=>jM (h1.drawn e) (h2.drawn e),jM hs1 hs2,fun k hk hl'=>(h2.block k (jN hk hs1) fun hw=>by
  rcases hw with hw|hw
  ·rcases ho.own k hw with h3|h3
   ·omega
   exact hl' h3
  omega).trans (h1.block k hk hl')⟩
theorem RG.more(h:RG (cxJ cx W okJ (ownB s γ) l) γ s a W){okY:Nat->Prop}(hY:∀b,okY b->b<W.heap.size/\¬ownB s γ b/\b≠l):RG (cxJ cx W (fun b=>okJ b\/okY b) (ownB s γ) l) γ s a W:=by
  have hk:∀b,okOf (cxJ cx W okJ (ownB s γ) l) s γ W b->okOf (cxJ cx W (fun b=>okJ b\/okY b) (ownB s γ) l) s γ W b:=fun b hb=>by
    rcases hb with h1|h1
    · exact .inl (.inl h1)
    exact .inr h1
  exact { defers:=h.defers,size:=h.size
          okA:=fun b hb=>by
            rcases hb with h1|h1
            · exact h.okA b h1
            obtain⟨g1,g2,g3⟩:=hY b h1
            exact⟨g1,fun e=>e.elim g2 g3⟩
          lent:=h.lent,below:=zgk _ rfl,hold:=h.hold,least:=h.least
          objs:=fun i o hi=>(h.objs i o hi).okm hk
          refs:=h.refs,sep:=h.sep
          slots:=fun t=>(h.slots t).okm hk
          srefs:=h.srefs,gho:=h.gho,ng:=h.ng }
end
section
variable {P:Program}{T:TT}{E:Env}(hT:∀t i,T t=some i->TI.of P t=some i)(hE:∀t,E.eq t=true->EqFact P t)(hm:P.follows .mixedOrders=true)
include hT hE hm
theorem zeY{cx:Cx}(hdr:cx.dr=false){K:KK}{sl:List (Nat×AV)}{rc:List (Nat×Nat)}{τ:Type}{enc:τ->List V1}{xs:List τ}{ob:List τ->List (Nat×Ob)}{ps:Array Tmp}{as body:Code}{fn:FuncId}{D l g m:Nat}{cap:Nat->Go.Pg.D}{lb:List Value}
    {a:Act}(hd:a.defers=[])(hsl:okSl sl=true)(hob:∀pre,okOb sl rc (ob pre)=true)(hps:∀x,(enc x).length=ps.size)(hnd:ps.toList.Nodup)(hpN:∀p∈ps.toList,p<cx.N)(hN1:codeN cx.N as=true)(hN2:codeN cx.N body=true)
    {Iv:List τ->Prop}(hI0:Iv [])
    (hbody:∀(v:Nat->Value) pre x,pre++[x]<+:xs->Iv pre->awp P T E as (St.of (psl ps.toList (enc x)++pinS v sl) (ob pre)) (Ka P T E K sl rc v ob Iv body pre x))
    {W1:World}{γ1:Nat->Value}(h1:RG cx γ1 (St.of sl (ob [])) a W1){rec:LoopState->Option Code->Loop}(hrec:rec=fun st pe=> { state:=st,pending:=pe,fn,tmps:=a.tmps,params:=ps,assign:=as,body,defers:=D })
    (hl:W1.heap[l]?=some (.loop (rec .ready none)))(hl0:cx.w0.heap.size<=l)(hlh:∀p,¬cx.hold l p)(Mk:Nat->Obj->Prop)(hMk:∀k o,Mk k o->W1.heap[k]?=some o/\o.isCells=false/\k≠l)
    (hlb:All2 (M W1 (okOf cx (St.of sl (ob [])) γ1 W1) γ1) ((List.range m).map fun j=>avOf (.d (cap j))) lb)(hseq:SeqC P g m cap enc xs):
    CallsIn Fence.wide 4 P g (#[.func (.yield l) #[] #[]]++lb.toArray) W1 fun e W'=>(∃v,e= .returned v)/\
      ((Iv xs/\∃γ,RG cx γ (St.of sl (ob xs)) a W'/\W'.heap[l]?=some (.loop (rec .ready none))/\∀k o,Mk k o->W'.heap[k]?=some o)\/
       (∃c ob' γ,JK K sl ob' c/\RG cx γ (St.of sl ob') a W'/\W'.heap[l]?=some (.loop (rec .done (some c)))/\∀k o,Mk k o->W'.heap[k]?=some o)):=by
  have hN:cx.N<=G:=h1.ng
  have hlW1:l<W1.heap.size:=(jB.1 hl).1
  have hcxA:∀b,cx.okA b->b<cx.w0.heap.size/\¬cx.lent b:=h1.okA
  have hcxL:∀b,cx.lent b->b<cx.w0.heap.size:=h1.lent
  have hOl:cx.O l:= .inl hl0
  have keepO:∀{W W':World}{R:Nat->Prop}{k:Nat}{o:Obj},Grw R W W'->(∀r,R r->W1.heap.size<=r)->k<W1.heap.size->W.heap[k]?=some o->W'.heap[k]?=some o:=fun {W W' R k o} hg hr hk ho=>by
    rw [hg.block k (jB.1 ho).1 fun e=>by have:=hr k e;omega];exact ho
  have hMl:∀k o,Mk k o->k<W1.heap.size:=fun k o h=>(jB.1 (hMk k o h).1).1
  let TJ:List (Nat×Ob)->(Nat->Value)->(Nat->Prop)->World->Prop:=fun ob' γ pub W=>∃okJ,RG (cxJ cx W okJ (ownB (St.of sl ob') γ) l) γ (St.of sl ob') a W/\Old cx (St.of sl ob') γ okJ W/\∀b,okJ b\/ownB (St.of sl ob') γ b->pub b
  have tstab:∀{ob':List (Nat×Ob)}{γ:Nat->Value}{pub:Nat->Prop}{W W':World}{R:Nat->Prop},TJ ob' γ pub W->Grw R W W'->(∀r,R r->W1.heap.size<=r/\¬pub r)->TJ ob' γ pub W':=fun {ob' γ pub W W' R} ⟨okJ,t1,t2,t3⟩ hg hr=>
    ⟨okJ,t1.stab hd hg (fun r e=>⟨fun g=>(hr r e).2 (t3 r (.inl g)),fun g=>(hr r e).2 (t3 r (.inr g)),(fun g=>by have:=(hr r e).1;omega),fun p hp=>by have:=zef h1 hp;have:=(hr r e).1;omega⟩),t2.grow hdr hg (fun r e=>jM h1.below.size (hr r e).1),t3⟩
  have hBl:∀b,Bs sl a b->b≠l:=fun b hb e=>by
    subst e
    obtain⟨i,o,hi,hbi⟩:=zlH h1 (hob []) (fun t i ht=>znc h1 ht) (.inl hb)
    obtain⟨cs,T',x,hc⟩:=zjI h1 (hob []) hi hbi
    rw [hl]at hc;cases hc
  let J:Nat->(Nat->Prop)->World->Prop:=fun n pub W=>Iv (xs.take n)/\∃γ,TJ (ob (xs.take n)) γ pub W/\W.heap[l]?=some (.loop (rec .ready none))/\∀k o,Mk k o->W.heap[k]?=some o
  let Jx:World->Prop:=fun W=>∃pub c ob' γ,okOb sl rc ob'=true/\JK K sl ob' c/\TJ ob' γ pub W/\W.heap[l]?=some (.loop (rec .done (some c)))/\∀k o,Mk k o->W.heap[k]?=some o
  have hY:∀n vs pub W okY us,J n pub W->(xs.map enc)[n]?=some vs->(∀b,okY b->(okOf cx (St.of sl (ob [])) γ1 W1 b\/W1.heap.size<=b)/\b<W.heap.size/\¬Ow (Bs sl a) (Qs sl rc a) W b)->All2 (Rep1 W okY) vs us->YieldAt Fence.wide 3 P l us.toArray W fun e W'=>
      (e= .returned (.bool true)/\(∃pub',(∀b,pub' b->pub b\/okY b\/(W.heap.size<=b/\b<W'.heap.size))/\J (n+1) pub' W')/\KpB (Bs sl a) (Qs sl rc a) W W')\/(e= .returned (.bool false)/\Jx W'):=by
    intro n vs pub0 W okY us ⟨hI,γ,⟨okJ0,h0,hold0,hpub0⟩,hlW,hkW⟩ hv hokY hus
    rw [jU]at hv
    obtain⟨x,hx,rfl⟩: ∃x,xs[n]?=some x/\enc x=vs:=by
      cases h2:xs[n]? with
      |none=>rw [h2]at hv;cases hv
      |some x=>rw [h2]at hv;exact⟨x,rfl,jak hv⟩
    have htk:xs.take (n+1)=xs.take n++[x]:=by rw [List.take_succ,hx];rfl
    have hlen:xs.take n++[x]<+:xs:=by rw [<- htk];exact List.take_prefix _ _
    have hJ1:∀pub' W',J (n+1) pub' W'↔(Iv (xs.take n++[x])/\∃γ,TJ (ob (xs.take n++[x])) γ pub' W'/\W'.heap[l]?=some (.loop (rec .ready none))/\∀k o,Mk k o->W'.heap[k]?=some o):=fun pub' W'=>by
      show(Iv (xs.take (n+1))/\_)↔_
      rw [htk]
    simp only [hJ1]
    clear hJ1
    generalize xs.take n=pre at hI h0 hold0 hpub0 hlen
    have hokc:∀b,(okY b/\cellsAt W b)->b<W.heap.size/\¬ownB (St.of sl (ob pre)) γ b/\b≠l:=fun b hb=>⟨(hokY b hb.1).2.1,fun ⟨i,o,hi,e⟩=>(hokY b hb.1).2.2 (zrE h0 (hob pre) hi e),fun e=>by
      subst e;obtain⟨o,ho,hm⟩:=hb.2;rw [hlW]at ho;cases ho;cases hm⟩
    have h:=h0.more hokc
    obtain⟨okJ,hokJ⟩: ∃q:Nat->Prop,q=fun b=>okJ0 b\/(okY b/\cellsAt W b):=⟨_,rfl⟩
    rw [<- hokJ]at h
    obtain⟨pub,hpq⟩: ∃q:Nat->Prop,q=fun b=>pub0 b\/okY b:=⟨_,rfl⟩
    have hold':Old cx (St.of sl (ob pre)) γ okJ W:=⟨fun b hb=>by
      rw [hokJ]at hb
      rcases hb with hb|hb
      · exact hold0.ok b hb
      rcases(hokY b hb.1).1 with h2|h2
      · exact h2.imp id fun h3=>h3.1
      exact .inr (.inl (jM h1.below.size h2)),hold0.own,hold0.bel,hold0.least⟩
    have hpub:∀b,okJ b\/ownB (St.of sl (ob pre)) γ b->pub b:=fun b hb=>by
      rw [hokJ]at hb;rw [hpq]
      rcases hb with(hb|hb)|hb
      · exact .inl (hpub0 b (.inl hb))
      · exact .inr hb.1
      exact .inl (hpub0 b (.inr hb))
    have hpq':∀b,pub b->pub0 b\/okY b:=fun b hb=>by rw [hpq]at hb;exact hb
    have hus:All2 (Rep1 W (okOf (cxJ cx W okJ (ownB (St.of sl (ob pre)) γ) l) (St.of sl (ob pre)) γ W)) (enc x) us:=hus.imp fun _ _ _ hr=>hr.cells.keep fun b hb=>⟨.inl (by rw [hokJ];exact .inr hb),rfl⟩
    obtain⟨cJ,hcJ⟩: ∃c,c=cxJ cx W okJ (ownB (St.of sl (ob pre)) γ) l:=⟨_,rfl⟩
    rw [<- hcJ]at h
    have eN:cJ.N=cx.N:=by rw [hcJ];rfl
    have edr:cJ.dr=cx.dr:=by rw [hcJ];rfl
    have ehold:cJ.hold=cx.hold:=by rw [hcJ];rfl
    have ewz:cJ.w0=W:=by rw [hcJ];rfl
    have elent:cJ.lent l:=by rw [hcJ];exact .inr rfl
    have eleast:cJ.least=0:=by rw [hcJ];rfl
    have hpN:∀p∈ps.toList,p<cJ.N:=by rw [eN];exact hpN
    have hN:cJ.N<=G:=by rw [eN];exact hN
    have hN1:codeN cJ.N as=true:=by rw [eN];exact hN1
    have hN2:codeN cJ.N body=true:=by rw [eN];exact hN2
    have hlt:l<W.heap.size:=(jB.1 hlW).1
    have hy:=run_yield (P:=P) (args:=us.toArray) hlW (by rw [hrec];simp [<- hus.length,hps x])
    rw [hrec]at hy
    refine⟨fn,_,as,body,hy,roundIn_of_wpIn trivial ?_⟩
    have hfold:(ps.zip us.toArray).foldl (fun (tmps:Array Value) (p:Tmp×Value)=>tmps.setIfInBounds p.1 p.2) a.tmps=(ps.toList.zip us).foldl (fun t (p,v)=>t.setIfInBounds p v) a.tmps:=by
      rw [<- Array.foldl_toList,Array.toList_zip]
    let v:Nat->Value:=fun t=>a.tmps.getD t undef
    let H:Nat->Obj->Prop:=Rest γ (ob pre) W
    let cxA:Cx:=⟨cJ.w0,cJ.okA,cJ.N,cJ.lent,H,W.heap.size,cJ.dr,none,false⟩
    obtain⟨p1,p2,p3⟩:=ztC (w:=W) (ok:=okOf cJ (St.of sl (ob pre)) γ W) (γ:=γ) (N:=cJ.N) ps.toList (enc x) us a.tmps hnd (fun p hp=>by rw [h.size];exact hpN p hp) (by rw [kB,hps x]) (by rw [hcJ];exact hus)
    let sl1:=psl ps.toList (enc x)++pinS v sl
    have lk:∀t,look sl1 t=match look (psl ps.toList (enc x)) t with|some y=>some y|none=>(look sl t).map (pin1 (v t)):=fun t=>by
      simp only [sl1,zdF,zdE]
      cases look (psl ps.toList (enc x)) t<;>rfl
    have hA:RG cxA γ (St.of sl1 (ob pre)) { tmps:=(ps.toList.zip us).foldl (fun t (p,v)=>t.setIfInBounds p v) a.tmps,defers:=[] } W:= {
      defers:=⟨fun _=>rfl,[],rfl,jaf,fun D hD=>by cases hD⟩
      size:=p1.trans h.size
      okA:=h.okA,lent:=h.lent
      below:=⟨h.below.os,h.below.tape,h.below.output,h.below.drawn,h.below.size,h.below.block⟩
      hold:=fun k o hk=>hk
      least:=jE _
      objs:=h.objs,refs:=h.refs,sep:=h.sep
      slots:=fun t=>by
        show M W _ γ ((look sl1 t).getD .any) _
        rw [lk]
        cases hp:look (psl ps.toList (enc x)) t with
        |some y=>exact(p2 t y hp).2.2
        |none=>
         have h3:=p3 t hp
         show M W _ γ (((look sl t).map (pin1 (v t))).getD .any) (Array.getD _ t undef)
         have h4:=h.slots t
         rw [show(St.of sl (ob pre)).sl t=(look sl t).getD .any from rfl]at h4
         cases hq:look sl t with
         |none=>exact trivial
         |some y=>
          rw [hq]at h4
          rw [show Array.getD ((ps.toList.zip us).foldl (fun t (p,v)=>t.setIfInBounds p v) a.tmps) t undef=a.tmps.getD t undef from h3]
          have hK:=jC.1 hsl (t,y) (zak hq)
          cases y with
          |box i o=>
           have:=jA hK
           subst this
           exact⟨h4,rfl⟩
          | _=>first|exact h4|cases hK
      srefs:=fun t j hj=>by
        have hj':j∈((look sl1 t).getD .any).refs:=hj
        rw [lk]at hj'
        cases hp:look (psl ps.toList (enc x)) t with
        |some y=>rw [hp]at hj';rw [show(some y).getD AV.any=y from rfl,(p2 t y hp).1]at hj';cases hj'
        |none=>
         rw [hp]at hj'
         refine h.srefs t j ?_
         show j∈((look sl t).getD .any).refs
         cases hq:look sl t with
         |none=>simp only [hq]at hj';exact hj'
         |some y=>simp only [hq]at hj';cases y<;>exact hj'
      gho:=fun m hm'=>by
        exfalso
        have hm2:(look sl1 G).getD .any= .gho m:=hm'
        rw [lk]at hm2
        cases hp:look (psl ps.toList (enc x)) G with
        |some y=>rw [hp]at hm2;exact(p2 G y hp).2.1 m hm2
        |none=>
         simp only [hp]at hm2
         cases hq:look sl G with
         |none=>rw [hq]at hm2;cases hm2
         |some y=>
          rw [hq]at hm2
          have hK:=jC.1 hsl (G,y) (zak hq)
          cases y<;>first|(simp [slK]at hK;done)|cases hm2
      ng:=hN }
    have hDf:∀(c':Cx),c'.dr=cJ.dr->∀q,q=c'->q.dr=true->E.dr=true:=fun c' e q hq hq'=>by rw [hq,e,edr,hdr]at hq';cases hq'
    have hHl:H l (.loop (rec .ready none)):=⟨hlW,fun i p hi e=>by
      obtain⟨_,_,⟨cs,T',x',hc⟩|⟨cs,x',hc⟩⟩:=zaC (h.objs i p hi) e
      · rw [hlW]at hc;cases hc
      rw [hlW]at hc;cases hc⟩
    have hHk:∀k o,Mk k o->H k o:=fun k o hko=>⟨hkW k o hko,fun i p hi e=>by
      have hcl:=zjI h (hob _) hi e
      obtain⟨cs,T',x',hc⟩:=hcl
      rw [hkW k o hko]at hc;cases hc
      exact absurd (hMk k _ hko).2.1 (by simp [Obj.isCells])⟩
    rw [show(ps.zip us.toArray).foldl (fun (tmps:Array Value) (x:Tmp×Value)=>match x with|(t,a)=>tmps.setIfInBounds t a) a.tmps=(ps.toList.zip us).foldl (fun t (p,v)=>t.setIfInBounds p v) a.tmps from hfold]
    refine zb5 (Fm:=(· =cxA)) (N:=cJ.N) hT hE (fun c hc=>by rw [hc]) (hDf cxA rfl) (YLaw.none rfl) (.inr ⟨l,rfl⟩) (fun c hc hn=>by rw [hc]at hn;cases hn) (fun c hc=>by rw [hc];exact .inr ⟨l,_,rfl,hHl⟩) hm as hN1 (fun e s1 a1 W2 hR hk=> ?_) ⟨cxA,rfl,γ,hA⟩ (hbody v pre x hlen hI)
    obtain⟨_,rfl,γ2,h2⟩:=hR
    cases e with
    |normal=>
     have hl2:=(h2.hold l _ hHl).1
     have hlt2:l<W2.heap.size:=(jB.1 hl2).1
     refine⟨_,run_beginRound hl2 (by rw [hrec]),?_⟩
     let W3:=W2.putObj l (.loop { rec .ready none with state:= .busy })
     have hl3:W3.heap[l]?=some (.loop { rec .ready none with state:= .busy }):=World.putObj_heap_same hlt2
     let HB:Nat->Obj->Prop:=fun k o=>(k≠l/\H k o)\/(k=l/\o= .loop { rec .ready none with state:= .busy })
     let cxB:Cx:=⟨cJ.w0,cJ.okA,cJ.N,cJ.lent,HB,W.heap.size,cJ.dr,none,false⟩
     have h2':RG ⟨cJ.w0,cJ.okA,cJ.N,cJ.lent,fun k o=>k≠l/\H k o,W.heap.size,cJ.dr,none,false⟩ γ2 s1 { tmps:=a1.tmps,defers:=a1.defers } W2:= {
       defers:=h2.defers,size:=h2.size,okA:=h2.okA,lent:=h2.lent,below:=⟨h2.below.os,h2.below.tape,h2.below.output,h2.below.drawn,h2.below.size,h2.below.block⟩
       hold:=fun k o hk=>h2.hold k o hk.2,least:=h2.least,objs:=h2.objs,refs:=h2.refs,sep:=h2.sep,slots:=h2.slots,srefs:=h2.srefs,gho:=h2.gho,ng:=h2.ng }
     have hml:mark l∉a1.defers:=fun hmm=>by
       obtain⟨_,ms,e1,_,e3⟩:=h2.defers
       rw [e1]at hmm
       obtain⟨E',hE',he⟩:=kJ.1 hmm
       have:E'=l:=by simp only [mark,Deferred.mk.injEq,Target.collected.injEq,and_true]at he;exact he
       subst this
       have:=(e3 E' hE').2
       rw [hl2]at this;cases this
     have h3:=h2'.otherL (grownBy_putObj' W2 l (.loop { rec .ready none with state:= .busy })) (fun _=>jE _) hl2 rfl (fun _ _ e=>by cases e) hml (fun p hp=>hp.1 rfl) (.inr elent)
     have hnl:∀i p,s1.ob i=some p->blk (γ2 i)≠some l:=(h2.hold l _ hHl).2
     have hB:RG cxB γ2 s1 a1 W3:= {
       defers:=h3.defers,size:=h3.size,okA:=h3.okA,lent:=h3.lent,below:=⟨h3.below.os,h3.below.tape,h3.below.output,h3.below.drawn,h3.below.size,h3.below.block⟩
       hold:=fun k o hk=>by
         rcases hk with hk|⟨rfl,rfl⟩
         · exact h3.hold k o hk
         exact⟨hl3,hnl⟩
       least:=h3.least,objs:=h3.objs,refs:=h3.refs,sep:=h3.sep,slots:=h3.slots,srefs:=h3.srefs,gho:=h3.gho,ng:=h3.ng }
     refine zb5 (Fm:=(· =cxB)) (N:=cJ.N) hT hE (fun c hc=>by rw [hc]) (hDf cxB rfl) (YLaw.none rfl) (.inr ⟨l,rfl⟩) (fun c hc hn=>by rw [hc]at hn;cases hn) (fun c hc=>by rw [hc];exact .inr ⟨l,_,rfl,.inr ⟨rfl,rfl⟩⟩) hm body hN2 (fun e s2 a3 W4 hR hk4=> ?_) ⟨cxB,rfl,γ2,hB⟩ hk
     obtain⟨_,rfl,γ3,h4⟩:=hR
     have fin:∀(ob':List (Nat×Ob)),okOb sl rc ob'=true->Weak s2 (pinS v sl) ob'->∃γ4,RG cJ γ4 (St.of sl ob') a W4/\KpB (Bs sl a) (Qs sl rc a) W W4/\W4.heap[l]?=some (.loop { rec .ready none with state:= .busy })/\∀k o,Mk k o->W4.heap[k]?=some o:=fun ob' hok' hwk=>by
       obtain⟨γ4,h5,_⟩:=h4.weakL hwk
       have hr:=h.round (γ2:=γ4) (ob':=ob') (a2:=a3) (w2:=W4) (cx2:=cxB) hsl hd h5 rfl rfl rfl rfl h.least (fun k o hko=>by
         by_cases e:k=l
         · subst e
           refine⟨_,.inr ⟨rfl,rfl⟩,fun hc=> ?_⟩
           have:=hko.1
           rw [hlW]at this;cases this;cases hc
         exact⟨o,.inl ⟨e,hko⟩,fun _=>rfl⟩) (fun k o hk=> .inl ⟨fun e=>hlh o (by rw [<- ehold];exact e▸hk),h.hold k o hk⟩)
       refine⟨γ4,hr,⟨h5.least,fun k hk=> ?_,fun k o hk hc hn _=> ?_⟩,(h5.hold l _ (.inr ⟨rfl,rfl⟩)).1,fun k o hko=>(h5.hold k o (.inl ⟨(hMk k o hko).2.2,hHk k o hko⟩)).1⟩
       · obtain⟨i,o,hi,hbi⟩:=zlH hr hok' (fun t i ht=>znc hr ht) hk
         have hk4:=(zax hr hi hbi).2
         by_cases hkW:k<W.heap.size
         · by_cases hown: ∃i p,look (ob pre) i=some p/\blk (γ i)=some k
           · obtain⟨i',p,hi',hb'⟩:=hown
             exact .inl (zrE h (hob pre) hi' hb')
           exfalso
           have ho:W.heap[k]?=some W.heap[k]:=wL hkW
           have hRest:Rest γ (ob pre) W k W.heap[k]:=⟨ho,fun i' p hi' hb'=>hown ⟨i',p,hi',hb'⟩⟩
           by_cases e:k=l
           · exact(h5.hold l _ (.inr ⟨rfl,rfl⟩)).2 i o hi (by rw [<- e];exact hbi)
           exact(h5.hold k _ (.inl ⟨e,hRest⟩)).2 i o hi hbi
         exact .inr ⟨by omega,hk4⟩
       have hne:k≠l:=fun e=>by subst e;rw [hlW]at hk;cases hk;cases hc
       exact(h5.hold k o (.inl ⟨hne,hk,fun i p hi hb=>hn (zrE h (hob pre) hi hb)⟩)).1
     have put:∀{ob':List (Nat×Ob)}{γ4:Nat->Value} (o':Obj),RG cJ γ4 (St.of sl ob') a W4->W4.heap[l]?=some (.loop { rec .ready none with state:= .busy })->RG cJ γ4 (St.of sl ob') a (W4.putObj l o'):=fun {ob' γ4} o' hr hl4=>
       hr.otherL (grownBy_putObj' W4 l o') (fun _=>jE _) hl4 rfl (fun _ _ e=>by cases e) (by rw [hd];simp) (fun p hp=>hlh p (by rw [<- ehold];exact hp)) (.inr elent)
     have reb:∀{ob':List (Nat×Ob)}{γ4:Nat->Value} (lp:Loop),RG cJ γ4 (St.of sl ob') a W4->W4.heap[l]?=some (.loop { rec .ready none with state:= .busy })->∃pub':Nat->Prop,(∀b,pub' b->pub b\/(W.heap.size<=b/\b<(W4.putObj l (.loop lp)).heap.size))/\TJ ob' γ4 pub' (W4.putObj l (.loop lp)):=fun {ob' γ4} lp hr hl4=>by
       have h6:=put (.loop lp) hr hl4
       have hl6:(W4.putObj l (.loop lp)).heap[l]?=some (.loop lp):=World.putObj_heap_same (jB.1 hl4).1
       have h7:=h6.reb hd hl6
       have hin:∀b,cJ.O b->b≠l->pub b\/W.heap.size<=b:=fun b hb hne=>by
         rw [hcJ]at hb
         rcases hb with g|g|g
         · exact .inr g
         · exact .inl (hpub b (.inr g))
         exact absurd g hne
       have hncl:∀b,cellsAt (W4.putObj l (.loop lp)) b->b≠l:=fun b ⟨o,hc,hm⟩ e=>by subst e;rw [hl6]at hc;cases hc;cases hm
       refine⟨fun b=>(okOf cJ (St.of sl ob') γ4 (W4.putObj l (.loop lp)) b/\cellsAt (W4.putObj l (.loop lp)) b)\/ownB (St.of sl ob') γ4 b,fun b hb=> ?_,_,?_,?_,fun b hb=>hb⟩
       · rcases hb with⟨hb,hc⟩|⟨i,o,hi,e⟩
         · have hlt:=zal h6 hb
           rcases hb with g|⟨g,_⟩
           · refine .inl (hpub b (.inl ?_))
             rw [hcJ]at g;exact g
           rcases hin b g (hncl b hc)with g2|g2
           · exact .inl g2
           exact .inr ⟨g2,hlt⟩
         obtain⟨g,hlt⟩:=zax h6 hi e
         have hne:b≠l:=fun e2=>by
           subst e2
           obtain⟨_,_,⟨cs,T',x',hc⟩|⟨cs,x',hc⟩⟩:=zaC (h6.objs i o hi) e
           · rw [hl6]at hc;cases hc
           rw [hl6]at hc;cases hc
         rcases hin b g hne with g2|g2
         · exact .inl g2
         exact .inr ⟨g2,hlt⟩
       · have e:cxJ cJ (W4.putObj l (.loop lp)) (fun b=>okOf cJ (St.of sl ob') γ4 (W4.putObj l (.loop lp)) b/\cellsAt (W4.putObj l (.loop lp)) b) (ownB (St.of sl ob') γ4) l=cxJ cx (W4.putObj l (.loop lp)) (fun b=>okOf cJ (St.of sl ob') γ4 (W4.putObj l (.loop lp)) b/\cellsAt (W4.putObj l (.loop lp)) b) (ownB (St.of sl ob') γ4) l:=by rw [hcJ];rfl
         rw [<- e];exact h7
       have:=hold'.on hOl hl0 (hcJ▸h6)
       rw [<- hcJ]at this;exact this
     have putk:∀(o':Obj) {k:Nat}{o:Obj},k≠l->W4.heap[k]?=some o->(W4.putObj l o').heap[k]?=some o:=fun o' {k o} hk ho=>by rw [World.putObj_heap_other hk];exact ho
     have jump:∀(c:Code) (ob':List (Nat×Ob)),okOb sl rc ob'=true->Weak s2 (pinS v sl) ob'->JK K sl ob' c->∃v w',(Instr.endRound l (some c)).run P W4= .ok v w'/\((Ending.returned v= .returned (.bool true)/\(∃pub',(∀b,pub' b->pub0 b\/okY b\/(W.heap.size<=b/\b<w'.heap.size))/\(Iv (pre++[x])/\∃γ,TJ (ob (pre++[x])) γ pub' w'/\w'.heap[l]?=some (.loop (rec .ready none))/\∀k o,Mk k o->w'.heap[k]?=some o))/\KpB (Bs sl a) (Qs sl rc a) W w')\/(Ending.returned v= .returned (.bool false)/\Jx w')):=fun c ob' hok' hwk hj=>by
       obtain⟨γ4,g1,g2,g3,g4⟩:=fin ob' hok' hwk
       obtain⟨pub',k1,k2⟩:=reb _ g1 g3
       refine⟨_,_,run_endRound (some c) g3,.inr ⟨rfl,pub',c,ob',γ4,hok',hj,k2,?_,fun k o hko=>putk _ (hMk k o hko).2.2 (g4 k o hko)⟩⟩
       rw [World.putObj_heap_same (jB.1 g3).1,hrec];rfl
     cases e with
     |normal=>
      obtain⟨γ4,g1,g2,g3,g4⟩:=fin _ (hob _) hk4.2
      obtain⟨pub',k1,k2⟩:=reb _ g1 g3
      refine⟨_,_,run_endRound none g3,.inl ⟨rfl,⟨pub',fun b hb=>(k1 b hb).elim (fun h=>(hpq' b h).imp id .inl) fun h=> .inr (.inr h),hk4.1,γ4,k2,?_,fun k o hko=>putk _ (hMk k o hko).2.2 (g4 k o hko)⟩,g2.trans (KpB.book W4 l _ _ hBl g3 rfl)⟩⟩
      rw [World.putObj_heap_same (jB.1 g3).1,hrec];rfl
     |ret=>obtain⟨ob',q1,q2,q3⟩:=hk4;exact jump .ret ob' q1 q2 q3
     |exit id=>obtain⟨ob',q1,q2,q3⟩:=hk4;exact jump (.exit id) ob' q1 q2 q3
     |goto t=>obtain⟨ob',q1,q2,q3⟩:=hk4;exact jump (.goto t) ob' q1 q2 q3
     |panic ch=>exact hk4.elim
     |outgrown=>exact hk4.elim
    | _=>exact hk.elim
  obtain⟨Y,hYq⟩: ∃Y:YC P (xs.map enc),Y=⟨l,Bs sl a,Qs sl rc a,okOf cx (St.of sl (ob [])) γ1 W1,W1.heap.size,J,Jx,fun n pub W W' ⟨hI,γ,h,hl',hk⟩ hg=>⟨hI,γ,tstab h hg fun r e=>e,keepO hg (fun r e=>e.1) hlW1 hl',fun k o hko=>keepO hg (fun r e=>e.1) (hMl k o hko) (hk k o hko)⟩,
    fun W W' ⟨pub,c,ob',γ,hq,hj,h,hl',hk⟩ hg=>⟨pub,c,ob',γ,hq,hj,tstab h hg fun r e=>e.elim,keepO hg (fun r e=>e.elim) hlW1 hl',fun k o hko=>keepO hg (fun r e=>e.elim) (hMl k o hko) (hk k o hko)⟩,hY⟩:=⟨_,rfl⟩
  have hOwn:∀k,Ow (Bs sl a) (Qs sl rc a) W1 k->k<W1.heap.size/\¬okOf cx (St.of sl (ob [])) γ1 W1 k:=fun k hk=>by
    obtain⟨i,o,hi,hb⟩:=zlH h1 (hob []) (fun t i ht=>znc h1 ht) hk
    exact⟨(zax h1 hi hb).2,fun hok=>zck h1 hok hi hb⟩
  have h0:Y.At 0 (fun b=>(okOf cx (St.of sl (ob [])) γ1 W1 b/\cellsAt W1 b)\/ownB (St.of sl (ob [])) γ1 b) (okOf cx (St.of sl (ob [])) γ1 W1) (LentB γ1 []) W1:=by
    subst hYq
    exact⟨jE _,⟨hI0,γ1,⟨_,h1.reb hd hl,h1.old,fun b hb=>hb⟩,hl,fun k o hko=>(hMk k o hko).1⟩,jF _,fun b hb=>⟨.inl hb,fun hw=>(hOwn b hw).2 hb⟩,fun k hk=>(hOwn k hk).1,fun b hb=>by
      rcases hb with hb|⟨i,o,hi,e⟩
      · exact zal h1 hb.1
      exact(zax h1 hi e).2,fun b ⟨i,o,hi,_⟩=>(by cases hi)⟩
  have hargs:All2 (M W1 (okOf cx (St.of sl (ob [])) γ1 W1) γ1) (AV.yl Y.l::(List.range m).map fun j=>avOf (.d (cap j))) (.func (.yield l) #[] #[]::lb):=by
    subst hYq
    exact .cons rfl hlb
  have hcall:=hseq.2.2 Y W1 _ _ γ1 _ (fun b hb=>zal h1 hb) ⟨fun i o hi=>(by cases hi),fun i cs hi=>(by cases hi),fun i j o o' hi=>(by cases hi),fun i o b hi=>(by cases hi)⟩ hargs h0
  rw [show(#[.func (.yield l) #[] #[]]++lb.toArray:Array Value)=(Value.func (.yield l) #[] #[]::lb).toArray by simp]
  refine(zgh (n:=0) (callsIn_wide.2 hcall)).mono ?_
  rintro e W' ⟨r,rfl,h⟩
  refine⟨⟨r,rfl⟩,?_⟩
  rcases h with⟨γ',okc,pubc,hend,-⟩|⟨-,hx⟩
  · have hj:=hend.at'.j
    subst hYq
    rw [qB]at hj
    obtain⟨hI,γ,⟨okJ,t1,t2,_⟩,h2,h3⟩:=hj
    rw [jZ]at hI t1 t2
    exact .inl ⟨hI,γ,t1.back hd t2 hOl hcxA hcxL,h2,h3⟩
  subst hYq
  obtain⟨pub,c,ob',γ,_,hj,⟨okJ,t1,t2,_⟩,h2,h3⟩:=hx
  exact .inr ⟨c,ob',γ,hj,t1.back hd t2 hOl hcxA hcxL,h2,h3⟩
theorem CodeOb.range{K:KK}{s:St}{fo:Operand}{ps:Array Tmp}{as body:Code}{g m:Nat}{cap:Nat->D}{τ:Type}{enc:τ->List V1}{xs:List τ}(hseq:SeqC P g m cap enc xs)(hc:callee (ev s fo)=some (g,(List.range m).map fun j=>AV.d (cap j)))
  (hps:∀x,(enc x).length=ps.size)(hnd:ps.toList.Nodup)
  (sl:List (Nat×AV))(rc:List (Nat×Nat))(ob:List τ->List (Nat×Ob))(hsl:okSl sl=true)(hob:∀pre,okOb sl rc (ob pre)=true)(hw:Weak s sl (ob []))
  {Iv:List τ->Prop}(hI0:Iv [])
  (hbody:∀(v:Nat->Value) pre x,pre++[x]<+:xs->Iv pre->awp P T E as (St.of (psl ps.toList (enc x)++pinS v sl) (ob pre)) (Ka P T E K sl rc v ob Iv body pre x))
  (hend:Iv xs->K .normal (St.of sl (ob xs))):CodeOb false false P (.rangeFunc fo ps as body) s K:=by
 rw[zdi]
 intro cx F n a w hdr hnod hF hN hR
 have hdr0:cx.dr=false:=by
  cases h:cx.dr with
  |false=>rfl
  |true=>exact absurd (hdr h) (by simp)
 have hnod0:cx.nod=false:=by
  cases h:cx.nod with
  |false=>rfl
  |true=>exact absurd (hnod h) (by simp)
 obtain⟨γs,hs⟩:=hR
 obtain⟨γ0,h0,hk⟩:=hs.weakL hw
 obtain⟨caps,hfv,hcm⟩:=za1 hc (ev_m hs fo).1
 obtain⟨a0,ha0⟩:∃a0:Act,a0={ tmps:=a.tmps,defers:=[] }:=⟨_,rfl⟩
 have h0a:RG cx γ0 (St.of sl (ob [])) a0 w:=by rw[ha0];exact h0.defs ⟨fun _=>rfl,[],rfl,jaf,fun D hD=>by cases hD⟩
 have hlen:caps.length=m:=by have:=hcm.length;simpa using this.symm
 have hlb:∀{W1:World},Below w.heap.size w W1->All2 (M W1 (okOf cx (St.of sl (ob [])) γ0 W1) γ0) ((List.range m).map fun j=>avOf (.d (cap j))) caps:=fun {W1} hb1=>.map_left (All2.of_get (by simp[hlen]) fun j q y hx hy=>by
  have hj:j<m:=by have:=(kC.1 hx).1;simpa using this
  rw[wF hj]at hx
  cases hx
  obtain⟨u,hu,hr⟩:=hcm.get j (.d (cap j)) (by simp[hj])
  rw[hy]at hu;cases hu
  refine zd9.2 (Rep.keep (x:=cap j) (fun b hb=>?_) hr)
  have hlt:=zal hs hb
  refine⟨?_,hb1.block b hlt⟩
  rcases hk b hb with h1|⟨h1,h2,h3⟩
  ·exact .inl h1
  exact .inr ⟨h1,jN h2 hb1.size,h3⟩)
 obtain⟨_,ms,hms,hmn,hmd⟩:=hs.defers
 simp only[codeN,jP]at hN
 have hpN:∀p∈ps.toList,p<cx.N:=fun p hp=>jD (jC.1 hN.1 p hp)
 have hmlt:∀D∈ms,D<w.heap.size:=fun D hD=>(jB.1 (hmd D hD).2).1
 have fin:∀{ob':List (Nat×Ob)}{γ:Nat->Value}{W:World}{l:Nat}{lp:Loop} (o':Obj) (ms':List Nat),RG cx γ (St.of sl ob') a0 W->W.heap[l]?=some (.loop lp)->w.heap.size<=l->ms'.Nodup->(∀D∈ms',cx.w0.heap.size<=D/\D≠l/\W.heap[D]?=some (.deferred (some [])))->
   R cx (St.of sl ob') { tmps:=a.tmps,defers:=ms'.map mark } (W.putObj l o'):=fun {ob' γ W l lp} o' ms' hr hl hlw hnd' hD=>by
  have h2:=hr.other (grownBy_putObj' W l o') (fun _=>jE _) hl rfl (fun _ _ e=>by cases e) (by rw[ha0];simp) (fun p hp=>by have:=zef hs hp;omega) (jM hs.below.size hlw)
  have h3:=h2.defs (ds:=ms'.map mark) ⟨(fun e=>by rw[hnod0]at e;cases e),ms',rfl,hnd',fun D hD'=>⟨(hD D hD').1,by rw[World.putObj_heap_other (hD D hD').2.1];exact(hD D hD').2.2⟩⟩
  rw[ha0]at h3
  exact⟨γ,h3⟩
 have jmp:∀{F:Fence}{Q:Exit->Act->World->Prop}{c:Code}{ob':List (Nat×Ob)}{a':Act}{W:World},JK K sl ob' c->R cx (St.of sl ob') a' W->(∀e s a w,R cx s a w->K e s->Q e a w)->c.wpIn F 5 P Q a' W:=fun {F Q c ob' a' W} hj hr hQ=>by
  cases c<;>first
   |exact wpIn_ret (hQ _ _ _ _ hr hj)
   |exact wpIn_exit (hQ _ _ _ _ hr hj)
   |exact wpIn_goto (hQ _ _ _ _ hr hj)
   |exact hj.elim
 rcases hF with rfl|⟨l₀,r₀,rfl,hl₀⟩
 ·refine ziy (n:=5) (.inl rfl) (wpIn_rangeFunc ?_)
  intro fn _
  obtain⟨rec,hrec⟩:∃rec:LoopState->Option Code->Loop,rec=fun st pe=>{ state:=st,pending:=pe,fn,tmps:=a0.tmps,params:=ps,assign:=as,body,defers:=w.heap.size }:=⟨_,rfl⟩
  obtain⟨W1,hW1⟩:∃W1,(w.alloc (.deferred (some []))).alloc (.loop (rec .ready none))=W1:=⟨_,rfl⟩
  have hL1:W1.heap[w.heap.size+1]?=some (.loop (rec .ready none)):=by
   rw[<- hW1];have:=World.alloc_heap_new (w.alloc (.deferred (some []))) (.loop (rec .ready none));rwa [World.size_alloc]at this
  have hK1:W1.heap[w.heap.size]?=some (.deferred (some [])):=by
   rw[<- hW1];exact(Below.heap_alloc _ _ _ (by simp)).trans (World.alloc_heap_new w _)
  have hb1:Below w.heap.size w W1:=by rw[<- hW1];exact((Below.refl _ w).alloc (jE _) _).alloc (by simp) _
  have h1:RG cx γ0 (St.of sl (ob [])) a0 W1:=h0a.grow hb1 (fun _=>by rw[<- hW1];exact jE _)
  refine⟨w.heap.size+1,[mark w.heap.size],W1,{ target:=.fn (.func g) caps.toArray,args:=#[.func (.yield (w.heap.size+1)) #[] #[]] },W1,g,#[.func (.yield (w.heap.size+1)) #[] #[]]++caps.toArray,W1,?_,?_,fun _ _=>trivial,?_,fun _=>by omega,?_⟩
  ·rw[<- hW1,hrec,ha0];exact run_enterLoop_outer _ _ _ _ _
  ·simp only[resolve,hfv];simp[go_sem]
  ·simp[invoke,zaF hseq.1]
  let Mk:Nat->Obj->Prop:=fun k o=>(k=w.heap.size\/k∈ms)/\o= .deferred (some [])
  have hMk:∀k o,Mk k o->W1.heap[k]?=some o/\o.isCells=false/\k≠w.heap.size+1:=fun k o ⟨h2,h3⟩=>by
   subst h3
   rcases h2 with rfl|h2
   ·exact⟨hK1,rfl,by omega⟩
   have:=hmlt k h2
   exact⟨(hb1.block k this).trans (hmd k h2).2,rfl,by omega⟩
  have nod:(w.heap.size::ms).Nodup:=wI.2 ⟨fun h=>by have:=hmlt _ h;omega,hmn⟩
  have hDs:∀{W:World},(∀k o,Mk k o->W.heap[k]?=some o)->∀D∈w.heap.size::ms,cx.w0.heap.size<=D/\D≠w.heap.size+1/\W.heap[D]?=some (.deferred (some [])):=fun {W} hW D hD=>by
   rcases qC.1 hD with rfl|hD
   ·exact⟨hs.below.size,by omega,hW _ _ ⟨.inl rfl,rfl⟩⟩
   have:=hmlt D hD
   exact⟨(hmd D hD).1,by omega,hW _ _ ⟨.inr hD,rfl⟩⟩
  have ha':({ a with defers:=[mark w.heap.size]++a.defers }:Act)={ tmps:=a.tmps,defers:=(w.heap.size::ms).map mark }:=by rw[hms];rfl
  refine(zeY (l:=w.heap.size+1) hT hE hm hdr0 (by rw[ha0]) hsl hob hps hnd hpN hN.2.1 hN.2.2 hI0 hbody h1 hrec hL1 (by have:=hs.below.size;omega) (fun p hp=>by have:=zef hs hp;omega) Mk hMk (hlb hb1) hseq).mono ?_
  rintro e W' ⟨⟨v,rfl⟩,(⟨gI,γ,g1,g2,g3⟩|⟨c,ob',γ,gj,g1,g2,g3⟩)⟩
  ·refine⟨none,_,by have:=run_endLoop (P:=P) g2 (by rw[hrec];simp);rw[hrec]at this;exact this,?_⟩
   have:=fin (.loop { rec .ready none with state:=.exhausted }) (w.heap.size::ms) g1 g2 (by omega) nod (hDs g3)
   rw[hrec]at this
   show ∃s',R cx s' _ _/\K .normal s'
   rw[ha']
   exact⟨_,this,hend gI⟩
  refine⟨some c,_,by have:=run_endLoop (P:=P) g2 (by rw[hrec];simp);rw[hrec]at this;exact this,?_⟩
  have:=fin (.loop { rec .done (some c)with state:=.exhausted }) (w.heap.size::ms) g1 g2 (by omega) nod (hDs g3)
  rw[hrec]at this
  show c.wpIn _ _ P _ _ _
  rw[ha']
  exact jmp gj this fun e s a w h1 h2=>⟨s,h1,h2⟩
 refine ziy (n:=5) (.inr ⟨l₀,rfl⟩) (wpIn_rangeFunc ?_)
 intro fn _
 obtain⟨rec,hrec⟩:∃rec:LoopState->Option Code->Loop,rec=fun st pe=>{ state:=st,pending:=pe,fn,tmps:=a0.tmps,params:=ps,assign:=as,body,defers:=r₀.defers }:=⟨_,rfl⟩
 obtain⟨W1,hW1⟩:∃W1,w.alloc (.loop (rec .ready none))=W1:=⟨_,rfl⟩
 have hL1:W1.heap[w.heap.size]?=some (.loop (rec .ready none)):=by rw[<- hW1];exact World.alloc_heap_new w _
 have hb1:Below w.heap.size w W1:=by rw[<- hW1];exact(Below.refl _ w).alloc (jE _) _
 have h1:RG cx γ0 (St.of sl (ob [])) a0 W1:=h0a.grow hb1 (fun _=>by rw[<- hW1];exact jE _)
 refine⟨w.heap.size,[],W1,{ target:=.fn (.func g) caps.toArray,args:=#[.func (.yield w.heap.size) #[] #[]] },W1,g,#[.func (.yield w.heap.size) #[] #[]]++caps.toArray,W1,?_,?_,fun _ _=>trivial,?_,fun _=>by omega,?_⟩
 ·rw[<- hW1,hrec,ha0];exact run_enterLoop_inner (hs.hold _ _ hl₀).1 _ _ _ _ _
 ·simp only[resolve,hfv];simp[go_sem]
 ·simp[invoke,zaF hseq.1]
 let Mk:Nat->Obj->Prop:=fun k o=>k∈ms/\o= .deferred (some [])
 have hMk:∀k o,Mk k o->W1.heap[k]?=some o/\o.isCells=false/\k≠w.heap.size:=fun k o ⟨h2,h3⟩=>by
  subst h3
  have:=hmlt k h2
  exact⟨(hb1.block k this).trans (hmd k h2).2,rfl,by omega⟩
 have hDs:∀{W:World},(∀k o,Mk k o->W.heap[k]?=some o)->∀D∈ms,cx.w0.heap.size<=D/\D≠w.heap.size/\W.heap[D]?=some (.deferred (some [])):=fun {W} hW D hD=>by
  have:=hmlt D hD
  exact⟨(hmd D hD).1,by omega,hW _ _ ⟨hD,rfl⟩⟩
 have ha':({ a with defers:=[]++a.defers }:Act)={ tmps:=a.tmps,defers:=ms.map mark }:=by rw[hms];rfl
 have core:=zeY (l:=w.heap.size) hT hE hm hdr0 (by rw[ha0]) hsl hob hps hnd hpN hN.2.1 hN.2.2 hI0 hbody h1 hrec hL1 hs.below.size (fun p hp=>by have:=zef hs hp;omega) Mk hMk (hlb hb1) hseq
 have core':CallsIn (Fence.wide.inRound l₀) 4 P g _ W1 _:=core
 refine core'.mono ?_
 rintro e W' ⟨⟨v,rfl⟩,(⟨gI,γ,g1,g2,g3⟩|⟨c,ob',γ,gj,g1,g2,g3⟩)⟩
 ·refine⟨none,_,by have:=run_endLoop (P:=P) g2 (by rw[hrec];simp);rw[hrec]at this;exact this,?_⟩
  have:=fin (.loop { rec .ready none with state:=.exhausted }) ms g1 g2 (jE _) hmn (hDs g3)
  rw[hrec]at this
  show ∃s',R cx s' _ _/\K .normal s'
  rw[ha']
  exact⟨_,this,hend gI⟩
 refine⟨some c,_,by have:=run_endLoop (P:=P) g2 (by rw[hrec];simp);rw[hrec]at this;exact this,?_⟩
 have:=fin (.loop { rec .done (some c)with state:=.exhausted }) ms g1 g2 (jE _) hmn (hDs g3)
 rw[hrec]at this
 show c.wpIn _ _ P _ _ _
 rw[ha']
 exact jmp gj this fun e s a w h1 h2=>⟨s,h1,h2⟩
end
end Go.Pg
namespace Go.Pg
def rgs:Nat->Nat->List (List Nat)
 |0,_=>[[]]
 |n+1,m=>((List.range m).flatMap fun k=>(rgs n m).map (k:: ·))++(rgs n (m+1)).map (m:: ·)
def bld{α:Type}:List α->List (List α)->List Nat->List (List α)
 |a::r,ss,k::ix=>bld r (if k<ss.length then ss.set k (ss.getD k []++[a])else ss++[[a]]) ix
 | _,ss,_=>ss
def prt{α:Type}(ok:List α->Bool):List α->List (List α)->List (List (List α))
 | [],ss=>if ss.all ok then [ss]else []
 |a::r,ss=>((List.range ss.length).flatMap fun k=>prt ok r (ss.set k (ss.getD k []++[a])))++prt ok r (ss++[[a]])
theorem zbL{α β:Type}{l:List α}{f g:α->List β}(h:∀x∈l,f x=g x):l.flatMap f=l.flatMap g:=by
 induction l with
 |nil=>rfl
 |cons a r ih=>
 rw[List.flatMap_cons,List.flatMap_cons,h a (jar ..),ih fun x hx=>h x (jav _ hx)]
theorem zd0{α:Type}(ok:List α->Bool):∀(r:List α) (ss:List (List α)),prt ok r ss=((rgs r.length ss.length).map (bld r ss)).filter (·.all ok)
 | [],ss=>by
  show(if ss.all ok then [ss]else [])=(List.filter _ [ss])
  cases h:ss.all ok<;>simp[h]
 |a::r,ss=>by
  show _++_=List.filter _ (List.map _ (_++_))
  rw[jT,kV,List.map_flatMap,List.filter_flatMap]
  congr 1
  ·refine zbL fun k hk=>?_
   have hk:k<ss.length:=kK.1 hk
   rw[zd0 ok r,jbb,jal]
   congr 2
   funext ix
   show _=bld r (if k<ss.length then _ else _) ix
   rw[kH hk]
  rw[zd0 ok r,jbb,jR]
  congr 2
  funext ix
  show _=bld r (if ss.length<ss.length then _ else _) ix
  rw[kG (Nat.lt_irrefl _)]
end Go.Pg
namespace Go.Pg
open Go.RowKit
section
variable {cx:Cx}{γ γ2:Nat->Value}{a:Act}{w w':World}{sl:List (Nat×AV)}{obs obs' rest:List (Nat×Ob)}{pins:List Nat}
theorem RG.lendM(h:RG cx γ (St.of sl (obs++rest)) a w)(hdr:¬cx.dr=true)(hf:FrM w w' γ obs)(hp:∀i∈pins,γ2 i=γ i)
    (ho:OwnS w' (okM w w' (okOf cx (St.of sl (obs++rest)) γ w) γ γ2 obs obs') γ2 obs')(hn:∀i o b,look obs' i=some o->blk (γ2 i)=some b->w.heap.size<=b\/LentB γ obs b)
    (hc:goodM sl obs obs' rest pins=true): ∃γ',RG cx γ' (St.of sl (obs'++rest)) a w'/\(∀i,(look obs' i).isSome=true->γ' i=γ2 i)/\∀b,okM w w' (okOf cx (St.of sl (obs++rest)) γ w) γ γ2 obs obs' b->okOf cx (St.of sl (obs'++rest)) γ' w' b:=by
  simp only [goodM,jP,jC]at hc
  obtain⟨⟨⟨c1,c2⟩,c3⟩,c4⟩:=hc
  have o1:∀{i o},look obs i=some o->(St.of sl (obs++rest)).ob i=some o:=fun {i o} hi=>by
    show look (obs++rest) i=_
    rw [zap,hi,ja8]
  have r0:∀{i o},look rest i=some o->look obs i=none/\look obs' i=none:=fun {i o} hi=>by
    have:=c1 _ (zak hi)
    simpa [Option.isNone_iff_eq_none]using this
  have o2:∀{i o},look rest i=some o->(St.of sl (obs++rest)).ob i=some o:=fun {i o} hi=>by
    show look (obs++rest) i=_
    rw [zap,(r0 hi).1];exact hi
  have o3:∀{i o},(St.of sl (obs'++rest)).ob i=some o->look obs' i=some o\/(look obs' i=none/\look rest i=some o):=fun {i o} hi=>by
    have hi:look (obs'++rest) i=some o:=hi
    rw [zap]at hi
    cases e:look obs' i with
    |some x=>rw [e]at hi;exact .inl hi
    |none=>rw [e]at hi;exact .inr ⟨rfl,hi⟩
  have o4:∀{i},(look obs' i).isSome=true->((St.of sl (obs'++rest)).ob i).isSome=true:=fun {i} hi=>by
    show(look (obs'++rest) i).isSome=true
    rw [zap]
    cases e:look obs' i with
    |some x=>rfl
    |none=>rw [e]at hi;cases hi
  have o5:∀{i},(look rest i).isSome=true->((St.of sl (obs'++rest)).ob i).isSome=true:=fun {i} hi=>by
    obtain⟨o,e⟩:=wA.1 hi
    show(look (obs'++rest) i).isSome=true
    rw [zap,(r0 e).2,e];rfl
  let γ':Nat->Value:=fun i=>bif (look obs' i).isSome then γ2 i else γ i
  have g1:∀{i},(look obs' i).isSome=true->γ' i=γ2 i:=fun {i} hi=>by show(bif (look obs' i).isSome then γ2 i else γ i)=_;rw [hi];rfl
  have g2:∀{i o},look rest i=some o->γ' i=γ i:=fun {i o} hi=>by show(bif (look obs' i).isSome then γ2 i else γ i)=_;rw [(r0 hi).2];rfl
  have okr:∀{j},(pins.any (Nat.beq j)||(look rest j).isSome)=true->γ' j=γ j/\((St.of sl (obs'++rest)).ob j).isSome=true:=fun {j} hj=>by
    rw [jX,kM]at hj
    rcases hj with⟨i,hi,e⟩|hj
    · obtain rfl:=jA e
      exact⟨(g1 (c2 j hi)).trans (hp j hi),o4 (c2 j hi)⟩
    obtain⟨o,e⟩:=wA.1 hj
    exact⟨g2 e,o5 hj⟩
  have le:∀{b},LentB γ obs b->cx.O b/\b<w.heap.size/\((∃cs T x,w.heap[b]?=some (.cells cs T x))\/∃es c,w.heap[b]?=some (.map es c)):=fun {b} ⟨i,o,h1,h2⟩=>zaC (h.objs i o (o1 h1)) h2
  have hA:∀b,okOf cx (St.of sl (obs++rest)) γ w b->okOf cx (St.of sl (obs'++rest)) γ' w' b/\w'.heap[b]?=w.heap[b]?:=fun b hb=>by
    have hl:¬LentB γ obs b:=fun ⟨i,o,h1,h2⟩=>zck h hb (o1 h1) h2
    have hlt:=zal h hb
    refine⟨?_,hf.block b hlt hl⟩
    rcases hb with h1|⟨h1,h2,h3⟩
    · exact .inl h1
    refine .inr ⟨h1,jN h2 hf.size,fun i o hi e=> ?_⟩
    rcases o3 hi with hi|⟨hi,hr⟩
    · rw [g1 (by rw [hi];rfl)]at e
      rcases hn i o b hi e with h4|h4
      · omega
      exact hl h4
    rw [g2 hr]at e
    exact h3 i o (o2 hr) e
  have hS:∀{i o b},look rest i=some o->blk (γ i)=some b->b<w.heap.size/\¬LentB γ obs b:=fun {i o b} hi hb=>⟨(zax h (o2 hi) hb).2,fun ⟨j,p,h1,h2⟩=>h.sep i j o p (o2 hi) (o1 h1) (fun e=>by subst e;rw [(r0 hi).1]at h1;cases h1) b hb h2⟩
  have hM:∀b,okM w w' (okOf cx (St.of sl (obs++rest)) γ w) γ γ2 obs obs' b->okOf cx (St.of sl (obs'++rest)) γ' w' b:=fun b hb=>by
    rcases hb with hb|⟨h1,h2,h3⟩
    · exact(hA b hb).1
    have hO:cx.O b:=by
      rcases h1 with h1|h1
      · exact .inl (jM h.below.size h1)
      exact(le h1).1
    refine .inr ⟨hO,h2,fun j p hj e=> ?_⟩
    rcases o3 hj with hj|⟨hj,hr⟩
    · rw [g1 (by rw [hj];rfl)]at e
      exact h3 ⟨j,p,hj,e⟩
    rw [g2 hr]at e
    obtain⟨h4,h5⟩:=hS hr e
    rcases h1 with h1|h1
    · omega
    exact h5 h1
  refine⟨γ',?_,fun i hi=>g1 hi,hM⟩
  exact {
    defers:=by
      obtain⟨h0,ms,h1,h2,h3⟩:=h.defers
      refine⟨h0,ms,h1,h2,fun D hD=>⟨(h3 D hD).1,?_⟩⟩
      have hd:=(h3 D hD).2
      rw [hf.block D (jB.1 hd).1 fun hl=> ?_]
      · exact hd
      obtain⟨_,_,⟨cs,T,x,hc⟩|⟨es,c,hc⟩⟩:=le hl
      · rw [hd]at hc;cases hc
      rw [hd]at hc;cases hc
    size:=h.size,okA:=h.okA,lent:=h.lent
    below:=⟨hf.os.trans h.below.os,hf.tape.trans h.below.tape,hf.output.trans h.below.output,fun e=>absurd e hdr,jM h.below.size hf.size,fun k hk hl=>by
      have:=h.below.size
      rw [hf.block k (by omega) fun hl'=> ?_]
      · exact h.below.block k hk hl
      rcases(le hl').1 with h1|h1
      · omega
      exact hl h1⟩
    hold:=fun k o hk=>by
      obtain⟨h1,h2⟩:=h.hold k o hk
      have hl:¬LentB γ obs k:=fun ⟨i,p,g3,g4⟩=>h2 i p (o1 g3) g4
      have hlt:=(jB.1 h1).1
      refine⟨(hf.block k hlt hl).trans h1,fun i p hi e=> ?_⟩
      rcases o3 hi with hi|⟨hi,hr⟩
      · rw [g1 (by rw [hi];rfl)]at e
        rcases hn i p k hi e with h4|h4
        · omega
        exact hl h4
      rw [g2 hr]at e
      exact h2 i p (o2 hr) e
    least:=jM h.least hf.size
    objs:=fun i o hi=>by
      rcases o3 hi with hi|⟨hi,hr⟩
      · refine(ho.objs i o hi).reO (g1 (by rw [hi];rfl)) (fun cs e c hc j hj=>g1 (ho.refs i cs (by rw [hi,e]) c hc j hj)) (fun b hb=> ?_) fun b hb=> ?_
        · rcases hn i o b hi hb with h4|h4
          · exact .inl (jM h.below.size h4)
          exact(le h4).1
        exact hM b hb
      refine(h.objs i o (o2 hr)).keep hA (g2 hr) (fun cs e c hc j hj=> ?_) fun b hb=> ?_
      · have:=c4 _ (zak hr)
        rw [e]at this
        have h5:=jC.1 (jC.1 this c hc) j hj
        exact(okr h5).1
      obtain⟨h4,h5⟩:=hS hr hb
      exact hf.block b h4 h5
    refs:=fun i cs hi c hc j hj=>by
      rcases o3 hi with hi|⟨hi,hr⟩
      · exact o4 (ho.refs i cs hi c hc j hj)
      have:=c4 _ (zak hr)
      have h5:=jC.1 (jC.1 this c hc) j hj
      exact(okr h5).2
    sep:=fun i j o o' hi hj hij b hb hb'=>by
      rcases o3 hi with hi|⟨hi,hr⟩<;>rcases o3 hj with hj|⟨hj,hs⟩
      · rw [g1 (by rw [hi];rfl)]at hb
        rw [g1 (by rw [hj];rfl)]at hb'
        exact ho.sep i j o o' hi hj hij b hb hb'
      · rw [g1 (by rw [hi];rfl)]at hb
        rw [g2 hs]at hb'
        obtain⟨h4,h5⟩:=hS hs hb'
        rcases hn i o b hi hb with h6|h6
        · omega
        exact h5 h6
      · rw [g2 hr]at hb
        rw [g1 (by rw [hj];rfl)]at hb'
        obtain⟨h4,h5⟩:=hS hr hb
        rcases hn j o' b hj hb' with h6|h6
        · omega
        exact h5 h6
      rw [g2 hr]at hb
      rw [g2 hs]at hb'
      exact h.sep i j o o' (o2 hr) (o2 hs) hij b hb hb'
    slots:=fun t=>by
      refine(h.slots t).keep hA fun j hj=> ?_
      have hj':j∈((look sl t).getD .any).refs:=hj
      cases hl:look sl t with
      |none=>rw [hl]at hj';simp [AV.refs]at hj'
      |some v=>rw [hl]at hj';exact(okr (c3 _ (zak hl) j hj')).1
    srefs:=fun t j hj=>by
      have hj':j∈((look sl t).getD .any).refs:=hj
      cases hl:look sl t with
      |none=>rw [hl]at hj';simp [AV.refs]at hj'
      |some v=>rw [hl]at hj';exact(okr (c3 _ (zak hl) j hj')).2
    gho:=h.gho,ng:=h.ng }
end
section
variable {P:Program}{s:St}{o:Oper}{fo:Operand}{f:FuncId}{K:St->Prop}{E:Env}
structure ObArgs(s:St)(fo:Operand)(args:List Operand)(f:FuncId)(obs:List (Nat×Ob))(xs:List AV):Prop where
  out:∃ex,callee (ev s fo)=some (f,ex)/\(args.map (ev s)++ex).map (fixA obs)=xs
theorem CallSt.ob(sl:List (Nat×AV))(obs rest:List (Nat×Ob)){obs':List (Nat×Ob)}{pins:List Nat}(hdr:E.dr=false){args:Array Operand}{at':Array TypeId}(hop:o.op= .call { callee:=.value fo,args,argTypes:=at' }){xs:List AV}{res:List V1}(h:SpecM P f xs obs obs' pins res)
  (hw:Weak s sl (obs++rest))(ha:ObArgs (St.of sl (obs++rest)) fo args.toList f obs xs)(hcl:(obs.all fun p=>match p.2 with| .box cs=>cs.all fun c=>c.refs.all fun j=>(look obs j).isSome| _=>true)=true)(hc:goodM sl obs obs' rest pins=true)
  (hk:K ((St.of sl (obs'++rest)).putO o.dst (resAV res))):CallSt E P s o fo args.toList K:=by
 obtain⟨ex,h1,h2⟩:=ha.out
 rw[zag]
 refine .inr (.inr (.inl ⟨_,⟨fun cx a w hD hd hR=>?_⟩,hk⟩))
 obtain⟨γ,hg⟩:=hR.weak hw
 obtain⟨caps,hf,hcm⟩:=za1 h1 (ev_m hg fo).1
 have o1:∀{i o},look obs i=some o->(St.of sl (obs++rest)).ob i=some o:=fun {i o} hi=>by
  show look (obs++rest) i=_
  rw[zap,hi,ja8]
 have hm:=zf9 (obs:=obs) (fun i o hi=>hg.objs i o (o1 hi)) ((zbN hg args.toList).append hcm)
 rw[h2]at hm
 refine .enter (zaD hop hf h.1) ?_
 refine(h.2 w _ γ _ (fun b hb=>zal hg hb) ⟨fun i o hi=>(hg.objs i o (o1 hi)).reO rfl (fun _ _ _ _ _ _=>rfl) (fun _ _=>trivial) (fun _ hb=>hb),fun i cs hi c hc' j hj=>?_,fun i j p q hi hj=>hg.sep i j p q (o1 hi) (o1 hj),fun i p b hi hb hok=>zck hg hok (o1 hi) hb⟩ hm).mono fun en w' ⟨r,γ2,he,hfr,hp,ho,hn,hres⟩=>?_
 ·have:=jC.1 hcl _ (zak hi)
  exact jC.1 (jC.1 this c hc') j hj
 obtain⟨γ',hg',-,hM⟩:=hg.lendM (fun e=>by have:=hD e;rw[hdr]at this;cases this) hfr hp ho hn hc
 exact⟨r,he,γ',hg'.putO hd (zaX (.inl hM) hres) (fun j hj=>by rw[zaB]at hj;cases hj)⟩
end
end Go.Pg
