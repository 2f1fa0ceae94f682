/- Lemmas, joined by program. -/
import Derived.Test.YtcmghlfakcppkaaGreatJD
import Derived.WideKeyRuns
set_option maxHeartbeats 4000000
set_option linter.all false
set_option maxRecDepth 100000
namespace Go.Pg
open Go.Proofs Go.RowKit Go.Sort Go.Shelf
theorem znN(ids:List Nat){f:FuncId}{fn:Func}{c:Code}(hf:PP.funcs[f]?=some fn)(hb:fn.body=some c)(hq:((fn.name== "runtime.NumGoroutine")|| !(codeN fn.ntmps c&&Nat.ble fn.ntmps 4294967296))=false)
  {args:List V1}{obs':List (Nat×Ob)}{cs:List Cap}(u i t:Nat){ti:TI}(hts:fn.results.toList=[ResultVar.cell u t])(ht:TTab t=some ti)(hld:loadE (St.of [(u,.box i 0)] obs') ti (.box i 0) fun z=>z= .aggc cs)(hsz:Nat.ble args.length fn.ntmps=true)
  (h:awp PP TTab (EC ids) c (St.of (argSlots 0 args) []) (retA u i obs')):SpecA PP f args obs' cs:=by
 simp only [qN,qQ,jP]at hq
 exact znM (E:=EC ids) rfl hT hE hM hf hb hq.1 hq.2.1 u i t hts ht hld (jD hsz) (jD hq.2.2) h
abbrev exP:List D:=[I 9,I 9,lI exS.c.M.G,lT exS.c.T,lZ exS.c.Z,lC exS.k.C,lK exS.k.K,I 0,I 60]
abbrev exOb:List (Nat×Ob):=[(0,.box (exP.map AV.d++[.own 25])),(25,.row 90 8 3 (rowRp exR))]
abbrev exCs:List Cap:=exP.map Cap.dat++[.own 25]
theorem zkD:SpecA PP 24 [] exOb exCs:=by
 refine znN [6] Tryz.func24 rfl (by kernel_rfl) 0 0 37 rfl rfl rfl rfl ?_
 refine⟨⟨by decide,rfl,by decide,by decide⟩,?_⟩
 refine kAt [(0,.box 0 0),(1,.box 1 0)] [(0,.box (List.replicate 10 .any)),(1,.box (exP.map AV.d++[.own 25])),(25,.row 90 8 3 (rowRp exR))] ⟨rfl,⟨zaz rfl rfl,?_,obR rfl ⟨rfl,.inr ⟨rfl,fun i hi j hj=>?_⟩⟩,trivial⟩,wq rfl⟩ ?_
 ·refine⟨⟨rfl,rfl⟩,⟨rfl,rfl⟩,⟨rfl,.inr ⟨rfl,fun i hi j hj=>?_⟩⟩,⟨rfl,_,_,_,_,rfl,rfl,.inr ⟨rfl,fun i hi j hj=>?_⟩⟩,rfl,⟨rfl,_,_,_,_,rfl,rfl,.inr ⟨rfl,fun i hi j hj=>?_⟩⟩,rfl,⟨rfl,rfl⟩,⟨rfl,rfl⟩,rfl,trivial⟩
  ·have hj:j<1:=hj
   obtain rfl:j=0:=by omega
   show D.eqv (I 0) (I ((List.replicate 81 (0:Int)).getD i 0))
   have:(List.replicate 81 (0:Int)).getD i 0=0:=by
    rw[hZ,List.getElem?_replicate]
    split<;>rfl
   rw[this]
   exact⟨rfl,rfl⟩
  ·have hi:i<2:=hi
   have hj:j<4:=hj
   obtain rfl|rfl:i=0\/i=1:=by omega
   all_goals match j,hj with
   |0,_=>exact⟨rfl,rfl⟩
   |1,_=>exact⟨rfl,rfl⟩
   |2,_=>exact⟨rfl,rfl⟩
   |3,_=>exact⟨rfl,rfl⟩
  have hi:i<2:=hi
  have hj:j<8:=hj
  obtain rfl|rfl:i=0\/i=1:=by omega
  all_goals match j,hj with
  |0,_=>exact⟨rfl,rfl⟩
  |1,_=>exact⟨rfl,rfl⟩
  |2,_=>exact⟨rfl,rfl⟩
  |3,_=>exact⟨rfl,rfl⟩
  |4,_=>exact⟨rfl,rfl⟩
  |5,_=>exact⟨rfl,rfl⟩
  |6,_=>exact⟨rfl,rfl⟩
  |7,_=>exact⟨rfl,rfl⟩
 ·have hi:i<3:=hi
  have hj:j<8:=hj
  obtain rfl|rfl|rfl:i=0\/i=1\/i=2:=by omega
  all_goals match j,hj with
  |0,_=>exact⟨rfl,rfl⟩
  |1,_=>exact⟨rfl,rfl⟩
  |2,_=>exact⟨rfl,rfl⟩
  |3,_=>exact⟨rfl,rfl⟩
  |4,_=>exact⟨rfl,rfl⟩
  |5,_=>exact⟨rfl,rfl⟩
  |6,_=>exact⟨rfl,rfl⟩
  |7,_=>exact⟨rfl,rfl⟩
 exact⟨rfl,⟨obX rfl,obR rfl (dE _),trivial⟩,wq rfl⟩
theorem zop(s:Svc)(P:Nat->Bool)(hv:validM s.c.M=true):SpecO PP 130 [s.v,.agg (bD P)] 60 2 (plsL s.c.M P).length (rowP (plsL s.c.M P)):=by
 have hl:=zbF hv
 refine zdx Tryz.func130 rfl (by kernel_rfl) rfl ?_
 refine cR (zfZ s.c.M) rfl rfl ?_
 refine CodeOb.rangeAt (zdJ s.c.M hv) rfl (fun _=>rfl) (by decide) [(2,.box 2 0),(3,.box 3 0),(5,.box 5 0)] [(5,0)] (fun pre=>obPls s P pre.length) rfl (fun _=>rfl) ?_ (Iv:=fun _=>True) trivial (fun v pre x hx _=>?_) (fun _=>?_)
 ·exact⟨rfl,⟨obX rfl,obX rfl,obN rfl rfl rfl,obZ rfl rfl,trivial⟩,wq rfl⟩
 ·obtain⟨rfl,hk⟩:=ziH hx
  have hn:=zcB hv (k:=pre.length)
  have hp:=zrO P pre.length (by omega)
  rw[<- hn]at hp
  have hlen:=zbH s.c.M P pre.length
  refine cP hp rfl rfl ?_
  apply bY<;>intro h1
  ·refine⟨⟨.inr rfl,by unfold maxLen;omega,by show((plsK s.c.M P pre.length).length+1)*16<=140737488355328;omega⟩,?_⟩
   refine⟨trivial,rfl,⟨obX rfl,obX rfl,obO rfl,obR rfl ?_,trivial⟩,wq rfl⟩
   rw[jR]
   show D.eqv _ (.slc 2 (plsK s.c.M P (pre.length+1)).length (rowP (plsK s.c.M P (pre.length+1))))
   rw[zcH h1]
   exact zkb (at2 rfl rfl)
  refine⟨trivial,rfl,⟨obX rfl,obX rfl,obO rfl,obR rfl ?_,trivial⟩,wq rfl⟩
  rw[jR]
  show D.eqv _ (.slc 2 (plsK s.c.M P (pre.length+1)).length (rowP (plsK s.c.M P (pre.length+1))))
  rw[zd2 h1];exact dE _
 rw[zcZ]
 exact⟨rfl,rfl,rfl,fun i hi j hj=>dE _⟩
theorem zjz(l:List Place)(m j:Nat):(rowP l m j).flat=true:=by
 show((l.getD m default).at j).flat=true
 unfold Place.at
 split<;>rfl
theorem SpecTO.eqv{dr:Bool}{P:Program}{f:FuncId}{xs ys:List V1}{e k n:Nat}{g:Nat->Nat->D}{res:List V1}(h:SpecTO dr P f ys e k n g res)(he:eqV1s xs ys):SpecTO dr P f xs e k n g res:=
 ⟨h.1,fun w ok vs hok hv=>h.2 w ok vs hok (zbj he hv)⟩
def retTO(t0 i:Nat)(ts:List Nat)(res:List V1)(e k n:Nat)(g:Nat->Nat->D):KK:=fun x s=>match x with
 | .normal=>Weak s ((t0,.own i)::retSl ts res) [(i,.row e k n g)]
 | .ret=>Weak s ((t0,.own i)::retSl ts res) [(i,.row e k n g)]
 | _=>False
theorem zkX{P:Program}{T:TT}{E:Env}(hT:∀t i,T t=some i->TI.of P t=some i)(hE:∀t,E.eq t=true->EqFact P t)(hm:P.follows .mixedOrders=true)
  {f:FuncId}{fn:Func}{c:Code}(hf:P.funcs[f]?=some fn)(hb:fn.body=some c)(hn:(fn.name== "runtime.NumGoroutine")=false)(hN:codeN fn.ntmps c=true)
  {args:List V1}(t0 i t1:Nat)(ts:List Nat)(hts:fn.results.toList=(t0::t1::ts).map ResultVar.tmp){res:List V1}(hlr:(t1::ts).length=res.length)(hpn:(t0::t1::ts).Nodup)(hfl:res.all V1.flat=true)
  {e k n:Nat}{g:Nat->Nat->D}(hsz:args.length<=fn.ntmps)(hng:fn.ntmps<=G)(h:awp P T E c (St.of (argSlots 0 args) []) (retTO t0 i (t1::ts) res e k n g)):SpecTO E.dr P f args e k n g res:=
 ⟨⟨fn,hf,hn,by rw [hb];rfl⟩,fun w ok vs hok hm2=>zh6 hT hE hm hf hb hN (cx:=cx0 E.dr w ok fn.ntmps) id rfl rfl rfl (fun _ _=>id) (zfC hok hm2 hsz hng) h
  (fun x h1 h2 s h=>by cases x<;>first|exact h1 rfl|exact h2 rfl|exact h) fun x s a w' hx hk hR _=>by
  have k2:Weak s ((t0,.own i)::retSl (t1::ts) res) [(i,.row e k n g)]:=by rcases hx with rfl|rfl<;>exact hk
  obtain⟨γ',hg⟩:=hR.weak k2
  have hsl:∀t v,look ((t0,AV.own i)::retSl (t1::ts) res) t=some v->(St.of ((t0,.own i)::retSl (t1::ts) res) [(i,.row e k n g)]).sl t=v:=fun t v e=>by
   show(look ((t0,AV.own i)::retSl (t1::ts) res) t).getD .any=_
   rw [e];rfl
  have hs0:=hg.slots t0
  rw [hsl t0 (.own i) (by simp only [look,zay];rfl)]at hs0
  have hval:a.tmps.getD t0 undef=γ' i:=hs0
  have ho:(St.of ((t0,.own i)::retSl (t1::ts) res) [(i,.row e k n g)]).ob i=some (.row e k n g):=by
   show look [(i,Ob.row e k n g)] i=_
   simp only [look,zay];rfl
  obtain⟨xs,h1,h0,h2,h3⟩:=hg.objs i _ ho
  have hnd:(([(t0,AV.own i)]++retSl (t1::ts) res).map Prod.fst).Nodup:=by rw [jT,zbZ hlr];exact hpn
  have hres:=zdU hg hlr fun t x hx=>hsl t _ (zbz (l:=[(t0,AV.own i)]) hx hnd)
  have hrun:=zaQ (P:=P) (fn:=fn) (a:=a) (w:=w') (vs:=(t0::t1::ts).map fun t=>a.tmps.getD t undef) (by rw [hts];exact zdz _)
  have h1':w'.ownsRow w.heap.size e k (γ' i) n xs:=⟨h1.1,by
   rcases h1.2 with h4|⟨g',cap,cur,h4,h5,h6⟩
   ·exact .inl h4
   exact .inr ⟨g',cap,cur,h4,(h0 g' (by rw [h4];rfl)).elim id False.elim,h6⟩⟩
  refine⟨_,hrun,γ' i,(t1::ts).map (fun t=>a.tmps.getD t undef),?_,⟨bel0 hg.below,hg.below.drawn⟩,⟨xs,h1',h2,fun m hm j hj=> ?_⟩,fun ok'=> ?_⟩
  ·rw [<- hval];rfl
  ·obtain⟨u,hu,hr⟩:=h3 m hm j hj
   exact⟨u,hu,Rep.keep (fun b hb=>⟨hb.imp id fun hb=>⟨hb.1.elim id False.elim,hb.2.1,hb.2.2 i _ ho⟩,rfl⟩) hr⟩
  exact hres.imp fun x u hx hr=>Rep1.flat (jC.1 hfl x hx) hr⟩
theorem zgy{f:FuncId}{fn:Func}{c:Code}(hf:PP.funcs[f]?=some fn)(hb:fn.body=some c)(hq:((fn.name== "runtime.NumGoroutine")|| !(codeN fn.ntmps c&&Nat.ble fn.ntmps 4294967296))=false)
  {args:List V1}(t0 i t1:Nat)(ts:List Nat){res:List V1}(hts:fn.results.toList=(t0::t1::ts).map ResultVar.tmp)(hlr:(t1::ts).length=res.length)(hpn:(t0::t1::ts).Nodup)(hfl:res.all V1.flat=true){e k n:Nat}{g:Nat->Nat->D}(hsz:Nat.ble args.length fn.ntmps=true)
  (h:awp PP TTab (EC []) c (St.of (argSlots 0 args) []) (retTO t0 i (t1::ts) res e k n g)):SpecTO false PP f args e k n g res:=by
 simp only [qN,qQ,jP]at hq
 exact zkX (E:=EC []) hT hE hM hf hb hq.1 hq.2.1 t0 i t1 ts hts hlr hpn hfl (jD hsz) (jD hq.2.2) h
section
variable {s:St}{o:Oper}{fo:Operand}{args:List Operand}{f:FuncId}{K:St->Prop}{E:Env}
theorem CallSt.ownT{xs ys res:List V1}{d e k n:Nat}{g:Nat->Nat->D}(h:SpecTO E.dr PP f ys e k n g res)(hx:toV1c s fo args=some (f,xs))(he:eqV1s xs ys)(hd:o.dst=some d)(hg:∀m j,m<n->j<k->(g m j).flat=true)
  (hk:K (Go.Pg.mk s d (.row e k n g) (.tupr d res))):CallSt E PP s o fo args K:=by
 obtain⟨ex,h1,h2⟩:=zaH hx
 rw[zag];exact .inr (.inl ⟨[],f,ex,d,h1,hd,by rw[zar];exact⟨xs,e,k,n,g,some res,h2,h.eqv he,hg,hk⟩⟩)
end
theorem zmi(s:Svc)(b:Brn)(l:List Rpt)(h0:givE s b l=0):SpecTO false PP 87 [s.v,b.v,.d (lR l)] 60 2 (plcR s b l).1.length (rowP (plcR s b l).1) [.d (.int .i64 0)]:=by
 have e:allR s b l=(l.map (alwP s b),0):=by unfold allR;rw[kG (fun hh=>hh h0)]
 have e1:plcR s b l=(plsL s.c.M (metP (l.map (alwP s b))),0):=by unfold plcR;rw[kG (fun hh=>hh h0)]
 have ok:=zfa h0
 have hn:=ok.n
 rw[e1]
 refine zgy Tryz.func87 rfl (by kernel_rfl) 6 23 7 [] rfl rfl (by decide) rfl rfl ?_
 have ha:=zrS s b l
 rw[e]at ha
 refine cR ha rfl rfl ?_
 refine sF ?_
 refine oL [0,1,2,6003,4,5] (fNo ?_)
 refine oP (zqa (l.map (alwP s b)) (by rw[kO];omega)) rfl rfl ?_
 refine⟨⟨_,_,_,_,_,_,rfl,rfl,rfl,rfl,?_⟩⟩
 rw[zar]
 refine⟨_,_,_,_,_,none,rfl,zop s (metP (l.map (alwP s b))) ok.s.c.m,fun m j _ _=>zjz _ m j,?_⟩
 exact⟨rfl,⟨obR rfl (dE _),trivial⟩,wq rfl⟩
theorem zmm{d:Day}(h:DayOk d)(ids:List Int)(hi:ids.length<=1000000)(h1:(brnD d ids).To-(brnD d ids).From<=d.Long)(h0:givE d.s (brnD d ids) (lstD d ids)=0):
  SpecO PP 45 [d.v,.d (lI ids)] 60 2 (plsD d ids).length (rowP (plsD d ids)):=by
 have hn:=h.n
 have e:plsD d ids=(plcR d.s (brnD d ids) (lstD d ids)).1:=by unfold plsD;rw[kH h1]
 rw[e]
 refine zdx Tryz.func45 rfl (by kernel_rfl) rfl ?_
 refine cP (zmp d ids (by omega) hi) rfl rfl ?_
 refine cP (zh1 d (brnD d ids) (zij h ids)) rfl rfl ?_
 apply bY<;>intro h2
 ·have h2:¬(brnD d ids).To-(brnD d ids).From<=d.Long:=by simpa using h2
  exact absurd h1 h2
 refine oL [0,1,2,3,4,5,6006,7,8,9,10,11] (fNo ?_)
 refine oRo (zmo d ids (by omega) hi) rfl rfl ?_
 refine⟨⟨_,_,_,_,_,_,rfl,rfl,rfl,rfl,?_⟩⟩
 rw[zar]
 refine⟨_,_,_,_,_,some _,rfl,zmi d.s (brnD d ids) (lstD d ids) h0,fun m j _ _=>zjz _ m j,?_⟩
 exact⟨rfl,rfl,rfl,fun i hi j hj=>dE _⟩
theorem zr2(d:Day)(ids:List Int)(hn:d.R.length<=1000000)(hi:ids.length<=1000000)(h0:askE d ids=0)(h1:(brnD d ids).To-(brnD d ids).From<=d.Long)(hg:givE d.s (brnD d ids) (lstD d ids)=0):
  SpecTO false PP 25 [d.v,.d (lI ids)] 60 2 (plsD d ids).length (rowP (plsD d ids)) [.d (.int .i64 0)]:=by
 refine zgy Tryz.func25 rfl (by kernel_rfl) 4 15 5 [] rfl rfl (by decide) rfl rfl ?_
 have ha:=zmq d ids hn hi
 rw[h0]at ha
 refine cP ha rfl rfl ?_
 refine sF ?_
 refine CallSt.own (zmm (zqs h0) ids hi h1 hg) rfl rfl (fun m j _ _=>zjz _ m j) ?_
 exact⟨rfl,⟨obR rfl (dE _),trivial⟩,wq rfl⟩
theorem giv12:givE exS (brnD exD [1,2]) (lstD exD [1,2])=0:=by
 have e1:brnD exD [1,2]=⟨100,110,0⟩:=by decide+kernel
 have e2:lstD exD [1,2]=[xq1,xq2]:=by decide+kernel
 rw[e1,e2]
 refine zun _ (by decide+kernel) _ (by decide) (fun r hr=>?_) (by decide+kernel)
 rcases qC.1 hr with rfl|hr
 ·exact rx1
 rcases qC.1 hr with rfl|hr
 ·exact rx2
 cases hr
theorem zuK:SpecTO false PP 25 [exD.v,.d (lI [1,2])] 60 2 1 (rowP [⟨4,4⟩]) [.d (.int .i64 0)]:=by
 have h:=zr2 exD [1,2] (by decide) (by decide) (ask3 [1,2] (by decide+kernel) (by decide+kernel)) (by decide+kernel) giv12
 rw[c3]at h
 exact h
theorem ztF:Spec PP 26 [exD.v,.d (lI [1,3])] [B false,.d (.int .i64 0)]:=by
 have h:=zkj exD [1,3] (by decide) (by decide)
 rw[zns]at h
 exact h
theorem few3:Spec PP 16 [exD.v] [N 2,.d (.int .i64 0)]:=by
 have h:=zjk exD (by decide)
 rw[zsW]at h
 exact h
theorem few4:Spec PP 16 [exD4.v] [N 3,.d (.int .i64 0)]:=by
 have h:=zjk exD4 (by decide)
 rw[zsV]at h
 exact h
abbrev vdL(a:Int)(m n:Nat):V1:=.agg [I a,lenD m,lenD n]
theorem zkE{w:World}{ok:Nat->Prop}(x:Vdt){a:Int}(ha:x.Ans=a):∀u,Rep1 w ok x.v u->Rep1 w (fun _=>False) (vdL a x.T.length x.A.length) u:=fun u ⟨us,e,h⟩=>by
 subst ha
 refine⟨us,e,?_⟩
 cases h with
 |cons h1 h=>
 cases h with
 |cons h2 h=>
 cases h with
 |cons h3 h=>
 cases h
 exact .cons (Rep.flat rfl h1) (.cons (zfB h2) (.cons (zfB h3) .nil))
theorem zs4{w:World}{ok:Nat->Prop}{l:List Fit}{m:List Mis}:∀u,Rep1 w ok (.agg [lFt l,lMs m]) u->Rep1 w (fun _=>False) (.agg [lenD l.length,lenD m.length]) u:=fun u ⟨us,e,h⟩=>by
 refine⟨us,e,?_⟩
 cases h with
 |cons h1 h=>
 cases h with
 |cons h2 h=>
 cases h
 exact .cons (zfB h1) (.cons (zfB h2) .nil)
theorem zmj{f:Nat->Nat->D}{a b:Int}(h0:D.eqv (f 0 0) (I a))(h1:D.eqv (f 1 0) (I b)):D.eqv (.slc 1 2 f) (lI [a,b]):=⟨rfl,.inr ⟨rfl,fun i hi j hj=>by
 match i,hi,j,hj with
 |0,_,0,_=>exact h0
 |1,_,0,_=>exact h1⟩⟩
theorem zte:Spec PP 12 [exD.v,N 1,N 2] [(samR exD 1 2).1.v,.d (.int .i64 0)]:=by
 have h:=zmr exD 1 2 (by decide)
 rw[zgv.2]at h
 exact h
theorem ztd:Spec PP 12 [exD.v,N 1,N 3] [(samR exD 1 3).1.v,.d (.int .i64 0)]:=by
 have h:=zmr exD 1 3 (by decide)
 rw[zgu.2]at h
 exact h
theorem zq0:Spec PP 12 [exD4.v,N 1,N 2] [(samR exD4 1 2).1.v,.d (.int .i64 0)]:=by
 have h:=zmr exD4 1 2 (by decide)
 rw[zgt.2]at h
 exact h
theorem tab3:Spec PP 27 [exD.v] [.agg [lFt (tabR exD).1,lMs (tabR exD).2.1],.d (.int .i64 0)]:=by
 have h:=zr1 exD (by decide)
 rw[zkK.2.2]at h
 exact h
theorem zqQ{w:World}{ok:Nat->Prop}:∀u,Rep1 w ok (.agg [lFt (tabR exD).1,lMs (tabR exD).2.1]) u->Rep1 w (fun _=>False) (.agg [lenD 2,lenD 2]) u:=fun u h=>by
 have:=zs4 u h
 rw[zkK.1,zkK.2.1]at this
 exact this
theorem ztz{n:Nat}{g:Nat->Nat->D}(hn:n=4)(hg:∀j,j<8->D.eqv (g 0 j) (xq4.at j)):D.eqv (.slc 8 n (appRow 3 (rowRp exR) g)) (lR exD4.R):=by
 subst hn
 refine⟨rfl,.inr ⟨rfl,fun i hi j hj=>?_⟩⟩
 match i,hi with
 |0,_=>exact dE (xq1.at j)
 |1,_=>exact dE (xq2.at j)
 |2,_=>exact dE (xq3.at j)
 |3,_=>exact hg j hj
theorem x4:∀j,j<8->D.eqv (rowOf 8 xq4.ds 0 j) (xq4.at j):=fun j hj=>by
 match j,hj with
 |0,_=>exact⟨rfl,rfl⟩
 |1,_=>exact⟨rfl,rfl⟩
 |2,_=>exact⟨rfl,rfl⟩
 |3,_=>exact⟨rfl,rfl⟩
 |4,_=>exact⟨rfl,rfl⟩
 |5,_=>exact⟨rfl,rfl⟩
 |6,_=>exact⟨rfl,rfl⟩
 |7,_=>exact⟨rfl,rfl⟩
theorem zqG:Spec PP 6 [] [B true]:=by
 refine sA Tryz.func6 ?_
 refine CallSt.obA [(0,.d (.bool false))] [] rfl rfl zkD ⟨rfl,trivial,wq rfl⟩ rfl rfl (fun j hj=>by
  have hj:j∈[25]:=hj
  obtain rfl:=kI.1 hj
  rfl) rfl ?_
 refine CallSt.ownT zuK rfl ⟨zaa _,zmj ⟨rfl,rfl⟩ ⟨rfl,rfl⟩,trivial⟩ rfl (fun m j _ _=>zjz _ m j) ?_
 refine pEq ztF rfl ⟨zaa _,zmj ⟨rfl,rfl⟩ ⟨rfl,rfl⟩,trivial⟩ rfl ?_
 refine pEq few3 rfl ⟨zaa _,trivial⟩ rfl ?_
 refine CallSt.lendW [] rfl zte rfl ⟨zaa _,⟨rfl,rfl⟩,⟨rfl,rfl⟩,trivial⟩ (fun w ok v h=>ziz (y:=.int .i64 0) rfl (zkE _ zgv.1) h) ?_
 refine CallSt.lendW [] rfl ztd rfl ⟨zaa _,⟨rfl,rfl⟩,⟨rfl,rfl⟩,trivial⟩ (fun w ok v h=>ziz (y:=.int .i64 0) rfl (zkE _ zgu.1) h) ?_
 refine CallSt.lendW [] rfl tab3 rfl ⟨zaa _,trivial⟩ (fun w ok v h=>ziz (y:=.int .i64 0) rfl zqQ h) ?_
 repeat first|apply sT|apply sF
 refine⟨⟨.inr rfl,by unfold maxLen;omega,by show(3+1)*64<=140737488355328;omega⟩,?_⟩
 refine CallSt.lendW [] rfl zq0 rfl ⟨⟨dE _,dE _,dE _,dE _,dE _,dE _,dE _,dE _,dE _,?_,trivial⟩,⟨rfl,rfl⟩,⟨rfl,rfl⟩,trivial⟩ (fun w ok v h=>ziz (y:=.int .i64 0) rfl (zkE _ zgt.1) h) ?_
 ·exact ztz rfl x4
 refine pEq few4 rfl ⟨⟨dE _,dE _,dE _,dE _,dE _,dE _,dE _,dE _,dE _,?_,trivial⟩,trivial⟩ rfl ?_
 ·exact ztz rfl x4
 refine⟨⟨by decide,by decide⟩,?_⟩
 refine⟨by decide,?_⟩
 repeat first|apply sT|apply sF
 exact r1B rfl rfl
end Go.Pg
namespace Go.Pg
open Go.Proofs Go.RowKit Go.MapKept
abbrev ivs(l:List Int):List Value:=l.map (Value.int .i64)
theorem zmk:∀{l:List Int},2<=l.length->kv l= .agg (ivs l).toArray
 | [],h=>by simp at h
 | [_],h=>by simp at h
 | _::_::_,_=>rfl
theorem zhH{w:World}{ok:Nat->Prop}:∀l:List Int,All2 (Rep w ok) (l.map fun n=>D.int .i64 n) (ivs l)
 | []=>.nil
 | _::l=>.cons rfl (zhH l)
theorem zhc:∀{xs ys:List Int},xs.length=ys.length->eqDs (xs.map fun n=>D.int .i64 n) (ys.map fun n=>D.int .i64 n)=some (decide (xs=ys))
 | [],[],_=>rfl
 |x::xs,y::ys,h=>by
  have e:eqDs ((x::xs).map fun n=>D.int .i64 n) ((y::ys).map fun n=>D.int .i64 n)=match some (x==y),eqDs (xs.map fun n=>D.int .i64 n) (ys.map fun n=>D.int .i64 n)with
   |some a,some b=>some (a&&b)
   | _,_=>none:=rfl
  rw[e,zhc (by simpa using h)]
  show some ((x==y)&&decide (xs=ys))=_
  congr 1
  rw[kQ]
  simp
 | [],_::_,h=>by simp at h
 | _::_,[],h=>by simp at h
theorem ze7{P:Program}{t:TypeId}(h:intS P t=true):∃fs:Array Field,P.underlying t=some (.struct fs)/\intF P 0 fs.toList=true/\P.stoodInHeld t=false:=by
 unfold intS at h
 split at h
 ·rename_i fs hu
  simp only[jP,jY]at h
  exact⟨fs,hu,h.1.1.1,h.1.2⟩
 simp at h
theorem zeD{P:Program}{t:TypeId}(h:intS P t=true){fs:Array Field}(hu:P.underlying t=some (.struct fs)){xs ys:List Int}(hx:xs.length=fs.size)(hy:xs.length=ys.length)(w:World):
  (Op.equal t (.agg (ivs xs).toArray) (.agg (ivs ys).toArray)).run P w= .ok (decide (xs=ys)) w:=by
 obtain⟨fs',hu',h1,h3⟩:=ze7 h
 rw[hu]at hu'
 cases hu'
 have hfo:P.fieldsOf t=fs:=by simp[Program.fieldsOf,hu]
 have ht:P.underlying t=some (.struct (P.fieldsOf t)):=by rw[hfo];exact hu
 show(Op.equalIn 10000 t _ _).run P w=_
 rw[run_equalIn_struct w 9999 t _ _ ht h3,hfo]
 exact zjD fs.toList 0 _ _ _ _ (fun _=>True) _ h1 (by simp[hx]) (by simpa using zhc hy) (zhH xs) (zhH ys)
theorem zeU{P:Program}{w:World}{em:Bool}{n:Nat}{l:List Int}:∀(L:List Field) (i:Nat),intF P i L=true->l.length=i+L.length->
  (forIn L PUnit.unit fun (f:Field) (_:PUnit)=>(if f.name≠ "_" then(do
   let x <- part f.type (ivs l).toArray f.offset
   Instr.checkKey em (n+1) f.type x
   pure (ForInStep.yield PUnit.unit))else pure (ForInStep.yield PUnit.unit):Sem (ForInStep PUnit)):Sem PUnit).run P w= .ok PUnit.unit w
 | [],i,_,_=>by simp
 |f::L,i,h,hl=>by
  simp only [intF,jP,jY]at h
  obtain⟨⟨⟨hn,ho⟩,ht⟩,hr⟩:=h
  have ho:=jA ho
  have hn':f.name≠ "_" :=by simpa using hn
  have hi:i<l.length:=by rw [hl];simp
  have hv:(ivs l).toArray[i]?=some (.int .i64 l[i]):=by
   show(ivs l).toArray[i]?=_
   rw [List.getElem?_toArray,jU,kF hi];rfl
  cases hund:P.underlying f.type with
  |none=>rw [hund]at ht;simp at ht
  |some td=>
  cases td with
  |int k0=>
   have hag:(isAgg f.type).run P w= .ok false w:=by simp [isAgg,run_underlying hund]
   have hp1:(part f.type (ivs l).toArray f.offset).run P w= .ok (.int .i64 l[i]) w:=by simp only [part,ho,hv];simp [hag]
   have hc:(Instr.checkKey em (n+1) f.type (.int .i64 l[i])).run P w= .ok () w:=by simp [Instr.checkKey,run_underlying hund]
   have ih:=zeU (w:=w) (em:=em) (n:=n) L (i+1) hr (by rw [hl];simp;omega)
   simp only [List.forIn_cons,Sem.run_bind,hn',ne_eq,not_false_eq_true,jbe,Result.andThen_ok,hp1,hc,Sem.run_pure]
   exact ih
  | _=>rw [hund]at ht;simp at ht
theorem zdq{P:Program}{t:TypeId}(h:intS P t=true){fs:Array Field}(hu:P.underlying t=some (.struct fs))(h2:2<=fs.size){key:List Int}(hk:key.length=fs.size)(w:World):∀(es:List MapEntry) (ks:List (List Int)) (i:Nat),(es.map fun e=>e.key)=ks.map kv->(∀k∈ks,k.length=fs.size)->
  (Instr.findAsking t (kv key) es i).run P w= .ok ((es[ks.idxOf key]?).map fun e=>(i+ks.idxOf key,e.val)) w
 | [],[],i,_,_=>by simp[Instr.findAsking]
 |e::es,m::ks,i,he,hl=>by
  simp only[kY,jas]at he
  have hm:=hl m (jar ..)
  have hq:=zeD h hu (xs:=key) (ys:=m) hk (by omega) w
  rw[<- zmk (by omega),<- zmk (by omega)]at hq
  by_cases e1:key=m
  ·subst e1
   have:List.idxOf key (key::ks)=0:=by simp[List.idxOf_cons]
   rw[this]
   rw[jG rfl]at hq
   simp[Instr.findAsking,he.1,hq]
  ·have e2:List.idxOf key (m::ks)=List.idxOf key ks+1:=by
    rw[List.idxOf_cons]
    have:(m==key)=false:=by simp;exact fun e=>e1 e.symm
    rw[this];rfl
   rw[e2]
   rw[jH e1]at hq
   have ih:=zdq h hu h2 hk w es ks (i+1) he.2 fun k hk=>hl k (jav _ hk)
   simp only[Instr.findAsking,he.1,Sem.run_bind,hq,Result.andThen_ok,qT,jaG]
   rw[ih]
   simp only[wG]
   congr 2
   funext e'
   rw[show i+1+List.idxOf key ks=i+(List.idxOf key ks+1)by omega]
 | [],_::_,i,h,_=>by simp at h
 | _::_,[],i,h,_=>by simp at h
theorem zml{P:Program}{t:TypeId}{fs:Array Field}(h:intS P t=true)(hu:P.underlying t=some (.struct fs))(h2:2<=fs.size):KeyF P t fs.size:=fun key hk=>by
 obtain⟨fs',hu',h1,h3⟩:=ze7 h
 rw[hu]at hu'
 cases hu'
 have ek:kv key= .agg (ivs key).toArray:=zmk (by omega)
 refine⟨fun b w=>?_,fun w=>?_,fun w es ks he hl=>?_⟩
 ·rw[ek,show(10000:Nat)=9999+1 from rfl,Instr.checkKey]
  simp only[Sem.run_bind,run_underlying hu,Result.andThen_ok]
  rw[<- Array.forIn_toList]
  refine jbI (jI (Result.andThen · fun a w'=>Sem.run P (pure ()) w') (zeU (l:=key) (em:=b) (n:=9998) (w:=w) fs.toList 0 h1 (by simp[hk]))) ?_
  simp
 ·have hs:Instr.sameBits 10000 (kv key) (kv key)=true:=by
   rw[ek]
   show((ivs key).toArray.size==(ivs key).toArray.size&&((ivs key).toArray.toList.zip (ivs key).toArray.toList).all fun (x,y)=>Instr.sameBits 9999 x y)=true
   simp only[jaH,qE]
   rw[jC]
   intro p hp
   obtain⟨a,b⟩:=p
   have hz:∀{l:List Int}{a b:Value},(a,b)∈(ivs l).zip (ivs l)->∃n,a= .int .i64 n/\b= .int .i64 n:=fun {l}=>by
    induction l with
    |nil=>intro a b h;simp at h
    |cons x l ih=>
    intro a b h
    simp only[ivs,kY,List.zip_cons_cons,qC]at h
    rcases h with h|h
    ·cases h;exact⟨x,rfl,rfl⟩
    exact ih h
   obtain⟨n,rfl,rfl⟩:=hz (by simpa using hp)
   simp[Instr.sameBits]
  simp[Instr.keyThatStays,hs]
 rw[run_findKey_eq w (by rw[hu]) (kv key) es]
 have:=zdq h hu h2 hk w es ks 0 he hl
 simp only[qB]at this
 exact this
theorem zdL{α:Type}(e:α->List Int)(hi:∀x y,e x=e y->x=y)(l:List α)(k:α):(l.map e).idxOf (e k)<(l.map e).length↔k∈l:=by
 rw[jbc,kJ]
 constructor
 ·rintro⟨x,hx,h⟩;rw[<- hi _ _ h];exact hx
 intro h;exact⟨k,h,rfl⟩
end Go.Pg
namespace Go.Pg
open Go.Proofs Go.RowKit Go.Sort Go.Shelf
abbrev plK(p:Place):List Int:=[p.X,p.Y]
theorem zfL(p q:Place)(h:plK p=plK q):p=q:=by
 obtain⟨a,b⟩:=p
 obtain⟨c,d⟩:=q
 simp only[plK,jas,and_true]at h
 rw[h.1,h.2]
theorem kPl:KeyF PP 60 2:=by
 have h2:(PP.fieldsOf 60).size=2:=by kernel_rfl
 have:=zml (P:=PP) (t:=60) (fs:=PP.fieldsOf 60) (by kernel_rfl) (by kernel_rfl) (by omega)
 rwa [h2]at this
theorem zt7(l:List Place)(p:Place):lkD (l.map plK) (fun _=>.bool true) (plK p) (.bool false)= .bool (decide (p∈l)):=by
 unfold lkD
 by_cases h:p∈l
 ·rw[kH ((zdL plK zfL l p).2 h),jG h]
 rw[kG fun e=>h ((zdL plK zfL l p).1 e),jH h]
def putPl(l:List Place)(p:Place):List Place:=if p∈l then l else l++[p]
theorem zpU(l:List Place)(p:Place):D.eqv (.mp 2 (putK (l.map plK) (plK p)) (putF (l.map plK) (fun _=>.bool true) (plK p) (.bool true))) (.mp 2 ((putPl l p).map plK) fun _=>.bool true):=by
 refine⟨rfl,?_,fun j _=>?_⟩
 ·unfold putK putPl
  by_cases h:p∈l
  ·rw[kH ((zdL plK zfL l p).2 h),kH h]
  rw[kG fun e=>h ((zdL plK zfL l p).1 e),kG h,jT];rfl
 unfold putF;split<;>exact dE _
theorem zdD(ids:List Int)(m:Nat):(memb ids m).Sublist ids:=by
 have e:(List.range ids.length).map (ids.getD · 0)=ids:=by
  apply List.ext_getElem (by simp)
  intro i h1 h2
  rw[List.getElem_map,List.getElem_range,hZ,kF h2];rfl
 have:(memb ids m).Sublist ((List.range ids.length).map (ids.getD · 0)):=List.Sublist.map _ (jbu ..)
 rwa [e]at this
theorem DayOk.lt{d:Day}(h:DayOk d):(sigL d.R).Pairwise (· < ·):=by
 refine List.Pairwise.imp₂ (fun a b h1 h2=>?_) (ziI d.R) h.nod
 have h1:=kU h1
 have h2:a≠b:=h2
 omega
theorem zpt{d:Day}(h:dayE d=0){m:Nat}(hne:memb (sigL d.R) m≠[]):askE d (memb (sigL d.R) m)=0:=by
 have ok:=zaN h
 have hsub:=zdD (sigL d.R) m
 have hp:=ok.lt.sublist hsub
 have hr:setB (memb (sigL d.R) m)=true:=by
  unfold setB risB
  rw[jP]
  refine⟨jC.2 fun j hj=>jG ?_,jG (jaX.2 hne)⟩
  have hj:=kK.1 hj
  have h1:j<(memb (sigL d.R) m).length:=by omega
  have h2:j+1<(memb (sigL d.R) m).length:=by omega
  rw[hZ,hZ,kF h1,kF h2]
  exact kN.1 hp j (j+1) h1 h2 (by omega)
 have hq:partB (memb (sigL d.R) m) (sigL d.R)=true:=jC.2 fun x hx=>kD.2 (hsub.subset hx)
 unfold askE
 rw[kG (fun hh=>hh h),kG (by rw[hr];decide),kG (by rw[hq];decide)]
theorem zot(ids:List Int)(a b:Nat){x:Int}(h:(memb ids (a&&&b)).contains x=true):(memb ids a).contains x=true:=by
 have h:=kD.1 h
 unfold memb membA at h
 obtain⟨i,hi,e⟩:=kJ.1 h
 rw[kS,jbt,jP]at hi
 exact kD.2 (kJ.2 ⟨i,kS.2 ⟨hi.1,hi.2.1⟩,e⟩)
theorem zqS{k m:Nat}:k&&&m=k↔∀i,k.testBit i=true->m.testBit i=true:=by
 constructor
 ·intro h i hi
  rw[<- h,jbt,jP]at hi
  exact hi.2
 intro h
 apply ja6
 intro i
 rw[jbt]
 cases e:k.testBit i with
 |false=>rfl
 |true=>rw[h i e];rfl
theorem zjR{n m i:Nat}(hm:m<2^n)(h:m.testBit i=true):i<n:=by
 rcases jaD i n with h1|h1
 ·exact h1
 rw[jaZ (jN hm (jah (by decide) h1))]at h;cases h
theorem zsG{n m i j:Nat}(hn:n<=7)(hm:m<2^n)(hi:i<n):(offS m i).testBit j=(m.testBit j&&decide (j≠i)):=by
 unfold offS
 rw[jbt]
 cases e:m.testBit j with
 |false=>rfl
 |true=>
 have hj:=zjR hm e
 have:=al7L (n:=7) (m:=7) (P:=fun i j=>(127-2^i).testBit j==decide (j≠i)) (by decide+kernel) (show i<7 by omega) (show j<7 by omega)
 rw[eq_of_beq this]
theorem zjQ(m i j:Nat):(onS m i).testBit j=(m.testBit j||decide (i=j)):=by
 unfold onS
 rw[Nat.testBit_or,Nat.testBit_two_pow]
theorem ztX(m i:Nat):offS m i<=m:=Nat.and_le_left
theorem zry{m:Nat}(h:0<m):∃i,m.testBit i=true:=by
 refine jL fun hc=>?_
 have:m=0:=by
  apply ja6
  intro i
  rw[Nat.zero_testBit]
  cases e:m.testBit i with
  |false=>rfl
  |true=>exact absurd ⟨i,e⟩ hc
 omega
theorem zlY{ids:List Int}{m:Nat}(h0:0<m)(hm:m<2^ids.length):memb ids m≠[]:=by
 obtain⟨i,hi⟩:=zry h0
 have hl:=zjR hm hi
 intro e
 have:ids.getD i 0∈memb ids m:=kJ.2 ⟨i,kS.2 ⟨kK.2 hl,hi⟩,rfl⟩
 rw[e]at this
 cases this
theorem zjU{d:Day}(h:dayE d=0){m:Nat}(h0:0<m)(hm:m<2^(sigL d.R).length):(d.R.any fun r=>(memb (sigL d.R) m).contains r.ID)=true:=zsI (zpt h (zlY h0 hm))
theorem zh7{d:Day}(h:dayE d=0){m:Nat}(h0:0<m)(hm:m<2^(sigL d.R).length):fitX d m=decide (0<(celD d m).length):=by
 unfold fitX
 rw[jG h0,qE,zkR (zaN h) (zjU h h0 hm)]
theorem zo5{d:Day}(h:dayE d=0){k m:Nat}(h0:0<k)(hs:k&&&m=k)(hm:m<2^(sigL d.R).length)(hp:fitX d m=true):fitX d k=true:=by
 have hk:k<=m:=by rw[<- hs];exact Nat.and_le_right
 rw[zh7 h (by omega) hm]at hp
 rw[zh7 h h0 (by omega)]
 obtain⟨q,hq⟩:=List.exists_mem_of_length_pos (kU hp)
 refine jG (List.length_pos_of_mem (a:=q) ?_)
 refine zly (zaN h) (A:=memb (sigL d.R) m) (B:=memb (sigL d.R) k) (fun x hx=>?_) (zjU h h0 (by omega)) hq
 rw[<- hs,Nat.and_comm]at hx
 exact zot _ m k hx
theorem zjA{d:Day}(h:dayE d=0):∀M,M<=2^(sigL d.R).length->∀m,0<m->m<M->fitK d (keysD d M) m=fitX d m
 |0,_,m,_,hm=>by omega
 |M+1,hM,m,h0,hm=>by
  have ih:=zjA h M (by omega)
  have h7:=sig7 (zaN h)
  by_cases e:m=M
  ·subst e
   have hpart:fitX d m=true->partK d (keysD d m) m=true:=fun hp=>by
    unfold partK
    rw[jC]
    intro i hi
    have hi:=kK.1 hi
    unfold parK
    by_cases e1:offS m i=m
    ·simp[e1]
    by_cases e2:offS m i=0
    ·simp[e2]
    have hlt:offS m i<m:=by have:=ztX m i;omega
    have:=ih (offS m i) (by omega) hlt
    rw[this,zo5 h (by omega) (k:=offS m i) (m:=m) (by
     rw[zqS];intro j hj
     rw[zsG h7 (show m<_ by omega) hi,jP]at hj;exact hj.1) (by omega) hp]
    simp
   have hnot:(keysD d m).contains m=false:=by
    rw[qW];intro hc
    have:=zdK d m m (kD.1 hc);omega
   rw[zh7 h h0 (by omega)]at*
   unfold keysD
   split
   ·rename_i hk
    unfold fitK
    rw[show(keysD d m++[m]).contains m=true from kD.2 (by simp),qE]
   rename_i hk
   unfold fitK
   rw[hnot,qK]
   cases e3:decide (0<(celD d m).length)with
   |false=>rfl
   |true=>exact absurd ⟨by omega,hpart e3⟩ hk
  have hm':m<M:=by omega
  rw[<- ih m h0 hm']
  unfold fitK
  congr 1
  conv=>lhs;unfold keysD
  split
  ·rw[kQ,kD,kD,kL,kI]
   exact⟨fun hh=>hh.elim id fun e'=>absurd e' e,.inl⟩
  rfl
theorem zsf{d:Day}(h:dayE d=0){m:Nat}(h0:0<m)(hm:m<2^(sigL d.R).length):fitK d (ksD d) m=fitX d m:=zjA h _ (jE _) m h0 hm
theorem zd8{ids:List Int}{m j:Nat}(hm:m<2^j):∀n,j<=n->membA ids m n=membA ids m j
 |0,h=>by obtain rfl:j=0:=Nat.le_zero.1 h;rfl
 |n+1,h=>by
  by_cases e:j=n+1
  ·rw[e]
  have:m.testBit n=false:=by
   cases q:m.testBit n with
   |false=>rfl
   |true=>have:=zjR hm q;omega
  rw[zcK this]
  exact zd8 hm n (by omega)
theorem zp4{x i:Nat}(h:x<2^i):x+2^i=onS x i:=by
 have:=Nat.two_pow_add_eq_or_of_lt h 1
 unfold onS
 rw[Nat.mul_one]at this
 rw[Nat.add_comm,this,Nat.or_comm]
theorem ze5{ids:List Int}{a b:Nat}:∀{n:Nat},(∀j,j<n->a.testBit j=b.testBit j)->membA ids a n=membA ids b n
 |0,_=>rfl
 |n+1,h=>by
  have ih:=ze5 (ids:=ids) (n:=n) fun j hj=>h j (by omega)
  have hn:=h n (by omega)
  cases e:a.testBit n with
  |true=>rw[zbW e,zbW (by rw[<- hn];exact e),ih]
  |false=>rw[zcK e,zcK (by rw[<- hn];exact e),ih]
theorem zjf{ids:List Int}{x i:Nat}(hx:x<2^i)(hi:i<ids.length):memb ids (x+2^i)=memb ids x++[ids.getD i 0]:=by
 have h1:x+2^i<2^(i+1):=by rw[Nat.pow_succ];omega
 unfold memb
 rw[zd8 h1 ids.length hi,zd8 hx ids.length (by omega),zp4 hx,zbW (by rw[zjQ];simp)]
 congr 1
 refine ze5 fun j hj=>?_
 rw[zjQ,jH (by omega),qZ]
theorem zlX(ids:List Int):memb ids 0=[]:=by
 unfold memb membA
 rw[List.filter_eq_nil_iff.2 (fun i _=>by simp)]
 rfl
theorem zf7{l:List Nat}{f:Nat->List Int}{q:Nat}(h:q<l.length):(l.map f).getD q []=f (l.getD q 0):=by
 rw[hZ,jU,hZ,kF h];rfl
theorem snocInd{α:Type}{motive:List α->Prop}(h0:motive [])(h1:∀l x,motive l->motive (l++[x]))(l:List α):motive l:=by
 rw[<- List.reverse_reverse l]
 induction l.reverse with
 |nil=>exact h0
 |cons x r ih=>rw[List.reverse_cons];exact h1 _ _ ih
theorem zil{ids:List Int}{ix:List Nat}(hr:Rg ix)(hl:ix.length=ids.length):∀k i,i+k=ids.length->bld (ids.drop i) ((bitK ix i).map (memb ids)) (ix.drop i)=setX ids ix
 |0,i,h=>by
  have e:i=ids.length:=by omega
  subst e
  rw[ja9,<- hl,ja9]
  rfl
 |k+1,i,h=>by
  have hi:i<ids.length:=by omega
  have hi2:i<ix.length:=by omega
  have d1:ids.drop i=ids.getD i 0::ids.drop (i+1):=by rw[qO hi,hZ,kF hi];rfl
  have d2:ix.drop i=ix.getD i 0::ix.drop (i+1):=by rw[qO hi2,hZ,kF hi2];rfl
  have hk:=hr i hi2
  have hlen:=zba hr i (by omega)
  rw[d1,d2,<- zil hr hl k (i+1) (by omega),zbB]
  show bld (ids.drop (i+1)) (if _ then _ else _) (ix.drop (i+1))=_
  congr 1
  rw[kO]
  unfold bit1
  by_cases h1:ix.getD i 0<(bitK ix i).length
  ·rw[kH h1,kH h1,List.map_set]
   have hx:(bitK ix i).getD (ix.getD i 0) 0<2^i:=(zaT ix i _ (by rw[hZ,kF h1];exact kR h1)).2
   rw[zjf hx hi]
   congr 2
   exact zf7 h1
  rw[kG h1,kG h1,jT]
  have:=zjf (ids:=ids) (x:=0) (Nat.two_pow_pos i) hi
  rw[qB,zlX]at this
  show _=_++[memb ids (2^i)]
  rw[this];rfl
theorem zhn{ids:List Int}(hd:ids.Nodup)(h7:ids.length<=7){m:Nat}:∀i,i<=ids.length->∀j,(bitA ids (memb ids m) i).testBit j=(decide (j<i)&&m.testBit j)
 |0,_,j=>by show(0:Nat).testBit j=_;simp
 |i+1,hi,j=>by
  have ih:=zhn hd h7 (m:=m) i (by omega)
  have hb:=zbu hd (m:=m) (show i<ids.length by omega)
  rw[zcU]
  by_cases e:m.testBit i=true
  ·rw[kH (kD.2 (hb.2 e)),zjQ,ih]
   by_cases e2:i=j
   ·subst e2;simp[e]
   rw[jH e2,qZ]
   congr 1
   exact qI.2 (by omega)
  rw[kG (fun hh=>e (hb.1 (kD.1 hh))),ih]
  by_cases e2:i=j
  ·subst e2
   rw[Bool.not_eq_true]at e
   rw[e,kW,kW]
  congr 1
  exact qI.2 (by omega)
theorem znd{ids:List Int}(hd:ids.Nodup)(h7:ids.length<=7){m:Nat}(hm:m<2^ids.length):bitS ids (memb ids m)=m:=by
 unfold bitS
 apply ja6
 intro j
 rw[zhn hd h7 _ (jE _)]
 cases e:m.testBit j with
 |false=>rw[kW]
 |true=>rw[jG (zjR hm e)];rfl
abbrev gwD(d:Day):List (List Nat):=gwX (fitX d) (sigL d.R).length []
theorem zrC{d:Day}(h:dayE d=0):parts d=(gwD d).map (setX (sigL d.R)):=by
 have ok:=zaN h
 have h7:=sig7 ok
 unfold parts gwD gwX
 rw[zd0]
 have e1:(rgs (sigL d.R).length (mst [])).map (([]:List Nat)++ ·)=rgs (sigL d.R).length 0:=by
  show(rgs (sigL d.R).length 0).map (fun x=>[]++x)=_
  simp
 rw[e1]
 have hm:∀ix∈rgs (sigL d.R).length 0,Rg ix/\ix.length=(sigL d.R).length:=fun ix hx=>ziN _ [] zla ix hx
 show List.filter _ ((rgs (sigL d.R).length 0).map (bld (sigL d.R) []))=_
 generalize rgs (sigL d.R).length 0=L at hm
 have hb:∀ix∈L,bld (sigL d.R) [] ix=setX (sigL d.R) ix:=fun ix hx=>by
  have:=zil (hm ix hx).1 (hm ix hx).2 (sigL d.R).length 0 (qB _)
  exact this
 rw[qH hb,List.filter_map]
 congr 1
 refine ja4 fun ix hx=>?_
 show(setX (sigL d.R) ix).all _=(bitX ix).all (fitX d)
 unfold setX
 rw[List.all_map,kQ,jC,jC]
 refine forall_congr' fun m=>forall_congr' fun hmm=>?_
 have hml:=zaT ix ix.length m hmm
 rw[(hm ix hx).2]at hml
 show fitK d (ksD d) (bitS (sigL d.R) (memb (sigL d.R) m))=true↔_
 rw[znd ok.nod h7 hml.2,zsf h hml.1 hml.2]
def fwP1(o:Int)(p:List (List Int)):Int:=if o<0\/(p.length:Int)<o then(p.length:Int)else o
def fwP(l:List (List (List Int))):Int:=l.foldl fwP1 (-1)
theorem zjw(l:List (List (List Int)))(p:List (List Int)):fwP (l++[p])=fwP1 (fwP l) p:=by unfold fwP;rw[wJ];rfl
theorem zqj:∀{l:List (List (List Int))},(fwP l<0->l=[])/\(∀p∈l,fwP l<=(p.length:Int))/\(l≠[]->∃p∈l,(p.length:Int)=fwP l):=by
 intro l
 induction l using snocInd with
 |h0=>exact⟨fun _=>rfl,⟨fun p hp=>(by cases hp),fun h=>absurd rfl h⟩⟩
 |h1 l p ih=>
 obtain⟨a,b,c⟩:=ih
 rw[zjw]
 unfold fwP1
 by_cases h:fwP l<0\/(p.length:Int)<fwP l
 ·rw[kH h]
  refine⟨fun h'=>by omega,fun q hq=>?_,fun _=>⟨p,by simp,rfl⟩⟩
  rcases kL.1 hq with hq|hq
  ·have:=b q hq
   rcases h with h|h
   ·rw[a h]at hq;cases hq
   omega
  rw[kI.1 hq];exact jaY _
 rw[kG h]
 refine⟨fun h'=>absurd (.inl h') h,fun q hq=>?_,fun _=>?_⟩
 ·rcases kL.1 hq with hq|hq
  ·exact b q hq
  rw[kI.1 hq];omega
 by_cases hl:l=[]
 ·subst hl
  exact absurd (.inl (by show(-1:Int)<0;decide)) h
 obtain⟨q,hq,e⟩:=c hl
 exact⟨q,qV _ hq,e⟩
theorem zmK{l:List (List (List Int))}(h:fltP (fwP l) l≠[]):((((fltP (fwP l) l).getD 0 []).length:Nat):Int)=fwP l:=by
 have h0:0<(fltP (fwP l) l).length:=jaX.2 h
 have:(fltP (fwP l) l).getD 0 []∈fltP (fwP l) l:=by rw[hZ,kF h0];exact kR h0
 have:=(kS.1 this).2
 simpa using this
theorem zo4{l:List (List (List Int))}(h:fltP (fwP l) l=[]):l=[]:=by
 refine jL fun hl=>?_
 obtain⟨p,hp,e⟩:=(zqj (l:=l)).2.2 hl
 have:p∈fltP (fwP l) l:=kS.2 ⟨hp,by simpa using e⟩
 rw[h]at this;cases this
theorem zpl(p:List (List Int)):bst1 [] p=[p]:=rfl
theorem zsz{o:List (List (List Int))}{p:List (List Int)}(h0:0<o.length)(h:p.length<(o.getD 0 []).length):bst1 o p=[p]:=by
 have e:bst0 o p=[]:=by unfold bst0;rw[jG h0,jG h];rfl
 unfold bst1;rw[e];rfl
theorem zm8{o:List (List (List Int))}{p:List (List Int)}(h:¬p.length<(o.getD 0 []).length):bst0 o p=o:=by unfold bst0;rw[jH h,kW];rfl
theorem zm7{o:List (List (List Int))}{p:List (List Int)}(h:p.length=(o.getD 0 []).length):bst1 o p=o++[p]:=by
 unfold bst1;rw[zm8 (by omega),jG h,k9];rfl
theorem zsA{o:List (List (List Int))}{p:List (List Int)}(h0:0<o.length)(h:(o.getD 0 []).length<p.length):bst1 o p=o:=by
 unfold bst1;rw[zm8 (by omega),jH (by omega:¬o.length=0),jH (by omega:¬p.length=(o.getD 0 []).length)];rfl
theorem zuM:∀{l:List (List (List Int))},bstL l=fltP (fwP l) l:=by
 intro l
 induction l using snocInd with
 |h0=>rfl
 |h1 l p ih=>
 rw[zb4,ih,zjw,zmJ]
 obtain⟨a,b,_⟩:=zqj (l:=l)
 by_cases hn:fltP (fwP l) l=[]
 ·have hl:=zo4 hn
  subst hl
  have e:fwP1 (fwP []) p=(p.length:Int):=kH (Or.inl (show(-1:Int)<0 by decide))
  rw[hn,zpl,e,kH (jaH _)]
  rfl
 have hh:=zmK hn
 have h0:0<(fltP (fwP l) l).length:=jaX.2 hn
 have hf:¬fwP l<0:=by omega
 by_cases h1:(p.length:Int)<fwP l
 ·have e:fwP1 (fwP l) p=(p.length:Int):=kH (Or.inr h1)
  rw[zsz h0 (by omega),e,kH (jaH _)]
  have:fltP (p.length:Int) l=[]:=List.filter_eq_nil_iff.2 fun q hq=>by
   have:=b q hq
   simp;omega
  rw[this];rfl
 have e:fwP1 (fwP l) p=fwP l:=kG (fun hh=>hh.elim hf h1)
 rw[e]
 by_cases h2:(p.length:Int)=fwP l
 ·rw[zm7 (by omega),kH (by simpa using h2)]
 rw[zsA h0 (by omega),kG (by simpa using h2)]
theorem fw_eq(ids:List Int)(l:List (List Nat)):fwP (l.map (setX ids))=fewN l:=by
 unfold fwP fewN
 rw[List.foldl_map]
 congr 1
 funext o x
 show(if o<0\/(((setX ids x).length:Nat):Int)<o then(((setX ids x).length:Nat):Int)else o)=few1 o x
 unfold setX few1
 rw[kO]
theorem zuy(ids:List Int)(k:Int)(l:List (List Nat)):fltP k (l.map (setX ids))=(wthX k l).map (setX ids):=by
 unfold fltP wthX
 rw[List.filter_map]
 congr 1
 refine ja4 fun x _=>?_
 show((((setX ids x).length:Nat):Int)==k)=_
 unfold setX
 rw[kO]
theorem zdf{d:Day}(h:dayE d=0):bsts d=(bstX (fitX d) (sigL d.R).length).map (setX (sigL d.R)):=by
 show bstL (parts d)=_
 rw[zuM,zrC h,fw_eq,zuy]
 rfl
theorem zht(k:Int)(l:List (List Nat)):(wthX k l).length<=l.length:=qD _ _
theorem zqF(a b:List Int)(hn:a.length<=1000000):Spec PP 11 [.d (lI a),.d (lI b)] [B (decide (a=b))]:=by
 refine sA Tryz.func11 ?_
 apply bY<;>intro h0
 ·have h0:¬a.length=b.length:=fun e=>by
   have:¬(a.length:Int)=b.length:=by simpa using h0
   exact this (by rw[e])
  refine r1B rfl ?_
  exact(jH fun e=>h0 (by rw[e])).symm
 have h0:a.length=b.length:=by
  have:(a.length:Int)=b.length:=by simpa using h0
  omega
 refine lOf (σ:=Nat) (fun i=>([(0,.d (lI a)),(1,.d (lI b)),(5,.d (I i))],[])) (fun i=>i<=a.length/\∀j,j<i->a.getD j 0=b.getD j 0) (fun i=>a.length-i) 0
  ⟨rfl,trivial,wq rfl⟩ z0L fun i hi=>?_
 obtain⟨hi,ha⟩:=hi
 apply bY<;>intro h1
 ·have h1:i<a.length:=by have:=dT h1;omega
  refine oN 9 ?_
  refine⟨⟨rfl,by omega,by omega⟩,?_⟩
  refine⟨⟨rfl,by omega,by omega⟩,?_⟩
  apply bY<;>intro h3
  ·have h3:a.getD i 0≠b.getD i 0:=by simpa using h3
   refine r1B rfl ?_
   exact(jH fun e=>h3 (by rw[e])).symm
  have h3:a.getD i 0=b.getD i 0:=by simpa using h3
  refine⟨i6,?_⟩
  refine⟨i+1,⟨rfl,trivial,wq rfl⟩,⟨h1,fun j hj=>?_⟩,msr h1⟩
  by_cases e:j=i
  ·subst e;exact h3
  exact ha j (by omega)
 have h1:i=a.length:=by have:=dF h1;omega
 subst h1
 refine r1B rfl ?_
 symm
 refine jG ?_
 apply List.ext_getElem h0
 intro j hj hj'
 have:=ha j hj
 rw[hZ,hZ,kF hj,kF hj']at this
 exact this
theorem zkI(a b:List (List Int))(hn:a.length<=1000000)(hs:∀s∈a,s.length<=1000000):Spec PP 22 [.d (lII a),.d (lII b)] [B (decide (a=b))]:=by
 refine sA Tryz.func22 ?_
 apply bY<;>intro h0
 ·have h0:¬a.length=b.length:=fun e=>by
   have:¬(a.length:Int)=b.length:=by simpa using h0
   exact this (by rw[e])
  refine r1B rfl ?_
  exact(jH fun e=>h0 (by rw[e])).symm
 have h0:a.length=b.length:=by
  have:(a.length:Int)=b.length:=by simpa using h0
  omega
 refine lOf (σ:=Nat) (fun i=>([(0,.d (lII a)),(1,.d (lII b)),(5,.d (I i))],[])) (fun i=>i<=a.length/\∀j,j<i->a.getD j []=b.getD j []) (fun i=>a.length-i) 0
  ⟨rfl,trivial,wq rfl⟩ z0L fun i hi=>?_
 obtain⟨hi,ha⟩:=hi
 apply bY<;>intro h1
 ·have h1:i<a.length:=by have:=dT h1;omega
  have hm:a.getD i []∈a:=by rw[hZ,kF h1];exact kR h1
  refine oN 10 ?_
  refine⟨⟨rfl,by omega,by omega⟩,?_⟩
  refine⟨⟨rfl,by omega,by omega⟩,?_⟩
  refine oP (zqF (a.getD i []) (b.getD i []) (hs _ hm)) rfl rfl ?_
  apply bY<;>intro h3
  ·have h3:a.getD i []≠b.getD i []:=by simpa using h3
   refine r1B rfl ?_
   exact(jH fun e=>h3 (by rw[e])).symm
  have h3:a.getD i []=b.getD i []:=by simpa using h3
  refine⟨i6,?_⟩
  refine⟨i+1,⟨rfl,trivial,wq rfl⟩,⟨h1,fun j hj=>?_⟩,msr h1⟩
  by_cases e:j=i
  ·subst e;exact h3
  exact ha j (by omega)
 have h1:i=a.length:=by have:=dF h1;omega
 subst h1
 refine r1B rfl ?_
 symm
 refine jG ?_
 apply List.ext_getElem h0
 intro j hj hj'
 have:=ha j hj
 rw[hZ,hZ,kF hj,kF hj']at this
 exact this
theorem zbI{ix:List Nat}{i:Nat}:∀{k:Nat},i<k->k<=ix.length->ix.getD i 0<mst (ix.take k)
 |0,h,_=>by omega
 |k+1,h,hk=>by
  rw[zcJ (by omega)]
  by_cases e:i=k
  ·subst e;omega
  have:=zbI (ix:=ix) (i:=i) (k:=k) (by omega) (by omega);omega
theorem zhm{ix:List Nat}(hr:Rg ix):∀k,k<=ix.length->∀q,q<(bitK ix k).length->∀i,((bitK ix k).getD q 0).testBit i=(decide (i<k)&&(ix.getD i 0==q))
 |0,_,q,hq,i=>by cases hq
 |k+1,hk,q,hq,i=>by
  have ih:=zhm hr k (by omega)
  have hlen:=zba hr k (by omega)
  have hc:=hr k (by omega)
  rw[zbB]at hq⊢
  unfold bit1 at hq⊢
  have sp:(decide (i<k+1)&&(ix.getD i 0==q))=((decide (i<k)&&(ix.getD i 0==q))||(decide (i=k)&&(ix.getD k 0==q))):=by
   by_cases e:i=k
   ·subst e;simp
   rw[jH e,show decide (i<k+1)=decide (i<k)from qI.2 (by omega)];simp
  rw[sp]
  by_cases h1:ix.getD k 0<(bitK ix k).length
  ·rw[kH h1]at hq⊢
   rw[jal]at hq
   rw[zjt h1]
   by_cases e:q=ix.getD k 0
   ·rw[kH e]
    have hx:(bitK ix k).getD (ix.getD k 0) 0<2^k:=(zaT ix k _ (by rw[hZ,kF h1];exact kR h1)).2
    rw[zp4 hx,zjQ,ih _ h1 i,<- e,jaH,jac]
    congr 1
    exact qI.2 ⟨fun h=>h.symm,fun h=>h.symm⟩
   rw[kG e,ih q hq i,show(ix.getD k 0==q)=false from jax.2 (fun h=>e h.symm),kW,qZ]
  rw[kG h1]at hq⊢
  rw[jR,qR]at hq
  by_cases e:q<(bitK ix k).length
  ·rw[hZ,jJ e,<- hZ,ih q e i,show(ix.getD k 0==q)=false from jax.2 (fun h=>by omega),kW,qZ]
  have eq:q=(bitK ix k).length:=by omega
  rw[hZ,jK (by omega),eq,kE]
  show(2^k).testBit i=_
  rw[Nat.testBit_two_pow,show(ix.getD k 0==(bitK ix k).length)=true from jai.2 (by omega),jac]
  have:(decide (i<k)&&(ix.getD i 0==(bitK ix k).length))=false:=by
   by_cases h:i<k
   ·have:=zbI (ix:=ix) h (by omega)
    rw[show(ix.getD i 0==(bitK ix k).length)=false from jax.2 (by omega),kW]
   rw[jH h,qK]
  rw[this,jaC]
  exact qI.2 ⟨fun h=>h.symm,fun h=>h.symm⟩
def samI(i j:Nat)(ix:List Nat):Bool:=ix.getD i 0==ix.getD j 0
theorem zpI{ids:List Int}(hd:ids.Nodup){ix:List Nat}(hr:Rg ix)(hl:ix.length=ids.length){i j:Nat}(hi:i<ids.length)(hj:j<ids.length):togB (ids.getD i 0) (ids.getD j 0) (setX ids ix)=samI i j ix:=by
 have hb:∀q,q<(bitX ix).length->∀i,i<ids.length->((memb ids ((bitX ix).getD q 0)).contains (ids.getD i 0)=true↔ix.getD i 0=q):=fun q hq i hi=>by
  rw[kD,zbu hd hi]
  have:=zhm hr ix.length (jE _) q hq i
  show(((bitK ix ix.length).getD q 0).testBit i=true↔_)
  rw[this,jG (by omega),qE,jai]
 unfold togB setX samI bthB
 rw[List.any_map,kQ,kM,jai]
 constructor
 ·rintro⟨m,hm,h⟩
  obtain⟨q,hq,rfl⟩:=kP hm
  have e:(bitX ix)[q]=(bitX ix).getD q 0:=by rw[hZ,kF hq];rfl
  have h:((memb ids (bitX ix)[q]).contains (ids.getD i 0)&&(memb ids (bitX ix)[q]).contains (ids.getD j 0))=true:=h
  rw[e,jP,hb q hq i hi,hb q hq j hj]at h
  omega
 intro h
 have hq:ix.getD i 0<(bitX ix).length:=by
  have h1:=zba hr ix.length (jE _)
  have h2:=zbI (ix:=ix) (i:=i) (k:=ix.length) (by omega) (jE _)
  show _<(bitK ix ix.length).length
  omega
 refine⟨(bitX ix).getD (ix.getD i 0) 0,by rw[hZ (l:=bitX ix),kF hq];exact kR hq,?_⟩
 show((memb ids ((bitX ix).getD (ix.getD i 0) 0)).contains (ids.getD i 0)&&(memb ids ((bitX ix).getD (ix.getD i 0) 0)).contains (ids.getD j 0))=true
 rw[jP,hb _ hq i hi,hb _ hq j hj]
 exact⟨rfl,h.symm⟩
theorem zuh{l:List Int}{x:Int}(h:l.contains x=true):∃i:Nat,i<l.length/\idxL (· ==x) l=(i:Int)/\l.getD i 0=x:=by
 rcases idxL_cases (· ==x) l 0 with⟨e,h1⟩|⟨i,hi,e,h1,_⟩
 ·have:=zmu l x
  rw[e,h]at this
  cases this
 exact⟨i,hi,e,eq_of_beq h1⟩
def whr(p:List (List Int))(x:Int):Nat->Int
 |0=>-1
 |n+1=>if x∈p.getD n []then(n:Int)else whr p x n
theorem zbD{p:List (List Int)}{x:Int}:∀{n:Nat},whr p x n<0↔∀m,m<n->x∉p.getD m []
 |0=>⟨fun _ m h=>by omega,fun _=>by show(-1:Int)<0;decide⟩
 |n+1=>by
  have ih:=zbD (p:=p) (x:=x) (n:=n)
  unfold whr
  by_cases h:x∈p.getD n []
  ·rw[kH h]
   exact⟨fun hh=>by omega,fun hh=>absurd h (hh n (Nat.lt_succ_self _))⟩
  rw[kG h,ih]
  refine⟨fun hh m hm=>?_,fun hh m hm=>hh m (by omega)⟩
  by_cases e:m=n
  ·rw[e];exact h
  exact hh m (by omega)
theorem zfo{p:List (List Int)}{x:Int}:∀{n m:Nat},whr p x n=(m:Int)->m<n/\x∈p.getD m []
 |0,m,h=>by
  have h:(-1:Int)=(m:Int):=h
  omega
 |n+1,m,h=>by
  unfold whr at h
  split at h
  ·rename_i h1
   have:n=m:=by omega
   subst this
   exact⟨Nat.lt_succ_self _,h1⟩
  have:=zfo h
  exact⟨by omega,this.2⟩
def fstB(p:List (List Int))(i:Nat):Bool:=decide (i=0)||decide ((p.getD (i-1) []).getD 0 0<(p.getD i []).getD 0 0)
def plc1(ids:List Int)(p:List (List Int))(i:Nat):Bool:=setB (p.getD i [])&&partB (p.getD i []) ids&&fstB p i&&(p.getD i []).all fun x=>decide (whr p x i<0)
def plcB(ids:List Int)(p:List (List Int)):Bool:=(List.range p.length).all (plc1 ids p)
def fndB(ids:List Int)(p:List (List Int)):Bool:=ids.all fun x=>decide (0<=whr p x p.length)
def divB(ids:List Int)(p:List (List Int)):Bool:=((List.range p.length).all fun i=>setB (p.getD i [])&&fstB p i)&&decide ((p.flatten.mergeSort fun x y=>decide (x<=y))=ids)
theorem zgD{s:List Int}(h:setB s=true):s.Pairwise (· < ·)/\0<s.length:=by
 unfold setB at h
 rw[jP]at h
 refine⟨?_,kU h.2⟩
 have hr:=h.1
 unfold risB at hr
 rw[jC]at hr
 have step:∀j,j+1<s.length->s.getD j 0<s.getD (j+1) 0:=fun j hj=>kU (hr j (kK.2 (by omega)))
 have far:∀k j,j+k+1<s.length->s.getD j 0<s.getD (j+k+1) 0:=by
  intro k
  induction k with
  |zero=>intro j hj;exact step j hj
  |succ k ih=>
  intro j hj
  have h1:=ih j (by omega)
  have h2:=step (j+k+1) (by omega)
  show s.getD j 0<s.getD (j+k+1+1) 0
  omega
 refine kN.2 fun i j hi hj hij=>?_
 have:=far (j-i-1) i (by omega)
 rw[show i+(j-i-1)+1=j by omega]at this
 rw[hZ,hZ,kF hi,kF hj]at this
 exact this
theorem zbd{s:List Int}(h:s.Pairwise (· < ·)):s.Nodup:=h.imp fun {a b} hab=>by
 show a≠b
 omega
theorem zl3{s:List Int}(h:s.Pairwise (· < ·)):Srt s:=h.imp fun {a b} hab=>jG (jaF hab)
theorem zfS{a b:List Int}(ha:a.Nodup)(hb:b.Nodup)(h:∀x,x∈a↔x∈b):a.Perm b:=by
 rw[List.perm_iff_count]
 intro x
 rw[List.Nodup.count ha,List.Nodup.count hb]
 by_cases e:x∈a
 ·rw[kH e,kH ((h x).1 e)]
 rw[kG e,kG fun hh=>e ((h x).2 hh)]
theorem zl4{a b:List Int}(ha:a.Pairwise (· < ·))(hb:b.Pairwise (· < ·))(h:∀x,x∈a↔x∈b):a=b:=
 zdS (zl3 ha) (zl3 hb) (zfS (zbd ha) (zbd hb) h)
theorem zcc{p:List (List Int)}{x:Int}:x∈p.flatten↔∃m,m<p.length/\x∈p.getD m []:=by
 rw[List.mem_flatten]
 constructor
 ·rintro⟨s,hs,hx⟩
  obtain⟨m,hm,rfl⟩:=kP hs
  exact⟨m,hm,by rw[hZ,kF hm];exact hx⟩
 rintro⟨m,hm,hx⟩
 rw[hZ,kF hm]at hx
 exact⟨_,kR hm,hx⟩
theorem zsk{ids:List Int}(hr:ids.Pairwise (· < ·))(p:List (List Int)):divB ids p=(plcB ids p&&fndB ids p):=by
 rw[kQ]
 unfold divB plcB fndB
 rw[jP,jP,jC,jC,jC,kX]
 have gm:∀i,i<p.length->∃hi:i<p.length,p.getD i []=p[i]:=fun i hi=>⟨hi,by rw[hZ,kF hi];rfl⟩
 constructor
 ·rintro⟨h1,h2⟩
  have hp:p.flatten.Perm ids:=by rw[<- h2];exact(jaL _ _).symm
  have hn:p.flatten.Nodup:=hp.nodup_iff.2 (zbd hr)
  have hd:=(List.pairwise_flatten.1 hn).2
  refine⟨fun i hi=>?_,fun x hx=>jG ?_⟩
  ·have h3:=h1 i hi
   rw[kK]at hi
   rw[jP]at h3
   unfold plc1
   rw[jP,jP,jP]
   refine⟨⟨⟨h3.1,jC.2 fun x hx=>kD.2 (hp.mem_iff.1 (zcc.2 ⟨i,hi,hx⟩))⟩,h3.2⟩,jC.2 fun x hx=>jG (zbD.2 fun m hm hxm=>?_)⟩
   obtain⟨_,e1⟩:=gm i hi
   obtain⟨hm',e2⟩:=gm m (by omega)
   rw[e1]at hx
   rw[e2]at hxm
   exact kN.1 hd m i hm' hi hm x hxm x hx rfl
  obtain⟨m,hm,hxm⟩:=zcc.1 (hp.mem_iff.2 hx)
  refine Int.not_lt.1 fun h=>zbD.1 h m hm hxm
 rintro⟨h1,h2⟩
 have h3:∀i,i<p.length->setB (p.getD i [])=true/\partB (p.getD i []) ids=true/\fstB p i=true/\∀x∈p.getD i [],whr p x i<0:=fun i hi=>by
  have:=h1 i (kK.2 hi)
  unfold plc1 at this
  rw[jP,jP,jP,jC]at this
  exact⟨this.1.1.1,this.1.1.2,this.1.2,fun x hx=>kU (this.2 x hx)⟩
 refine⟨fun i hi=>?_,?_⟩
 ·have:=h3 i (kK.1 hi)
  rw[jP];exact⟨this.1,this.2.2.1⟩
 have hn:p.flatten.Nodup:=by
  refine List.pairwise_flatten.2 ⟨fun s hs=>?_,kN.2 fun i j hi hj hij x hx y hy e=>?_⟩
  ·obtain⟨m,hm,rfl⟩:=kP hs
   obtain⟨_,e⟩:=gm m hm
   rw[<- e]
   exact zbd (zgD (h3 m hm).1).1
  subst e
  obtain⟨_,e1⟩:=gm i hi
  obtain⟨_,e2⟩:=gm j hj
  rw[<- e1]at hx
  rw[<- e2]at hy
  exact zbD.1 ((h3 j hj).2.2.2 x hy) i hij hx
 have hp:p.flatten.Perm ids:=zfS hn (zbd hr) fun x=>by
  rw[zcc]
  constructor
  ·rintro⟨m,hm,hx⟩
   have:=(h3 m hm).2.1
   exact kD.1 (jC.1 this x hx)
  intro hx
  have:=kU (h2 x hx)
  obtain⟨m,hm⟩:=Int.eq_ofNat_of_zero_le this
  exact⟨m,zfo hm⟩
 refine zdS ?_ (zl3 hr) ((jaL _ _).trans hp)
 exact List.pairwise_mergeSort (le:=fun x y=>decide (x<=y)) (fun a b c h1 h2=>by
  have h1:=kU h1
  have h2:=kU h2
  exact jG (by omega)) (fun a b=>by
  rw[jX,kX,kX]
  omega) _
def ixP(ids:List Int)(p:List (List Int)):List Nat:=ids.map fun x=>(whr p x p.length).toNat
theorem zf4(ids:List Int)(p:List (List Int)):(ixP ids p).length=ids.length:=kO _
theorem zr3{ids:List Int}{p:List (List Int)}{k:Nat}(h:k<ids.length):(ixP ids p).getD k 0=(whr p (ids.getD k 0) p.length).toNat:=by
 unfold ixP
 rw[hZ,jU,kF h,hZ,kF h];rfl
theorem zt0{n:Nat}:∀{ix:List Nat},(∀x∈ix,x<n)->mst ix<=n:=by
 intro ix
 induction ix using snocInd with
 |h0=>intro _;exact jF _
 |h1 l x ih=>
 intro h
 have h1:=ih fun y hy=>h y (qV _ hy)
 have h2:=h x (by simp)
 rw[zcb];omega
section
variable {ids:List Int}{p:List (List Int)}(hr:ids.Pairwise (· < ·))(h1:plcB ids p=true)(h2:fndB ids p=true)
include h1
theorem zcq{i:Nat}(hi:i<p.length):setB (p.getD i [])=true/\partB (p.getD i []) ids=true/\fstB p i=true/\∀x∈p.getD i [],whr p x i<0:=by
 unfold plcB at h1
 have:=jC.1 h1 i (kK.2 hi)
 unfold plc1 at this
 rw[jP,jP,jP,jC]at this
 exact⟨this.1.1.1,this.1.1.2,this.1.2,fun x hx=>kU (this.2 x hx)⟩
theorem zrA{x:Int}{m:Nat}(hm:m<p.length)(hx:x∈p.getD m []):whr p x p.length=(m:Int):=by
 have h3:¬whr p x p.length<0:=fun h=>zbD.1 h m hm hx
 obtain⟨k,hk⟩:=Int.eq_ofNat_of_zero_le (Int.not_lt.1 h3)
 obtain⟨k1,k2⟩:=zfo hk
 rw[hk]
 by_cases e:k=m
 ·rw[e]
 rcases Nat.lt_or_gt_of_ne e with e|e
 ·exact absurd k2 (zbD.1 ((zcq h1 hm).2.2.2 x hx) k e)
 exact absurd hx (zbD.1 ((zcq h1 k1).2.2.2 x k2) m e)
theorem zlz{x:Int}{m:Nat}(hm:m<p.length)(hx:x∈p.getD m []):∃k,k<ids.length/\ids.getD k 0=x:=by
 have:=kD.1 (jC.1 (zcq h1 hm).2.1 x hx)
 obtain⟨k,hk,rfl⟩:=kP this
 exact⟨k,hk,by rw[hZ,kF hk];rfl⟩
include h2
theorem zgK{k m:Nat}(hk:k<ids.length):(m<p.length/\ids.getD k 0∈p.getD m [])↔(ixP ids p).getD k 0=m:=by
 rw[zr3 hk]
 constructor
 ·rintro⟨hm,hx⟩
  rw[zrA h1 hm hx];rfl
 intro e
 have hx:ids.getD k 0∈ids:=by rw[hZ,kF hk];exact kR hk
 have:=kU (jC.1 h2 _ hx)
 have e2:whr p (ids.getD k 0) p.length=(m:Int):=by omega
 exact zfo e2
include hr
theorem zui{i k:Nat}(hi:i<ids.length)(hk:k<ids.length)(h:ids.getD k 0<ids.getD i 0):k<i:=by
 refine Nat.lt_of_not_le fun hh=>?_
 by_cases e:i=k
 ·subst e;omega
 have:=kN.1 hr i k hi hk (by omega)
 rw[hZ,hZ,kF hi,kF hk]at h
 simp at h
 omega
theorem zqe:Rg (ixP ids p):=fun i hi=>by
 rw[zf4]at hi
 obtain⟨hm,hx⟩:=(zgK h1 h2 hi).2 (rfl:(ixP ids p).getD i 0=_)
 generalize (ixP ids p).getD i 0=m at hm hx
 rcases jaq m with e|e
 ·omega
 have s1:=zcq h1 hm
 have s2:=zcq h1 (show m-1<p.length by omega)
 have f1:(p.getD (m-1) []).getD 0 0<(p.getD m []).getD 0 0:=by
  have:=s1.2.2.1
  unfold fstB at this
  rw[jH (by omega:¬m=0),jaC]at this
  exact kU this
 have l1:=zgD s1.1
 have l2:=zgD s2.1
 have f2:(p.getD m []).getD 0 0<=ids.getD i 0:=by
  obtain⟨j,hj,ej⟩:=kP hx
  rw[<- ej,hZ,kF l1.2]
  show(p.getD m [])[0]<=(p.getD m [])[j]
  by_cases e0:j=0
  ·subst e0;exact jaY _
  exact jaF (kN.1 l1.1 0 j l1.2 hj (by omega))
 have hf:(p.getD (m-1) []).getD 0 0∈p.getD (m-1) []:=by rw[hZ (i:=0),kF l2.2];exact kR l2.2
 obtain⟨k,hk,ek⟩:=zlz h1 (show m-1<p.length by omega) hf
 have hki:=zui hr h1 h2 hi hk (by rw[ek];omega)
 have hix:=(zgK h1 h2 (m:=m-1) hk).1 ⟨by omega,by rw[ek];exact hf⟩
 have:=zbI (ix:=ixP ids p) hki (by rw[zf4];omega)
 omega
theorem ziL:setX ids (ixP ids p)=p:=by
 have hR:=zqe hr h1 h2
 have hl:=zf4 ids p
 have hlen:(bitX (ixP ids p)).length=p.length:=by
  unfold bitX
  rw[zba hR _ (jE _),jZ]
  refine Nat.le_antisymm (zt0 fun x hx=>?_) ?_
  ·obtain⟨k,hk,rfl⟩:=kP hx
   rw[hl]at hk
   refine((zgK h1 h2 hk).2 ?_).1
   rw[hZ,kF (by omega)];rfl
  rcases jaq p.length with e|e
  ·omega
  have l2:=zgD (zcq h1 (show p.length-1<p.length by omega)).1
  have hf:(p.getD (p.length-1) []).getD 0 0∈p.getD (p.length-1) []:=by rw[hZ (i:=0),kF l2.2];exact kR l2.2
  obtain⟨k,hk,ek⟩:=zlz h1 (show p.length-1<p.length by omega) hf
  have hix:=(zgK h1 h2 (m:=p.length-1) hk).1 ⟨by omega,by rw[ek];exact hf⟩
  have:=zbI (ix:=ixP ids p) (k:=(ixP ids p).length) (show k<_ by omega) (jE _)
  rw[jZ]at this
  omega
 unfold setX
 refine List.ext_getElem (by rw[kO,hlen]) fun m g1 g2=>?_
 rw[List.getElem_map]
 rw[kO]at g1
 have hb:=zhm hR (ixP ids p).length (jE _) m g1
 have e1:(bitX (ixP ids p))[m]=(bitX (ixP ids p)).getD m 0:=by rw[hZ,kF g1];rfl
 have e2:p[m]=p.getD m []:=by rw[hZ,kF g2];rfl
 rw[e1,e2]
 have key:∀k,k<ids.length->(ids.getD k 0∈memb ids ((bitX (ixP ids p)).getD m 0)↔ids.getD k 0∈p.getD m []):=fun k hk=>by
  rw[zbu (zbd hr) hk]
  unfold bitX
  rw[hb k,jP,kX,jai,<- zgK h1 h2 hk]
  exact⟨fun h=>h.2.2,fun h=>⟨by omega,g2,h⟩⟩
 refine zl4 (hr.sublist (zdD ids _)) (zgD (zcq h1 g2).1).1 fun x=>⟨fun hx=>?_,fun hx=>?_⟩
 ·obtain⟨k,hk,rfl⟩:=kP ((zdD ids _).subset hx)
  have:=(key k hk).1
  rw[hZ (l:=ids),kF hk]at this
  exact this hx
 obtain⟨k,hk,rfl⟩:=zlz h1 g2 hx
 exact(key k hk).2 hx
end
def tbX(q:List Int->Bool)(ids:List Int)(m:Nat):Bool:=decide (0<m)&&q (memb ids m)
theorem zoj(q:List Int->Bool)(ids:List Int):prt q ids []=(gwX (tbX q ids) ids.length []).map (setX ids):=by
 unfold gwX
 rw[zd0]
 have e1:(rgs ids.length (mst [])).map (([]:List Nat)++ ·)=rgs ids.length 0:=by
  show(rgs ids.length 0).map (fun x=>[]++x)=_
  simp
 rw[e1]
 have hm:∀ix∈rgs ids.length 0,Rg ix/\ix.length=ids.length:=fun ix hx=>ziN _ [] zla ix hx
 show List.filter _ ((rgs ids.length 0).map (bld ids []))=_
 generalize rgs ids.length 0=L at hm
 have hb:∀ix∈L,bld ids [] ix=setX ids ix:=fun ix hx=>zil (hm ix hx).1 (hm ix hx).2 ids.length 0 (qB _)
 rw[qH hb,List.filter_map]
 congr 1
 refine ja4 fun ix hx=>?_
 show(setX ids ix).all _=(bitX ix).all (tbX q ids)
 unfold setX
 rw[List.all_map,kQ,jC,jC]
 refine forall_congr' fun m=>forall_congr' fun hmm=>?_
 unfold tbX
 rw[jG (zaT ix ix.length m hmm).1,qE]
 exact jbH
theorem zpQ:∀(iy ix:List Nat),Rg (ix++iy)->iy∈rgs iy.length (mst ix)
 | [],ix,_=>kI.2 rfl
 |k::iy,ix,h=>by
  have hk:=h ix.length (by simp)
  rw[hZ,jK (jE _),kE,List.take_append_of_le_length (jE _),jZ]at hk
  have hk:k<=mst ix:=hk
  have:=zpQ iy (ix++[k]) (by rw[List.append_assoc];exact h)
  rw[zcb]at this
  show k::iy∈rgs (iy.length+1) (mst ix)
  rw[zdA]
  exact List.mem_flatMap.2 ⟨k,kK.2 (by omega),kJ.2 ⟨iy,this,rfl⟩⟩
theorem zqg{p:Nat->Bool}{n:Nat}{ix:List Nat}:ix∈gwX p n []↔Rg ix/\ix.length=n/\(bitX ix).all p=true:=by
 constructor
 ·intro h
  exact⟨(zcN h).1,(zcN h).2,(kS.1 h).2⟩
 rintro⟨h1,rfl,h3⟩
 refine kS.2 ⟨kJ.2 ⟨ix,?_,rfl⟩,h3⟩
 exact zpQ ix [] h1
section
variable {ids:List Int}(hr:ids.Pairwise (· < ·)){ix:List Nat}(hR:Rg ix)(hl:ix.length=ids.length)
include hR
theorem zpp:(bitX ix).length=mst ix:=by
 have:=zba hR ix.length (jE _)
 rwa [jZ]at this
theorem zpR:∀k,k<=ix.length->∀v,v<mst (ix.take k)->∃j,j<k/\ix.getD j 0=v
 |0,_,v,h=>by have h:v<0:=h;omega
 |k+1,hk,v,h=>by
  rw[zcJ (by omega)]at h
  have hc:=hR k (by omega)
  by_cases e:v<mst (ix.take k)
  ·obtain⟨j,h1,h2⟩:=zpR k (by omega) v e
   exact⟨j,by omega,h2⟩
  exact⟨k,by omega,by omega⟩
include hr hl
theorem zgE{k m:Nat}(hk:k<ids.length):(m<(setX ids ix).length/\ids.getD k 0∈(setX ids ix).getD m [])↔ix.getD k 0=m:=by
 have hlen:(setX ids ix).length=(bitX ix).length:=kO _
 have key:m<(bitX ix).length->(ids.getD k 0∈(setX ids ix).getD m []↔ix.getD k 0=m):=fun hm=>by
  unfold setX
  rw[zf7 hm,zbu (zbd hr) hk]
  unfold bitX
  rw[zhm hR ix.length (jE _) m hm k,jP,kX,jai]
  exact⟨fun h=>h.2,fun h=>⟨by omega,h⟩⟩
 constructor
 ·rintro⟨hm,hx⟩
  exact(key (by omega)).1 hx
 intro e
 have hm:m<(bitX ix).length:=by
  rw[zpp hR,<- e]
  have:=zbI (ix:=ix) (k:=ix.length) (show k<ix.length by omega) (jE _)
  rwa [jZ]at this
 exact⟨by omega,(key hm).2 e⟩
theorem zqY{m:Nat}(hm:m<(setX ids ix).length):∃b,0<b/\b<2^ids.length/\(setX ids ix).getD m []=memb ids b:=by
 have hlen:(setX ids ix).length=(bitX ix).length:=kO _
 have hb:=zaT ix ix.length ((bitX ix).getD m 0) (by
  show(bitX ix).getD m 0∈bitX ix
  rw[hZ,kF (by omega)];exact kR (by omega))
 refine⟨(bitX ix).getD m 0,hb.1,by rw[<- hl];exact hb.2,?_⟩
 unfold setX
 rw[zf7 (by omega)]
theorem zk1{m:Nat}(hm:m<(setX ids ix).length):((setX ids ix).getD m []).Pairwise (· < ·)/\0<((setX ids ix).getD m []).length/\∀x∈(setX ids ix).getD m [],∃k,k<ids.length/\ids.getD k 0=x:=by
 obtain⟨b,b1,b2,e⟩:=zqY hr hR hl hm
 rw[e]
 have hs:=zdD ids b
 refine⟨hr.sublist hs,jaX.2 (zlY b1 b2),fun x hx=>?_⟩
 obtain⟨k,hk,rfl⟩:=kP (hs.subset hx)
 exact⟨k,hk,by rw[hZ,kF hk];rfl⟩
theorem ztm:plcB ids (setX ids ix)=true/\fndB ids (setX ids ix)=true:=by
 have lt_setB:∀{s:List Int},s.Pairwise (· < ·)->0<s.length->setB s=true:=fun {s} h1 h2=>by
  unfold setB risB
  rw[jP]
  refine⟨jC.2 fun j hj=>jG ?_,jG h2⟩
  have hj:=kK.1 hj
  rw[hZ,hZ,kF (by omega),kF (by omega)]
  exact kN.1 h1 j (j+1) (by omega) (by omega) (by omega)
 constructor
 ·refine jC.2 fun m hm=>?_
  have hm:=kK.1 hm
  obtain⟨s1,s2,s3⟩:=zk1 hr hR hl hm
  unfold plc1
  rw[jP,jP,jP]
  refine⟨⟨⟨lt_setB s1 s2,jC.2 fun x hx=>kD.2 ?_⟩,?_⟩,jC.2 fun x hx=>jG (zbD.2 fun j hj hxj=>?_)⟩
  ·obtain⟨k,hk,rfl⟩:=s3 x hx
   rw[hZ,kF hk];exact kR hk
  ·unfold fstB
   by_cases e:m=0
   ·rw[jG e,qS]
   rw[jH e,jaC]
   refine jG ?_
   have hf:((setX ids ix).getD m []).getD 0 0∈(setX ids ix).getD m []:=by rw[hZ (i:=0),kF s2];exact kR s2
   obtain⟨k,hk,ek⟩:=s3 _ hf
   have hix:=(zgE hr hR hl (m:=m) hk).1 ⟨hm,by rw[ek];exact hf⟩
   have hrk:=hR k (by omega)
   obtain⟨j,hj,ej⟩:=zpR hR k (by omega) (m-1) (by omega)
   obtain⟨hm',hxj⟩:=(zgE hr hR hl (m:=m-1) (show j<ids.length by omega)).2 ej
   obtain⟨t1,t2,_⟩:=zk1 hr hR hl hm'
   obtain⟨i,hi,ei⟩:=kP hxj
   have f1:((setX ids ix).getD (m-1) []).getD 0 0<=ids.getD j 0:=by
    rw[<- ei,hZ (i:=0),kF t2]
    show((setX ids ix).getD (m-1) [])[0]<=((setX ids ix).getD (m-1) [])[i]
    by_cases e0:i=0
    ·subst e0;exact jaY _
    exact jaF (kN.1 t1 0 i t2 hi (by omega))
   have f2:ids.getD j 0<ids.getD k 0:=by
    rw[hZ,hZ,kF (by omega),kF hk]
    exact kN.1 hr j k (by omega) hk hj
   omega
  obtain⟨k,hk,rfl⟩:=s3 x hx
  have a:=(zgE hr hR hl (m:=m) hk).1 ⟨hm,hx⟩
  have b:=(zgE hr hR hl (m:=j) hk).1 ⟨by omega,hxj⟩
  omega
 refine jC.2 fun x hx=>jG (Int.not_lt.1 fun hn=>?_)
 obtain⟨k,hk,rfl⟩:=kP hx
 have:=(zgE hr hR hl hk).2 rfl
 refine zbD.1 hn _ this.1 ?_
 have h2:=this.2
 rwa [hZ (l:=ids),kF hk]at h2
end
theorem zru{ids:List Int}(hr:ids.Pairwise (· < ·))(q:List Int->Bool)(p:List (List Int)):p∈prt q ids []↔divB ids p=true/\p.all q=true:=by
 rw[zoj,kJ,zsk hr,jP]
 constructor
 ·rintro⟨ix,hx,rfl⟩
  obtain⟨h1,h2,h3⟩:=zqg.1 hx
  refine⟨ztm hr h1 h2,?_⟩
  unfold setX
  rw[List.all_map,jC]
  intro m hm
  have:=jC.1 h3 m hm
  unfold tbX at this
  rw[jP]at this
  exact this.2
 rintro⟨⟨h1,h2⟩,h3⟩
 refine⟨ixP ids p,zqg.2 ⟨zqe hr h1 h2,zf4 ids p,jC.2 fun m hm=>?_⟩,ziL hr h1 h2⟩
 unfold tbX
 rw[jG (zaT _ _ m hm).1,qE]
 refine jC.1 h3 _ ?_
 rw[<- ziL hr h1 h2]
 exact kJ.2 ⟨m,hm,rfl⟩
theorem ziP{w:World}{ok:Nat->Prop}:∀{xs ys:List D}{vs:List Value},All2 (Rep w ok) xs vs->eqvs xs ys->All2 (Rep w ok) ys vs
 | [],[],_,h,_=>h
 | _::_,_::_,_,.cons h r,⟨e,es⟩=>.cons (Rep.eqv h e) (ziP r es)
abbrev shI(k:Nat):Sh:=.sl k fun j=>shSl.getD' (List.replicate k (.int .i64)) j
theorem zta{k j:Nat}(h:j<k):shSl.getD' (List.replicate k (.int .i64)) j= .int .i64:=by
 induction k generalizing j with
 |zero=>omega
 |succ k ih=>
 cases j with
 |zero=>rfl
 |succ j=>exact ih (j:=j) (by omega)
theorem fitI{α:Type}[Inhabited α]{k:Nat}{at_:α->Nat->D}{x:D}(mkα:(Nat->Int)->α)(hk:∀g:Nat->Int,∀j,j<k->at_ (mkα g) j=I (g j))(h:Fits (shI k) x):∃l:List α,D.eqv x (.slc k l.length fun i=>at_ (l.getD i default)):=by
 obtain⟨l,_,_,e⟩:=fitsL (at_:=at_) mkα (fun j hj=>zta hj) hk h
 exact⟨l,e⟩
abbrev shDay:List Sh:=[.int .i64,.int .i64,shI 1,shI 4,shI 3,shI 8,shI 7,.int .i64,.int .i64,shI 8]
theorem rep_Day{w:World}{ok:Nat->Prop}{xs:List D}{v:Value}(hr:Rep1 w ok (.agg xs) v)(h:All2 Fits shDay xs):∃d:Day,Rep1 w ok d.v v:=by
 obtain⟨vs,e,hv⟩:=hr
 cases h with|cons h0 h=>
 cases h with|cons h1 h=>
 cases h with|cons h2 h=>
 cases h with|cons h3 h=>
 cases h with|cons h4 h=>
 cases h with|cons h5 h=>
 cases h with|cons h6 h=>
 cases h with|cons h7 h=>
 cases h with|cons h8 h=>
 cases h with|cons h9 h=>
 cases h
 obtain⟨n0,-,rfl⟩:=h0
 obtain⟨n1,-,rfl⟩:=h1
 obtain⟨n7,-,rfl⟩:=h7
 obtain⟨n8,-,rfl⟩:=h8
 obtain⟨l2,e2⟩:=fitI (α:=Int) (at_:=fun a _=>I a) (fun g=>g 0) (fun g j hj=>by
  match j,hj with
  |0,_=>rfl) h2
 obtain⟨l3,e3⟩:=fitI (α:=Twr) (at_:=Twr.at) (fun g=>⟨g 0,⟨g 1,g 2⟩,g 3⟩) (fun g j hj=>by
  match j,hj with
  |0,_=>rfl
  |1,_=>rfl
  |2,_=>rfl
  |3,_=>rfl) h3
 obtain⟨l4,e4⟩:=fitI (α:=Hz) (at_:=Hz.at) (fun g=>⟨g 0,g 1,g 2⟩) (fun g j hj=>by
  match j,hj with
  |0,_=>rfl
  |1,_=>rfl
  |2,_=>rfl) h4
 obtain⟨l5,e5⟩:=fitI (α:=Cir) (at_:=Cir.at) (fun g=>⟨g 0,⟨g 1,g 2⟩,g 3,g 4,g 5,g 6,g 7⟩) (fun g j hj=>by
  match j,hj with
  |0,_=>rfl
  |1,_=>rfl
  |2,_=>rfl
  |3,_=>rfl
  |4,_=>rfl
  |5,_=>rfl
  |6,_=>rfl
  |7,_=>rfl) h5
 obtain⟨l6,e6⟩:=fitI (α:=Chk) (at_:=Chk.at) (fun g=>⟨g 0,g 1,g 2,⟨g 3,g 4⟩,g 5,g 6⟩) (fun g j hj=>by
  match j,hj with
  |0,_=>rfl
  |1,_=>rfl
  |2,_=>rfl
  |3,_=>rfl
  |4,_=>rfl
  |5,_=>rfl
  |6,_=>rfl) h6
 obtain⟨l9,e9⟩:=fitI (α:=Rpt) (at_:=Rpt.at) (fun g=>⟨g 0,g 1,g 2,g 3,g 4,g 5,g 6,g 7⟩) (fun g j hj=>by
  match j,hj with
  |0,_=>rfl
  |1,_=>rfl
  |2,_=>rfl
  |3,_=>rfl
  |4,_=>rfl
  |5,_=>rfl
  |6,_=>rfl
  |7,_=>rfl) h9
 exact⟨⟨⟨⟨⟨n0,n1,l2⟩,l3,l4⟩,⟨l5,l6⟩⟩,n7,n8,l9⟩,vs,e,ziP hv ⟨⟨rfl,rfl⟩,⟨rfl,rfl⟩,e2,e3,e4,e5,e6,⟨rfl,rfl⟩,⟨rfl,rfl⟩,e9,trivial⟩⟩
theorem rep_lI{w:World}{ok:Nat->Prop}{x:D}{v:Value}(hr:Rep1 w ok (.d x) v)(h:All2 Fits [shI 1] [x]):∃l:List Int,Rep1 w ok (.d (lI l)) v:=by
 cases h with
 |cons h _=>
 obtain⟨l,e⟩:=fitI (α:=Int) (at_:=fun a _=>I a) (fun g=>g 0) (fun g j hj=>by
  match j,hj with
  |0,_=>rfl) h
 exact⟨l,Rep.eqv hr e⟩
structure Jns where
  F:List Fit
  M:List Mis
abbrev Jns.v(j:Jns):V1:=.agg [lFt j.F,lMs j.M]
theorem ztT{m:Mp}{p:Place}(h:onM m p=true):∃n,n<m.w*m.h/\plc m n=p:=by
 obtain⟨⟨x0,x1⟩,y0,y1⟩:=zad.1 h
 obtain⟨x,hx⟩:=Int.eq_ofNat_of_zero_le x0
 obtain⟨y,hy⟩:=Int.eq_ofNat_of_zero_le y0
 have hxw:x<m.w:=by unfold Mp.w;omega
 have hyh:y<m.h:=by unfold Mp.h;omega
 refine⟨y*m.w+x,?_,?_⟩
 ·have h1:(y+1)*m.w<=m.h*m.w:=jW _ hyh
  rw[qG,Nat.one_mul]at h1
  rw[qM m.w m.h];omega
 rw[zi5 hxw,<- hx,<- hy]
theorem s_EqI(a b:List Int)(hn:a.length<=1000000):Spec PP 36 [.d (lI a),.d (lI b)] [B (decide (a=b))]:=by
 refine sA Tryz.func36 ?_
 apply bY<;>intro h1
 ·have h1:a.length≠b.length:=by
   have:¬(a.length:Int)=b.length:=by simpa using h1
   omega
  refine r1B rfl ?_
  exact(jH fun e=>h1 (by rw[e])).symm
 have h1:a.length=b.length:=by
  have:(a.length:Int)=b.length:=by simpa using h1
  omega
 refine lOf (σ:=Nat) (fun i=>([(0,.d (lI a)),(1,.d (lI b)),(12,.d (I a.length)),(13,.d (I i))],[])) (fun i=>i<=a.length/\a.take i=b.take i) (fun i=>a.length-i) 0 ⟨rfl,trivial,wq rfl⟩ ⟨jF _,rfl⟩ fun i hi=>?_
 obtain⟨i1,i2⟩:=hi
 apply bY<;>intro h2
 ·have h2:i<a.length:=by have:=dT h2;omega
  refine oN 9 ?_
  refine⟨⟨rfl,by omega,by omega⟩,?_⟩
  refine⟨⟨rfl,by omega,by omega⟩,?_⟩
  apply bY<;>intro h3
  ·have h3:¬a.getD i 0=b.getD i 0:=by simpa using h3
   refine r1B rfl ?_
   refine(jH fun e=>?_).symm
   subst e
   exact h3 rfl
  have h3:a.getD i 0=b.getD i 0:=by simpa using h3
  refine⟨i6,?_⟩
  refine⟨i+1,⟨rfl,trivial,wq rfl⟩,⟨h2,?_⟩,msr h2⟩
  rw[zav h2 0,zav (by omega) 0,i2,h3]
 have h2:i=a.length:=by have:=dF h2;omega
 subst h2
 refine r1B rfl ?_
 rw[jZ,h1,jZ]at i2
 exact(jG i2).symm
theorem zk5(l:List (List Int))(g:FuncId)(c0:D)(p:List Int->Bool)(hn:l.length<=1000000)(hp:∀i,i<l.length->Spec PP g [.d (lI (l.getD i [])),.d c0] [B (p (l.getD i []))]):Spec PP 77 [.d (lII l),.d (cloB g [c0])] [N (idxL p l)]:=by
 refine sA Tryz.func77 ?_
 refine lOf (σ:=Nat) (fun i=>([(0,.d (lII l)),(1,.d (cloB g [c0])),(6,.d (lII l)),(7,.d (I l.length)),(8,.d (I i))],[])) (fun i=>i<=l.length/\∀j,j<i->p (l.getD j [])=false) (fun i=>l.length-i) 0
  ⟨rfl,trivial,wq rfl⟩ z0L fun i hi=>?_
 obtain⟨hi,ha⟩:=hi
 apply bY<;>intro h1
 ·have h1:i<l.length:=by have:=dT h1;omega
  refine⟨⟨rfl,by omega,by omega⟩,?_⟩
  refine cP (hp i h1) rfl rfl ?_
  apply bY<;>intro h2
  ·exact r1I rfl (zaj [] h1 h2 ha).symm
  refine⟨i6,?_⟩
  refine⟨i+1,⟨rfl,trivial,wq rfl⟩,⟨h1,fun j hj=>?_⟩,(msr (by omega))⟩
  by_cases e:j=i
  ·subst e;exact h2
  exact ha j (by omega)
 have h1:i=l.length:=by have:=dF h1;omega
 subst h1
 exact r1I rfl (zam [] ha).symm
theorem zk7(l:List (List Int))(g:FuncId)(c0:D)(p:List Int->Bool)(hn:l.length<=1000000)(hp:∀i,i<l.length->Spec PP g [.d (lI (l.getD i [])),.d c0] [B (p (l.getD i []))]):Spec PP 34 [.d (lII l),.d (cloB g [c0])] [B (l.any p)]:=by
 refine sA Tryz.func34 ?_
 refine cP (zk5 l g c0 p hn hp) rfl rfl ?_
 refine r1B rfl ?_
 rw[kQ,kX]
 exact zbm p l []
theorem zk4(l:List (List (List Int)))(g:FuncId)(c0:D)(p:List (List Int)->Bool)(hn:l.length<=1000000)(hp:∀i,i<l.length->Spec PP g [.d (lII (l.getD i [])),.d c0] [B (p (l.getD i []))]):Spec PP 78 [.d (lPP l),.d (cloB g [c0])] [N (idxL p l)]:=by
 refine sA Tryz.func78 ?_
 refine lOf (σ:=Nat) (fun i=>([(0,.d (lPP l)),(1,.d (cloB g [c0])),(6,.d (lPP l)),(7,.d (I l.length)),(8,.d (I i))],[])) (fun i=>i<=l.length/\∀j,j<i->p (l.getD j [])=false) (fun i=>l.length-i) 0
  ⟨rfl,trivial,wq rfl⟩ z0L fun i hi=>?_
 obtain⟨hi,ha⟩:=hi
 apply bY<;>intro h1
 ·have h1:i<l.length:=by have:=dT h1;omega
  refine⟨⟨rfl,by omega,by omega⟩,?_⟩
  refine cP (hp i h1) rfl rfl ?_
  apply bY<;>intro h2
  ·exact r1I rfl (zaj [] h1 h2 ha).symm
  refine⟨i6,?_⟩
  refine⟨i+1,⟨rfl,trivial,wq rfl⟩,⟨h1,fun j hj=>?_⟩,(msr (by omega))⟩
  by_cases e:j=i
  ·subst e;exact h2
  exact ha j (by omega)
 have h1:i=l.length:=by have:=dF h1;omega
 subst h1
 exact r1I rfl (zam [] ha).symm
theorem zk6(l:List (List (List Int)))(g:FuncId)(c0:D)(p:List (List Int)->Bool)(hn:l.length<=1000000)(hp:∀i,i<l.length->Spec PP g [.d (lII (l.getD i [])),.d c0] [B (p (l.getD i []))]):Spec PP 37 [.d (lPP l),.d (cloB g [c0])] [B (l.any p)]:=by
 refine sA Tryz.func37 ?_
 refine cP (zk4 l g c0 p hn hp) rfl rfl ?_
 refine r1B rfl ?_
 rw[kQ,kX]
 exact zbm p l []
def hasS(s:List Int)(p:List (List Int)):Bool:=p.any fun x=>decide (x=s)
theorem zrW(x s:List Int)(hx:x.length<=1000000):Spec PP 35 [.d (lI x),.d (capB [lI s])] [B (decide (x=s))]:=by
 refine sA Tryz.func35 ?_
 refine cP (s_EqI x s hx) rfl rfl ?_
 exact r1B rfl rfl
theorem zud(p:List (List Int))(s:List Int)(hp:p.length<=1000000)(hs:∀i,i<p.length->(p.getD i []).length<=1000000):Spec PP 33 [.d (lII p),.d (capB [lI s])] [B (hasS s p)]:=by
 refine sA Tryz.func33 ?_
 refine cP (zk7 p 35 (capB [lI s]) (fun x=>decide (x=s)) hp fun i hi=>zrW _ s (hs i hi)) rfl rfl ?_
 exact r1B rfl rfl
theorem zuc(p:List (List Int))(s:List Int)(hp:p.length<=1000000)(hs:∀i,i<p.length->(p.getD i []).length<=1000000):Spec PP 38 [.d (lII p),.d (capB [cloB 33 [capB [lI s]]])] [B (!hasS s p)]:=by
 refine sA Tryz.func38 ?_
 refine cP (zud p s hp hs) rfl rfl ?_
 exact r1B rfl rfl
def alwS(l:List (List (List Int)))(s:List Int):Bool:=!(l.any fun p=>!hasS s p)
def prvK(l:List (List (List Int)))(i:Nat):List (List Int):=((l.getD 0 []).take i).filter (alwS l)
theorem zof{l:List (List (List Int))}{i:Nat}(h:i<(l.getD 0 []).length)(h1:alwS l ((l.getD 0 []).getD i [])=true):prvK l (i+1)=prvK l i++[(l.getD 0 []).getD i []]:=by
 unfold prvK
 rw[zav h [],kV,qA h1];rfl
theorem zrs{l:List (List (List Int))}{i:Nat}(h:i<(l.getD 0 []).length)(h1:alwS l ((l.getD 0 []).getD i [])=false):prvK l (i+1)=prvK l i:=by
 unfold prvK
 rw[zav h [],kV,qF (by rw[h1];decide)];simp
theorem zi0(l:List (List (List Int)))(i:Nat):(prvK l i).length<=i:=by
 unfold prvK
 have:=qD (alwS l) ((l.getD 0 []).take i)
 rw[jQ]at this
 omega
def prvR(d:Day):List (List Int)×Int:=if dayE d≠0 then([],dayE d)else if(bsts d).length=0 then([],9)else(prvK (bsts d) ((bsts d).getD 0 []).length,0)
theorem zoN(d:Day)(hn:d.R.length<=1000000):Spec PP 10 [d.v] [.d (lII (prvR d).1),.d (.int .i64 (prvR d).2)]:=by
 refine sA Tryz.func10 ?_
 refine cP (zcu d hn) rfl rfl ?_
 unfold prvR
 apply bY<;>intro h0
 ·rw[kH (by simpa using h0)]
  exact⟨⟨_,_,_,_,rfl,rfl,.inl rfl⟩,rtI rfl rfl,trivial⟩
 have h0:dayE d=0:=by simpa using h0
 have h:=zaN h0
 rw[kG (fun hh=>hh h0)]
 refine cR (zeb h) rfl rfl ?_
 by_cases h2:(bsts d).length=0
 ·have e:bsR d=([],9):=by unfold bsR;rw[kH h2]
  rw[e,kH h2]
  refine sT ?_
  exact⟨⟨_,_,_,_,rfl,rfl,.inl rfl⟩,rtI rfl rfl,trivial⟩
 have e:bsR d=(bsts d,0):=by unfold bsR;rw[kG h2]
 rw[e,kG h2]
 refine sF ?_
 have hl:(bsts d).length<=1000000:=by have:(bsts d).length<=(parts d).length:=zcS (parts d);have:=zbU h;omega
 have hp:∀p∈bsts d,p.length<=1000000/\∀s∈p,s.length<=1000000:=fun p hp=>by
  have:=zbT h (zcj hp)
  exact⟨by omega,fun s hs=>by have:=this.2 s hs;omega⟩
 generalize bsts d=l at*
 have h0l:0<l.length:=by omega
 have hq:=hp _ (gd1 h0l [])
 refine⟨⟨rfl,by omega,(show(0:Int)<(l.length:Int)by omega)⟩,?_⟩
 refine lOf (σ:=Nat) (fun i=>([(5,.d (lPP l)),(7,.own 7),(26,.d (lII (l.getD 0 []))),(27,.d (I (l.getD 0 []).length)),(28,.d (I i))],[(7,.row 22 1 (prvK l i).length (rowII (prvK l i)))])) (fun i=>i<=(l.getD 0 []).length) (fun i=>(l.getD 0 []).length-i) 0
  ⟨rfl,⟨obR rfl ⟨rfl,.inl rfl⟩,trivial⟩,wq rfl⟩ (jF _) fun i hi=>?_
 apply bY<;>intro k1
 ·have k1:i<(l.getD 0 []).length:=by have:=dT k1;omega
  have hsi:=hq.2 _ (gd1 k1 [])
  have hlen:=zi0 l i
  refine⟨⟨rfl,by omega,by omega⟩,?_⟩
  refine fEq [9,10] (zk6 l 38 (capB [cloB 33 [capB [lI ((l.getD 0 []).getD i [])]]]) (fun p=>!hasS ((l.getD 0 []).getD i []) p) hl fun m hm=>zuc _ ((l.getD 0 []).getD i []) (hp _ (gd1 hm [])).1 fun a ha=>(hp _ (gd1 hm [])).2 _ (gd1 ha [])) rfl ⟨dE _,⟨rfl,rfl,fun j hj=>?_⟩,trivial⟩ rfl ?_
  ·obtain rfl:j=0:=jap.1 hj
   exact dE _
  apply bY<;>intro k2
  ·have k2:alwS l ((l.getD 0 []).getD i [])=true:=k2
   refine cR (zlF ((l.getD 0 []).getD i []) hsi) rfl rfl ?_
   refine⟨⟨.inr rfl,by unfold maxLen;omega,by show((prvK l i).length+1)*24<=140737488355328;omega⟩,?_⟩
   refine⟨i6,?_⟩
   refine⟨i+1,⟨rfl,⟨obR rfl ?_,trivial⟩,wq rfl⟩,k1,msr k1⟩
   rw[zof k1 k2]
   exact zgJ rfl (dE _)
  have k2:alwS l ((l.getD 0 []).getD i [])=false:=k2
  refine⟨i6,?_⟩
  refine⟨i+1,⟨rfl,⟨obR rfl ?_,trivial⟩,wq rfl⟩,k1,msr k1⟩
  rw[zrs k1 k2];exact dE _
 have k1:i=(l.getD 0 []).length:=by have:=dF k1;omega
 subst k1
 exact⟨⟨_,_,_,_,rfl,dE _⟩,rtI rfl rfl,trivial⟩
end Go.Pg
