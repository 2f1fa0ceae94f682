/- Lemmas, joined by program. -/
import Derived.Test.YtcgbaefojdoicaaGreatTC
set_option maxHeartbeats 4000000
set_option linter.all false
set_option maxRecDepth 100000
namespace Go.Pg
open Go.Proofs Go.RowKit Go.Sort Go.Shelf
def EYC {τ:Type} (xs:List τ) (enc:τ->List V1) (cuts:List Nat) (l:Nat):Env:=⟨ET,false,l,fun n vs=>∃ x,xs[n]?=some x/\vs=enc x,true,fun i=>cuts.any (Nat.beq i)⟩
theorem zkj {τ:Type} {xs:List τ} {enc:τ->List V1} (k:Nat) (vs:List V1):(∃ x,xs[k]?=some x/\vs=enc x) ↔ (xs.map enc)[k]?=some vs:=by
 rw[jU]
 cases xs[k]? with
 | none=>simp
 | some x=>simp; exact eq_comm
theorem zis (cuts : List Nat) {f : FuncId} {fn : Func} {c : Code} (hf : PP.funcs[f]? = some fn) (hb : fn.body = some c) (hq : ((fn.name == "runtime.NumGoroutine") || !(codeN fn.ntmps c && Nat.ble fn.ntmps 4294967296)) = false)
  {τ : Type} {xs : List τ} {enc : τ -> List V1} {n m : Nat} (args : Nat -> List AV) {obs obs' : Nat -> List (Nat × Ob)} (ts : List Nat) (hts : fn.results.toList = ts.map ResultVar.tmp) (pins : List (Nat × Nat)) {res resF : List V1} (hlr : ts.length = res.length) (hlF : ts.length = resF.length) (hfl : resF.all V1.flat = true)
  (hr : ∀ l, ∀ v ∈ args l, ∀ j ∈ v.refs, (look (obs l) j).isSome = true) (hpn : (G :: (pins.map Prod.fst ++ ts)).Nodup) (hsz : ∀ l, Nat.ble (args l).length fn.ntmps = true)
  (h : ∀ l γ, awp PP TTab (EYC xs enc cuts l) c (St.of ((G, .gho (some n)) :: slotsM γ 0 (args l)) (obs l)) (retYM ts res resF γ pins (n + m) (obs' l))) : SpecY PP f (xs.map enc) n m args obs obs' (pins.map Prod.snd) res resF := by
 simp only [qU, qR, jP] at hq
 exact zir hT (eq := ET) hE hM hf hb hq.1 hq.2.1 (jD hq.2.2) args ts hts pins hlr hlF hfl hr hpn (fun l => jD (hsz l)) (yd := fun n vs => ∃ x, xs[n]? = some x /\ vs = enc x) zkj (fun i => cuts.any (Nat.beq i)) (fun _ _ _ _ hk => hk) h
section
variable {s:St} {o:Oper} {fo:Operand} {K:St->Prop} {args:List Operand} {τ:Type} {xs:List τ} {enc:τ->List V1} {cuts:List Nat} {l:Nat}
theorem CallSt.ydC {d n:Nat} {x:τ} (sl:List (Nat × AV)) (ob:List (Nat × Ob)) (hd:o.dst=some d) (hf:ev s fo = .yl l) (hg:s.sl G = .gho (some n)) (hG:look sl G=none) (hw:Weak s sl ob) (hx:xs[n]?=some x) (hv:toV1s s (args.map (ev s))=some (enc x))
  (hno:(args.map (ev s)).all (fun v=>!v.isOwn)=true) (k1:K ((St.of ((G,.gho (some (n+1))) :: sl) ob).put d (.d (.bool true)))) (k2:K ((St.of ((G,.gho none) :: stillS sl) []).put d (.d (.bool false)))):CallSt (EYC xs enc cuts l) PP s o fo args K:=by
 rw[zag]
 exact .inr (.inr (.inr (.inl ⟨⟨n,d,sl,ob,_,hd,hf,hg,hG,hw,hv,hno,⟨x,hx,rfl⟩,k1,k2⟩⟩)))
theorem CallSt.cy {n m:Nat} {f:FuncId} {ex:List AV} {ags:Nat->List AV} {obs obs':Nat->List (Nat × Ob)} {pins:List Nat} {res resF:List V1} (sl:List (Nat × AV)) (rest:List (Nat × Ob)) (h:SpecY PP f (xs.map enc) n m ags obs obs' pins res resF)
  (hg:s.sl G = .gho (some n)) (hG:look sl G=none) (hw:Weak s sl (obs l++rest)) (hc:calleeM (ev (St.of sl (obs l++rest)) fo)=some (f,ex)) (ha:(args.map (ev (St.of sl (obs l++rest)))++ex).map (fixA (obs l))=ags l) (hm:closM (obs l)=true) (hgm:goodM sl (obs l) (obs' l) rest pins=true)
  (k1:K ((St.of ((G,.gho (some (n+m))) :: sl) (obs' l++rest)).putO o.dst (resAV res))) (k2:K ((St.of ((G,.gho none) :: stillS sl) []).putO o.dst (resAV resF))):CallSt (EYC xs enc cuts l) PP s o fo args K:=by
 rw[zag]
 exact .inr (.inr (.inr (.inr ⟨⟨_,n,m,f,ex,ags,sl,rest,obs,obs',pins,res,resF,zkj,h,hg,hG,hw,hc,ha,hm,hgm,k1,k2⟩⟩)))
end
theorem zl5 {P:Program} {a:Act} {w:World} {o:Oper} {fo:Operand} {f:FuncId} {args:Array Operand} {at':Array TypeId} (hop:o.op = .call { callee:=.value fo,args,argTypes:=at' }) {u:Value} (hfo:a.eval fo = .func (.func f) #[u] #[]) (hent:Ent P f) :
  (execOp a.eval o).run P w = .ok (.enter f (u :: args.toList.map a.eval).toArray) w:=by
 have:(u :: args.toList.map a.eval).toArray = #[u]++args.map a.eval ++ #[]:=by simp
 rw[this]
 simp[execOp,hop,resolve,hfo,Deferred.ofValue,invoke,zaD hent]
section
variable {s:St} {o:Oper} {fo:Operand} {K:St->Prop} {E:Env}
theorem CallSt.bn {f:FuncId} {args:Array Operand} {at':Array TypeId} (hop:o.op = .call { callee:=.value fo,args,argTypes:=at' }) {m:Nat} {g:Nat->D} (hf:ev s fo = .d (.bnd f m g)) {xs res:List V1} (hx:toV1s s (args.toList.map (ev s))=some xs)
  (h:SpecG E.dr PP f (.agg ((List.range m).map g) :: xs) res) (hr:res.all V1.flat=true) (hk:K (s.putO o.dst (resAV res))):CallSt E PP s o fo args.toList K:=by
 rw[zag]
 refine .inr (.inr (.inl ⟨_,⟨fun cx a w hD hd hR=>?_⟩,hk⟩))
 obtain⟨γ,hg⟩:=hR
 have hc:=(ev_m hg fo).1
 rw[hf] at hc
 obtain⟨vs,hv,hl,h3⟩:=hc
 have hm:=(zbg hg hx (zby hg args.toList)).1
 have hb:All2 (Rep w fun b=>b<w.heap.size) ((List.range m).map g) vs:=.map_left (All2.of_get (by simp[hl]) fun j q y hx hy=>by
  have hj:j<m:=by have:=(kC.1 hx).1; simpa using this
  rw[qZ hj] at hx
  cases hx
  obtain⟨u,hu,hr⟩:=h3 j hj
  rw[hy] at hu; cases hu
  exact Rep.keep (fun b hb=>⟨zam hg hb,rfl⟩) hr)
 refine .enter (zl5 hop hv h.1) ?_
 refine (h.2 w _ _ (fun b hb=>hb) (.cons ⟨vs,rfl,hb⟩ hm)).mono fun en w' ⟨v,e,hb,hres⟩=>⟨v,e,γ,?_⟩
 exact (hg.grow hb.1 fun e=>hb.2 (hD e)).putO hd (zaO (.inl fun b hb=>hb.elim) (zdG hr hres)) (fun j hj=>by rw[zau] at hj; cases hj)
inductive PosC (pv:D) (ok:List Int->Bool):Prop
 | clo (g0:FuncId) (c0:D) (e:pv=cloB g0 [c0]) (h:∀ s:List Int,s.length<=7->Spec PP g0 [.d (lI s),.d c0] [B (ok s)])
 | bnd (f:FuncId) (m:Nat) (g:Nat->D) (e:pv = .bnd f m g) (h:∀ s:List Int,s.length<=7->Spec PP f [.agg ((List.range m).map g),.d (lI s)] [B (ok s)])
end
abbrev rowII (ss:List (List Int)):Nat->Nat->D:=fun i _=>lI (ss.getD i [])
theorem zrO {ss:List (List Int)} {k k':Nat} {s':List Int} {y:D} (hk:k<ss.length) (e1:k'=k) (hy:D.eqv y (lI s')):D.eqv (.slc 1 ss.length (storeRow (rowII ss) k' 0 [y])) (.slc 1 (ss.set k s').length (rowII (ss.set k s'))):=by
 subst e1
 refine⟨List.length_set.symm,.inr ⟨rfl,fun i hi j hj=>?_⟩⟩
 show D.eqv (storeRow (rowII ss) k' 0 [y] i j) (lI ((ss.set k' s').getD i []))
 rw[zcx ss k' i s' [] hk]
 obtain rfl:j=0:=by omega
 unfold storeRow
 by_cases h:i=k'
 ·rw[kI h,kI ⟨h,jE _,by simp⟩]
  exact hy
 rw[kG h,kG fun hh=>h hh.1]
 exact dE _
theorem zoW {ss:List (List Int)} {s:List Int} {n:Nat} {g:Nat->Nat->D} (hn:n=ss.length) (hg:D.eqv (g 0 0) (lI s)):D.eqv (.slc 1 (n+1) (appRow n (rowII ss) g)) (.slc 1 (ss ++ [s]).length (rowII (ss ++ [s]))):=by
 subst hn
 refine⟨by simp,.inr ⟨rfl,fun i hi j hj=>?_⟩⟩
 show D.eqv (appRow ss.length (rowII ss) g i j) (lI ((ss ++ [s]).getD i []))
 obtain rfl:j=0:=by omega
 unfold appRow
 by_cases h:i<ss.length
 ·rw[kI h,hZ (l:=ss ++ [s]),jJ h,<- hZ]
  exact dE _
 have e:i=ss.length:=by omega
 subst e
 rw[kG h,kE,hZ,jK (jE _),kE]
 exact hg
theorem znq (l:List Int) (hn:l.length<=1000000):SpecO PP 109 [.d (lI l)] 3 1 l.length (rowI l):=by
 refine zdi Tryz.func109 rfl (by kernel_rfl) rfl ?_
 refine fun b hb=>?_
 apply bY <;> intro h1
 ·have h0:=hb h1
  refine⟨rfl,rfl,h0.symm,fun i hi=>?_⟩
  omega
 refine⟨⟨.inr rfl,by unfold maxLen; omega,by show (0+l.length) * 8<=140737488355328; omega⟩,?_⟩
 refine⟨rfl,rfl,qF _,fun i hi j hj=>?_⟩
 exact dE _
theorem zqr (l:List Int) (hn:l.length<=1000000):Spec PP 109 [.d (lI l)] [.d (lI l)]:=by
 refine sA Tryz.func109 ?_
 refine fun b hb=>?_
 apply bY <;> intro h1
 ·have h0:=hb h1
  exact⟨⟨_,_,_,_,rfl,h0.symm,.inl rfl⟩,trivial⟩
 refine⟨⟨.inr rfl,by unfold maxLen; omega,by show (0+l.length) * 8<=140737488355328; omega⟩,?_⟩
 exact⟨⟨_,_,_,_,rfl,qF _,.inr ⟨rfl,fun i hi j hj=>dE _⟩⟩,trivial⟩
def Sub {α:Type} (L:List α) (n:Nat) (L':List α):Prop:=∃ u,u.length=n/\u++L' <+: L
theorem Sub.pre {α:Type} {L L' L2:List α} {n:Nat} (h:Sub L n L') (hp:L2 <+: L'):Sub L n L2:=by
 obtain⟨u,h1,h2⟩:=h
 exact⟨u,h1,List.IsPrefix.trans ((List.prefix_append_right_inj _).2 hp) h2⟩
theorem Sub.snd {α:Type} {L L1 L2:List α} {n:Nat} (h:Sub L n (L1++L2)):Sub L (n+L1.length) L2:=by
 obtain⟨u,h1,h2⟩:=h
 exact⟨u++L1,by rw[jR,h1],by rw[List.append_assoc]; exact h2⟩
theorem Sub.get {α:Type} {L L':List α} {x:α} {n:Nat} (h:Sub L n (x :: L')):L[n]?=some x:=by
 obtain⟨u,rfl,t,h2⟩:=h
 rw[<- h2]
 simp
def prtK {α:Type} (ok:List α->Bool) (a:α) (r:List α) (ss:List (List α)) (k:Nat):List (List (List α)):=(List.range k).flatMap fun k=>prt ok r (ss.set k (ss.getD k [] ++ [a]))
theorem zdL {α:Type} (ok:List α->Bool) (a:α) (r:List α) (ss:List (List α)) (k:Nat):prtK ok a r ss (k+1)=prtK ok a r ss k++prt ok r (ss.set k (ss.getD k [] ++ [a])):=by
 unfold prtK
 rw[wD,List.flatMap_append]; simp
theorem ziH {α : Type} (ok : List α -> Bool) (a : α) (r : List α) (ss : List (List α)) : ∀ {k m : Nat}, k <= m -> prtK ok a r ss k <+: prtK ok a r ss m
  | k, 0, h => by obtain rfl : k = 0 := by omega
                  exact List.prefix_rfl
  | k, m + 1, h => by
    by_cases e : k = m + 1
    · subst e; exact List.prefix_rfl
    rw [zdL]
    exact List.IsPrefix.trans (ziH ok a r ss (by omega)) (List.prefix_append _ _)
theorem znp {α:Type} (ok:List α->Bool) (a:α) (r:List α) (ss:List (List α)):prt ok (a :: r) ss=prtK ok a r ss ss.length++prt ok r (ss ++ [[a]]):=rfl
section
variable (ids:List Int) (pv:D) (ok:List Int->Bool)
abbrev enP (p:List (List Int)):List V1:=[.d (lII p)]
abbrev allP:List (List (List Int)):=prt ok ids []
abbrev posD:D:=capB [pv]
def putCaps:List Cap:=[.dat (capB [lI ids]),.own 4,.dat (posD pv),.own 3,.own 5]
def putObs (ss:List (List Int)) (l:Nat):List (Nat × Ob):=[(4,.box [.own 100]),(100,.row 22 1 ss.length (rowII ss)),(3,.box [.yl l]),(5,.box [.clo 108 (putCaps ids pv)])]
def putArgs (i:Nat) (_:Nat):List AV:=[.d (I i),.d (capB [lI ids]),.box 4 0,.d (posD pv),.box 3 0,.box 5 0]
end
abbrev leL (x y:List Int):Bool:=!decide (cmpL y x<0)
theorem zdU {a b:List Int}:leL a b=true ↔ cmpL a b = -1 \/ a=b:=by
 show (!decide (cmpL b a<0))=true ↔ _
 rw[jY,jaD]
 rcases cmpL_cases b a with⟨h1,h2⟩ | ⟨h1,h2⟩ | ⟨h1,h2⟩
 ·constructor
  ·intro h; omega
  rintro (h | h)
  ·omega
  subst h; rw[zef] at h1; omega
 ·exact⟨fun _=>.inl h2,fun _=>by omega⟩
 exact⟨fun _=>.inr h2.symm,fun _=>by omega⟩
theorem zdT {a b c:List Int} (h1:leL a b=true) (h2:leL b c=true):leL a c=true:=by
 rw[zdU] at *
 rcases h1 with h1 | rfl
 ·rcases h2 with h2 | rfl
  ·exact .inl (zb8 _ _ _ h1 h2)
  exact .inl h1
 exact h2
theorem zlD (a b:List Int):(leL a b || leL b a)=true:=by
 rw[jX,zdU,zdU]
 rcases cmpL_cases a b with⟨h1,_⟩ | ⟨_,h2⟩ | ⟨_,h2⟩
 ·exact .inl (.inl h1)
 ·exact .inr (.inl h2)
 exact .inl (.inr h2)
def SrtL (l:List (List Int)):Prop:=l.Pairwise fun x y=>leL x y=true
theorem zjK {l m:List (List Int)} (h1:SrtL l) (h2:SrtL m) (hp:l.Perm m):l=m:=
 List.Perm.eq_of_pairwise (le:=fun x y=>leL x y=true) (fun a b _ _ h3 h4=>by
  rw[zdU] at h3 h4
  rcases h3 with h3 | h3
  ·rcases h4 with h4 | h4
   ·rcases cmpL_cases a b with⟨h,h'⟩ | ⟨h,h'⟩ | ⟨h,h'⟩
    ·omega
    ·omega
    exact h'
   exact h4.symm
  exact h3) h1 h2 hp
theorem zkC (l:List (List Int)):SrtL (l.mergeSort leL):=List.pairwise_mergeSort (le:=leL) (fun a b c=>zdT) zlD l
def insL (l:List (List Int)) (x:List Int) (k:Nat):List (List Int):=l.take k++x :: l.drop k
theorem zd0 (l:List (List Int)) (x:List Int) (k:Nat):(insL l x k).Perm (l ++ [x]):=by
 unfold insL
 have h1:(l.take k++x :: l.drop k).Perm (x :: (l.take k++l.drop k)):=List.perm_middle
 rw[List.take_append_drop] at h1
 exact h1.trans (List.perm_append_comm (l₁:=[x]) (l₂:=l))
theorem zi4 {l:List (List Int)} {x:List Int} {k:Nat} (hk:k<=l.length) (hs:SrtL l) (h1:∀ j,k<=j->j<l.length->leL x (l.getD j [])=true) (h2:0<k->leL (l.getD (k - 1) []) x=true):SrtL (insL l x k):=by
 have hd:=hs
 unfold SrtL at hd
 rw[<- List.take_append_drop k l,List.pairwise_append] at hd
 obtain⟨d1,d2,d3⟩:=hd
 have g:∀ i j,i<j->j<l.length->leL (l.getD i []) (l.getD j [])=true:=fun i j hij hj=>by
  have:=qQ.1 hs i j (by omega) hj hij
  rw[hZ,hZ,kH hj,kH (by omega)]
  exact this
 have lo:∀ y∈l.take k,leL y x=true:=fun y hy=>by
  obtain⟨j,hj,rfl⟩:=kQ hy
  rw[jQ] at hj
  rw[jaR]
  have e:l[j]'(by omega)=l.getD j []:=by rw[hZ,kH (by omega)]; rfl
  rw[e]
  have h3:=h2 (by omega)
  by_cases q:j=k - 1
  ·rw[q]; exact h3
  exact zdT (g j (k - 1) (by omega) (by omega)) h3
 have hi:∀ y∈l.drop k,leL x y=true:=fun y hy=>by
  obtain⟨j,hj,rfl⟩:=kQ hy
  rw[qO] at hj
  rw[List.getElem_drop]
  have e:l[k+j]'(by omega)=l.getD (k+j) []:=by rw[hZ,kH (by omega)]; rfl
  rw[e]
  exact h1 (k+j) (by omega) (by omega)
 unfold SrtL insL
 rw[List.pairwise_append]
 refine⟨d1,List.pairwise_cons.2 ⟨hi,d2⟩,fun a ha c hc=>?_⟩
 rcases kZ.1 hc with rfl | hc
 ·exact lo a ha
 exact zdT (lo a ha) (hi c hc)
theorem znW (l:List (List Int)) (x:List Int) {k:Nat} (hk:k<=l.length) (m:Nat):(insL l x k).getD m []=if m<k then l.getD m [] else if m=k then x else l.getD (m - 1) []:=by
 unfold insL
 rw[hZ]
 by_cases h1:m<k
 ·rw[kI h1,jJ (by rw[jQ]; omega),jS,kI h1,<- hZ]
 rw[kG h1,jK (by rw[jQ]; omega),jQ]
 rw[show min k l.length=k by omega]
 by_cases h2:m=k
 ·rw[kI h2,h2,kE]; rfl
 rw[kG h2]
 obtain⟨d,hd⟩:∃ d,m - k=d+1:=⟨m - k - 1,by omega⟩
 rw[hd,wI,qM,show k+d=m - 1 by omega,<- hZ]
theorem zi5 {l:List (List Int)} {x:List Int} {k:Nat} (hk:k<=l.length) {n n':Nat} {F f:Nat->Nat->D} (hn:n=k) (hn':n'=k) (hF:∀ a,a<k->F a 0=lI (l.getD a [])) (h:f 0 0=lI x) :
  D.eqv (.slc 1 (n+1+(l.length - n')) (appRow (n+1) (appRow n F f) fun a _=>lI (l.getD (n'+a) []))) (lII (insL l x k)):=by
 subst hn
 subst hn'
 refine⟨by rw[(zd0 l x n').length_eq,jR,qW]; omega,.inr ⟨rfl,fun m hm j hj=>?_⟩⟩
 obtain rfl:j=0:=by omega
 show D.eqv (appRow (n'+1) (appRow n' F f) (fun a _=>lI (l.getD (n'+a) [])) m 0) (lI ((insL l x n').getD m []))
 rw[znW l x hk]
 unfold appRow
 by_cases h1:m<n'
 ·rw[kI (by omega),kI h1,kI h1,hF m h1]; exact dE _
 by_cases h2:m=n'
 ·rw[kI (by omega),kG h1,kG h1,kI h2,h2,kE,h]; exact dE _
 rw[kG (by omega),kG h1,kG h2]
 show D.eqv (lI (l.getD (n'+(m - (n'+1))) [])) _
 rw[show n'+(m - (n'+1))=m - 1 by omega]; exact dE _
abbrev lN (l:List Nat):D:=.slc 1 l.length fun i _=>I ((l.getD i 0:Nat):Int)
def ordX (ids:List Int) (ss:List Nat):List (List Int):=(ss.map (memb ids)).mergeSort leL
theorem zeM (ids:List Int) (ss:List Nat) (hn:ids.length<=7) (hm:∀ m∈ss,m<128) (hl:ss.length<=1000000):Spec PP 61 [.d (lI ids),.d (lN ss)] [.d (lII (ordX ids ss))]:=by
 have hlt:∀ i,ss.getD i 0<128:=fun i=>by
  by_cases h:i<ss.length
  ·rw[hZ,kH h]; exact hm _ (kW h)
  rw[hZ,qX (by omega)]; decide
 refine sA Tryz.func61 ?_
 refine lOf (σ:=List (List Int) × Nat) (fun x=>([(0,.d (lI ids)),(1,.d (lN ss)),(5,.d (lII x.1)),(6,.d (I x.2))],[])) (fun x=>x.2<=ss.length/\SrtL x.1/\x.1.Perm ((ss.take x.2).map (memb ids))) (fun x=>ss.length - x.2) ([],0)
  ⟨rfl,trivial,avQ rfl,avQ rfl,avOw rfl rfl rfl ⟨rfl,.inl rfl⟩,avQ rfl,trivial⟩ ⟨jF _,List.Pairwise.nil,List.Perm.refl _⟩ fun⟨U,i⟩ ⟨hi,hs,hp⟩=>?_
 have hi:i<=ss.length:=hi
 have hs:SrtL U:=hs
 have hp:U.Perm ((ss.take i).map (memb ids)):=hp
 have hU:U.length<=i:=by
  rw[hp.length_eq,qE,jQ]; omega
 have hUl:∀ j,(U.getD j []).length<=7:=fun j=>by
  by_cases h:j<U.length
  ·rw[hZ,kH h]
   obtain⟨m,_,e⟩:=kK.1 (hp.subset (kW h))
   show U[j].length<=7
   rw[<- e]
   exact jM (zaG _ _ _) hn
  rw[hZ,qX (by omega)]; simp
 apply bY <;> intro h1
 ·have h1:i<ss.length:=by have:(i:Int)<ss.length:=dT h1; omega
  refine⟨⟨rfl,by omega,by show (i:Int)<ss.length; omega⟩,?_⟩
  refine cR (zgs ids (ss.getD i 0) hn (hlt i)) rfl rfl ?_
  have hx:(memb ids (ss.getD i 0)).length<=7:=jM (zaG _ _ _) hn
  generalize hxe:memb ids (ss.getD i 0)=x at hx
  refine lOf (σ:=Nat) (fun k=>([(0,.d (lI ids)),(1,.d (lN ss)),(5,.d (lII U)),(6,.d (I i)),(7,.d (lI x)),(8,.d (I k))],[])) (fun k=>k<=U.length /\ ∀ j,k<=j->j<U.length->cmpL x (U.getD j [])<0) (fun k=>k) U.length
   ⟨rfl,trivial,wq rfl⟩ ⟨jE _,fun j h3 h4=>absurd h4 (by omega)⟩ fun k hk=>?_
  obtain⟨hk,ha⟩:=hk
  have hb:∀ j,k<=j->j<U.length->leL x (U.getD j [])=true:=fun j h3 h4=>by
   have:=ha j h3 h4
   rw[zdU]
   rcases cmpL_cases x (U.getD j []) with⟨h,_⟩ | ⟨h,_⟩ | ⟨h,_⟩
   ·exact .inl h
   ·omega
   omega
  apply bY <;> intro h3
  ·have h3:0<k:=by have:=dT h3; omega
   refine⟨i6,?_⟩
   refine⟨⟨rfl,by omega,by omega⟩,?_⟩
   have ek:((k:Int) - 1).toNat=k - 1:=by omega
   refine cP (zkQ x (U.getD ((k:Int) - 1).toNat []) (by have:=hUl ((k:Int) - 1).toNat; omega) (by omega)) rfl rfl ?_
   repeat first | apply sT | apply sF
   apply bY <;> intro h4
   ·have h4:cmpL x (U.getD (k - 1) [])<0:=by have h4:=dT h4; rw[ek] at h4; exact h4
    refine⟨i6,?_⟩
    refine⟨k - 1,⟨rfl,trivial,avQ rfl,avQ rfl,avQ rfl,avQ rfl,avQ rfl,avI rfl (by omega),trivial⟩,⟨by omega,fun j h5 h6=>?_⟩,by omega⟩
    by_cases e:j=k - 1
    ·rw[e]; exact h4
    exact ha j (by omega) h6
   have h4:leL (U.getD (k - 1) []) x=true:=by have h4:=dF h4; rw[ek] at h4; show (!decide (cmpL x (U.getD (k - 1) [])<0))=true; rw[jH h4]; rfl
   refine⟨⟨.inr rfl,by omega,by omega⟩,?_⟩
   refine⟨⟨.inr rfl,by simp only[maxLen]; omega,by dsimp only; omega⟩,?_⟩
   refine⟨⟨.inr rfl,by simp only[maxLen]; omega,by dsimp only; omega⟩,?_⟩
   refine⟨⟨.inr rfl,by omega,by omega⟩,?_⟩
   refine⟨⟨.inr rfl,by simp only[maxLen]; omega,by dsimp only; omega⟩,?_⟩
   refine⟨i6,?_⟩
   refine⟨(insL U x k,i+1),⟨rfl,trivial,avQ rfl,avQ rfl,avOw rfl rfl rfl ?_,avQ rfl,trivial⟩,⟨h1,zi4 hk hs hb (fun _=>h4),?_⟩,msr h1⟩
   ·exact zi5 hk (by omega) (by omega) (fun a _=>rfl) rfl
   rw[zaK h1 0,jT]
   refine (zd0 _ _ _).trans ?_
   rw[<- hxe]
   exact hp.append_right _
  have h3:k=0:=by have:=dF h3; omega
  repeat first | apply sT | apply sF
  refine⟨⟨.inr rfl,by omega,by omega⟩,?_⟩
  refine⟨⟨.inr rfl,by simp only[maxLen]; omega,by dsimp only; omega⟩,?_⟩
  refine⟨⟨.inr rfl,by simp only[maxLen]; omega,by dsimp only; omega⟩,?_⟩
  refine⟨⟨.inr rfl,by omega,by omega⟩,?_⟩
  refine⟨⟨.inr rfl,by simp only[maxLen]; omega,by dsimp only; omega⟩,?_⟩
  refine⟨i6,?_⟩
  refine⟨(insL U x k,i+1),⟨rfl,trivial,avQ rfl,avQ rfl,avOw rfl rfl rfl ?_,avQ rfl,trivial⟩,⟨h1,zi4 hk hs hb (fun h=>by omega),?_⟩,msr h1⟩
  ·exact zi5 hk (by omega) (by omega) (fun a _=>rfl) rfl
  rw[zaK h1 0,jT]
  refine (zd0 _ _ _).trans ?_
  rw[<- hxe]
  exact hp.append_right _
 have h1:i=ss.length:=by have:¬ (i:Int)<ss.length:=dF h1; omega
 subst h1
 rw[jZ] at hp
 have e:ordX ids ss=U:=zjK (zkC _) hs ((jap _ _).trans hp.symm)
 rw[e]
 exact⟨dE _,trivial⟩
theorem zpo {d:Day} {ids:List Int} (h:askE d ids=0):DayOk d:=by
 unfold askE at h
 split at h
 ·rename_i h1; exact absurd h h1
 rename_i h1; exact zaZ (jL h1)
def celR (d:Day) (ids:List Int):List Place × Int:=if askE d ids≠0 then ([],askE d ids) else (plsD d ids,0)
theorem zsH (d:Day) (ids:List Int) (hn:d.R.length<=1000000) (hi:ids.length<=1000000):Spec PP 37 [d.v,.d (lI ids)] [.d (lP (celR d ids).1),.d (.int .i64 (celR d ids).2)]:=by
 refine sA Tryz.func37 ?_
 refine cP (zlR d ids hn hi) rfl rfl ?_
 unfold celR
 apply bY <;> intro h0
 ·rw[kI (by simpa using h0)]
  exact⟨⟨_,_,_,_,rfl,rfl,.inl rfl⟩,rtI rfl rfl,trivial⟩
 have h0:askE d ids=0:=by simpa using h0
 rw[kG (fun hh=>hh h0)]
 refine cR (zi2 (zpo h0) ids hi) rfl rfl ?_
 exact⟨dE _,rtI rfl rfl,trivial⟩
theorem zj0 (d:Day) (ids:List Int) (hn:d.R.length<=1000000) (hi:ids.length<=1000000):Spec PP 33 [d.v,.d (lI ids)] [B (decide (0<(celR d ids).1.length)),.d (.int .i64 (celR d ids).2)]:=by
 refine sA Tryz.func33 ?_
 refine cR (zsH d ids hn hi) rfl rfl ?_
 exact⟨rtB rfl (k9.2 (by omega)),rtI rfl rfl,trivial⟩
def parE (d:Day) (a b:Int):Int:=if dayE d≠0 then dayE d else if partB [a,b] (sigL d.R)=false then 5 else if a=b then 1 else 0
theorem zsD (d:Day) (a b:Int) (hn:d.R.length<=1000000):Spec PP 63 [d.v,N a,N b] [.d (.int .i64 (parE d a b))]:=by
 refine sA Tryz.func63 ?_
 refine cP (zdZ d hn) rfl rfl ?_
 unfold parE
 apply bY <;> intro h0
 ·rw[kI (by simpa using h0)]
  exact r1I rfl rfl
 have h0:dayE d=0:=by simpa using h0
 rw[kG (fun hh=>hh h0)]
 have hs:(sigL d.R).length<=1000000:=by rw[zbH]; exact jM (zcm _) hn
 refine cR (zaR d hn) rfl rfl ?_
 refine fEq [15] (zeV [a,b] (sigL d.R) (by simp) hs) rfl ⟨⟨rfl,.inr ⟨rfl,fun i hi j hj=>?_⟩⟩,dE _,trivial⟩ rfl ?_
 ·match i,hi,j,hj with
  | 0,_,0,_=>exact⟨rfl,rfl⟩
  | 1,_,0,_=>exact⟨rfl,rfl⟩
 apply bY <;> intro h1
 ·rw[kI (by simpa using h1)]
  exact r1I rfl rfl
 rw[kG (by simpa using h1)]
 apply bY <;> intro h2
 ·rw[kI (by simpa using h2)]
  exact r1I rfl rfl
 rw[kG (by simpa using h2)]
 exact r1I rfl rfl
abbrev lPP (l:List (List (List Int))):D:=.slc 1 l.length fun i _=>lII (l.getD i [])
def bthB (a b:Int) (s:List Int):Bool:=s.contains a && s.contains b
def togB (a b:Int) (p:List (List Int)):Bool:=p.any (bthB a b)
theorem zhR (a b:Int) (s:List Int) (hs:s.length<=1000000):Spec PP 129 [.d (lI s),.d (capB [I a]),.d (capB [I b])] [B (bthB a b s)]:=by
 refine sA Tryz.func129 ?_
 refine cP (zeG s a hs) rfl rfl ?_
 apply bY <;> intro h1
 ·have h1:s.contains a=true:=h1
  refine cP (zeG s b hs) rfl rfl ?_
  repeat first | apply sT | apply sF
  exact r1B rfl (by unfold bthB; rw[h1,kL])
 have h1:s.contains a=false:=h1
 repeat first | apply sT | apply sF
 exact r1B rfl (by unfold bthB; rw[h1,kP])
theorem zjZ (p:List (List Int)) (a b:Int) (hp:p.length<=1000000) (hs:∀ s∈p,s.length<=1000000):Spec PP 65 [.d (lII p),N a,N b] [B (togB a b p)]:=by
 refine sA Tryz.func65 ?_
 refine fEq [4,5] (zm2 p 129 (capB [I a]) (capB [I b]) (bthB a b) hp fun i hi=>zhR a b _ (hs _ ?_)) rfl ⟨dE _,⟨rfl,rfl,ztd _ _ rfl rfl⟩,trivial⟩ rfl ?_
 ·rw[hZ,kH hi]; exact kW hi
 exact r1B rfl rfl
structure Vdt where
  Ans:Int
  T:List (List Int)
  A:List (List Int)
  deriving Inhabited
abbrev Vdt.v (x:Vdt):V1:=.agg [I x.Ans,lII x.T,lII x.A]
def fstP (p:List (List Int)->Bool) (l:List (List (List Int))):List (List Int):=(l.find? p).getD []
def vdtR (l:List (List (List Int))) (a b:Int):Vdt:=
 ⟨if l.any (togB a b)=true then (if (l.any fun p=>!togB a b p)=true then 3 else 2) else 1,fstP (togB a b) l,fstP (fun p=>!togB a b p) l⟩
theorem zgQ (p:List (List Int)->Bool) {l:List (List (List Int))} {i:Nat} (h:i<l.length):fstP p (l.take (i+1))=if (l.take i).any p=true then fstP p (l.take i) else if p (l.getD i [])=true then l.getD i [] else []:=by
 unfold fstP
 rw[zaK h [],List.find?_append]
 cases hf:(l.take i).find? p with
 | some x=>
  rw[kI (kO.2 ⟨x,List.mem_of_find?_eq_some hf,List.find?_some hf⟩)]; rfl
 | none=>
 rw[kG fun ha=>by
  obtain⟨x,h1,h2⟩:=kO.1 ha
  exact List.find?_eq_none.1 hf x h1 h2]
 rw[List.find?_cons]
 cases p (l.getD i []) <;> rfl
theorem zjC (p:List (List Int)->Bool) {l:List (List (List Int))} {i:Nat} (h:i<l.length):(l.take (i+1)).any p=((l.take i).any p || p (l.getD i [])):=by
 rw[zaK h [],List.any_append]; simp
theorem zqW {p:List (List Int)->Bool} {l:List (List (List Int))} (h:l.any p=false):fstP p l=[]:=by
 unfold fstP
 rw[List.find?_eq_none.2 fun x hx hp=>by have:=jan.1 h x hx; exact this hp]; rfl
theorem zbx {p:List (List Int)->Bool} {l:List (List (List Int))} {i:Nat} (h:i<l.length) (h2:(l.take i).any p=true \/ p (l.getD i [])=false):fstP p (l.take (i+1))=fstP p (l.take i):=by
 rw[zgQ p h]
 by_cases h3:(l.take i).any p=true
 ·rw[kI h3]
 rw[kG h3,kG (by rw[h2.resolve_left h3]; decide),zqW (by simpa using h3)]
theorem zjc {p:List (List Int)->Bool} {l:List (List (List Int))} {i:Nat} (h:i<l.length) (h2:(l.take i).any p=false) (h3:p (l.getD i [])=true):fstP p (l.take (i+1))=l.getD i []:=by
 rw[zgQ p h,kG (by rw[h2]; decide),kI h3]
theorem zlN (l:List (List (List Int))) (a b:Int) (hl:l.length<=1000000) (hp:∀ p∈l,p.length<=1000000 /\ ∀ s∈p,s.length<=1000000):Spec PP 67 [.d (lPP l),N a,N b] [(vdtR l a b).v]:=by
 refine sA Tryz.func67 ?_
 refine lOf (σ:=Nat) (fun i=>([(1,.d (I a)),(2,.d (I b)),(6,.box 6 0),(7,.box 7 0),(8,.d (.bool ((l.take i).any (togB a b)))),(9,.d (.bool ((l.take i).any fun p=>!togB a b p))),(12,.d (lPP l)),(13,.d (I l.length)),(14,.d (I i))],
   [(6,.box (List.replicate 3 .any)),(7,.box ([I 0,lII (fstP (togB a b) (l.take i)),lII (fstP (fun p=>!togB a b p) (l.take i))].map AV.d))])) (fun i=>i<=l.length) (fun i=>l.length - i) 0
  ⟨rfl,⟨zan rfl rfl,⟨dE _,rfl,rfl,trivial⟩,trivial⟩,wq rfl⟩ (jF _) fun i hi=>?_
 have hi:i<=l.length:=hi
 apply bY <;> intro h1
 ·have h1:i<l.length:=by have:=dT h1; omega
  have hm:l.getD i []∈l:=by rw[hZ,kH h1]; exact kW h1
  obtain⟨g1,g2⟩:=hp _ hm
  have a1:=zjC (togB a b) h1
  have a2:=zjC (fun p=>!togB a b p) h1
  refine⟨⟨rfl,by omega,by omega⟩,?_⟩
  refine cP (zjZ (l.getD i []) a b g1 g2) rfl rfl ?_
  apply bY <;> intro h2
  ·have h2:togB a b (l.getD i [])=true:=h2
   have h2':(!togB a b (l.getD i []))=false:=by rw[h2]; rfl
   rw[h2,kV] at a1
   rw[h2',jat] at a2
   apply bY <;> intro h3
   ·have h3:(l.take i).any (togB a b)=false:=by simpa using h3
    refine⟨i6,?_⟩
    refine⟨i+1,⟨rfl,⟨zan rfl rfl,?_,trivial⟩,?_⟩,h1,msr h1⟩
    ·rw[zjc (p:=togB a b) h1 h3 h2,zbx (p:=fun p=>!togB a b p) h1 (.inr h2')]; exact⟨dE _,dE _,dE _,trivial⟩
    rw[a1,a2]; exact wq rfl
   have h3:(l.take i).any (togB a b)=true:=by simpa using h3
   refine⟨i6,?_⟩
   refine⟨i+1,⟨rfl,⟨zan rfl rfl,?_,trivial⟩,?_⟩,h1,msr h1⟩
   ·rw[zbx (p:=togB a b) h1 (.inl h3),zbx (p:=fun p=>!togB a b p) h1 (.inr h2')]; exact⟨dE _,dE _,dE _,trivial⟩
   rw[a1.trans h3.symm,a2]; exact wq rfl
  have h2:togB a b (l.getD i [])=false:=h2
  have h2':(!togB a b (l.getD i []))=true:=by rw[h2]; rfl
  rw[h2,jat] at a1
  rw[h2',kV] at a2
  apply bY <;> intro h3
  ·have h3:((l.take i).any fun p=>!togB a b p)=false:=by simpa using h3
   refine⟨i6,?_⟩
   refine⟨i+1,⟨rfl,⟨zan rfl rfl,?_,trivial⟩,?_⟩,h1,msr h1⟩
   ·rw[zbx (p:=togB a b) h1 (.inr h2),zjc (p:=fun p=>!togB a b p) h1 h3 h2']; exact⟨dE _,dE _,dE _,trivial⟩
   rw[a1,a2]; exact wq rfl
  have h3:((l.take i).any fun p=>!togB a b p)=true:=by simpa using h3
  refine⟨i6,?_⟩
  refine⟨i+1,⟨rfl,⟨zan rfl rfl,?_,trivial⟩,?_⟩,h1,msr h1⟩
  ·rw[zbx (p:=togB a b) h1 (.inr h2),zbx (p:=fun p=>!togB a b p) h1 (.inl h3)]; exact⟨dE _,dE _,dE _,trivial⟩
  rw[a1,a2.trans h3.symm]; exact wq rfl
 have h1:i=l.length:=by have:=dF h1; omega
 subst h1
 rw[jZ]
 unfold vdtR
 apply bY <;> intro h2
 ·have h2:l.any (togB a b)=true:=h2
  rw[kI h2]
  repeat first | apply sT | apply sF
  apply bY <;> intro h3
  ·have h3:(l.any fun p=>!togB a b p)=true:=h3
   rw[kI h3]
   exact⟨rtC (a:=6) rfl rfl rfl rfl rfl rfl (zaa _),trivial⟩
  have h3:(l.any fun p=>!togB a b p)=false:=h3
  rw[kG (by rw[h3]; decide)]
  refine sYe h2 ?_
  exact⟨rtC (a:=6) rfl rfl rfl rfl rfl rfl (zaa _),trivial⟩
 have h2:l.any (togB a b)=false:=h2
 rw[kG (by rw[h2]; decide)]
 repeat first | apply sT | apply sF
 refine sNo h2 ?_
 exact⟨rtC (a:=6) rfl rfl rfl rfl rfl rfl (zaa _),trivial⟩
theorem zes (s:Svc) (r:Rpt):Spec PP 122 [s.v,r.v] [.d (.int .i64 (crpE s r))]:=by
 refine sA Tryz.func122 ?_
 refine cP (zdm s) rfl rfl ?_
 apply bY <;> intro h0
 ·have h0:svcE s≠0:=by simpa using h0
  refine r1I rfl ?_
  unfold crpE; rw[kI h0]
 have h0:svcE s=0:=by simpa using h0
 have ok:=zdB h0
 refine cP (zdI s r (by have:=ok.c.t; omega) (by have:=ok.k.n; omega)) rfl rfl ?_
 refine r1I rfl ?_
 unfold crpE; rw[kG (fun hh=>hh h0)]
theorem zkX (s:Svc) (b:Brn) (r:Rpt) (p:Place):Spec PP 140 [s.v,b.v,r.v,p.v] [B (alwR s b r p).1,.d (.int .i64 (alwR s b r p).2)]:=by
 refine sA Tryz.func140 ?_
 refine cP (zdm s) rfl rfl ?_
 apply bY <;> intro h0
 ·have e:alwR s b r p=(false,svcE s):=by unfold alwR; rw[kI (by simpa using h0)]
  rw[e]; exact r2BI rfl rfl rfl rfl
 have h0:svcE s=0:=by simpa using h0
 have ok:=zdB h0
 refine cP (zeO b) rfl rfl ?_
 apply bY <;> intro h1
 ·have e:alwR s b r p=(false,1):=by unfold alwR; rw[kG (fun hh=>hh h0),kI (by simpa using h1)]
  rw[e]; exact r2BI rfl rfl rfl rfl
 have h1:brnB b=true:=by simpa using h1
 refine cP (zdI s r (by have:=ok.c.t; omega) (by have:=ok.k.n; omega)) rfl rfl ?_
 apply bY <;> intro h2
 ·have e:alwR s b r p=(false,rptE s r):=by unfold alwR; rw[kG (fun hh=>hh h0),kG (by rw[h1]; decide),kI (by simpa using h2)]
  rw[e]; exact r2BI rfl rfl rfl rfl
 have h2:rptE s r=0:=by simpa using h2
 refine cP (zqg s.c.M p) rfl rfl ?_
 apply bY <;> intro h3
 ·have e:alwR s b r p=(false,1):=by unfold alwR; rw[kG (fun hh=>hh h0),kG (by rw[h1]; decide),kG (fun hh=>hh h2),kI (by simpa using h3)]
  rw[e]; exact r2BI rfl rfl rfl rfl
 have h3:onM s.c.M p=true:=by simpa using h3
 have e:alwR s b r p=(allB s b r p,0):=by unfold alwR; rw[kG (fun hh=>hh h0),kG (by rw[h1]; decide),kG (fun hh=>hh h2),kG (by rw[h3]; decide)]
 rw[e]
 refine oN 9 ?_
 refine oP (zkV s r (by have:=ok.c.t; omega) (zkL h2)) rfl rfl ?_
 refine oP (zdJ s b r p) rfl rfl ?_
 exact r2BI rfl rfl rfl rfl
theorem ziy (d:Day) (hn:d.R.length<=1000000):Spec PP 57 [d.v] [.d (.int .i64 (dayE d))]:=by
 refine sA Tryz.func57 ?_
 refine cP (zdm d.s) rfl rfl ?_
 apply bY <;> intro h0
 ·refine r1I rfl ?_
  unfold dayE; rw[kI (by simpa using h0)]
 have h0:svcE d.s=0:=by simpa using h0
 have bad:(!within d.Rise 0 200 || !within d.Long 0 1440)=true->dayE d=1:=fun h=>by unfold dayE; rw[kG (fun hh=>hh h0),kI h]
 apply bY <;> intro h1
 ·have h1:d.Rise<0:=dT h1
  repeat first | apply sT | apply sF
  refine r1I rfl (bad ?_).symm
  unfold within; rw[jH (by omega:¬ 0<=d.Rise)]; rfl
 have h1:¬ d.Rise<0:=dF h1
 repeat first | apply sT | apply sF
 apply bY <;> intro h2
 ·have h2:200<d.Rise:=dT h2
  repeat first | apply sT | apply sF
  refine r1I rfl (bad ?_).symm
  unfold within; rw[jH (by omega:¬ d.Rise<=200),kU]; rfl
 have h2:¬ 200<d.Rise:=dF h2
 repeat first | apply sT | apply sF
 apply bY <;> intro h3
 ·have h3:d.Long<0:=dT h3
  repeat first | apply sT | apply sF
  refine r1I rfl (bad ?_).symm
  unfold within; rw[jH (by omega:¬ 0<=d.Long),kP,Bool.not_false,kV]
 have h3:¬ d.Long<0:=dF h3
 repeat first | apply sT | apply sF
 apply bY <;> intro h4
 ·have h4:1440<d.Long:=dT h4
  repeat first | apply sT | apply sF
  refine r1I rfl (bad ?_).symm
  unfold within; rw[jH (by omega:¬ d.Long<=1440),kU,Bool.not_false,kV]
 have h4:¬ 1440<d.Long:=dF h4
 have w1:within d.Rise 0 200=true:=by unfold within; rw[jG (by omega:0<=d.Rise),jG (by omega:d.Rise<=200)]; rfl
 have w2:within d.Long 0 1440=true:=by unfold within; rw[jG (by omega:0<=d.Long),jG (by omega:d.Long<=1440)]; rfl
 refine cR (zdH d hn) rfl rfl ?_
 have e1:(sigL d.R).length=(sigK d.R).length:=zbH d.R
 have eg:dayE d=if 7<(sigK d.R).length \/ 10+(sigK d.R).length<d.R.length then 2 else err1 (day1E d) d.R.length:=by
  unfold dayE; rw[kG (fun hh=>hh h0),kG (by rw[w1,w2]; decide)]
 rw[eg]
 apply bY <;> intro h5
 ·have h5:7<(sigK d.R).length:=by have:(7:Int)<(sigL d.R).length:=dT h5; omega
  repeat first | apply sT | apply sF
  refine r1I rfl ?_
  rw[kI (.inl h5)]
 have h5:¬ 7<(sigK d.R).length:=by have:¬ (7:Int)<(sigL d.R).length:=dF h5; omega
 refine⟨i6,?_⟩
 repeat first | apply sT | apply sF
 apply bY <;> intro h6
 ·have h6:10+(sigK d.R).length<d.R.length:=by have:(10:Int)<(d.R.length:Int) - (sigL d.R).length:=dT h6; omega
  refine r1I rfl ?_
  rw[kI (.inr h6)]
 have h6:¬ 10+(sigK d.R).length<d.R.length:=by have:¬ (10:Int)<(d.R.length:Int) - (sigL d.R).length:=dF h6; omega
 rw[kG (fun h=>h.elim h5 h6)]
 have hl:d.R.length<=17:=by omega
 refine lOf (σ:=Nat) (fun i=>([(1,.box 1 0),(5,.d (I i))],[(1,.box (d.ds.map AV.d))])) (fun i=>i<=d.R.length /\ ∀ j,j<i->day1E d j=0) (fun i=>d.R.length - i) 0
  ⟨rfl,⟨obD d.ds rfl,trivial⟩,wq rfl⟩ z0L fun i hi=>?_
 obtain⟨hi,ha⟩:=hi
 apply bY <;> intro h7
 ·have h7:i<d.R.length:=by have:=dT h7; omega
  refine oN 9 ?_
  refine⟨⟨rfl,by omega,by omega⟩,?_⟩
  refine oP (zes d.s (d.R.getD i default)) rfl rfl ?_
  apply bY <;> intro h8
  ·have h8:crpE d.s (d.R.getD i default)≠0:=by simpa using h8
   have e2:day1E d i=crpE d.s (d.R.getD i default):=by unfold day1E; rw[kI h8]
   refine r1I rfl ?_
   rw[zao ha (by rw[e2]; exact h8) h7,e2]
  have h8:crpE d.s (d.R.getD i default)=0:=by simpa using h8
  refine lOf (σ:=Nat) (fun k=>([(1,.box 1 0),(5,.d (I i)),(6,.d (I k))],[(1,.box (d.ds.map AV.d))])) (fun k=>k<=i /\ ∀ j,j<k->((d.R.getD j default).ID==(d.R.getD i default).ID)=false) (fun k=>i - k) 0
   ⟨rfl,⟨obD d.ds rfl,trivial⟩,wq rfl⟩ z0L fun k hk=>?_
  obtain⟨hk,hb⟩:=hk
  apply bY <;> intro h9
  ·have h9:k<i:=by have:=dT h9; omega
   refine oN 13 ?_
   refine⟨⟨rfl,by omega,by omega⟩,?_⟩
   refine⟨⟨rfl,by omega,by omega⟩,?_⟩
   apply bY <;> intro h10
   ·have h10:((d.R.getD k default).ID==(d.R.getD i default).ID)=true:=h10
    have hm:d.R.getD k default∈d.R.take i:=by
     rw[hZ,kH (by omega)]
     have:(d.R.take i)[k]'(by rw[jQ]; omega)=d.R[k]'(by omega):=jaR
     show d.R[k]'(by omega)∈_
     rw[<- this]
     exact kW _
    have e2:day1E d i=6:=by unfold day1E; rw[kG (fun hh=>hh h8),kI (kO.2 ⟨_,hm,h10⟩)]
    refine r1I rfl ?_
    rw[zao ha (by rw[e2]; decide) h7,e2]
   have h10:((d.R.getD k default).ID==(d.R.getD i default).ID)=false:=h10
   refine⟨i6,?_⟩
   refine⟨k+1,⟨rfl,⟨obD d.ds rfl,trivial⟩,wq rfl⟩,⟨h9,fun j hj=>?_⟩,msr h9⟩
   by_cases e:j=k
   ·subst e; exact h10
   exact hb j (by omega)
  have h9:k=i:=by have:=dF h9; omega
  subst h9
  have e2:day1E d k=0:=by
   unfold day1E
   rw[kG (fun hh=>hh h8),kG fun hh=>?_]
   obtain⟨x,hx,hq⟩:=kO.1 hh
   obtain⟨j,hj,rfl⟩:=kQ hx
   rw[jQ] at hj
   have:=hb j (by omega)
   rw[hZ,kH (by omega:j<d.R.length)] at this
   rw[jaR] at hq
   exact absurd hq (by rw[show (d.R[j].ID==(d.R.getD k default).ID)=false from this]; decide)
  refine⟨i6,?_⟩
  refine⟨k+1,⟨rfl,⟨obD d.ds rfl,trivial⟩,wq rfl⟩,⟨h7,fun j hj=>?_⟩,msr h7⟩
  by_cases e:j=k
  ·subst e; exact e2
  exact ha j (by omega)
 have h7:i=d.R.length:=by have:=dF h7; omega
 subst h7
 refine r1I rfl ?_
 rw[zaJ ha]
theorem zk9 {a b:List Int}:partB a b=true ↔ ∀ j,j<a.length->b.contains (a.getD j 0)=true:=by
 unfold partB
 rw[jC]
 constructor
 ·intro h j hj
  rw[hZ,kH hj]
  exact h _ (kW hj)
 intro h x hx
 obtain⟨j,hj,rfl⟩:=kQ hx
 have:=h j hj
 rw[hZ,kH hj] at this
 exact this
theorem zmZ {l:List Rpt} {x:Int} (h:x∈sigK l):∃ r∈l,r.ID=x:=by
 unfold sigK at h
 obtain⟨r,hr,e⟩:=kK.1 h
 exact⟨r,(qV.1 hr).1,e⟩
theorem zmY {l:List Rpt} {x:Int}:x∈sigL l ↔ x∈sigK l:=(jap _ _).mem_iff
theorem zrl {d:Day} {ids:List Int} (h:askE d ids=0):(d.R.any fun r=>ids.contains r.ID)=true:=by
 unfold askE at h
 split at h
 ·rename_i h1; exact absurd h h1
 split at h
 ·cases h
 rename_i h2
 split at h
 ·cases h
 rename_i h3
 have hs:setB ids=true:=by simpa using h2
 have hp:partB ids (sigL d.R)=true:=by simpa using h3
 have hl:0<ids.length:=by unfold setB at hs; simp at hs; exact hs.2
 have h4:=zk9.1 hp 0 hl
 obtain⟨r,hr,e⟩:=zmZ (zmY.1 (kD.1 h4))
 refine kO.2 ⟨r,hr,kD.2 ?_⟩
 rw[e,hZ,kH hl]
 exact kW hl
theorem zkx {d:Day} (h:DayOk d) {ids:List Int} (ha:(d.R.any fun r=>ids.contains r.ID)=true):tldL d ids=plsD d ids:=by
 unfold tldL plsD
 rw[zf5 h ha]
 by_cases g:(brnD d ids).To - (brnD d ids).From<=d.Long
 ·rw[kI g,kG (by omega)]
 rw[kG g,kI (by omega)]
theorem zpE {d:Day} (h:DayOk d) {ids:List Int} (ha:(d.R.any fun r=>ids.contains r.ID)=true):tldR d ids=misR d ids:=by
 unfold tldR misR
 rw[zf5 h ha]
 by_cases g:(brnD d ids).To - (brnD d ids).From<=d.Long
 ·rw[kI g,kG (by omega)]
 rw[kG g,kI (by omega)]
def sml7 (d:Day):Prop:=d.s.c.M.G.length<=81/\d.s.c.T.length<=4/\d.s.c.Z.length<=8/\d.s.k.C.length<=4/\d.s.k.K.length<=12/\d.R.length<=40
instance (d:Day):Decidable (sml7 d):=by unfold sml7; infer_instance
def few7 (d:Day):Prop:=sml7 d/\(((sigK d.R).length<=5/\d.R.length<=4+(sigK d.R).length) \/ 7<(sigK d.R).length \/ 10+(sigK d.R).length<d.R.length)
instance (d:Day):Decidable (few7 d):=by unfold few7; infer_instance
theorem zrx (d:Day):Spec PP 10 [d.v] [B (decide (few7 d))]:=by
 refine sA Tryz.func10 ?_
 have no:¬ sml7 d->false=decide (few7 d):=fun h=>(jH fun hh=>h hh.1).symm
 apply bY <;> intro g0
 ·have g:(81:Int)<d.s.c.M.G.length:=dT g0
  repeat first | apply sT | apply sF
  exact r1B rfl (no fun hh=>by unfold sml7 at hh; omega)
 have g0:¬ 81<d.s.c.M.G.length:=by have:¬ (81:Int)<d.s.c.M.G.length:=dF g0; omega
 repeat first | apply sT | apply sF
 apply bY <;> intro g1
 ·have g:(4:Int)<d.s.c.T.length:=dT g1
  repeat first | apply sT | apply sF
  exact r1B rfl (no fun hh=>by unfold sml7 at hh; omega)
 have g1:¬ 4<d.s.c.T.length:=by have:¬ (4:Int)<d.s.c.T.length:=dF g1; omega
 repeat first | apply sT | apply sF
 apply bY <;> intro g2
 ·have g:(8:Int)<d.s.c.Z.length:=dT g2
  repeat first | apply sT | apply sF
  exact r1B rfl (no fun hh=>by unfold sml7 at hh; omega)
 have g2:¬ 8<d.s.c.Z.length:=by have:¬ (8:Int)<d.s.c.Z.length:=dF g2; omega
 repeat first | apply sT | apply sF
 apply bY <;> intro g3
 ·have g:(4:Int)<d.s.k.C.length:=dT g3
  repeat first | apply sT | apply sF
  exact r1B rfl (no fun hh=>by unfold sml7 at hh; omega)
 have g3:¬ 4<d.s.k.C.length:=by have:¬ (4:Int)<d.s.k.C.length:=dF g3; omega
 repeat first | apply sT | apply sF
 apply bY <;> intro g4
 ·have g:(12:Int)<d.s.k.K.length:=dT g4
  repeat first | apply sT | apply sF
  exact r1B rfl (no fun hh=>by unfold sml7 at hh; omega)
 have g4:¬ 12<d.s.k.K.length:=by have:¬ (12:Int)<d.s.k.K.length:=dF g4; omega
 repeat first | apply sT | apply sF
 apply bY <;> intro g5
 ·have g:(40:Int)<d.R.length:=dT g5
  repeat first | apply sT | apply sF
  exact r1B rfl (no fun hh=>by unfold sml7 at hh; omega)
 have g5:¬ 40<d.R.length:=by have:¬ (40:Int)<d.R.length:=dF g5; omega
 have hs:sml7 d:=⟨by omega,by omega,by omega,by omega,by omega,by omega⟩
 have e1:(sigL d.R).length=(sigK d.R).length:=zbH d.R
 refine cR (zdH d (by omega)) rfl rfl ?_
 have hk:=zcm d.R
 have yes:(((sigK d.R).length<=5/\d.R.length<=4+(sigK d.R).length) \/ 7<(sigK d.R).length \/ 10+(sigK d.R).length<d.R.length)->true=decide (few7 d):=fun h=>(jG (⟨hs,h⟩:few7 d)).symm
 apply bY <;> intro h1
 ·have h1:(sigK d.R).length<=5:=by have:((sigL d.R).length:Int)<=5:=dT h1; omega
  refine⟨i6,?_⟩
  repeat first | apply sT | apply sF
  apply bY <;> intro h2
  ·have h2:d.R.length<=4+(sigK d.R).length:=by have:(d.R.length:Int) - (sigL d.R).length<=4:=dT h2; omega
   repeat first | apply sT | apply sF
   exact r1B rfl (yes (.inl ⟨h1,h2⟩))
  have h2:¬ d.R.length<=4+(sigK d.R).length:=by have:¬ (d.R.length:Int) - (sigL d.R).length<=4:=dF h2; omega
  repeat first | apply sT | apply sF
  refine sNo (jH (by omega)) ?_
  refine⟨i6,?_⟩
  repeat first | apply sT | apply sF
  refine r1B rfl ?_
  refine k9.2 ⟨fun h=>⟨hs,.inr (.inr (by omega))⟩,fun h=>?_⟩
  rcases h.2 with h3 | h3 | h3
  ·exact absurd h3.2 h2
  ·omega
  omega
 have h1:¬ (sigK d.R).length<=5:=by have:¬ ((sigL d.R).length:Int)<=5:=dF h1; omega
 repeat first | apply sT | apply sF
 apply bY <;> intro h2
 ·have h2:7<(sigK d.R).length:=by have:(7:Int)<(sigL d.R).length:=dT h2; omega
  repeat first | apply sT | apply sF
  exact r1B rfl (yes (.inr (.inl h2)))
 have h2:¬ 7<(sigK d.R).length:=by have:¬ (7:Int)<(sigL d.R).length:=dF h2; omega
 repeat first | apply sT | apply sF
 refine⟨i6,?_⟩
 repeat first | apply sT | apply sF
 refine r1B rfl ?_
 refine k9.2 ⟨fun h=>⟨hs,.inr (.inr (by omega))⟩,fun h=>?_⟩
 rcases h.2 with h3 | h3 | h3
 ·exact absurd h3.1 h1
 ·exact absurd h3 h2
 omega
def fitX (d:Day) (m:Nat):Bool:=decide (0<m) && decide (0<(tldL d (memb (sigL d.R) m)).length)
abbrev lBo (n:Nat) (p:Nat->Bool):D:=.slc 1 n fun i _=>.bool (p i)
theorem zp4 {d:Day} (h:DayOk d):Spec PP 59 [d.v] [.d (lBo (2 ^ (sigL d.R).length) (fitX d))]:=by
 have hn:=h.n
 have h7:=sig7 h
 have es:IntKind.wrap .i64 (1 * 2 ^ (min (((sigL d.R).length:Nat):Int).toNat (IntKind.bits .i64)))=((2 ^ (sigL d.R).length:Nat):Int):=bShl h7
 have hp:2 ^ (sigL d.R).length<=2 ^ 7:=qT (by decide) h7
 have h1p:1<=2 ^ (sigL d.R).length:=Nat.one_le_two_pow
 refine sA Tryz.func59 ?_
 refine cR (zdH d (by omega)) rfl rfl ?_
 refine⟨by omega,?_⟩
 have et:(IntKind.wrap .i64 (1 * 2 ^ (min (((sigL d.R).length:Nat):Int).toNat (IntKind.bits .i64)))).toNat=2 ^ (sigL d.R).length:=by rw[es]; exact jaq _
 refine⟨⟨by rw[es]; omega,rfl,by rw[et]; show 2 ^ (sigL d.R).length * 1<=16777216; omega,by rw[et]; show 2 ^ (sigL d.R).length * 1<=140737488355328; omega⟩,?_⟩
 refine lOf (σ:=Nat) (fun m=>([(1,.box 1 0),(3,.d (lI (sigL d.R))),(4,.own 11),(5,.d (I m))],[(1,.box (d.ds.map AV.d)),(11,.row 4 1 (2 ^ (sigL d.R).length) (fun i _=>.bool (decide (i<m) && fitX d i)))])) (fun m=>1<=m/\m<=2 ^ (sigL d.R).length) (fun m=>2 ^ (sigL d.R).length - m) 1
  ⟨rfl,⟨obD d.ds rfl,obR rfl ⟨et,.inr ⟨rfl,fun i hi j hj=>?_⟩⟩,trivial⟩,wq rfl⟩ ⟨jE _,h1p⟩ fun m hm=>?_
 ·obtain rfl:j=0:=wE.1 hj
  show D.eqv (.bool false) (.bool (decide (i<1) && fitX d i))
  have:(decide (i<1) && fitX d i)=false:=by
   unfold fitX
   by_cases e:i=0
   ·subst e; rfl
   rw[jH (by omega),kP]
  rw[this]
  rfl
 obtain⟨hm,hm2⟩:=hm
 apply bY <;> intro h1
 ·have h1:m<2 ^ (sigL d.R).length:=by have:=dT h1; omega
  refine oN 12 ?_
  refine oRo (zgs (sigL d.R) m h7 (by omega)) rfl rfl ?_
  refine oRo (zhs h (memb (sigL d.R) m) (jM (zaG _ _ _) (by omega))) rfl rfl ?_
  refine⟨⟨by omega,by omega⟩,⟨by omega,?_⟩⟩
  refine⟨i6,?_⟩
  refine⟨m+1,⟨rfl,⟨obD d.ds rfl,obR rfl ⟨rfl,.inr ⟨rfl,fun i hi j hj=>?_⟩⟩,trivial⟩,wq rfl⟩,⟨by omega,h1⟩,(show 2 ^ (sigL d.R).length - (m+1)<2 ^ (sigL d.R).length - m by omega)⟩
  obtain rfl:j=0:=wE.1 hj
  have em:((m:Nat):Int).toNat=m:=jaq m
  show D.eqv (storeRow (fun i _=>.bool (decide (i<m) && fitX d i)) ((m:Nat):Int).toNat 0 [.bool (decide ((0:Int)<((tldL d (memb (sigL d.R) m)).length:Nat)))] i 0) (.bool (decide (i<m+1) && fitX d i))
  unfold storeRow
  rw[em]
  by_cases e:i=m
  ·subst e
   rw[kI ⟨rfl,jE _,by simp⟩]
   show D.eqv (.bool (decide ((0:Int)<((tldL d (memb (sigL d.R) i)).length:Nat)))) _
   rw[jG (by omega:i<i+1),kL]
   unfold fitX
   rw[jG (by omega:0<i),kL]
   exact k9.2 (by omega)
  rw[kG fun hh=>e hh.1]
  show D.eqv (.bool (decide (i<m) && fitX d i)) _
  rw[show decide (i<m+1)=decide (i<m) from k9.2 (by omega)]
  exact dE _
 have h1:m=2 ^ (sigL d.R).length:=by have:=dF h1; omega
 subst h1
 refine⟨⟨_,_,_,_,rfl,rfl,.inr ⟨rfl,fun i hi j hj=>?_⟩⟩,trivial⟩
 show D.eqv (.bool (decide (i<2 ^ (sigL d.R).length) && fitX d i)) (.bool (fitX d i))
 rw[jG hi,kL]
 exact dE _
def badX (p:Nat->Bool) (m o:Nat):Bool:=(p m && p o && decide (m &&& o=m)) || (!p m && !p o && decide (o &&& m=o))
def lonK (p:Nat->Bool) (m o:Nat):Bool:=(List.range o).all fun x=>decide (x=0) || decide (x=m) || !badX p m x
theorem zdS {p:Nat->Bool} {m o:Nat} (h:o=m \/ badX p m o=false):lonK p m (o+1)=lonK p m o:=by
 unfold lonK
 rw[wD,List.all_append]
 have:([o].all fun x=>decide (x=0) || decide (x=m) || !badX p m x)=true:=by
  rcases h with h | h
  ·simp[h]
  simp[h]
 rw[this,wL]
theorem zlw {p:Nat->Bool} {m o:Nat} (h0:1<=o) (h1:o≠m) (h:badX p m o=true):lonK p m (o+1)=false:=by
 unfold lonK
 rw[wD,List.all_append]
 have:([o].all fun x=>decide (x=0) || decide (x=m) || !badX p m x)=false:=by
  simp[h,h1]; omega
 rw[this,kU]
abbrev rowN (l:List Nat):Nat->Nat->D:=fun i _=>I ((l.getD i 0:Nat):Int)
theorem zr5 {l:List Nat} {x n:Nat} {g:Nat->Nat->D} (hn:n=l.length) (hg:D.eqv (g 0 0) (I x)):D.eqv (.slc 1 (n+1) (appRow n (rowN l) g)) (.slc 1 (l ++ [x]).length (rowN (l ++ [x]))):=by
 subst hn
 refine⟨by simp,.inr ⟨rfl,fun i hi j hj=>?_⟩⟩
 obtain rfl:j=0:=by omega
 show D.eqv (appRow l.length (rowN l) g i 0) (I (((l ++ [x]).getD i 0:Nat):Int))
 unfold appRow
 by_cases h:i<l.length
 ·rw[kI h,hZ,jJ h,<- hZ]
  exact dE _
 have e:i=l.length:=by omega
 subst e
 rw[kG h,kE,hZ,jK (jE _),kE]
 exact hg
def greX (p:Nat->Bool) (n m:Nat):Bool:=lonK p m n && p m
def leaX (p:Nat->Bool) (n m:Nat):Bool:=lonK p m n && !p m
abbrev fitM (d:Day) (l:List Int):Fit:=⟨l,(tldL d l).getD 0 default⟩
abbrev misM (d:Day) (l:List Int):Mis:=⟨l,tldR d l⟩
def tabF (d:Day):List (List Int):=ordX (sigL d.R) (tabA (greX (fitX d) (2 ^ (sigL d.R).length)) id (2 ^ (sigL d.R).length))
def tabM (d:Day):List (List Int):=ordX (sigL d.R) (tabA (leaX (fitX d) (2 ^ (sigL d.R).length)) id (2 ^ (sigL d.R).length))
def tabX (d:Day):List Fit × List Mis × Int:=if dayE d≠0 then ([],[],dayE d) else ((tabF d).map (fitM d),(tabM d).map (misM d),0)
theorem ziO {ids:List Int} {ss:List Nat} {l:List Int} (h:l∈ordX ids ss):∃ m∈ss,l=memb ids m:=by
 obtain⟨m,hm,e⟩:=kK.1 ((jap _ _).mem_iff.1 h)
 exact⟨m,hm,e.symm⟩
theorem ziP (ids:List Int) (ss:List Nat):(ordX ids ss).length=ss.length:=by
 unfold ordX
 rw[qG,qE]
abbrev gX (d:Day) (N m:Nat):List Nat:=tabA (greX (fitX d) N) id m
abbrev lX (d:Day) (N m:Nat):List Nat:=tabA (leaX (fitX d) N) id m
abbrev oX (d:Day) (N m:Nat):List (Nat × Ob):=[(1,.box (d.ds.map AV.d)),(2,.box (List.replicate 3 .any)),(6,.row 3 1 (gX d N m).length (rowN (gX d N m))),(7,.row 3 1 (lX d N m).length (rowN (lX d N m)))]
theorem znf (d:Day) (hn:d.R.length<=1000000):Spec PP 20 [d.v] [.agg [lFt (tabX d).1,lMs (tabX d).2.1,I (tabX d).2.2]]:=by
 refine zbG [32] Tryz.func20 rfl (by kernel_rfl) rfl ?_
 refine cP (ziy d hn) rfl rfl ?_
 apply bY <;> intro h0
 ·have e:tabX d=([],[],dayE d):=by unfold tabX; rw[kI (by simpa using h0)]
  rw[e]
  exact⟨rtC (a:=2) rfl rfl rfl rfl rfl rfl ⟨rfl,rfl,⟨rfl,rfl⟩,trivial⟩,trivial⟩
 have h0:dayE d=0:=by simpa using h0
 have h:=zaZ h0
 have hn:=h.n
 have h7:=sig7 h
 have hp:2 ^ (sigL d.R).length<=2 ^ 7:=qT (by decide) h7
 have e:tabX d=((tabF d).map (fitM d),(tabM d).map (misM d),0):=by unfold tabX; rw[kG (fun hh=>hh h0)]
 rw[e]
 refine cR (zdH d (by omega)) rfl rfl ?_
 have hft:=zp4 h
 have h1N:1<=2 ^ (sigL d.R).length:=Nat.one_le_two_pow
 have eF:ordX (sigL d.R) (gX d (2 ^ (sigL d.R).length) (2 ^ (sigL d.R).length))=tabF d:=rfl
 have eM:ordX (sigL d.R) (lX d (2 ^ (sigL d.R).length) (2 ^ (sigL d.R).length))=tabM d:=rfl
 generalize 2 ^ (sigL d.R).length=N at hft hp h1N eF eM
 refine cR hft rfl rfl ?_
 refine lOf (σ:=Nat) (fun m=>([(1,.box 1 0),(2,.box 2 0),(4,.d (lI (sigL d.R))),(5,.d (lBo N (fitX d))),(6,.own 6),(7,.own 7),(8,.d (I m))],oX d N m))
  (fun m=>1<=m/\m<=N) (fun m=>N - m) 1
  ⟨rfl,⟨obD d.ds rfl,zan rfl rfl,obR rfl ⟨rfl,.inl rfl⟩,obR rfl ⟨rfl,.inl rfl⟩,trivial⟩,wq rfl⟩ ⟨jE _,h1N⟩ fun m hm=>?_
 obtain⟨hm,hm2⟩:=hm
 have l1:(gX d N m).length<=m:=zbD (greX (fitX d) N) id m
 have l2:(lX d N m).length<=m:=zbD (leaX (fitX d) N) id m
 apply bY <;> intro h1
 ·have h1:m<N:=by have:=dT h1; omega
  refine lOf (σ:=Nat) (fun o=>([(1,.box 1 0),(2,.box 2 0),(4,.d (lI (sigL d.R))),(5,.d (lBo N (fitX d))),(6,.own 6),(7,.own 7),(8,.d (I m)),(9,.d (.bool (lonK (fitX d) m o))),(10,.d (I o))],oX d N m))
   (fun o=>1<=o/\o<=N) (fun o=>N - o) 1
   ⟨rfl,⟨obD d.ds rfl,zan rfl rfl,obR rfl (dE _),obR rfl (dE _),trivial⟩,avQ rfl,avQ rfl,avQ rfl,avQ rfl,avQ rfl,avQ rfl,avQ rfl,avBl rfl rfl,avQ rfl,trivial⟩ ⟨jE _,h1N⟩ fun o ho=>?_
  obtain⟨ho,ho2⟩:=ho
  apply bY <;> intro h2
  ·have h2:o<N:=by have:=dT h2; omega
   have hms:N - (o+1)<N - o:=by omega
   apply bY <;> intro h3
   ·have h3:o=m:=by have:=dT h3; omega
    refine⟨i6,?_⟩
    exact⟨o+1,⟨rfl,⟨obD d.ds rfl,zan rfl rfl,obR rfl (dE _),obR rfl (dE _),trivial⟩,avQ rfl,avQ rfl,avQ rfl,avQ rfl,avQ rfl,avQ rfl,avQ rfl,avBl rfl (zdS (.inl h3)).symm,avQ rfl,trivial⟩,⟨by omega,h2⟩,hms⟩
   have h3:o≠m:=by have:=dF h3; omega
   refine⟨⟨rfl,by omega,by omega⟩,?_⟩
   apply bY <;> intro h4
   ·have h4:fitX d m=true:=h4
    refine⟨⟨rfl,by omega,by omega⟩,?_⟩
    refine sT ?_
    apply bY <;> intro h5
    ·have h5:fitX d o=true:=h5
     refine cP (zfp m o (by omega) (by omega)) rfl rfl ?_
     refine sT ?_
     apply bY <;> intro h6
     ·have hb:badX (fitX d) m o=true:=by unfold badX; rw[h4,h5,h6]; rfl
      repeat first | apply sT | apply sF
      refine⟨i6,?_⟩
      exact⟨o+1,⟨rfl,⟨obD d.ds rfl,zan rfl rfl,obR rfl (dE _),obR rfl (dE _),trivial⟩,avQ rfl,avQ rfl,avQ rfl,avQ rfl,avQ rfl,avQ rfl,avQ rfl,avBl rfl (zlw ho h3 hb).symm,avQ rfl,trivial⟩,⟨by omega,h2⟩,hms⟩
     have hb:badX (fitX d) m o=false:=by unfold badX; rw[h4,h5,h6]; rfl
     refine⟨⟨rfl,by omega,by omega⟩,?_⟩
     refine sNo (by show (!fitX d m)=false; rw[h4]; rfl) ?_
     repeat first | apply sT | apply sF
     refine⟨i6,?_⟩
     exact⟨o+1,⟨rfl,⟨obD d.ds rfl,zan rfl rfl,obR rfl (dE _),obR rfl (dE _),trivial⟩,avQ rfl,avQ rfl,avQ rfl,avQ rfl,avQ rfl,avQ rfl,avQ rfl,avBl rfl (zdS (.inr hb)).symm,avQ rfl,trivial⟩,⟨by omega,h2⟩,hms⟩
    have h5:fitX d o=false:=h5
    have hb:badX (fitX d) m o=false:=by unfold badX; rw[h4,h5]; rfl
    repeat first | apply sT | apply sF
    refine⟨⟨rfl,by omega,by omega⟩,?_⟩
    refine sNo (by show (!fitX d m)=false; rw[h4]; rfl) ?_
    repeat first | apply sT | apply sF
    refine⟨i6,?_⟩
    exact⟨o+1,⟨rfl,⟨obD d.ds rfl,zan rfl rfl,obR rfl (dE _),obR rfl (dE _),trivial⟩,avQ rfl,avQ rfl,avQ rfl,avQ rfl,avQ rfl,avQ rfl,avQ rfl,avBl rfl (zdS (.inr hb)).symm,avQ rfl,trivial⟩,⟨by omega,h2⟩,hms⟩
   have h4:fitX d m=false:=h4
   repeat first | apply sT | apply sF
   refine⟨⟨rfl,by omega,by omega⟩,?_⟩
   refine sYe (by show (!fitX d m)=true; rw[h4]; rfl) ?_
   refine⟨⟨rfl,by omega,by omega⟩,?_⟩
   repeat first | apply sT | apply sF
   apply bY <;> intro h5
   ·have h5:fitX d o=false:=by simpa using (show (!fitX d o)=true from h5)
    refine cP (zfp o m (by omega) (by omega)) rfl rfl ?_
    repeat first | apply sT | apply sF
    apply bY <;> intro h6
    ·have hb:badX (fitX d) m o=true:=by unfold badX; rw[h4,h5,h6]; rfl
     refine⟨i6,?_⟩
     exact⟨o+1,⟨rfl,⟨obD d.ds rfl,zan rfl rfl,obR rfl (dE _),obR rfl (dE _),trivial⟩,avQ rfl,avQ rfl,avQ rfl,avQ rfl,avQ rfl,avQ rfl,avQ rfl,avBl rfl (zlw ho h3 hb).symm,avQ rfl,trivial⟩,⟨by omega,h2⟩,hms⟩
    have hb:badX (fitX d) m o=false:=by unfold badX; rw[h4,h5,h6]; rfl
    refine⟨i6,?_⟩
    exact⟨o+1,⟨rfl,⟨obD d.ds rfl,zan rfl rfl,obR rfl (dE _),obR rfl (dE _),trivial⟩,avQ rfl,avQ rfl,avQ rfl,avQ rfl,avQ rfl,avQ rfl,avQ rfl,avBl rfl (zdS (.inr hb)).symm,avQ rfl,trivial⟩,⟨by omega,h2⟩,hms⟩
   have h5:fitX d o=true:=by simpa using (show (!fitX d o)=false from h5)
   have hb:badX (fitX d) m o=false:=by unfold badX; rw[h4,h5]; rfl
   repeat first | apply sT | apply sF
   refine⟨i6,?_⟩
   exact⟨o+1,⟨rfl,⟨obD d.ds rfl,zan rfl rfl,obR rfl (dE _),obR rfl (dE _),trivial⟩,avQ rfl,avQ rfl,avQ rfl,avQ rfl,avQ rfl,avQ rfl,avQ rfl,avBl rfl (zdS (.inr hb)).symm,avQ rfl,trivial⟩,⟨by omega,h2⟩,hms⟩
  have h2:N=o:=by have:=dF h2; omega
  subst h2
  have hms:N - (m+1)<N - m:=by omega
  apply bY <;> intro h3
  ·have h3:lonK (fitX d) m N=true:=h3
   refine⟨⟨rfl,by omega,by omega⟩,?_⟩
   refine sT ?_
   apply bY <;> intro h4
   ·have h4:fitX d m=true:=h4
    have eg:greX (fitX d) N m=true:=by unfold greX; rw[h3,h4]; rfl
    have el:leaX (fitX d) N m=false:=by unfold leaX; rw[h3,h4]; rfl
    refine⟨⟨.inr rfl,by unfold maxLen; omega,by show ((gX d N m).length+1) * 8<=140737488355328; omega⟩,?_⟩
    refine sYe h3 ?_
    refine⟨⟨rfl,by omega,by omega⟩,?_⟩
    refine sT ?_
    refine sNo (by show (!fitX d m)=false; rw[h4]; rfl) ?_
    refine⟨i6,?_⟩
    refine⟨m+1,⟨rfl,⟨obD d.ds rfl,zan rfl rfl,obR rfl ?_,obR rfl ?_,trivial⟩,wq rfl⟩,⟨by omega,h1⟩,hms⟩
    ·rw[show gX d N (m+1)=gX d N m ++ [m] from zcl hm eg]; exact zr5 rfl ⟨rfl,rfl⟩
    rw[show lX d N (m+1)=lX d N m from zbh el]; exact dE _
   have h4:fitX d m=false:=h4
   have eg:greX (fitX d) N m=false:=by unfold greX; rw[h3,h4]; rfl
   have el:leaX (fitX d) N m=true:=by unfold leaX; rw[h3,h4]; rfl
   refine sYe h3 ?_
   refine⟨⟨rfl,by omega,by omega⟩,?_⟩
   refine sT ?_
   refine sYe (by show (!fitX d m)=true; rw[h4]; rfl) ?_
   refine⟨⟨.inr rfl,by unfold maxLen; omega,by show ((lX d N m).length+1) * 8<=140737488355328; omega⟩,?_⟩
   refine⟨i6,?_⟩
   refine⟨m+1,⟨rfl,⟨obD d.ds rfl,zan rfl rfl,obR rfl ?_,obR rfl ?_,trivial⟩,wq rfl⟩,⟨by omega,h1⟩,hms⟩
   ·rw[show gX d N (m+1)=gX d N m from zbh eg]; exact dE _
   rw[show lX d N (m+1)=lX d N m ++ [m] from zcl hm el]; exact zr5 rfl ⟨rfl,rfl⟩
  have h3:lonK (fitX d) m N=false:=h3
  have eg:greX (fitX d) N m=false:=by unfold greX; rw[h3]; rfl
  have el:leaX (fitX d) N m=false:=by unfold leaX; rw[h3]; rfl
  repeat first | apply sT | apply sF
  refine sNo h3 ?_
  repeat first | apply sT | apply sF
  refine⟨i6,?_⟩
  refine⟨m+1,⟨rfl,⟨obD d.ds rfl,zan rfl rfl,obR rfl ?_,obR rfl ?_,trivial⟩,wq rfl⟩,⟨by omega,h1⟩,hms⟩
  ·rw[show gX d N (m+1)=gX d N m from zbh eg]; exact dE _
  rw[show lX d N (m+1)=lX d N m from zbh el]; exact dE _
 have h1:N=m:=by have:=dF h1; omega
 subst h1
 have hlt:∀ (q:Nat->Bool),∀ x∈tabA q id N,x<128:=fun q x hx=>by
  obtain⟨k,_,h3,_,e⟩:=za6 hx
  rw[e]; simp; omega
 have hml:∀ (ss:List Nat),∀ l∈ordX (sigL d.R) ss,l.length<=1000000:=fun ss l hl=>by
  obtain⟨m,_,e⟩:=ziO hl
  rw[e]
  exact jM (zaG _ _ _) (by omega)
 have hF:=zeM (sigL d.R) (gX d N N) h7 (hlt _) (by omega)
 rw[eF] at hF
 refine CallSt.fz [6] hF rfl rfl ?_
 have gF:∀ i,i<(tabF d).length->(tabF d).getD i []∈tabF d:=fun i hi=>by rw[hZ,kH hi]; exact kW hi
 have gM:∀ i,i<(tabM d).length->(tabM d).getD i []∈tabM d:=fun i hi=>by rw[hZ,kH hi]; exact kW hi
 have fF:∀ i,i<(tabF d).length->0<(tldL d ((tabF d).getD i [])).length:=fun i hi=>by
  obtain⟨m,hm,e⟩:=ziO (gF i hi)
  obtain⟨k,_,_,h3,e'⟩:=za6 hm
  have e':m=k:=e'
  subst e'
  unfold greX fitX at h3
  simp only[jP,kA] at h3
  rw[e]
  exact h3.2.2
 have nF:(tabF d).length<=128:=by rw[<- eF,ziP]; omega
 have nM:(tabM d).length<=128:=by rw[<- eM,ziP]; omega
 have tk:∀ {α β:Type} (f:α->β) (l:List α) (i:Nat),((l.take i).map f).length<=i:=fun f l i=>by rw[qE,jQ]; omega
 refine lOf (σ:=Nat) (fun i=>([(1,.box 1 0),(2,.box 2 0),(4,.d (lI (sigL d.R))),(7,.own 7),(11,.box 11 0),(12,.d (lII (tabF d))),(13,.d (I i))],[(1,.box (d.ds.map AV.d)),(2,.box (List.replicate 3 .any)),
   (7,.row 3 1 (lX d N N).length (rowN (lX d N N))),(11,.box [.own 123,.own 149]),
   (123,.row 101 3 (((tabF d).take i).map (fitM d)).length (FtD.row (((tabF d).take i).map (fitM d)))),(149,.row 104 2 0 (MsD.row []))])) (fun i=>i<=(tabF d).length) (fun i=>(tabF d).length - i) 0
  ⟨rfl,⟨obD d.ds rfl,zan rfl rfl,obR rfl (dE _),⟨⟨rfl,_,_,_,rfl⟩,⟨rfl,_,_,_,rfl⟩,trivial⟩,rfl,rfl,trivial⟩,wq rfl⟩ (jF _) fun i hi=>?_
 have hi:i<=(tabF d).length:=hi
 have tl:=tk (fitM d) (tabF d) i
 apply bY <;> intro h2
 ·have h2:i<(tabF d).length:=by have:=dT h2; omega
  refine oN 20 ?_
  refine⟨⟨rfl,by omega,by omega⟩,?_⟩
  refine⟨⟨rfl,by omega,by omega⟩,?_⟩
  refine oRo (zhs h ((tabF d).getD i []) (hml _ _ (gF i h2))) rfl rfl ?_
  have f1:=fF i h2
  refine⟨⟨rfl,by omega,by omega⟩,?_⟩
  refine⟨⟨.inr rfl,by unfold maxLen; omega,by show ((((tabF d).take i).map (fitM d)).length+1) * 40<=140737488355328; omega⟩,?_⟩
  refine⟨i6,?_⟩
  refine⟨i+1,⟨rfl,⟨obD d.ds rfl,zan rfl rfl,obR rfl (dE _),obX rfl,obR rfl ?_,obR rfl (dE _),trivial⟩,wq rfl⟩,h2,msr h2⟩
  rw[zaK h2 [],jT]
  refine zr6 (x:=fitM d ((tabF d).getD i [])) fun j hj=>?_
  match j,hj with
  | 0,_=>exact dE _
  | 1,_=>exact dE _
  | 2,_=>exact dE _
 have h2:i=(tabF d).length:=by have:=dF h2; omega
 subst h2
 rw[jZ]
 have hM:=zeM (sigL d.R) (lX d N N) h7 (hlt _) (by omega)
 rw[eM] at hM
 refine CallSt.fz [7] hM rfl rfl ?_
 refine lOf (σ:=Nat) (fun i=>([(1,.box 1 0),(2,.box 2 0),(11,.box 11 0),(12,.d (lII (tabM d))),(14,.d (I i))],[(1,.box (d.ds.map AV.d)),(2,.box (List.replicate 3 .any)),(11,.box [.own 123,.own 149]),
   (123,.row 101 3 ((tabF d).map (fitM d)).length (FtD.row ((tabF d).map (fitM d)))),(149,.row 104 2 (((tabM d).take i).map (misM d)).length (MsD.row (((tabM d).take i).map (misM d))))])) (fun i=>i<=(tabM d).length) (fun i=>(tabM d).length - i) 0
  ⟨rfl,⟨obD d.ds rfl,zan rfl rfl,obX rfl,obR rfl (dE _),obR rfl (dE _),trivial⟩,wq rfl⟩ (jF _) fun i hi=>?_
 have hi:i<=(tabM d).length:=hi
 have tl:=tk (misM d) (tabM d) i
 apply bY <;> intro h2
 ·have h2:i<(tabM d).length:=by have:=dT h2; omega
  refine oN 18 ?_
  refine⟨⟨rfl,by omega,by omega⟩,?_⟩
  refine⟨⟨rfl,by omega,by omega⟩,?_⟩
  refine oRo (zhs h ((tabM d).getD i []) (hml _ _ (gM i h2))) rfl rfl ?_
  refine⟨⟨.inr rfl,by unfold maxLen; omega,by show ((((tabM d).take i).map (misM d)).length+1) * 48<=140737488355328; omega⟩,?_⟩
  refine⟨i6,?_⟩
  refine⟨i+1,⟨rfl,⟨obD d.ds rfl,zan rfl rfl,obX rfl,obR rfl (dE _),obR rfl ?_,trivial⟩,wq rfl⟩,h2,msr h2⟩
  rw[zaK h2 [],jT]
  refine zql (x:=misM d ((tabM d).getD i [])) fun j hj=>?_
  match j,hj with
  | 0,_=>exact dE _
  | 1,_=>exact dE _
 have h2:i=(tabM d).length:=by have:=dF h2; omega
 subst h2
 rw[jZ]
 refine kAt [(2,.box 2 0),(11,.box 11 0)] [(2,.box (List.replicate 3 .any)),(11,.box ([lFt ((tabF d).map (fitM d)),lMs ((tabM d).map (misM d))].map AV.d))]
  ⟨rfl,⟨zan rfl rfl,⟨⟨rfl,_,_,_,_,rfl,dE _⟩,⟨rfl,_,_,_,_,rfl,dE _⟩,trivial⟩,trivial⟩,wq rfl⟩ ?_
 exact⟨rtC (a:=2) rfl rfl rfl rfl rfl rfl (zaa _),trivial⟩
def mst (ix:List Nat):Nat:=ix.foldl (fun a k=>max a (k+1)) 0
def Rg (ix:List Nat):Prop:=∀ i,i<ix.length->ix.getD i 0<=mst (ix.take i)
def SpecN (P:Program) (f:FuncId) (args:List V1) (obs':List (Nat × Ob)) (i:Nat) (res:List V1):Prop:=
 Ent P f /\ ∀ (w:World) (ok:Nat->Prop) (vs:List Value),(∀ b,ok b->b<w.heap.size)->All2 (Rep1 w ok) args vs ->
  Calls P f vs.toArray w fun en w'=>∃ b γ' us,en = .returned (.tuple (.pointer (some ⟨b,0,none⟩) :: us).toArray)/\γ' i = .pointer (some ⟨b,0,none⟩)/\FrM w w' γ' []/\OwnS w' (okM w w' ok γ' γ' [] obs') γ' obs' /\
   (∀ i o b,look obs' i=some o->blk (γ' i)=some b->w.heap.size<=b)/\All2 (Rep1 w' (okM w w' ok γ' γ' [] obs')) res us
theorem SpecN.eqv {P:Program} {f:FuncId} {xs ys:List V1} {obs':List (Nat × Ob)} {i:Nat} {res:List V1} (h:SpecN P f ys obs' i res) (he:eqV1s xs ys):SpecN P f xs obs' i res:=
 ⟨h.1,fun w ok vs hok hv=>h.2 w ok vs hok (zbj he hv)⟩
theorem SpecM.nil {P:Program} {f:FuncId} {a b c:AV} {k:Nat} {g:Nat->Nat->D} {obs obs':List (Nat × Ob)} {pins:List Nat} {res:List V1} (h:SpecM P f [a,.d (.slc k 0 g),b,c] obs obs' pins res):SpecM P f [a,.nilsl,b,c] obs obs' pins res:=
 ⟨h.1,fun w ok γ vs h1 h2 h3=>h.2 w ok γ vs h1 h2 (by
  cases h3 with
  | cons x h3=>
  cases h3 with
  | cons y h3=>exact .cons x (.cons (.inl ⟨y,rfl⟩) h3))⟩
def Rgs (l:List (List Nat)):Prop:=∀ x∈l,Rg x/\x.length<=7
theorem Rgs.get {l:List (List Nat)} (h:Rgs l) {i:Nat} (hi:i<l.length):Rg (l.getD i [])/\(l.getD i []).length<=7:=by
 rw[hZ,kH hi]; exact h _ (kW hi)
theorem DayOk.nodL {d:Day} (h:DayOk d) (ids:List Int):((lstD d ids).map Rpt.ID).Nodup:=List.Nodup.sublist (List.Sublist.map _ (jbn ..)) h.nodR
theorem DayOk.rpt {d:Day} (h:DayOk d) {r:Rpt} (hr:r∈d.R):rptE d.s r=0/\frmB r=true/\0<=r.Tick/\r.Tick<=1048576:=by
 obtain⟨i,hi,rfl⟩:=kQ hr
 have e:d.R.getD i default=d.R[i]:=by rw[hZ,kH hi]; rfl
 have h1:=zq4 (h.rp i hi)
 have h2:=h.tick hi
 rw[e] at h1 h2
 exact⟨h1.2.1,h1.2.2,h2⟩
theorem zmo (ids:List Int) (l:List Rpt):∀ i,i<=l.length->((brnS ids (l.take i)).1=true ↔ ∃ r∈l.take i,ids.contains r.ID=true)/\((brnS ids (l.take i)).1=true ->
  (∀ r∈l.take i,ids.contains r.ID=true->(brnS ids (l.take i)).2.1<=r.Tick/\r.Tick<=(brnS ids (l.take i)).2.2)/\(∃ r∈l.take i,ids.contains r.ID=true/\r.Tick=(brnS ids (l.take i)).2.1) /\ ∃ r∈l.take i,ids.contains r.ID=true/\r.Tick=(brnS ids (l.take i)).2.2)
 | 0,_=>by simp[brnS]
 | i+1,hi=>by
  obtain⟨a1,a2⟩:=zmo ids l i (by omega)
  rw[zcD ids l (by omega),zaK (show i<l.length by omega) default]
  generalize brnS ids (l.take i)=x at a1 a2
  generalize l.getD i default=r
  generalize l.take i=t at a1 a2
  unfold brn1
  by_cases hc:ids.contains r.ID=true
  ·rw[kI hc]
   refine⟨⟨fun _=>⟨r,by simp,hc⟩,fun _=>rfl⟩,fun _=>?_⟩
   by_cases hx:x.1=true
   ·obtain⟨b1,⟨p,hp,hp1,hp2⟩,⟨q,hq,hq1,hq2⟩⟩:=a2 hx
    simp only[hx,jbl]
    refine⟨fun r' hr' hc'=>?_,?_,?_⟩
    ·rcases qD.1 hr' with h | h
     ·have:=b1 r' h hc'; omega
     rw[kT.1 h]; omega
    ·by_cases hm:x.2.1<=r.Tick
     ·exact⟨p,jaO _ hp,hp1,by rw[hp2]; omega⟩
     exact⟨r,by simp,hc,by omega⟩
    by_cases hm:r.Tick<=x.2.2
    ·exact⟨q,jaO _ hq,hq1,by rw[hq2]; omega⟩
    exact⟨r,by simp,hc,by omega⟩
   simp only[hx,jaC]
   refine⟨fun r' hr' hc'=>?_,⟨r,by simp,hc,by simp⟩,⟨r,by simp,hc,by simp⟩⟩
   rcases qD.1 hr' with h | h
   ·exact absurd (a1.2 ⟨r',h,hc'⟩) hx
   rw[kT.1 h]; simp
  rw[kG hc]
  refine⟨a1.trans ⟨fun⟨p,hp,hc'⟩=>⟨p,jaO _ hp,hc'⟩,fun⟨p,hp,hc'⟩=>?_⟩,fun hx=>?_⟩
  ·rcases qD.1 hp with h | h
   ·exact⟨p,h,hc'⟩
   rw[kT.1 h] at hc'; exact absurd hc' hc
  obtain⟨b1,⟨p,hp,hp1,hp2⟩,⟨q,hq,hq1,hq2⟩⟩:=a2 hx
  refine⟨fun r' hr' hc'=>?_,⟨p,jaO _ hp,hp1,hp2⟩,⟨q,jaO _ hq,hq1,hq2⟩⟩
  rcases qD.1 hr' with h | h
  ·exact b1 r' h hc'
  rw[kT.1 h] at hc'; exact absurd hc' hc
theorem zdw {d:Day} {ids:List Int} (hB:(d.R.any fun r=>ids.contains r.ID)=true) :
  (∀ r∈d.R,ids.contains r.ID=true->(brnD d ids).From<=r.Tick/\r.Tick<=(brnD d ids).To)/\(∃ r∈d.R,ids.contains r.ID=true/\r.Tick=(brnD d ids).From) /\ ∃ r∈d.R,ids.contains r.ID=true/\r.Tick=(brnD d ids).To:=by
 have:=zmo ids d.R d.R.length (jE _)
 rw[jZ] at this
 obtain⟨r,hr,hc⟩:=kO.1 hB
 exact this.2 (this.1.2 ⟨r,hr,hc⟩)
theorem zri {d:Day} (h:DayOk d) {ids:List Int} (hB:(d.R.any fun r=>ids.contains r.ID)=true):brnB (brnD d ids)=true:=by
 obtain⟨h1,⟨r,hr,hc,e⟩,⟨q,hq,hq1,hq2⟩⟩:=zdw hB
 have g1:=(h.rpt hr).2.2
 have g2:=(h.rpt hq).2.2
 have g3:=(h1 r hr hc).2
 unfold brnB
 rw[show (brnD d ids).Rise=d.Rise from rfl,h.rise,jG (by omega),jG (by omega),jG (by omega)]
 rfl
theorem zjx {d:Day} {A B:List Int} (hs:∀ x,B.contains x=true->A.contains x=true) (hB:(d.R.any fun r=>B.contains r.ID)=true):(brnD d A).From<=(brnD d B).From/\(brnD d B).To<=(brnD d A).To:=by
 have hA:(d.R.any fun r=>A.contains r.ID)=true:=by
  obtain⟨r,hr,hc⟩:=kO.1 hB
  exact kO.2 ⟨r,hr,hs _ hc⟩
 obtain⟨h1,_,_⟩:=zdw hA
 obtain⟨_,⟨r,hr,hc,e⟩,⟨q,hq,hq1,hq2⟩⟩:=zdw hB
 have g1:=(h1 r hr (hs _ hc)).1
 have g2:=(h1 q hq (hs _ hq1)).2
 omega
theorem zqQ {d:Day} (h:DayOk d) {b:Brn} (hb:brnB b=true) (ids:List Int):givE d.s b (lstD d ids)=0:=by
 have hn:=h.n
 have hl:=zfH d ids
 unfold givE
 rw[kG (fun hh=>hh h.s),kG (by rw[hb]; decide),kG (by omega)]
 refine zaJ fun i hi=>?_
 have hm:(lstD d ids).getD i default=(lstD d ids)[i]:=by rw[hZ,kH hi]; rfl
 have hr:(lstD d ids)[i]∈d.R:=(qV.1 (kW hi)).1
 unfold rp1E
 rw[kG (fun hh=>hh (by rw[hm]; exact (h.rpt hr).1)),kG fun hc=>?_]
 have hc:=kD.1 hc
 rw[hm] at hc
 obtain⟨x,hx,e⟩:=kK.1 hc
 obtain⟨j,hj,rfl⟩:=kQ hx
 rw[jQ] at hj
 rw[jaR] at e
 have:=qQ.1 (h.nodL ids) j i (by rw[qE]; omega) (by rw[qE]; exact hi) (by omega)
 simp only[List.getElem_map] at this
 exact this e
theorem zoZ {d:Day} (h:DayOk d) {ids:List Int} (hB:(d.R.any fun r=>ids.contains r.ID)=true) :
  plsD d ids=if (brnD d ids).To - (brnD d ids).From<=d.Long then plsL d.s.c.M (metP ((lstD d ids).map (alwP d.s (brnD d ids)))) else []:=by
 have e:plcR d.s (brnD d ids) (lstD d ids)=(plsL d.s.c.M (metP ((lstD d ids).map (alwP d.s (brnD d ids)))),0):=by
  unfold plcR
  rw[kG (fun hh=>hh (zqQ h (zri h hB) ids))]
 unfold plsD
 rw[e]
theorem ziu {s:Svc} {b b':Brn} {r:Rpt} {p:Place} (hr:b.Rise=b'.Rise) (hw:within r.Tick b.From b.To=true->within r.Tick b'.From b'.To=true) (h:seenB s b r p=true):seenB s b' r p=true:=by
 unfold seenB lookB at *
 simp only[jP] at *
 rw[<- hr]
 exact⟨h.1,h.2.1,hw h.2.2⟩
theorem zow {d:Day} (h:DayOk d) {A B:List Int} (hs:∀ x,B.contains x=true->A.contains x=true) (hB:(d.R.any fun r=>B.contains r.ID)=true) {r:Rpt} (hr:r∈lstD d B) {n:Nat} (ha:alwP d.s (brnD d A) r n=true):alwP d.s (brnD d B) r n=true:=by
 obtain⟨m1,m2⟩:=zjx hs hB
 obtain⟨hr1,hr2⟩:=qV.1 hr
 unfold alwP alwK at *
 simp only[jP] at *
 refine⟨ha.1,?_⟩
 have ha:=ha.2
 unfold allB at *
 by_cases hk:r.Kind=1
 ·rw[kI hk] at *
  refine ziu (b:=brnD d A) (b':=brnD d B) rfl (fun _=>?_) ha
  have hc:B.contains r.ID=true:=by
   unfold offB at hr2
   simpa [hk] using hr2
  have:=(zdw hB).1 r hr1 hc
  unfold within
  simpa using this
 rw[kG hk] at *
 rw[jY] at *
 rw[kX] at *
 intro hh
 refine ha (ziu (b:=brnD d B) (b':=brnD d A) rfl (fun hw=>?_) hh)
 unfold within at *
 simp only[jP,kA] at *
 omega
theorem ziJ {m:Mp} {P:Nat->Bool} {p:Place}:p∈plsL m P ↔ ∃ n,n<m.w * m.h/\P n=true/\plc m n=p:=by
 unfold plsL plsK
 rw[kK]
 constructor
 ·rintro⟨n,hn,e⟩
  rw[qV,kJ] at hn
  exact⟨n,hn.1,hn.2,e⟩
 rintro⟨n,h1,h2,e⟩
 exact⟨n,qV.2 ⟨kJ.2 h1,h2⟩,e⟩
theorem zk5 {d:Day} (h:DayOk d) {A B:List Int} (hs:∀ x,B.contains x=true->A.contains x=true) (hB:(d.R.any fun r=>B.contains r.ID)=true) {p:Place} (hp:p∈plsD d A):p∈plsD d B:=by
 have hA:(d.R.any fun r=>A.contains r.ID)=true:=by
  obtain⟨r,hr,hc⟩:=kO.1 hB
  exact kO.2 ⟨r,hr,hs _ hc⟩
 obtain⟨m1,m2⟩:=zjx hs hB
 rw[zoZ h hA] at hp
 rw[zoZ h hB]
 split at hp
 ·rename_i g
  rw[kI (by omega)]
  obtain⟨n,h1,h2,e⟩:=ziJ.1 hp
  refine ziJ.2 ⟨n,h1,?_,e⟩
  unfold metP at *
  rw[jC] at *
  intro P hP
  obtain⟨r,hr,rfl⟩:=kK.1 hP
  have hr':r∈lstD d A:=by
   obtain⟨g1,g2⟩:=qV.1 hr
   refine qV.2 ⟨g1,?_⟩
   unfold offB at *
   cases e1:A.contains r.ID with
   | true=>simp
   | false=>
   have:B.contains r.ID=false:=by rw[kX]; intro hh; rw[hs _ hh] at e1; cases e1
   rw[this] at g2
   exact g2
  exact zow h hs hB hr (h2 _ (kK.2 ⟨r,hr',rfl⟩))
 cases hp
theorem zs1 {d:Day} (h:few7 d):d.R.length<=40:=h.1.2.2.2.2.2
def exR:List Rpt:=[⟨1,1,1,1,100,450,0,10⟩,⟨2,1,2,2,110,1350,0,10⟩,⟨3,1,1,1,300,450,0,10⟩]
def exS:Svc:=⟨⟨⟨9,9,List.replicate 81 0⟩,[⟨1,⟨0,0⟩,0⟩,⟨2,⟨8,0⟩,0⟩],[]⟩,⟨[⟨1,⟨0,0⟩,0,1000,0,0,0⟩,⟨2,⟨8,0⟩,0,1000,0,0,0⟩],[]⟩⟩
def exD:Day:=⟨exS,0,60,exR⟩
theorem grdE (p:Place):grd exS.c.M p=0:=by
 show (List.replicate 81 (0:Int)).getD _ 0=0
 rw[hZ,List.getElem?_replicate]
 split <;> rfl
theorem valE:validM exS.c.M=true:=by unfold validM; decide +kernel
theorem zrP (id:Int) (h:id=1 \/ id=2) (p:Place) (hp:onM exS.c.M p=true) (t:Int) (ht:within t 0 1048576=true):seesE exS.c id p 0 t=(true,0):=by
 have e0:ctryE exS.c=0:=by unfold ctryE; rw[kG (by rw[valE]; decide +kernel)]; unfold towE hzE onM; decide +kernel
 have e1:(towG exS.c.T id)=(if id=1 then ⟨1,⟨0,0⟩,0⟩ else ⟨2,⟨8,0⟩,0⟩,true):=by rcases h with rfl | rfl <;> decide +kernel
 have e2:farZ t exS.c.Z=100:=rfl
 have op:=zad.1 hp
 have ox:0<=p.X/\p.X<9:=op.1
 have oy:0<=p.Y/\p.Y<9:=op.2
 unfold seesE
 have e1':(towG exS.c.T id).2=true:=by rcases h with rfl | rfl <;> decide +kernel
 rw[kG (fun hh=>hh e0),kG (by rw[e1']; decide +kernel),kG (by rw[hp,ht]; decide +kernel),e2]
 have e3:seesB exS.c (towG exS.c.T id).1 p 0 100=true:=by
  unfold seesB
  have on1:onM exS.c.M ⟨0,0⟩=true:=by unfold onM; decide +kernel
  have on2:onM exS.c.M ⟨8,0⟩=true:=by unfold onM; decide +kernel
  have m1:=mulB (a:=p.X) (b:=p.X) (x:=20) (y:=20) (by omega) (by omega)
  have m2:=mulB (a:=p.Y) (b:=p.Y) (x:=20) (y:=20) (by omega) (by omega)
  have m3:=mulB (a:=8 - p.X) (b:=8 - p.X) (x:=20) (y:=20) (by omega) (by omega)
  rw[e1]
  rcases h with rfl | rfl
  ·show (nearB ⟨0,0⟩ p 100 && freeB exS.c.M ⟨0,0⟩ 0 p 0)=true
   rw[zgR grdE valE on1 hp (by decide +kernel) (by decide +kernel),wL]
   unfold nearB
   refine jG ?_
   show (0 - p.X) * (0 - p.X)+(0 - p.Y) * (0 - p.Y)<=100 * 100
   have a1:(0 - p.X) * (0 - p.X)=p.X * p.X:=by rw[Int.zero_sub,Int.neg_mul_neg]
   have a2:(0 - p.Y) * (0 - p.Y)=p.Y * p.Y:=by rw[Int.zero_sub,Int.neg_mul_neg]
   omega
  show (nearB ⟨8,0⟩ p 100 && freeB exS.c.M ⟨8,0⟩ 0 p 0)=true
  rw[zgR grdE valE on2 hp (by decide +kernel) (by decide +kernel),wL]
  unfold nearB
  refine jG ?_
  show (8 - p.X) * (8 - p.X)+(0 - p.Y) * (0 - p.Y)<=100 * 100
  have a2:(0 - p.Y) * (0 - p.Y)=p.Y * p.Y:=by rw[Int.zero_sub,Int.neg_mul_neg]
  omega
 rw[e3]
theorem thsE (x:Cir):thsL exS.k x=[thg0 x]:=by
 show [thg0 x].mergeSort _=[thg0 x]
 exact List.mergeSort_singleton _
theorem zerE (id t:Int) (h:id=1 \/ id=2) (ht:within t 0 1000=true):zerR exS.k id t=(⟨0,0⟩,0):=by
 have bt:=zab.1 ht
 have e0:cirsE exS.k=0:=by decide +kernel
 have e1:cirI exS.k id=if id=1 then 0 else 1:=by rcases h with rfl | rfl <;> decide +kernel
 have go:∀ x:Cir,x.Drift=0->x.Lo=0->x.Hi=0->knw exS.k id [t]=(x,[thg0 x],0)->zerR exS.k id t=(⟨0,0⟩,0):=fun x d1 d2 d3 hk=>by
  have ec:clsL x [thg0 x]=[]:=by
   unfold clsL clsU clsI
   have en:noneB (thg0 x)=false:=by unfold noneB; exact jH (by show ¬ x.Hi<x.Lo; omega)
   simp[wD,en,clsJ]
  have ea:atR exS.k id t=(x,[thg0 x],0):=by
   unfold atR; rw[hk]; dsimp only; rw[kI rfl]; unfold agrE; rw[kI ec]
  have ed:drf x x.From t=0:=by unfold drf; rw[d1]; simp
  unfold zerR
  rw[ea,kG (fun hh=>hh rfl)]
  dsimp only
  unfold zer
  simp only[jaF,List.foldl_nil,zStep,thg0,ed,d2,d3]
  simp
 rcases h with rfl | rfl
 ·refine go ⟨1,⟨0,0⟩,0,1000,0,0,0⟩ rfl rfl rfl ?_
  unfold knw
  rw[kG (fun hh=>hh e0),e1,kG (by decide +kernel),kI (by show (within t 0 1000 && true)=true; rw[ht]; rfl),thsE]; rfl
 refine go ⟨2,⟨8,0⟩,0,1000,0,0,0⟩ rfl rfl rfl ?_
 unfold knw
 rw[kG (fun hh=>hh e0),e1,kG (by decide +kernel),kI (by show (within t 0 1000 && true)=true; rw[ht]; rfl),thsE]; rfl
theorem wdgE (r:Rpt) (hc:r.C=1 \/ r.C=2) (ht:within r.Tick 0 1000=true) (hs:within r.From 0 3599=true) (hl:r.Slack=10):wdgR exS.k (rdgO r)=(wdg (r.From - 10) 20,0):=by
 have e1:cirsE exS.k=0:=by decide +kernel
 have e2:rdgE exS.k (rdgO r)=0:=by
  unfold rdgE rdgO
  rw[kG (fun hh=>hh e1)]
  rw[kG]
  dsimp only
  rw[hs,hl]; decide +kernel
 have e3:zerR exS.k (rdgO r).C (rdgO r).Tick=(⟨0,0⟩,0):=zerE r.C r.Tick hc ht
 unfold wdgR
 rw[kG (fun hh=>hh e2),e3,kG (fun hh=>hh rfl)]
 show (if (900:Int)<2 * r.Slack+0 - 0 then _ else (wdg (r.From - r.Slack - 0) (2 * r.Slack+0 - 0),(0:Int)))=_
 rw[hl,kG (by decide +kernel)]
 congr 2
 omega
theorem blkE (r:Rpt) (hc:r.C=1 \/ r.C=2) (ht:within r.Tick 0 1000=true) (h:¬ (r.To - r.From) % 3600<2 * r.Slack+0 - 0):blkR exS r=(⟨(r.From+r.Slack) % 3600,(r.To - r.Slack) % 3600⟩,true):=by
 have e3:=zerE r.C r.Tick hc ht
 unfold blkR
 rw[e3]
 dsimp only
 rw[kG h]
 simp
def lieE (w:Wdg) (a:Place) (n:Nat):Bool:=decide (n<81) && liesW w a ⟨((n % 9:Nat):Int),((n / 9:Nat):Int)⟩
def notE (w:Wdg) (a:Place) (n:Nat):Bool:=decide (n<81) && !liesW w a ⟨((n % 9:Nat):Int),((n / 9:Nat):Int)⟩
theorem plcE {n:Nat} (h:n<81):onM exS.c.M (plc exS.c.M n)=true:=zsd valE h
theorem zlv (b:Brn) (hr:b.Rise=0) (r:Rpt) (hw:r.Tower=1 \/ r.Tower=2) (ht:within r.Tick 0 1048576=true) {n:Nat} (h:n<81):lookB exS b r (plc exS.c.M n)=within r.Tick b.From b.To:=by
 unfold lookB
 rw[hr,zrP r.Tower hw _ (plcE h) r.Tick ht]
 show (true && true && within r.Tick b.From b.To)=_
 cases within r.Tick b.From b.To <;> rfl
theorem zmA (b:Brn) (hr:b.Rise=0) (r:Rpt) (w:Wdg) (a:Place) (hk:r.Kind=1) (hw:r.Tower=1 \/ r.Tower=2) (ht:within r.Tick 0 1048576=true) (hb:within r.Tick b.From b.To=true) (hs:secR exS r=(w,true)) (ha:(towG exS.c.T r.Tower).1.At=a):alwP exS b r=lieE w a:=by
 funext n
 unfold alwP alwK lieE
 show (decide (n<81) && _)=_
 by_cases h:n<81
 ·refine jI (decide (n<81) && ·) ?_
  unfold allB seenB
  rw[kI hk,hs,ha,zlv b hr r hw ht h,hb,wL]; rfl
 rw[jH h]; rfl
theorem ztp (b:Brn) (hr:b.Rise=0) (r:Rpt) (w:Wdg) (a:Place) (hk:r.Kind≠1) (hw:r.Tower=1 \/ r.Tower=2) (ht:within r.Tick 0 1048576=true) (hb:within r.Tick b.From b.To=true) (hs:secR exS r=(w,true)) (ha:(towG exS.c.T r.Tower).1.At=a):alwP exS b r=notE w a:=by
 funext n
 unfold alwP alwK notE
 show (decide (n<81) && _)=_
 by_cases h:n<81
 ·refine jI (decide (n<81) && ·) ?_
  unfold allB seenB
  rw[kG hk,hs,ha,zlv b hr r hw ht h,hb,wL]; rfl
 rw[jH h]; rfl
def xq1:Rpt:=⟨1,1,1,1,100,450,0,10⟩
def xq2:Rpt:=⟨2,1,2,2,110,1350,0,10⟩
def xq3:Rpt:=⟨3,1,1,1,300,450,0,10⟩
def xq4:Rpt:=⟨4,2,1,1,105,400,500,10⟩
def exD4:Day:=⟨exS,0,60,[xq1,xq2,xq3,xq4]⟩
theorem svcEx:svcE exS=0:=by
 have e0:ctryE exS.c=0:=by unfold ctryE; rw[kG (by rw[valE]; decide +kernel)]; unfold towE hzE onM; decide +kernel
 have e1:cirsE exS.k=0:=by decide +kernel
 unfold svcE
 rw[kG (fun hh=>hh e0),kG (fun hh=>hh e1)]
 decide +kernel
theorem zm4 (r:Rpt) (hf:frmB r=true) (hc:r.C=1 \/ r.C=2) (ht:within r.Tick 0 1000=true) (hw:r.Tower=r.C) (hk:r.Kind=1->within r.From 0 3599=true/\r.Slack=10):rptE exS r=0:=by
 have e3:=zerE r.C r.Tick hc ht
 unfold rptE
 rw[kG (by rw[hf]; decide +kernel),hw,e3]
 have e4:¬ ((towG exS.c.T r.C).2=false \/ cirI exS.k r.C<0):=by rcases hc with e | e <;> rw[e] <;> decide +kernel
 have e5:(exS.k.C.getD (cirI exS.k r.C).toNat default).At=(towG exS.c.T r.C).1.At:=by rcases hc with e | e <;> rw[e] <;> decide +kernel
 rw[kG e4,kG (fun hh=>hh e5),kG (fun hh=>hh rfl)]
 split
 ·rename_i h1
  rw[wdgE r hc ht (hk h1).1 (hk h1).2]
 rfl
theorem sx1:secR exS xq1=(⟨440,460⟩,true):=by
 unfold secR
 rw[kI (by rfl),wdgE xq1 (.inl rfl) (by decide +kernel) (by decide +kernel) rfl]; decide +kernel
theorem sx2:secR exS xq2=(⟨1340,1360⟩,true):=by
 unfold secR
 rw[kI (by rfl),wdgE xq2 (.inr rfl) (by decide +kernel) (by decide +kernel) rfl]; decide +kernel
theorem sx3:secR exS xq3=(⟨440,460⟩,true):=by
 unfold secR
 rw[kI (by rfl),wdgE xq3 (.inl rfl) (by decide +kernel) (by decide +kernel) rfl]; decide +kernel
theorem sx4:secR exS xq4=(⟨410,490⟩,true):=by
 unfold secR
 rw[kG (by decide +kernel),blkE xq4 (.inl rfl) (by decide +kernel) (by decide +kernel)]; decide +kernel
theorem rx1:rptE exS xq1=0:=zm4 xq1 (by decide +kernel) (.inl rfl) (by decide +kernel) rfl fun _=>⟨by decide +kernel,rfl⟩
theorem rx2:rptE exS xq2=0:=zm4 xq2 (by decide +kernel) (.inr rfl) (by decide +kernel) rfl fun _=>⟨by decide +kernel,rfl⟩
theorem rx3:rptE exS xq3=0:=zm4 xq3 (by decide +kernel) (.inl rfl) (by decide +kernel) rfl fun _=>⟨by decide +kernel,rfl⟩
theorem rx4:rptE exS xq4=0:=zm4 xq4 (by decide +kernel) (.inl rfl) (by decide +kernel) rfl fun h=>absurd h (by decide +kernel)
abbrev B1:Nat->Bool:=lieE ⟨440,460⟩ ⟨0,0⟩
abbrev B2:Nat->Bool:=lieE ⟨1340,1360⟩ ⟨8,0⟩
abbrev B4:Nat->Bool:=notE ⟨410,490⟩ ⟨0,0⟩
def fullE (n:Nat):Bool:=decide (n<81)
theorem zto (b:Brn) (hr:b.Rise=0) (r:Rpt) (hk:r.Kind≠1) (hw:r.Tower=1 \/ r.Tower=2) (ht:within r.Tick 0 1048576=true) (hb:within r.Tick b.From b.To=false):alwP exS b r=fullE:=by
 funext n
 unfold alwP alwK fullE
 show (decide (n<81) && _)=_
 by_cases h:n<81
 ·rw[jG h,kL]
  unfold allB seenB
  rw[kG hk]
  show (!(_ && lookB exS b r (plc exS.c.M n)))=true
  rw[zlv b hr r hw ht h,hb,kU]; rfl
 rw[jH h]; rfl
theorem a1 (b:Brn) (hr:b.Rise=0) (hb:within 100 b.From b.To=true):alwP exS b xq1=B1:=zmA b hr xq1 _ _ rfl (.inl rfl) (by decide +kernel) hb sx1 (by decide +kernel)
theorem a2 (b:Brn) (hr:b.Rise=0) (hb:within 110 b.From b.To=true):alwP exS b xq2=B2:=zmA b hr xq2 _ _ rfl (.inr rfl) (by decide +kernel) hb sx2 (by decide +kernel)
theorem a3 (b:Brn) (hr:b.Rise=0) (hb:within 300 b.From b.To=true):alwP exS b xq3=B1:=zmA b hr xq3 _ _ rfl (.inl rfl) (by decide +kernel) hb sx3 (by decide +kernel)
theorem a4y (b:Brn) (hr:b.Rise=0) (hb:within 105 b.From b.To=true):alwP exS b xq4=B4:=ztp b hr xq4 _ _ (by decide +kernel) (.inl rfl) (by decide +kernel) hb sx4 (by decide +kernel)
theorem a4n (b:Brn) (hr:b.Rise=0) (hb:within 105 b.From b.To=false):alwP exS b xq4=fullE:=zto b hr xq4 (by decide +kernel) (.inl rfl) (by decide +kernel) hb
theorem zsO (b:Brn) (hb:brnB b=true) (l:List Rpt) (h24:¬ 24<l.length) (h:∀ r∈l,rptE exS r=0) (hd:(l.map Rpt.ID).Nodup):givE exS b l=0:=by
 unfold givE
 rw[kG (fun hh=>hh svcEx),kG (by rw[hb]; decide),kG h24]
 refine zaJ fun i hi=>?_
 have hm:l.getD i default=l[i]:=by rw[hZ,kH hi]; rfl
 unfold rp1E
 rw[kG (fun hh=>hh (by rw[hm]; exact h _ (kW hi))),kG fun hc=>?_]
 have hc:=kD.1 hc
 rw[hm] at hc
 obtain⟨x,hx,e⟩:=kK.1 hc
 obtain⟨j,hj,rfl⟩:=kQ hx
 rw[jQ] at hj
 rw[jaR] at e
 have:=qQ.1 hd j i (by rw[qE]; omega) (by rw[qE]; exact hi) (by omega)
 simp only[List.getElem_map] at this
 exact this e
theorem zsc {b:Brn} {l:List Rpt} {As:List (Nat->Bool)} (hb:brnB b=true) (h24:¬ 24<l.length) (h:∀ r∈l,rptE exS r=0) (hd:(l.map Rpt.ID).Nodup) (ha:l.map (alwP exS b)=As):(plcR exS b l).1=plsL exS.c.M (metP As):=by
 unfold plcR
 rw[kG (fun hh=>hh (zsO b hb l h24 h hd)),ha]
theorem sig3:sigL exR=[1,2,3]:=by
 unfold sigL
 rw[List.mergeSort_of_pairwise (by decide +kernel)]
 decide +kernel
theorem sig4:sigL [xq1,xq2,xq3,xq4]=[1,2,3]:=by
 unfold sigL
 rw[List.mergeSort_of_pairwise (by decide +kernel)]
 decide +kernel
theorem zbQ {d:Day} {ids:List Int} {b:Brn} {l:List Rpt} {As:List (Nat->Bool)} {L:List Place} (hs:d.s=exS) (hl:d.Long=60) (eb:brnD d ids=b) (el:lstD d ids=l) (sh:b.To - b.From<=60) (hb:brnB b=true) (h24:¬ 24<l.length) (h:∀ r∈l,rptE exS r=0) (hd:(l.map Rpt.ID).Nodup) (ha:l.map (alwP exS b)=As) (hL:plsL exS.c.M (metP As)=L):plsD d ids=L:=by
 unfold plsD
 rw[eb,el,hs,hl,kI sh,zsc hb h24 h hd ha,hL]
theorem zcQ {d:Day} {ids:List Int} {b:Brn} (hl:d.Long=60) (eb:brnD d ids=b) (sh:¬ b.To - b.From<=60):plsD d ids=[]:=by
 unfold plsD
 rw[eb,hl,kG sh]
theorem zsu (m:Nat):memb [1,2,3] m=memb [1,2,3] (m % 8):=by
 unfold memb membA
 congr 1
 refine List.filter_congr fun i hi=>?_
 have hi:i<3:=kJ.1 hi
 show m.testBit i=(m % 2 ^ 3).testBit i
 rw[Nat.testBit_mod_two_pow,jG hi,kL]
abbrev L1:List Place:=[⟨1,1⟩,⟨2,2⟩,⟨3,3⟩,⟨4,4⟩,⟨5,5⟩,⟨6,6⟩,⟨7,7⟩,⟨8,8⟩]
abbrev L2:List Place:=[⟨7,1⟩,⟨6,2⟩,⟨5,3⟩,⟨4,4⟩,⟨3,5⟩,⟨2,6⟩,⟨1,7⟩,⟨0,8⟩]
theorem m1:plsL exS.c.M (metP [B1])=L1:=by decide +kernel
theorem m2:plsL exS.c.M (metP [B2])=L2:=by decide +kernel
theorem m12:plsL exS.c.M (metP [B1,B2])=[⟨4,4⟩]:=by decide +kernel
theorem m1f:plsL exS.c.M (metP [B1,fullE])=L1:=by decide +kernel
theorem m2f:plsL exS.c.M (metP [B2,fullE])=L2:=by decide +kernel
theorem m124:plsL exS.c.M (metP [B1,B2,B4])=[]:=by decide +kernel
theorem c1:plsD exD [1]=L1:=zbQ (b:=⟨100,100,0⟩) (l:=[xq1]) (As:=[B1]) rfl rfl (by decide +kernel) (by decide +kernel) (by decide +kernel) (by decide +kernel) (by decide +kernel) (fun r hr=>by rw[kT.1 hr]; exact rx1) (by decide +kernel) (by
  simp only[kY,jaY]
  rw[a1 _ rfl (by decide +kernel)]) m1
theorem c2:plsD exD [2]=L2:=zbQ (b:=⟨110,110,0⟩) (l:=[xq2]) (As:=[B2]) rfl rfl (by decide +kernel) (by decide +kernel) (by decide +kernel) (by decide +kernel) (by decide +kernel) (fun r hr=>by rw[kT.1 hr]; exact rx2) (by decide +kernel) (by
  simp only[kY,jaY]
  rw[a2 _ rfl (by decide +kernel)]) m2
theorem c3:plsD exD [1,2]=[⟨4,4⟩]:=zbQ (b:=⟨100,110,0⟩) (l:=[xq1,xq2]) (As:=[B1,B2]) rfl rfl (by decide +kernel) (by decide +kernel) (by decide +kernel) (by decide +kernel) (by decide +kernel) (fun r hr=>by
  simp only[kZ,jak,jbk] at hr
  rcases hr with rfl | rfl
  ·exact rx1
  ·exact rx2
  ) (by decide +kernel) (by
  simp only[kY,jaY]
  rw[a1 _ rfl (by decide +kernel),a2 _ rfl (by decide +kernel)]) m12
theorem c4:plsD exD [3]=L1:=zbQ (b:=⟨300,300,0⟩) (l:=[xq3]) (As:=[B1]) rfl rfl (by decide +kernel) (by decide +kernel) (by decide +kernel) (by decide +kernel) (by decide +kernel) (fun r hr=>by rw[kT.1 hr]; exact rx3) (by decide +kernel) (by
  simp only[kY,jaY]
  rw[a3 _ rfl (by decide +kernel)]) m1
theorem e1:plsD exD4 [1]=L1:=zbQ (b:=⟨100,100,0⟩) (l:=[xq1,xq4]) (As:=[B1,fullE]) rfl rfl (by decide +kernel) (by decide +kernel) (by decide +kernel) (by decide +kernel) (by decide +kernel) (fun r hr=>by
  simp only[kZ,jak,jbk] at hr
  rcases hr with rfl | rfl
  ·exact rx1
  ·exact rx4
  ) (by decide +kernel) (by
  simp only[kY,jaY]
  rw[a1 _ rfl (by decide +kernel),a4n _ rfl (by decide +kernel)]) m1f
theorem e2:plsD exD4 [2]=L2:=zbQ (b:=⟨110,110,0⟩) (l:=[xq2,xq4]) (As:=[B2,fullE]) rfl rfl (by decide +kernel) (by decide +kernel) (by decide +kernel) (by decide +kernel) (by decide +kernel) (fun r hr=>by
  simp only[kZ,jak,jbk] at hr
  rcases hr with rfl | rfl
  ·exact rx2
  ·exact rx4
  ) (by decide +kernel) (by
  simp only[kY,jaY]
  rw[a2 _ rfl (by decide +kernel),a4n _ rfl (by decide +kernel)]) m2f
theorem e3:plsD exD4 [1,2]=[]:=zbQ (b:=⟨100,110,0⟩) (l:=[xq1,xq2,xq4]) (As:=[B1,B2,B4]) rfl rfl (by decide +kernel) (by decide +kernel) (by decide +kernel) (by decide +kernel) (by decide +kernel) (fun r hr=>by
  simp only[kZ,jak,jbk] at hr
  rcases hr with rfl | rfl | rfl
  ·exact rx1
  ·exact rx2
  ·exact rx4
  ) (by decide +kernel) (by
  simp only[kY,jaY]
  rw[a1 _ rfl (by decide +kernel),a2 _ rfl (by decide +kernel),a4y _ rfl (by decide +kernel)]) m124
theorem e4:plsD exD4 [3]=L1:=zbQ (b:=⟨300,300,0⟩) (l:=[xq3,xq4]) (As:=[B1,fullE]) rfl rfl (by decide +kernel) (by decide +kernel) (by decide +kernel) (by decide +kernel) (by decide +kernel) (fun r hr=>by
  simp only[kZ,jak,jbk] at hr
  rcases hr with rfl | rfl
  ·exact rx3
  ·exact rx4
  ) (by decide +kernel) (by
  simp only[kY,jaY]
  rw[a3 _ rfl (by decide +kernel),a4n _ rfl (by decide +kernel)]) m1f
theorem c5:plsD exD [1,3]=[]:=zcQ (b:=⟨100,300,0⟩) rfl (by decide +kernel) (by decide +kernel)
theorem c6:plsD exD [2,3]=[]:=zcQ (b:=⟨110,300,0⟩) rfl (by decide +kernel) (by decide +kernel)
theorem c7:plsD exD [1,2,3]=[]:=zcQ (b:=⟨100,300,0⟩) rfl (by decide +kernel) (by decide +kernel)
theorem e5:plsD exD4 [1,3]=[]:=zcQ (b:=⟨100,300,0⟩) rfl (by decide +kernel) (by decide +kernel)
theorem e6:plsD exD4 [2,3]=[]:=zcQ (b:=⟨110,300,0⟩) rfl (by decide +kernel) (by decide +kernel)
theorem e7:plsD exD4 [1,2,3]=[]:=zcQ (b:=⟨100,300,0⟩) rfl (by decide +kernel) (by decide +kernel)
def T3 (m:Nat):List Place:=match m % 8 with
 | 1=>L1 | 2=>L2 | 3=>[⟨4,4⟩] | 4=>L1 | 0=>plsD exD [] | _=>[]
def T4 (m:Nat):List Place:=match m % 8 with
 | 1=>L1 | 2=>L2 | 4=>L1 | 0=>plsD exD4 [] | _=>[]
theorem cel3 (m:Nat):celD exD m=T3 m:=by
 have h:celD exD m=plsD exD (memb [1,2,3] (m % 8)):=by
  show plsD exD (memb (sigL exR) m)=_
  rw[sig3,zsu]
 rw[h]
 have h8:m % 8<8:=jae _ (by decide)
 unfold T3
 generalize m % 8=k at h8
 match k,h8 with
 | 0,_=>rfl
 | 1,_=>exact c1
 | 2,_=>exact c2
 | 3,_=>exact c3
 | 4,_=>exact c4
 | 5,_=>exact c5
 | 6,_=>exact c6
 | 7,_=>exact c7
theorem cel4 (m:Nat):celD exD4 m=T4 m:=by
 have h:celD exD4 m=plsD exD4 (memb [1,2,3] (m % 8)):=by
  show plsD exD4 (memb (sigL [xq1,xq2,xq3,xq4]) m)=_
  rw[sig4,zsu]
 rw[h]
 have h8:m % 8<8:=jae _ (by decide)
 unfold T4
 generalize m % 8=k at h8
 match k,h8 with
 | 0,_=>rfl
 | 1,_=>exact e1
 | 2,_=>exact e2
 | 3,_=>exact e3
 | 4,_=>exact e4
 | 5,_=>exact e5
 | 6,_=>exact e6
 | 7,_=>exact e7
section
variable (ids:List Int) (pv:D) (ok:List Int->Bool)
abbrev putSl (γ:Nat->Value) (i:Nat):List (Nat × AV):=[(0,.d (I i)),(1,.d (capB [lI ids])),(2,.pbox 4 (γ 4)),(3,.d (posD pv)),(4,.pbox 3 (γ 3)),(5,.pbox 5 (γ 5))]
theorem ziD (i:Nat) (ss:List (List Int)):∀ l,∀ v∈putArgs ids pv i l,∀ j∈v.refs,(look (putObs ids pv ss l) j).isSome=true:=by
 intro l v hv j hj
 simp only[putArgs,kZ,jak,jbk] at hv
 rcases hv with rfl | rfl | rfl | rfl | rfl | rfl
 ·cases hj
 ·cases hj
 ·obtain rfl:j=4:=by simpa [AV.refs] using hj
  rfl
 ·cases hj
 ·obtain rfl:j=3:=by simpa [AV.refs] using hj
  rfl
 obtain rfl:j=5:=by simpa [AV.refs] using hj
 rfl
theorem zsi (hn:ids.length<=7) (hok:PosC pv ok) (ss:List (List Int)) (n:Nat) (hs:ss.length<=7) (hl:∀ s∈ss,s.length<=7) (hsub:Sub (allP ids ok) n (prt ok [] ss)) :
  SpecY PP 108 ((allP ids ok).map enP) n (prt ok [] ss).length (putArgs ids pv ids.length) (putObs ids pv ss) (putObs ids pv ss) [4,3,5] [B true] [B false]:=by
 refine zis [10] Tryz.func108 rfl (by kernel_rfl) (putArgs ids pv ids.length) [7] rfl [(2,4),(4,3),(5,5)] rfl rfl rfl (ziD ids pv _ ss) (by decide) (fun _=>rfl) fun l γ=>?_
 refine sYe (by simp) ?_
 refine lOf (σ:=Nat) (fun j=>([(G,.gho (some n)),(0,.d (I ids.length)),(1,.d (capB [lI ids])),(2,.pbox 4 (γ 4)),(3,.d (posD pv)),(4,.pbox 3 (γ 3)),(5,.pbox 5 (γ 5)),(8,.own 17),(18,.own 100),(19,.d (I ss.length)),(20,.d (I j))],
   [(4,.box [.own 100]),(100,.row 22 1 ss.length (rowII ss)),(3,.box [.yl l]),(5,.box [.clo 108 (putCaps ids pv)]),(17,.row 22 1 (ss.take j).length (rowII (ss.take j)))])) (fun j=>j<=ss.length /\ ∀ q,q<j->ok (ss.getD q [])=true) (fun j=>ss.length - j) 0
  ⟨rfl,⟨obX rfl,obR rfl (dE _),obX rfl,obX rfl,obR rfl ⟨rfl,.inl rfl⟩,trivial⟩,wq rfl⟩ z0L fun j hj=>?_
 obtain⟨hj,ha⟩:=hj
 have lt:(ss.take j).length=j:=by rw[jQ]; omega
 apply bY <;> intro h2
 ·have h2:j<ss.length:=by have:=dT h2; omega
  have ej:((j:Nat):Int).toNat=j:=jaq j
  have hm:ss.getD j []∈ss:=by rw[hZ,kH h2]; exact kW h2
  refine⟨⟨by omega,by omega⟩,⟨by omega,?_⟩⟩
  rcases hok with⟨g0,c0,rfl,hok⟩ | ⟨f0,m0,g0,rfl,hok⟩
  all_goals
   have hc:=hok (ss.getD (j:Int).toNat []) (by rw[ej]; exact hl _ hm)
   first | refine cP hc rfl rfl ?_ | refine CallSt.bn rfl rfl rfl hc rfl ?_
   apply bY <;> intro h3
   ·have h3:ok (ss.getD j [])=false:=by rw[ej] at h3; simpa using h3
    have em:prt ok [] ss=[]:=kG fun h=>by rw[jC.1 h _ hm] at h3; cases h3
    exact .inl ⟨rfl,⟨obX rfl,obR rfl (dE _),obX rfl,obX rfl,trivial⟩,avG rfl (by rw[em]; rfl),avQ rfl,avQ rfl,avQ rfl,avQ rfl,trivial⟩
   have h3:ok (ss.getD j [])=true:=by rw[ej] at h3; simpa using h3
   refine cR (zqr (ss.getD (j:Int).toNat []) (by rw[ej]; have:=hl _ hm; omega)) rfl rfl ?_
   refine⟨⟨.inr rfl,by unfold maxLen; omega,by show ((ss.take j).length+1) * 24<=140737488355328; omega⟩,?_⟩
   refine⟨i6,?_⟩
   refine⟨j+1,⟨rfl,⟨obX rfl,obR rfl (dE _),obX rfl,obX rfl,obR rfl ?_,trivial⟩,wq rfl⟩,⟨h2,fun q hq=>?_⟩,msr h2⟩
   ·rw[zaK h2 []]
    refine zoW rfl ?_
    show D.eqv (lI (ss.getD (j:Int).toNat [])) _
    rw[ej]; exact dE _
   by_cases e:q=j
   ·subst e; exact h3
   exact ha q (by omega)
 have h2:j=ss.length:=by have:=dF h2; omega
 subst h2
 rw[jZ]
 have em:prt ok [] ss=[ss]:=kI (jC.2 fun s hs=>by
  obtain⟨q,hq,rfl⟩:=kQ hs
  have:=ha q hq
  rw[hZ,kH hq] at this
  exact this)
 refine kAt [(G,.gho (some n)),(0,.d (I ids.length)),(1,.d (capB [lI ids])),(2,.pbox 4 (γ 4)),(3,.d (posD pv)),(4,.pbox 3 (γ 3)),(5,.pbox 5 (γ 5)),(8,.d (lII ss))] (putObs ids pv ss l) ⟨rfl,⟨obX rfl,obR rfl (dE _),obX rfl,obX rfl,trivial⟩,avQ rfl,avQ rfl,avQ rfl,avQ rfl,avQ rfl,avQ rfl,avQ rfl,avOw rfl rfl rfl (dE _),trivial⟩ ?_
 refine CallSt.ydC (d:=36) (putSl ids pv γ ids.length) (putObs ids pv ss l) rfl rfl rfl rfl ⟨rfl,⟨obX rfl,obR rfl (dE _),obX rfl,obX rfl,trivial⟩,wq rfl⟩ (by rw[em] at hsub; exact hsub.get) rfl rfl ?_ ?_
 ·exact .inl ⟨rfl,⟨obX rfl,obR rfl (dE _),obX rfl,obX rfl,trivial⟩,avG rfl (by rw[em]; rfl),avQ rfl,avQ rfl,avQ rfl,avQ rfl,trivial⟩
 exact .inr ⟨rfl,trivial,avQ rfl,avQ rfl,trivial⟩
end
end Go.Pg
