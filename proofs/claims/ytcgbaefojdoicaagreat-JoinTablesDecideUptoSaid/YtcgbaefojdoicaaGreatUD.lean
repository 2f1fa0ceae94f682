/- Lemmas, joined by program. -/
import Derived.Test.YtcgbaefojdoicaaGreatUC
set_option maxHeartbeats 4000000
set_option linter.all false
set_option maxRecDepth 100000
namespace Go.Pg
open Go.Proofs Go.RowKit Go.Sort Go.Shelf
def EYC {τ:Type} (xs:List τ) (enc:τ->List V1) (cuts:List Nat) (l:Nat):Env:=⟨ET,false,l,fun n vs=>∃ x,xs[n]?=some x/\vs=enc x,true,fun i=>cuts.any (Nat.beq i)⟩
theorem zi5 {τ:Type} {xs:List τ} {enc:τ->List V1} (k:Nat) (vs:List V1):(∃ x,xs[k]?=some x/\vs=enc x) ↔ (xs.map enc)[k]?=some vs:=by
 rw[jU]
 cases xs[k]? with
 | none=>simp
 | some x=>simp; exact eq_comm
theorem zhA (cuts : List Nat) {f : FuncId} {fn : Func} {c : Code} (hf : PP.funcs[f]? = some fn) (hb : fn.body = some c) (hq : ((fn.name == "runtime.NumGoroutine") || !(codeN fn.ntmps c && Nat.ble fn.ntmps 4294967296)) = false)
  {τ : Type} {xs : List τ} {enc : τ -> List V1} {n m : Nat} (args : Nat -> List AV) {obs obs' : Nat -> List (Nat × Ob)} (ts : List Nat) (hts : fn.results.toList = ts.map ResultVar.tmp) (pins : List (Nat × Nat)) {res resF : List V1} (hlr : ts.length = res.length) (hlF : ts.length = resF.length) (hfl : resF.all V1.flat = true)
  (hr : ∀ l, ∀ v ∈ args l, ∀ j ∈ v.refs, (look (obs l) j).isSome = true) (hpn : (G :: (pins.map Prod.fst ++ ts)).Nodup) (hsz : ∀ l, Nat.ble (args l).length fn.ntmps = true)
  (h : ∀ l γ, awp PP TTab (EYC xs enc cuts l) c (St.of ((G, .gho (some n)) :: slotsM γ 0 (args l)) (obs l)) (retYM ts res resF γ pins (n + m) (obs' l))) : SpecY PP f (xs.map enc) n m args obs obs' (pins.map Prod.snd) res resF := by
 simp only [qQ, qS, jP] at hq
 exact zhz hT (eq := ET) hE hM hf hb hq.1 hq.2.1 (jD hq.2.2) args ts hts pins hlr hlF hfl hr hpn (fun l => jD (hsz l)) (yd := fun n vs => ∃ x, xs[n]? = some x /\ vs = enc x) zi5 (fun i => cuts.any (Nat.beq i)) (fun _ _ _ _ hk => hk) h
section
variable {s:St} {o:Oper} {fo:Operand} {K:St->Prop} {args:List Operand} {τ:Type} {xs:List τ} {enc:τ->List V1} {cuts:List Nat} {l:Nat}
theorem CallSt.ydC {d n:Nat} {x:τ} (sl:List (Nat × AV)) (ob:List (Nat × Ob)) (hd:o.dst=some d) (hf:ev s fo = .yl l) (hg:s.sl G = .gho (some n)) (hG:look sl G=none) (hw:Weak s sl ob) (hx:xs[n]?=some x) (hv:toV1s s (args.map (ev s))=some (enc x))
  (hno:(args.map (ev s)).all (fun v=>!v.isOwn)=true) (k1:K ((St.of ((G,.gho (some (n+1))) :: sl) ob).put d (.d (.bool true)))) (k2:K ((St.of ((G,.gho none) :: stillS sl) []).put d (.d (.bool false)))):CallSt (EYC xs enc cuts l) PP s o fo args K:=by
 rw[zae]
 exact .inr (.inr (.inr (.inl ⟨⟨n,d,sl,ob,_,hd,hf,hg,hG,hw,hv,hno,⟨x,hx,rfl⟩,k1,k2⟩⟩)))
theorem CallSt.cy {n m:Nat} {f:FuncId} {ex:List AV} {ags:Nat->List AV} {obs obs':Nat->List (Nat × Ob)} {pins:List Nat} {res resF:List V1} (sl:List (Nat × AV)) (rest:List (Nat × Ob)) (h:SpecY PP f (xs.map enc) n m ags obs obs' pins res resF)
  (hg:s.sl G = .gho (some n)) (hG:look sl G=none) (hw:Weak s sl (obs l++rest)) (hc:calleeM (ev (St.of sl (obs l++rest)) fo)=some (f,ex)) (ha:(args.map (ev (St.of sl (obs l++rest)))++ex).map (fixA (obs l))=ags l) (hm:closM (obs l)=true) (hgm:goodM sl (obs l) (obs' l) rest pins=true)
  (k1:K ((St.of ((G,.gho (some (n+m))) :: sl) (obs' l++rest)).putO o.dst (resAV res))) (k2:K ((St.of ((G,.gho none) :: stillS sl) []).putO o.dst (resAV resF))):CallSt (EYC xs enc cuts l) PP s o fo args K:=by
 rw[zae]
 exact .inr (.inr (.inr (.inr ⟨⟨_,n,m,f,ex,ags,sl,rest,obs,obs',pins,res,resF,zi5,h,hg,hG,hw,hc,ha,hm,hgm,k1,k2⟩⟩)))
end
theorem zkL {P:Program} {a:Act} {w:World} {o:Oper} {fo:Operand} {f:FuncId} {args:Array Operand} {at':Array TypeId} (hop:o.op = .call { callee:=.value fo,args,argTypes:=at' }) {u:Value} (hfo:a.eval fo = .func (.func f) #[u] #[]) (hent:Ent P f) :
  (execOp a.eval o).run P w = .ok (.enter f (u :: args.toList.map a.eval).toArray) w:=by
 have:(u :: args.toList.map a.eval).toArray = #[u]++args.map a.eval ++ #[]:=by simp
 rw[this]
 simp[execOp,hop,resolve,hfo,Deferred.ofValue,invoke,zaC hent]
section
variable {s:St} {o:Oper} {fo:Operand} {K:St->Prop} {E:Env}
theorem CallSt.bn {f:FuncId} {args:Array Operand} {at':Array TypeId} (hop:o.op = .call { callee:=.value fo,args,argTypes:=at' }) {m:Nat} {g:Nat->D} (hf:ev s fo = .d (.bnd f m g)) {xs res:List V1} (hx:toV1s s (args.toList.map (ev s))=some xs)
  (h:SpecG E.dr PP f (.agg ((List.range m).map g) :: xs) res) (hr:res.all V1.flat=true) (hk:K (s.putO o.dst (resAV res))):CallSt E PP s o fo args.toList K:=by
 rw[zae]
 refine .inr (.inr (.inl ⟨_,⟨fun cx a w hD hd hR=>?_⟩,hk⟩))
 obtain⟨γ,hg⟩:=hR
 have hc:=(ev_m hg fo).1
 rw[hf] at hc
 obtain⟨vs,hv,hl,h3⟩:=hc
 have hm:=(za8 hg hx (zbo hg args.toList)).1
 have hb:All2 (Rep w fun b=>b<w.heap.size) ((List.range m).map g) vs:=.map_left (All2.of_get (by simp[hl]) fun j q y hx hy=>by
  have hj:j<m:=by have:=(kC.1 hx).1; simpa using this
  rw[qZ hj] at hx
  cases hx
  obtain⟨u,hu,hr⟩:=h3 j hj
  rw[hy] at hu; cases hu
  exact Rep.keep (fun b hb=>⟨zak hg hb,rfl⟩) hr)
 refine .enter (zkL hop hv h.1) ?_
 refine (h.2 w _ _ (fun b hb=>hb) (.cons ⟨vs,rfl,hb⟩ hm)).mono fun en w' ⟨v,e,hb,hres⟩=>⟨v,e,γ,?_⟩
 exact (hg.grow hb.1 fun e=>hb.2 (hD e)).putO hd (zaO (.inl fun b hb=>hb.elim) (zdF hr hres)) (fun j hj=>by rw[zar] at hj; cases hj)
inductive PosC (pv:D) (ok:List Int->Bool):Prop
 | clo (g0:FuncId) (c0:D) (e:pv=cloB g0 [c0]) (h:∀ s:List Int,s.length<=7->Spec PP g0 [.d (lI s),.d c0] [B (ok s)])
 | bnd (f:FuncId) (m:Nat) (g:Nat->D) (e:pv = .bnd f m g) (h:∀ s:List Int,s.length<=7->Spec PP f [.agg ((List.range m).map g),.d (lI s)] [B (ok s)])
end
abbrev rowII (ss:List (List Int)):Nat->Nat->D:=fun i _=>lI (ss.getD i [])
theorem zpJ {ss:List (List Int)} {k k':Nat} {s':List Int} {y:D} (hk:k<ss.length) (e1:k'=k) (hy:D.eqv y (lI s')):D.eqv (.slc 1 ss.length (storeRow (rowII ss) k' 0 [y])) (.slc 1 (ss.set k s').length (rowII (ss.set k s'))):=by
 subst e1
 refine⟨List.length_set.symm,.inr ⟨rfl,fun i hi j hj=>?_⟩⟩
 show D.eqv (storeRow (rowII ss) k' 0 [y] i j) (lI ((ss.set k' s').getD i []))
 rw[zcv ss k' i s' [] hk]
 obtain rfl:j=0:=by omega
 unfold storeRow
 by_cases h:i=k'
 ·rw[kH h,kH ⟨h,jE _,by simp⟩]
  exact hy
 rw[kG h,kG fun hh=>h hh.1]
 exact dE _
theorem zne {ss:List (List Int)} {s:List Int} {n:Nat} {g:Nat->Nat->D} (hn:n=ss.length) (hg:D.eqv (g 0 0) (lI s)):D.eqv (.slc 1 (n+1) (appRow n (rowII ss) g)) (.slc 1 (ss ++ [s]).length (rowII (ss ++ [s]))):=by
 subst hn
 refine⟨by simp,.inr ⟨rfl,fun i hi j hj=>?_⟩⟩
 show D.eqv (appRow ss.length (rowII ss) g i j) (lI ((ss ++ [s]).getD i []))
 obtain rfl:j=0:=by omega
 unfold appRow
 by_cases h:i<ss.length
 ·rw[kH h,hX (l:=ss ++ [s]),jJ h,<- hX]
  exact dE _
 have e:i=ss.length:=by omega
 subst e
 rw[kG h,kE,hX,jK (jE _),kE]
 exact hg
theorem zlX (l:List Int) (hn:l.length<=1000000):SpecO PP 109 [.d (lI l)] 3 1 l.length (rowI l):=by
 refine zdh Tryz.func109 rfl (by kernel_rfl) rfl ?_
 refine fun b hb=>?_
 apply bY <;> intro h1
 ·have h0:=hb h1
  refine⟨rfl,rfl,h0.symm,fun i hi=>?_⟩
  omega
 refine⟨⟨.inr rfl,by unfold maxLen; omega,by show (0+l.length) * 8<=140737488355328; omega⟩,?_⟩
 refine⟨rfl,rfl,qD _,fun i hi j hj=>?_⟩
 exact dE _
theorem zou (l:List Int) (hn:l.length<=1000000):Spec PP 109 [.d (lI l)] [.d (lI l)]:=by
 refine sA Tryz.func109 ?_
 refine fun b hb=>?_
 apply bY <;> intro h1
 ·have h0:=hb h1
  exact⟨⟨_,_,_,_,rfl,h0.symm,.inl rfl⟩,trivial⟩
 refine⟨⟨.inr rfl,by unfold maxLen; omega,by show (0+l.length) * 8<=140737488355328; omega⟩,?_⟩
 exact⟨⟨_,_,_,_,rfl,qD _,.inr ⟨rfl,fun i hi j hj=>dE _⟩⟩,trivial⟩
def Sub {α:Type} (L:List α) (n:Nat) (L':List α):Prop:=∃ u,u.length=n/\u++L' <+: L
theorem Sub.pre {α:Type} {L L' L2:List α} {n:Nat} (h:Sub L n L') (hp:L2 <+: L'):Sub L n L2:=by
 obtain⟨u,h1,h2⟩:=h
 exact⟨u,h1,List.IsPrefix.trans ((List.prefix_append_right_inj _).2 hp) h2⟩
theorem Sub.snd {α:Type} {L L1 L2:List α} {n:Nat} (h:Sub L n (L1++L2)):Sub L (n+L1.length) L2:=by
 obtain⟨u,h1,h2⟩:=h
 exact⟨u++L1,by rw[jR,h1],by rw[List.append_assoc]; exact h2⟩
theorem Sub.get {α:Type} {L L':List α} {x:α} {n:Nat} (h:Sub L n (x :: L')):L[n]?=some x:=by
 obtain⟨u,rfl,t,h2⟩:=h
 rw[<- h2]
 simp
def prtK {α:Type} (ok:List α->Bool) (a:α) (r:List α) (ss:List (List α)) (k:Nat):List (List (List α)):=(List.range k).flatMap fun k=>prt ok r (ss.set k (ss.getD k [] ++ [a]))
theorem zdI {α:Type} (ok:List α->Bool) (a:α) (r:List α) (ss:List (List α)) (k:Nat):prtK ok a r ss (k+1)=prtK ok a r ss k++prt ok r (ss.set k (ss.getD k [] ++ [a])):=by
 unfold prtK
 rw[jad,List.flatMap_append]; simp
theorem zhN {α : Type} (ok : List α -> Bool) (a : α) (r : List α) (ss : List (List α)) : ∀ {k m : Nat}, k <= m -> prtK ok a r ss k <+: prtK ok a r ss m
  | k, 0, h => by obtain rfl : k = 0 := by omega
                  exact List.prefix_rfl
  | k, m + 1, h => by
    by_cases e : k = m + 1
    · subst e; exact List.prefix_rfl
    rw [zdI]
    exact List.IsPrefix.trans (zhN ok a r ss (by omega)) (List.prefix_append _ _)
theorem zlV {α:Type} (ok:List α->Bool) (a:α) (r:List α) (ss:List (List α)):prt ok (a :: r) ss=prtK ok a r ss ss.length++prt ok r (ss ++ [[a]]):=rfl
section
variable (ids:List Int) (pv:D) (ok:List Int->Bool)
abbrev enP (p:List (List Int)):List V1:=[.d (lII p)]
abbrev allP:List (List (List Int)):=prt ok ids []
abbrev posD:D:=capB [pv]
def putCaps:List Cap:=[.dat (capB [lI ids]),.own 4,.dat (posD pv),.own 3,.own 5]
def putObs (ss:List (List Int)) (l:Nat):List (Nat × Ob):=[(4,.box [.own 100]),(100,.row 22 1 ss.length (rowII ss)),(3,.box [.yl l]),(5,.box [.clo 108 (putCaps ids pv)])]
def putArgs (i:Nat) (_:Nat):List AV:=[.d (I i),.d (capB [lI ids]),.box 4 0,.d (posD pv),.box 3 0,.box 5 0]
end
theorem znL {d:Day} {ids:List Int} (h:askE d ids=0):DayOk d:=by
 unfold askE at h
 split at h
 ·rename_i h1; exact absurd h h1
 rename_i h1; exact zaB (jL h1)
def celR (d:Day) (ids:List Int):List Place × Int:=if askE d ids≠0 then ([],askE d ids) else (plsD d ids,0)
def sigR (d:Day):List Int × Int:=if dayE d≠0 then ([],dayE d) else (sigL d.R,0)
theorem zqt (d:Day) (ids:List Int) (hn:d.R.length<=1000000) (hi:ids.length<=1000000):Spec PP 37 [d.v,.d (lI ids)] [.d (lP (celR d ids).1),.d (.int .i64 (celR d ids).2)]:=by
 refine sA Tryz.func37 ?_
 refine cP (zku d ids hn hi) rfl rfl ?_
 unfold celR
 apply bY <;> intro h0
 ·rw[kH (by simpa using h0)]
  exact⟨⟨_,_,_,_,rfl,rfl,.inl rfl⟩,rtI rfl rfl,trivial⟩
 have h0:askE d ids=0:=by simpa using h0
 rw[kG (fun hh=>hh h0)]
 refine cR (zh4 (znL h0) ids hi) rfl rfl ?_
 exact⟨dE _,rtI rfl rfl,trivial⟩
theorem zeI (d:Day) (ids:List Int) (hn:d.R.length<=1000000) (hi:ids.length<=1000000):Spec PP 33 [d.v,.d (lI ids)] [B (decide (0<(celR d ids).1.length)),.d (.int .i64 (celR d ids).2)]:=by
 refine sA Tryz.func33 ?_
 refine cR (zqt d ids hn hi) rfl rfl ?_
 exact⟨rtB rfl (qO.2 (by omega)),rtI rfl rfl,trivial⟩
theorem zg5 (d:Day) (hn:d.R.length<=1000000):Spec PP 31 [d.v] [.d (lI (sigR d).1),.d (.int .i64 (sigR d).2)]:=by
 refine sA Tryz.func31 ?_
 refine cP (zcQ d hn) rfl rfl ?_
 unfold sigR
 apply bY <;> intro h0
 ·rw[kH (by simpa using h0)]
  exact⟨⟨_,_,_,_,rfl,rfl,.inl rfl⟩,rtI rfl rfl,trivial⟩
 have h0:dayE d=0:=by simpa using h0
 rw[kG (fun hh=>hh h0)]
 refine cR (zaD d hn) rfl rfl ?_
 exact⟨dE _,rtI rfl rfl,trivial⟩
def parE (d:Day) (a b:Int):Int:=if dayE d≠0 then dayE d else if partB [a,b] (sigL d.R)=false then 5 else if a=b then 1 else 0
theorem znr (d:Day) (a b:Int) (hn:d.R.length<=1000000):Spec PP 63 [d.v,N a,N b] [.d (.int .i64 (parE d a b))]:=by
 refine sA Tryz.func63 ?_
 refine cP (zcQ d hn) rfl rfl ?_
 unfold parE
 apply bY <;> intro h0
 ·rw[kH (by simpa using h0)]
  exact r1I rfl rfl
 have h0:dayE d=0:=by simpa using h0
 rw[kG (fun hh=>hh h0)]
 have hs:(sigL d.R).length<=1000000:=by rw[zbW]; exact jM (zck _) hn
 refine cR (zaD d hn) rfl rfl ?_
 refine fEq [15] (zeG [a,b] (sigL d.R) (by simp) hs) rfl ⟨⟨rfl,.inr ⟨rfl,fun i hi j hj=>?_⟩⟩,dE _,trivial⟩ rfl ?_
 ·match i,hi,j,hj with
  | 0,_,0,_=>exact⟨rfl,rfl⟩
  | 1,_,0,_=>exact⟨rfl,rfl⟩
 apply bY <;> intro h1
 ·rw[kH (by simpa using h1)]
  exact r1I rfl rfl
 rw[kG (by simpa using h1)]
 apply bY <;> intro h2
 ·rw[kH (by simpa using h2)]
  exact r1I rfl rfl
 rw[kG (by simpa using h2)]
 exact r1I rfl rfl
abbrev lPP (l:List (List (List Int))):D:=.slc 1 l.length fun i _=>lII (l.getD i [])
def bthB (a b:Int) (s:List Int):Bool:=s.contains a && s.contains b
def togB (a b:Int) (p:List (List Int)):Bool:=p.any (bthB a b)
theorem zg4 (a b:Int) (s:List Int) (hs:s.length<=1000000):Spec PP 129 [.d (lI s),.d (capB [I a]),.d (capB [I b])] [B (bthB a b s)]:=by
 refine sA Tryz.func129 ?_
 refine cP (zet s a hs) rfl rfl ?_
 apply bY <;> intro h1
 ·have h1:s.contains a=true:=h1
  refine cP (zet s b hs) rfl rfl ?_
  repeat first | apply sT | apply sF
  exact r1B rfl (by unfold bthB; rw[h1,kT])
 have h1:s.contains a=false:=h1
 repeat first | apply sT | apply sF
 exact r1B rfl (by unfold bthB; rw[h1,qF])
theorem zeF (p:List (List Int)) (a b:Int) (hp:p.length<=1000000) (hs:∀ s∈p,s.length<=1000000):Spec PP 65 [.d (lII p),N a,N b] [B (togB a b p)]:=by
 refine sA Tryz.func65 ?_
 refine fEq [4,5] (zlI p 129 (capB [I a]) (capB [I b]) (bthB a b) hp fun i hi=>zg4 a b _ (hs _ ?_)) rfl ⟨dE _,⟨rfl,rfl,zqU _ _ rfl rfl⟩,trivial⟩ rfl ?_
 ·rw[hX,hZ hi]; exact kQ hi
 exact r1B rfl rfl
structure Vdt where
  Ans:Int
  T:List (List Int)
  A:List (List Int)
  deriving Inhabited
abbrev Vdt.v (x:Vdt):V1:=.agg [I x.Ans,lII x.T,lII x.A]
def fstP (p:List (List Int)->Bool) (l:List (List (List Int))):List (List Int):=(l.find? p).getD []
def vdtR (l:List (List (List Int))) (a b:Int):Vdt:=
 ⟨if l.any (togB a b)=true then (if (l.any fun p=>!togB a b p)=true then 3 else 2) else 1,fstP (togB a b) l,fstP (fun p=>!togB a b p) l⟩
theorem zgm (p:List (List Int)->Bool) {l:List (List (List Int))} {i:Nat} (h:i<l.length):fstP p (l.take (i+1))=if (l.take i).any p=true then fstP p (l.take i) else if p (l.getD i [])=true then l.getD i [] else []:=by
 unfold fstP
 rw[zaL h [],List.find?_append]
 cases hf:(l.take i).find? p with
 | some x=>
  rw[kH (kL.2 ⟨x,List.mem_of_find?_eq_some hf,List.find?_some hf⟩)]; rfl
 | none=>
 rw[kG fun ha=>by
  obtain⟨x,h1,h2⟩:=kL.1 ha
  exact List.find?_eq_none.1 hf x h1 h2]
 rw[List.find?_cons]
 cases p (l.getD i []) <;> rfl
theorem ziu (p:List (List Int)->Bool) {l:List (List (List Int))} {i:Nat} (h:i<l.length):(l.take (i+1)).any p=((l.take i).any p || p (l.getD i [])):=by
 rw[zaL h [],List.any_append]; simp
theorem zkE {p:List (List Int)->Bool} {l:List (List (List Int))} (h:l.any p=false):fstP p l=[]:=by
 unfold fstP
 rw[List.find?_eq_none.2 fun x hx hp=>by have:=jai.1 h x hx; exact this hp]; rfl
theorem zbn {p:List (List Int)->Bool} {l:List (List (List Int))} {i:Nat} (h:i<l.length) (h2:(l.take i).any p=true \/ p (l.getD i [])=false):fstP p (l.take (i+1))=fstP p (l.take i):=by
 rw[zgm p h]
 by_cases h3:(l.take i).any p=true
 ·rw[kH h3]
 rw[kG h3,kG (by rw[h2.resolve_left h3]; decide),zkE (by simpa using h3)]
theorem zib {p:List (List Int)->Bool} {l:List (List (List Int))} {i:Nat} (h:i<l.length) (h2:(l.take i).any p=false) (h3:p (l.getD i [])=true):fstP p (l.take (i+1))=l.getD i []:=by
 rw[zgm p h,kG (by rw[h2]; decide),kH h3]
theorem zgd (l:List (List (List Int))) (a b:Int) (hl:l.length<=1000000) (hp:∀ p∈l,p.length<=1000000 /\ ∀ s∈p,s.length<=1000000):Spec PP 67 [.d (lPP l),N a,N b] [(vdtR l a b).v]:=by
 refine sA Tryz.func67 ?_
 refine lOf (σ:=Nat) (fun i=>([(1,.d (I a)),(2,.d (I b)),(6,.box 6 0),(7,.box 7 0),(8,.d (.bool ((l.take i).any (togB a b)))),(9,.d (.bool ((l.take i).any fun p=>!togB a b p))),(12,.d (lPP l)),(13,.d (I l.length)),(14,.d (I i))],
   [(6,.box (List.replicate 3 .any)),(7,.box ([I 0,lII (fstP (togB a b) (l.take i)),lII (fstP (fun p=>!togB a b p) (l.take i))].map AV.d))])) (fun i=>i<=l.length) (fun i=>l.length - i) 0
  ⟨rfl,⟨zav rfl rfl,⟨dE _,rfl,rfl,trivial⟩,trivial⟩,wq rfl⟩ (jF _) fun i hi=>?_
 have hi:i<=l.length:=hi
 apply bY <;> intro h1
 ·have h1:i<l.length:=by have:=dT h1; omega
  have hm:l.getD i []∈l:=by rw[hX,hZ h1]; exact kQ h1
  obtain⟨g1,g2⟩:=hp _ hm
  have a1:=ziu (togB a b) h1
  have a2:=ziu (fun p=>!togB a b p) h1
  refine⟨⟨rfl,by omega,by omega⟩,?_⟩
  refine cP (zeF (l.getD i []) a b g1 g2) rfl rfl ?_
  apply bY <;> intro h2
  ·have h2:togB a b (l.getD i [])=true:=h2
   have h2':(!togB a b (l.getD i []))=false:=by rw[h2]; rfl
   rw[h2,qJ] at a1
   rw[h2',jag] at a2
   apply bY <;> intro h3
   ·have h3:(l.take i).any (togB a b)=false:=by simpa using h3
    refine⟨i6,?_⟩
    refine⟨i+1,⟨rfl,⟨zav rfl rfl,?_,trivial⟩,?_⟩,h1,msr h1⟩
    ·rw[zib (p:=togB a b) h1 h3 h2,zbn (p:=fun p=>!togB a b p) h1 (.inr h2')]; exact⟨dE _,dE _,dE _,trivial⟩
    rw[a1,a2]; exact wq rfl
   have h3:(l.take i).any (togB a b)=true:=by simpa using h3
   refine⟨i6,?_⟩
   refine⟨i+1,⟨rfl,⟨zav rfl rfl,?_,trivial⟩,?_⟩,h1,msr h1⟩
   ·rw[zbn (p:=togB a b) h1 (.inl h3),zbn (p:=fun p=>!togB a b p) h1 (.inr h2')]; exact⟨dE _,dE _,dE _,trivial⟩
   rw[a1.trans h3.symm,a2]; exact wq rfl
  have h2:togB a b (l.getD i [])=false:=h2
  have h2':(!togB a b (l.getD i []))=true:=by rw[h2]; rfl
  rw[h2,jag] at a1
  rw[h2',qJ] at a2
  apply bY <;> intro h3
  ·have h3:((l.take i).any fun p=>!togB a b p)=false:=by simpa using h3
   refine⟨i6,?_⟩
   refine⟨i+1,⟨rfl,⟨zav rfl rfl,?_,trivial⟩,?_⟩,h1,msr h1⟩
   ·rw[zbn (p:=togB a b) h1 (.inr h2),zib (p:=fun p=>!togB a b p) h1 h3 h2']; exact⟨dE _,dE _,dE _,trivial⟩
   rw[a1,a2]; exact wq rfl
  have h3:((l.take i).any fun p=>!togB a b p)=true:=by simpa using h3
  refine⟨i6,?_⟩
  refine⟨i+1,⟨rfl,⟨zav rfl rfl,?_,trivial⟩,?_⟩,h1,msr h1⟩
  ·rw[zbn (p:=togB a b) h1 (.inr h2),zbn (p:=fun p=>!togB a b p) h1 (.inl h3)]; exact⟨dE _,dE _,dE _,trivial⟩
  rw[a1,a2.trans h3.symm]; exact wq rfl
 have h1:i=l.length:=by have:=dF h1; omega
 subst h1
 rw[jZ]
 unfold vdtR
 apply bY <;> intro h2
 ·have h2:l.any (togB a b)=true:=h2
  rw[kH h2]
  repeat first | apply sT | apply sF
  apply bY <;> intro h3
  ·have h3:(l.any fun p=>!togB a b p)=true:=h3
   rw[kH h3]
   exact⟨rtC (a:=6) rfl rfl rfl rfl rfl rfl (zaa _),trivial⟩
  have h3:(l.any fun p=>!togB a b p)=false:=h3
  rw[kG (by rw[h3]; decide)]
  refine sYe h2 ?_
  exact⟨rtC (a:=6) rfl rfl rfl rfl rfl rfl (zaa _),trivial⟩
 have h2:l.any (togB a b)=false:=h2
 rw[kG (by rw[h2]; decide)]
 repeat first | apply sT | apply sF
 refine sNo h2 ?_
 exact⟨rtC (a:=6) rfl rfl rfl rfl rfl rfl (zaa _),trivial⟩
theorem zjO {a b:List Int}:partB a b=true ↔ ∀ j,j<a.length->b.contains (a.getD j 0)=true:=by
 unfold partB
 rw[jC]
 constructor
 ·intro h j hj
  rw[hX,hZ hj]
  exact h _ (kQ hj)
 intro h x hx
 obtain⟨j,hj,rfl⟩:=kR hx
 have:=h j hj
 rw[hX,hZ hj] at this
 exact this
theorem zlF {l:List Rpt} {x:Int} (h:x∈sigK l):∃ r∈l,r.ID=x:=by
 unfold sigK at h
 obtain⟨r,hr,e⟩:=kK.1 h
 exact⟨r,(kX.1 hr).1,e⟩
theorem zlE {l:List Rpt} {x:Int}:x∈sigL l ↔ x∈sigK l:=(qY _ _).mem_iff
theorem zpj {d:Day} {ids:List Int} (h:askE d ids=0):(d.R.any fun r=>ids.contains r.ID)=true:=by
 unfold askE at h
 split at h
 ·rename_i h1; exact absurd h h1
 split at h
 ·cases h
 rename_i h2
 split at h
 ·cases h
 rename_i h3
 have hs:setB ids=true:=by simpa using h2
 have hp:partB ids (sigL d.R)=true:=by simpa using h3
 have hl:0<ids.length:=by unfold setB at hs; simp at hs; exact hs.2
 have h4:=zjO.1 hp 0 hl
 obtain⟨r,hr,e⟩:=zlF (zlE.1 (kD.1 h4))
 refine kL.2 ⟨r,hr,kD.2 ?_⟩
 rw[e,hX,hZ hl]
 exact kQ hl
theorem znY {d:Day} (h:DayOk d) {ids:List Int} (ha:(d.R.any fun r=>ids.contains r.ID)=true):tldL d ids=plsD d ids:=by
 unfold tldL plsD
 rw[zph h ha]
 by_cases g:(brnD d ids).To - (brnD d ids).From<=d.Long
 ·rw[kH g,kG (by omega)]
 rw[kG g,kH (by omega)]
def sml7 (d:Day):Prop:=d.s.c.M.G.length<=81/\d.s.c.T.length<=4/\d.s.c.Z.length<=8/\d.s.k.C.length<=4/\d.s.k.K.length<=12/\d.R.length<=40
instance (d:Day):Decidable (sml7 d):=by unfold sml7; infer_instance
def few7 (d:Day):Prop:=sml7 d/\(((sigK d.R).length<=5/\d.R.length<=4+(sigK d.R).length) \/ 7<(sigK d.R).length \/ 10+(sigK d.R).length<d.R.length)
instance (d:Day):Decidable (few7 d):=by unfold few7; infer_instance
theorem zpv (d:Day):Spec PP 10 [d.v] [B (decide (few7 d))]:=by
 refine sA Tryz.func10 ?_
 have no:¬ sml7 d->false=decide (few7 d):=fun h=>(jH fun hh=>h hh.1).symm
 apply bY <;> intro g0
 ·have g:(81:Int)<d.s.c.M.G.length:=dT g0
  repeat first | apply sT | apply sF
  exact r1B rfl (no fun hh=>by unfold sml7 at hh; omega)
 have g0:¬ 81<d.s.c.M.G.length:=by have:¬ (81:Int)<d.s.c.M.G.length:=dF g0; omega
 repeat first | apply sT | apply sF
 apply bY <;> intro g1
 ·have g:(4:Int)<d.s.c.T.length:=dT g1
  repeat first | apply sT | apply sF
  exact r1B rfl (no fun hh=>by unfold sml7 at hh; omega)
 have g1:¬ 4<d.s.c.T.length:=by have:¬ (4:Int)<d.s.c.T.length:=dF g1; omega
 repeat first | apply sT | apply sF
 apply bY <;> intro g2
 ·have g:(8:Int)<d.s.c.Z.length:=dT g2
  repeat first | apply sT | apply sF
  exact r1B rfl (no fun hh=>by unfold sml7 at hh; omega)
 have g2:¬ 8<d.s.c.Z.length:=by have:¬ (8:Int)<d.s.c.Z.length:=dF g2; omega
 repeat first | apply sT | apply sF
 apply bY <;> intro g3
 ·have g:(4:Int)<d.s.k.C.length:=dT g3
  repeat first | apply sT | apply sF
  exact r1B rfl (no fun hh=>by unfold sml7 at hh; omega)
 have g3:¬ 4<d.s.k.C.length:=by have:¬ (4:Int)<d.s.k.C.length:=dF g3; omega
 repeat first | apply sT | apply sF
 apply bY <;> intro g4
 ·have g:(12:Int)<d.s.k.K.length:=dT g4
  repeat first | apply sT | apply sF
  exact r1B rfl (no fun hh=>by unfold sml7 at hh; omega)
 have g4:¬ 12<d.s.k.K.length:=by have:¬ (12:Int)<d.s.k.K.length:=dF g4; omega
 repeat first | apply sT | apply sF
 apply bY <;> intro g5
 ·have g:(40:Int)<d.R.length:=dT g5
  repeat first | apply sT | apply sF
  exact r1B rfl (no fun hh=>by unfold sml7 at hh; omega)
 have g5:¬ 40<d.R.length:=by have:¬ (40:Int)<d.R.length:=dF g5; omega
 have hs:sml7 d:=⟨by omega,by omega,by omega,by omega,by omega,by omega⟩
 have e1:(sigL d.R).length=(sigK d.R).length:=zbW d.R
 refine cR (zpU d (by omega)) rfl rfl ?_
 have hk:=zck d.R
 have yes:(((sigK d.R).length<=5/\d.R.length<=4+(sigK d.R).length) \/ 7<(sigK d.R).length \/ 10+(sigK d.R).length<d.R.length)->true=decide (few7 d):=fun h=>(jG (⟨hs,h⟩:few7 d)).symm
 apply bY <;> intro h1
 ·have h1:(sigK d.R).length<=5:=by have:((sigL d.R).length:Int)<=5:=dT h1; omega
  refine⟨i6,?_⟩
  repeat first | apply sT | apply sF
  apply bY <;> intro h2
  ·have h2:d.R.length<=4+(sigK d.R).length:=by have:(d.R.length:Int) - (sigL d.R).length<=4:=dT h2; omega
   repeat first | apply sT | apply sF
   exact r1B rfl (yes (.inl ⟨h1,h2⟩))
  have h2:¬ d.R.length<=4+(sigK d.R).length:=by have:¬ (d.R.length:Int) - (sigL d.R).length<=4:=dF h2; omega
  repeat first | apply sT | apply sF
  refine sNo (jH (by omega)) ?_
  refine⟨i6,?_⟩
  repeat first | apply sT | apply sF
  refine r1B rfl ?_
  refine qO.2 ⟨fun h=>⟨hs,.inr (.inr (by omega))⟩,fun h=>?_⟩
  rcases h.2 with h3 | h3 | h3
  ·exact absurd h3.2 h2
  ·omega
  omega
 have h1:¬ (sigK d.R).length<=5:=by have:¬ ((sigL d.R).length:Int)<=5:=dF h1; omega
 repeat first | apply sT | apply sF
 apply bY <;> intro h2
 ·have h2:7<(sigK d.R).length:=by have:(7:Int)<(sigL d.R).length:=dT h2; omega
  repeat first | apply sT | apply sF
  exact r1B rfl (yes (.inr (.inl h2)))
 have h2:¬ 7<(sigK d.R).length:=by have:¬ (7:Int)<(sigL d.R).length:=dF h2; omega
 repeat first | apply sT | apply sF
 refine⟨i6,?_⟩
 repeat first | apply sT | apply sF
 refine r1B rfl ?_
 refine qO.2 ⟨fun h=>⟨hs,.inr (.inr (by omega))⟩,fun h=>?_⟩
 rcases h.2 with h3 | h3 | h3
 ·exact absurd h3.1 h1
 ·exact absurd h3 h2
 omega
def fitX (d:Day) (m:Nat):Bool:=decide (0<m) && decide (0<(tldL d (memb (sigL d.R) m)).length)
def badX (p:Nat->Bool) (m o:Nat):Bool:=(p m && p o && decide (m &&& o=m)) || (!p m && !p o && decide (o &&& m=o))
def lonK (p:Nat->Bool) (m o:Nat):Bool:=(List.range o).all fun x=>decide (x=0) || decide (x=m) || !badX p m x
def greX (p:Nat->Bool) (n m:Nat):Bool:=lonK p m n && p m
def leaX (p:Nat->Bool) (n m:Nat):Bool:=lonK p m n && !p m
def mst (ix:List Nat):Nat:=ix.foldl (fun a k=>max a (k+1)) 0
theorem zdm (ix:List Nat) (k:Nat):mst (ix ++ [k])=max (mst ix) (k+1):=by unfold mst; rw[jap]; rfl
def bit1 (o:List Nat) (i k:Nat):List Nat:=if k<o.length then o.set k (o.getD k 0+2 ^ i) else o ++ [2 ^ i]
def bitK (ix:List Nat) (i:Nat):List Nat:=(List.range i).foldl (fun o i=>bit1 o i (ix.getD i 0)) []
def bitX (ix:List Nat):List Nat:=bitK ix ix.length
theorem zcE (ix:List Nat) (i:Nat):bitK ix (i+1)=bit1 (bitK ix i) i (ix.getD i 0):=by
 unfold bitK
 rw[jad,jap]; rfl
def Rg (ix:List Nat):Prop:=∀ i,i<ix.length->ix.getD i 0<=mst (ix.take i)
theorem Rg.snoc {ix:List Nat} {k:Nat} (h:Rg ix) (hk:k<=mst ix):Rg (ix ++ [k]):=fun i hi=>by
 rw[jR,qE] at hi
 by_cases e:i<ix.length
 ·rw[hX,jJ e,<- hX,List.take_append_of_le_length (by omega)]
  exact h i e
 have e:i=ix.length:=by omega
 subst e
 rw[hX,jK (jE _),kE,List.take_append_of_le_length (jE _),jZ]
 exact hk
theorem zff {ix:List Nat} {i:Nat} (h:i<ix.length):mst (ix.take (i+1))=max (mst (ix.take i)) (ix.getD i 0+1):=by rw[zaL h 0,zdm]
theorem zcF {ix:List Nat} (h:Rg ix):∀ i,i<=ix.length->(bitK ix i).length=mst (ix.take i)
 | 0,_=>rfl
 | i+1,hi=>by
  have ih:=zcF h i (by omega)
  have:=h i (by omega)
  rw[zcE,zff (by omega)]
  unfold bit1
  split
  ·rw[qW]; omega
  rw[jR,qE]; omega
theorem zbk (ix:List Nat):∀ i,∀ x∈bitK ix i,0<x/\x<2 ^ i
 | 0,x,h=>by cases h
 | i+1,x,h=>by
  rw[zcE] at h
  have hp:2 ^ (i+1)=2 ^ i+2 ^ i:=by rw[Nat.pow_succ]; omega
  have h1:=Nat.two_pow_pos i
  unfold bit1 at h
  split at h
  ·rename_i hk
   rcases jaU h with h | rfl
   ·have:=zbk ix i x h; omega
   have:(bitK ix i).getD (ix.getD i 0) 0∈bitK ix i:=by rw[hX,hZ hk]; exact kQ hk
   have:=zbk ix i _ this; omega
  rcases k9.1 h with h | h
  ·have:=zbk ix i x h; omega
  rw[kO.1 h]; omega
theorem zmt {l:List Nat} {k j x:Nat} (hk:k<l.length):(l.set k x).getD j 0=if j=k then x else l.getD j 0:=by
 rw[hX,List.getElem?_set]
 by_cases e:j=k
 ·subst e; rw[kH rfl,kH hk,kH rfl]; rfl
 rw[kG (fun h=>e h.symm),kG e,<- hX]
def SpecN (P:Program) (f:FuncId) (args:List V1) (obs':List (Nat × Ob)) (i:Nat) (res:List V1):Prop:=
 Ent P f /\ ∀ (w:World) (ok:Nat->Prop) (vs:List Value),(∀ b,ok b->b<w.heap.size)->All2 (Rep1 w ok) args vs ->
  Calls P f vs.toArray w fun en w'=>∃ b γ' us,en = .returned (.tuple (.pointer (some ⟨b,0,none⟩) :: us).toArray)/\γ' i = .pointer (some ⟨b,0,none⟩)/\FrM w w' γ' []/\OwnS w' (okM w w' ok γ' γ' [] obs') γ' obs' /\
   (∀ i o b,look obs' i=some o->blk (γ' i)=some b->w.heap.size<=b)/\All2 (Rep1 w' (okM w w' ok γ' γ' [] obs')) res us
theorem SpecN.eqv {P:Program} {f:FuncId} {xs ys:List V1} {obs':List (Nat × Ob)} {i:Nat} {res:List V1} (h:SpecN P f ys obs' i res) (he:eqV1s xs ys):SpecN P f xs obs' i res:=
 ⟨h.1,fun w ok vs hok hv=>h.2 w ok vs hok (zbb he hv)⟩
def gwX (p:Nat->Bool) (r:Nat) (ix:List Nat):List (List Nat):=((rgs r (mst ix)).map (ix ++ ·)).filter fun iy=>(bitX iy).all p
theorem zhF (r m:Nat):rgs (r+1) m=(List.range (m+1)).flatMap fun k=>(rgs r (max m (k+1))).map (k :: ·):=by
 show _++_=_
 rw[jad,List.flatMap_append,List.flatMap_cons,List.flatMap_nil,ja1,Nat.max_eq_right (Nat.le_succ m)]
 congr 1
 exact zcy fun k hk=>by rw[Nat.max_eq_left (kJ.1 hk)]
theorem SpecM.nil {P:Program} {f:FuncId} {a b c:AV} {k:Nat} {g:Nat->Nat->D} {obs obs':List (Nat × Ob)} {pins:List Nat} {res:List V1} (h:SpecM P f [a,.d (.slc k 0 g),b,c] obs obs' pins res):SpecM P f [a,.nilsl,b,c] obs obs' pins res:=
 ⟨h.1,fun w ok γ vs h1 h2 h3=>h.2 w ok γ vs h1 h2 (by
  cases h3 with
  | cons x h3=>
  cases h3 with
  | cons y h3=>exact .cons x (.cons (.inl ⟨y,rfl⟩) h3))⟩
theorem zfX:∀ (r:Nat) (ix:List Nat),Rg ix -> ∀ iy∈rgs r (mst ix),Rg (ix++iy)/\iy.length=r
 | 0,ix,h,iy,hy=>by
  obtain rfl:=kO.1 hy
  rw[ja1]
  exact⟨h,rfl⟩
 | r+1,ix,h,iy,hy=>by
  rw[zhF] at hy
  obtain⟨k,hk,hy⟩:=List.mem_flatMap.1 hy
  obtain⟨iz,hz,rfl⟩:=kK.1 hy
  have hk:=kJ.1 hk
  rw[<- zdm] at hz
  have:=zfX r (ix ++ [k]) (h.snoc (by omega)) iz hz
  rw[List.append_assoc] at this
  exact⟨this.1,by rw[jaW,this.2]⟩
theorem zhG:Rg []:=fun i hi=>absurd hi (qI _)
theorem znw {p:Nat->Bool} {n:Nat} {ix:List Nat} (h:ix∈gwX p n []):Rg ix/\ix.length=n:=by
 obtain⟨h,_⟩:=kX.1 h
 obtain⟨iy,hy,rfl⟩:=kK.1 h
 exact zfX n [] zhG iy hy
def Rgs (l:List (List Nat)):Prop:=∀ x∈l,Rg x/\x.length<=7
theorem Rgs.get {l:List (List Nat)} (h:Rgs l) {i:Nat} (hi:i<l.length):Rg (l.getD i [])/\(l.getD i []).length<=7:=by
 rw[hX,hZ hi]; exact h _ (kQ hi)
def setX (ids:List Int) (ix:List Nat):List (List Int):=(bitX ix).map (memb ids)
theorem DayOk.nodL {d:Day} (h:DayOk d) (ids:List Int):((lstD d ids).map Rpt.ID).Nodup:=List.Nodup.sublist (List.Sublist.map _ (List.filter_sublist ..)) h.nodR
theorem DayOk.rpt {d:Day} (h:DayOk d) {r:Rpt} (hr:r∈d.R):rptE d.s r=0/\frmB r=true/\0<=r.Tick/\r.Tick<=1048576:=by
 obtain⟨i,hi,rfl⟩:=kR hr
 have e:d.R.getD i default=d.R[i]:=by rw[hX,hZ hi]; rfl
 have h1:=zo5 (h.rp i hi)
 have h2:=h.tick hi
 rw[e] at h1 h2
 exact⟨h1.2.1,h1.2.2,h2⟩
theorem zk9 (ids:List Int) (l:List Rpt):∀ i,i<=l.length->((brnS ids (l.take i)).1=true ↔ ∃ r∈l.take i,ids.contains r.ID=true)/\((brnS ids (l.take i)).1=true ->
  (∀ r∈l.take i,ids.contains r.ID=true->(brnS ids (l.take i)).2.1<=r.Tick/\r.Tick<=(brnS ids (l.take i)).2.2)/\(∃ r∈l.take i,ids.contains r.ID=true/\r.Tick=(brnS ids (l.take i)).2.1) /\ ∃ r∈l.take i,ids.contains r.ID=true/\r.Tick=(brnS ids (l.take i)).2.2)
 | 0,_=>by simp[brnS]
 | i+1,hi=>by
  obtain⟨a1,a2⟩:=zk9 ids l i (by omega)
  rw[zcD ids l (by omega),zaL (show i<l.length by omega) default]
  generalize brnS ids (l.take i)=x at a1 a2
  generalize l.getD i default=r
  generalize l.take i=t at a1 a2
  unfold brn1
  by_cases hc:ids.contains r.ID=true
  ·rw[kH hc]
   refine⟨⟨fun _=>⟨r,by simp,hc⟩,fun _=>rfl⟩,fun _=>?_⟩
   by_cases hx:x.1=true
   ·obtain⟨b1,⟨p,hp,hp1,hp2⟩,⟨q,hq,hq1,hq2⟩⟩:=a2 hx
    simp only[hx,jbe]
    refine⟨fun r' hr' hc'=>?_,?_,?_⟩
    ·rcases k9.1 hr' with h | h
     ·have:=b1 r' h hc'; omega
     rw[kO.1 h]; omega
    ·by_cases hm:x.2.1<=r.Tick
     ·exact⟨p,jaa _ hp,hp1,by rw[hp2]; omega⟩
     exact⟨r,by simp,hc,by omega⟩
    by_cases hm:r.Tick<=x.2.2
    ·exact⟨q,jaa _ hq,hq1,by rw[hq2]; omega⟩
    exact⟨r,by simp,hc,by omega⟩
   simp only[hx,jaz]
   refine⟨fun r' hr' hc'=>?_,⟨r,by simp,hc,by simp⟩,⟨r,by simp,hc,by simp⟩⟩
   rcases k9.1 hr' with h | h
   ·exact absurd (a1.2 ⟨r',h,hc'⟩) hx
   rw[kO.1 h]; simp
  rw[kG hc]
  refine⟨a1.trans ⟨fun⟨p,hp,hc'⟩=>⟨p,jaa _ hp,hc'⟩,fun⟨p,hp,hc'⟩=>?_⟩,fun hx=>?_⟩
  ·rcases k9.1 hp with h | h
   ·exact⟨p,h,hc'⟩
   rw[kO.1 h] at hc'; exact absurd hc' hc
  obtain⟨b1,⟨p,hp,hp1,hp2⟩,⟨q,hq,hq1,hq2⟩⟩:=a2 hx
  refine⟨fun r' hr' hc'=>?_,⟨p,jaa _ hp,hp1,hp2⟩,⟨q,jaa _ hq,hq1,hq2⟩⟩
  rcases k9.1 hr' with h | h
  ·exact b1 r' h hc'
  rw[kO.1 h] at hc'; exact absurd hc' hc
theorem zdu {d:Day} {ids:List Int} (hB:(d.R.any fun r=>ids.contains r.ID)=true) :
  (∀ r∈d.R,ids.contains r.ID=true->(brnD d ids).From<=r.Tick/\r.Tick<=(brnD d ids).To)/\(∃ r∈d.R,ids.contains r.ID=true/\r.Tick=(brnD d ids).From) /\ ∃ r∈d.R,ids.contains r.ID=true/\r.Tick=(brnD d ids).To:=by
 have:=zk9 ids d.R d.R.length (jE _)
 rw[jZ] at this
 obtain⟨r,hr,hc⟩:=kL.1 hB
 exact this.2 (this.1.2 ⟨r,hr,hc⟩)
theorem zhk {d:Day} (h:DayOk d) {ids:List Int} (hB:(d.R.any fun r=>ids.contains r.ID)=true):brnB (brnD d ids)=true:=by
 obtain⟨h1,⟨r,hr,hc,e⟩,⟨q,hq,hq1,hq2⟩⟩:=zdu hB
 have g1:=(h.rpt hr).2.2
 have g2:=(h.rpt hq).2.2
 have g3:=(h1 r hr hc).2
 unfold brnB
 rw[show (brnD d ids).Rise=d.Rise from rfl,h.rise,jG (by omega),jG (by omega),jG (by omega)]
 rfl
theorem zir {d:Day} {A B:List Int} (hs:∀ x,B.contains x=true->A.contains x=true) (hB:(d.R.any fun r=>B.contains r.ID)=true):(brnD d A).From<=(brnD d B).From/\(brnD d B).To<=(brnD d A).To:=by
 have hA:(d.R.any fun r=>A.contains r.ID)=true:=by
  obtain⟨r,hr,hc⟩:=kL.1 hB
  exact kL.2 ⟨r,hr,hs _ hc⟩
 obtain⟨h1,_,_⟩:=zdu hA
 obtain⟨_,⟨r,hr,hc,e⟩,⟨q,hq,hq1,hq2⟩⟩:=zdu hB
 have g1:=(h1 r hr (hs _ hc)).1
 have g2:=(h1 q hq (hs _ hq1)).2
 omega
theorem zkz {d:Day} (h:DayOk d) {b:Brn} (hb:brnB b=true) (ids:List Int):givE d.s b (lstD d ids)=0:=by
 have hn:=h.n
 have hl:=zhY d ids
 unfold givE
 rw[kG (fun hh=>hh h.s),kG (by rw[hb]; decide),kG (by omega)]
 refine zbg fun i hi=>?_
 have hm:(lstD d ids).getD i default=(lstD d ids)[i]:=by rw[hX,hZ hi]; rfl
 have hr:(lstD d ids)[i]∈d.R:=(kX.1 (kQ hi)).1
 unfold rp1E
 rw[kG (fun hh=>hh (by rw[hm]; exact (h.rpt hr).1)),kG fun hc=>?_]
 have hc:=kD.1 hc
 rw[hm] at hc
 obtain⟨x,hx,e⟩:=kK.1 hc
 obtain⟨j,hj,rfl⟩:=kR hx
 rw[jQ] at hj
 rw[List.getElem_take] at e
 have:=kW.1 (h.nodL ids) j i (by rw[kV]; omega) (by rw[kV]; exact hi) (by omega)
 simp only[List.getElem_map] at this
 exact this e
theorem zeB {d:Day} (h:DayOk d) {ids:List Int} (hB:(d.R.any fun r=>ids.contains r.ID)=true) :
  plsD d ids=if (brnD d ids).To - (brnD d ids).From<=d.Long then plsL d.s.c.M (metP ((lstD d ids).map (alwP d.s (brnD d ids)))) else []:=by
 have e:plcR d.s (brnD d ids) (lstD d ids)=(plsL d.s.c.M (metP ((lstD d ids).map (alwP d.s (brnD d ids)))),0):=by
  unfold plcR
  rw[kG (fun hh=>hh (zkz h (zhk h hB) ids))]
 unfold plsD
 rw[e]
theorem zhD {s:Svc} {b b':Brn} {r:Rpt} {p:Place} (hr:b.Rise=b'.Rise) (hw:within r.Tick b.From b.To=true->within r.Tick b'.From b'.To=true) (h:seenB s b r p=true):seenB s b' r p=true:=by
 unfold seenB lookB at *
 simp only[jP] at *
 rw[<- hr]
 exact⟨h.1,h.2.1,hw h.2.2⟩
theorem zmZ {d:Day} (h:DayOk d) {A B:List Int} (hs:∀ x,B.contains x=true->A.contains x=true) (hB:(d.R.any fun r=>B.contains r.ID)=true) {r:Rpt} (hr:r∈lstD d B) {n:Nat} (ha:alwP d.s (brnD d A) r n=true):alwP d.s (brnD d B) r n=true:=by
 obtain⟨m1,m2⟩:=zir hs hB
 obtain⟨hr1,hr2⟩:=kX.1 hr
 unfold alwP alwK at *
 simp only[jP] at *
 refine⟨ha.1,?_⟩
 have ha:=ha.2
 unfold allB at *
 by_cases hk:r.Kind=1
 ·rw[kH hk] at *
  refine zhD (b:=brnD d A) (b':=brnD d B) rfl (fun _=>?_) ha
  have hc:B.contains r.ID=true:=by
   unfold offB at hr2
   simpa [hk] using hr2
  have:=(zdu hB).1 r hr1 hc
  unfold within
  simpa using this
 rw[kG hk] at *
 rw[jY] at *
 rw[qN] at *
 intro hh
 refine ha (zhD (b:=brnD d B) (b':=brnD d A) rfl (fun hw=>?_) hh)
 unfold within at *
 simp only[jP,kA] at *
 omega
theorem zdk {m:Mp} {P:Nat->Bool} {p:Place}:p∈plsL m P ↔ ∃ n,n<m.w * m.h/\P n=true/\plc m n=p:=by
 unfold plsL plsK
 rw[kK]
 constructor
 ·rintro⟨n,hn,e⟩
  rw[kX,kJ] at hn
  exact⟨n,hn.1,hn.2,e⟩
 rintro⟨n,h1,h2,e⟩
 exact⟨n,kX.2 ⟨kJ.2 h1,h2⟩,e⟩
theorem zjJ {d:Day} (h:DayOk d) {A B:List Int} (hs:∀ x,B.contains x=true->A.contains x=true) (hB:(d.R.any fun r=>B.contains r.ID)=true) {p:Place} (hp:p∈plsD d A):p∈plsD d B:=by
 have hA:(d.R.any fun r=>A.contains r.ID)=true:=by
  obtain⟨r,hr,hc⟩:=kL.1 hB
  exact kL.2 ⟨r,hr,hs _ hc⟩
 obtain⟨m1,m2⟩:=zir hs hB
 rw[zeB h hA] at hp
 rw[zeB h hB]
 split at hp
 ·rename_i g
  rw[kH (by omega)]
  obtain⟨n,h1,h2,e⟩:=zdk.1 hp
  refine zdk.2 ⟨n,h1,?_,e⟩
  unfold metP at *
  rw[jC] at *
  intro P hP
  obtain⟨r,hr,rfl⟩:=kK.1 hP
  have hr':r∈lstD d A:=by
   obtain⟨g1,g2⟩:=kX.1 hr
   refine kX.2 ⟨g1,?_⟩
   unfold offB at *
   cases e1:A.contains r.ID with
   | true=>simp
   | false=>
   have:B.contains r.ID=false:=by rw[qN]; intro hh; rw[hs _ hh] at e1; cases e1
   rw[this] at g2
   exact g2
  exact zmZ h hs hB hr (h2 _ (kK.2 ⟨r,hr',rfl⟩))
 cases hp
theorem zqI {d:Day} (h:few7 d):d.R.length<=40:=h.1.2.2.2.2.2
def exR:List Rpt:=[⟨1,1,1,1,100,450,0,10⟩,⟨2,1,2,2,110,1350,0,10⟩,⟨3,1,1,1,300,450,0,10⟩]
def exS:Svc:=⟨⟨⟨9,9,List.replicate 81 0⟩,[⟨1,⟨0,0⟩,0⟩,⟨2,⟨8,0⟩,0⟩],[]⟩,⟨[⟨1,⟨0,0⟩,0,1000,0,0,0⟩,⟨2,⟨8,0⟩,0,1000,0,0,0⟩],[]⟩⟩
def exD:Day:=⟨exS,0,60,exR⟩
theorem grdE (p:Place):grd exS.c.M p=0:=by
 show (List.replicate 81 (0:Int)).getD _ 0=0
 rw[hX,List.getElem?_replicate]
 split <;> rfl
theorem valE:validM exS.c.M=true:=by unfold validM; decide +kernel
theorem zpK (id:Int) (h:id=1 \/ id=2) (p:Place) (hp:onM exS.c.M p=true) (t:Int) (ht:within t 0 1048576=true):seesE exS.c id p 0 t=(true,0):=by
 have e0:ctryE exS.c=0:=by unfold ctryE; rw[kG (by rw[valE]; decide +kernel)]; unfold towE hzE onM; decide +kernel
 have e1:(towG exS.c.T id)=(if id=1 then ⟨1,⟨0,0⟩,0⟩ else ⟨2,⟨8,0⟩,0⟩,true):=by rcases h with rfl | rfl <;> decide +kernel
 have e2:farZ t exS.c.Z=100:=rfl
 have op:=zai.1 hp
 have ox:0<=p.X/\p.X<9:=op.1
 have oy:0<=p.Y/\p.Y<9:=op.2
 unfold seesE
 have e1':(towG exS.c.T id).2=true:=by rcases h with rfl | rfl <;> decide +kernel
 rw[kG (fun hh=>hh e0),kG (by rw[e1']; decide +kernel),kG (by rw[hp,ht]; decide +kernel),e2]
 have e3:seesB exS.c (towG exS.c.T id).1 p 0 100=true:=by
  unfold seesB
  have on1:onM exS.c.M ⟨0,0⟩=true:=by unfold onM; decide +kernel
  have on2:onM exS.c.M ⟨8,0⟩=true:=by unfold onM; decide +kernel
  have m1:=mulB (a:=p.X) (b:=p.X) (x:=20) (y:=20) (by omega) (by omega)
  have m2:=mulB (a:=p.Y) (b:=p.Y) (x:=20) (y:=20) (by omega) (by omega)
  have m3:=mulB (a:=8 - p.X) (b:=8 - p.X) (x:=20) (y:=20) (by omega) (by omega)
  rw[e1]
  rcases h with rfl | rfl
  ·show (nearB ⟨0,0⟩ p 100 && freeB exS.c.M ⟨0,0⟩ 0 p 0)=true
   rw[zgn grdE valE on1 hp (by decide +kernel) (by decide +kernel),jal]
   unfold nearB
   refine jG ?_
   show (0 - p.X) * (0 - p.X)+(0 - p.Y) * (0 - p.Y)<=100 * 100
   have a1:(0 - p.X) * (0 - p.X)=p.X * p.X:=by rw[Int.zero_sub,Int.neg_mul_neg]
   have a2:(0 - p.Y) * (0 - p.Y)=p.Y * p.Y:=by rw[Int.zero_sub,Int.neg_mul_neg]
   omega
  show (nearB ⟨8,0⟩ p 100 && freeB exS.c.M ⟨8,0⟩ 0 p 0)=true
  rw[zgn grdE valE on2 hp (by decide +kernel) (by decide +kernel),jal]
  unfold nearB
  refine jG ?_
  show (8 - p.X) * (8 - p.X)+(0 - p.Y) * (0 - p.Y)<=100 * 100
  have a2:(0 - p.Y) * (0 - p.Y)=p.Y * p.Y:=by rw[Int.zero_sub,Int.neg_mul_neg]
  omega
 rw[e3]
theorem thsE (x:Cir):thsL exS.k x=[thg0 x]:=by
 show [thg0 x].mergeSort _=[thg0 x]
 exact List.mergeSort_singleton _
theorem zerE (id t:Int) (h:id=1 \/ id=2) (ht:within t 0 1000=true):zerR exS.k id t=(⟨0,0⟩,0):=by
 have bt:=zab.1 ht
 have e0:cirsE exS.k=0:=by decide +kernel
 have e1:cirI exS.k id=if id=1 then 0 else 1:=by rcases h with rfl | rfl <;> decide +kernel
 have go:∀ x:Cir,x.Drift=0->x.Lo=0->x.Hi=0->knw exS.k id [t]=(x,[thg0 x],0)->zerR exS.k id t=(⟨0,0⟩,0):=fun x d1 d2 d3 hk=>by
  have ec:clsL x [thg0 x]=[]:=by
   unfold clsL clsU clsI
   have en:noneB (thg0 x)=false:=by unfold noneB; exact jH (by show ¬ x.Hi<x.Lo; omega)
   simp[jad,en,clsJ]
  have ea:atR exS.k id t=(x,[thg0 x],0):=by
   unfold atR; rw[hk]; dsimp only; rw[kH rfl]; unfold agrE; rw[kH ec]
  have ed:drf x x.From t=0:=by unfold drf; rw[d1]; simp
  unfold zerR
  rw[ea,kG (fun hh=>hh rfl)]
  dsimp only
  unfold zer
  simp only[jbg,List.foldl_nil,zStep,thg0,ed,d2,d3]
  simp
 rcases h with rfl | rfl
 ·refine go ⟨1,⟨0,0⟩,0,1000,0,0,0⟩ rfl rfl rfl ?_
  unfold knw
  rw[kG (fun hh=>hh e0),e1,kG (by decide +kernel),kH (by show (within t 0 1000 && true)=true; rw[ht]; rfl),thsE]; rfl
 refine go ⟨2,⟨8,0⟩,0,1000,0,0,0⟩ rfl rfl rfl ?_
 unfold knw
 rw[kG (fun hh=>hh e0),e1,kG (by decide +kernel),kH (by show (within t 0 1000 && true)=true; rw[ht]; rfl),thsE]; rfl
theorem wdgE (r:Rpt) (hc:r.C=1 \/ r.C=2) (ht:within r.Tick 0 1000=true) (hs:within r.From 0 3599=true) (hl:r.Slack=10):wdgR exS.k (rdgO r)=(wdg (r.From - 10) 20,0):=by
 have e1:cirsE exS.k=0:=by decide +kernel
 have e2:rdgE exS.k (rdgO r)=0:=by
  unfold rdgE rdgO
  rw[kG (fun hh=>hh e1)]
  rw[kG]
  dsimp only
  rw[hs,hl]; decide +kernel
 have e3:zerR exS.k (rdgO r).C (rdgO r).Tick=(⟨0,0⟩,0):=zerE r.C r.Tick hc ht
 unfold wdgR
 rw[kG (fun hh=>hh e2),e3,kG (fun hh=>hh rfl)]
 show (if (900:Int)<2 * r.Slack+0 - 0 then _ else (wdg (r.From - r.Slack - 0) (2 * r.Slack+0 - 0),(0:Int)))=_
 rw[hl,kG (by decide +kernel)]
 congr 2
 omega
theorem blkE (r:Rpt) (hc:r.C=1 \/ r.C=2) (ht:within r.Tick 0 1000=true) (h:¬ (r.To - r.From) % 3600<2 * r.Slack+0 - 0):blkR exS r=(⟨(r.From+r.Slack) % 3600,(r.To - r.Slack) % 3600⟩,true):=by
 have e3:=zerE r.C r.Tick hc ht
 unfold blkR
 rw[e3]
 dsimp only
 rw[kG h]
 simp
def lieE (w:Wdg) (a:Place) (n:Nat):Bool:=decide (n<81) && liesW w a ⟨((n % 9:Nat):Int),((n / 9:Nat):Int)⟩
def notE (w:Wdg) (a:Place) (n:Nat):Bool:=decide (n<81) && !liesW w a ⟨((n % 9:Nat):Int),((n / 9:Nat):Int)⟩
theorem plcE {n:Nat} (h:n<81):onM exS.c.M (plc exS.c.M n)=true:=zng valE h
theorem zkb (b:Brn) (hr:b.Rise=0) (r:Rpt) (hw:r.Tower=1 \/ r.Tower=2) (ht:within r.Tick 0 1048576=true) {n:Nat} (h:n<81):lookB exS b r (plc exS.c.M n)=within r.Tick b.From b.To:=by
 unfold lookB
 rw[hr,zpK r.Tower hw _ (plcE h) r.Tick ht]
 show (true && true && within r.Tick b.From b.To)=_
 cases within r.Tick b.From b.To <;> rfl
theorem zlm (b:Brn) (hr:b.Rise=0) (r:Rpt) (w:Wdg) (a:Place) (hk:r.Kind=1) (hw:r.Tower=1 \/ r.Tower=2) (ht:within r.Tick 0 1048576=true) (hb:within r.Tick b.From b.To=true) (hs:secR exS r=(w,true)) (ha:(towG exS.c.T r.Tower).1.At=a):alwP exS b r=lieE w a:=by
 funext n
 unfold alwP alwK lieE
 show (decide (n<81) && _)=_
 by_cases h:n<81
 ·refine jI (decide (n<81) && ·) ?_
  unfold allB seenB
  rw[kH hk,hs,ha,zkb b hr r hw ht h,hb,jal]; rfl
 rw[jH h]; rfl
theorem zq4 (b:Brn) (hr:b.Rise=0) (r:Rpt) (w:Wdg) (a:Place) (hk:r.Kind≠1) (hw:r.Tower=1 \/ r.Tower=2) (ht:within r.Tick 0 1048576=true) (hb:within r.Tick b.From b.To=true) (hs:secR exS r=(w,true)) (ha:(towG exS.c.T r.Tower).1.At=a):alwP exS b r=notE w a:=by
 funext n
 unfold alwP alwK notE
 show (decide (n<81) && _)=_
 by_cases h:n<81
 ·refine jI (decide (n<81) && ·) ?_
  unfold allB seenB
  rw[kG hk,hs,ha,zkb b hr r hw ht h,hb,jal]; rfl
 rw[jH h]; rfl
def xq1:Rpt:=⟨1,1,1,1,100,450,0,10⟩
def xq2:Rpt:=⟨2,1,2,2,110,1350,0,10⟩
def xq3:Rpt:=⟨3,1,1,1,300,450,0,10⟩
def xq4:Rpt:=⟨4,2,1,1,105,400,500,10⟩
def exD4:Day:=⟨exS,0,60,[xq1,xq2,xq3,xq4]⟩
theorem svcEx:svcE exS=0:=by
 have e0:ctryE exS.c=0:=by unfold ctryE; rw[kG (by rw[valE]; decide +kernel)]; unfold towE hzE onM; decide +kernel
 have e1:cirsE exS.k=0:=by decide +kernel
 unfold svcE
 rw[kG (fun hh=>hh e0),kG (fun hh=>hh e1)]
 decide +kernel
theorem zlJ (r:Rpt) (hf:frmB r=true) (hc:r.C=1 \/ r.C=2) (ht:within r.Tick 0 1000=true) (hw:r.Tower=r.C) (hk:r.Kind=1->within r.From 0 3599=true/\r.Slack=10):rptE exS r=0:=by
 have e3:=zerE r.C r.Tick hc ht
 unfold rptE
 rw[kG (by rw[hf]; decide +kernel),hw,e3]
 have e4:¬ ((towG exS.c.T r.C).2=false \/ cirI exS.k r.C<0):=by rcases hc with e | e <;> rw[e] <;> decide +kernel
 have e5:(exS.k.C.getD (cirI exS.k r.C).toNat default).At=(towG exS.c.T r.C).1.At:=by rcases hc with e | e <;> rw[e] <;> decide +kernel
 rw[kG e4,kG (fun hh=>hh e5),kG (fun hh=>hh rfl)]
 split
 ·rename_i h1
  rw[wdgE r hc ht (hk h1).1 (hk h1).2]
 rfl
theorem sx1:secR exS xq1=(⟨440,460⟩,true):=by
 unfold secR
 rw[kH (by rfl),wdgE xq1 (.inl rfl) (by decide +kernel) (by decide +kernel) rfl]; decide +kernel
theorem sx2:secR exS xq2=(⟨1340,1360⟩,true):=by
 unfold secR
 rw[kH (by rfl),wdgE xq2 (.inr rfl) (by decide +kernel) (by decide +kernel) rfl]; decide +kernel
theorem sx3:secR exS xq3=(⟨440,460⟩,true):=by
 unfold secR
 rw[kH (by rfl),wdgE xq3 (.inl rfl) (by decide +kernel) (by decide +kernel) rfl]; decide +kernel
theorem sx4:secR exS xq4=(⟨410,490⟩,true):=by
 unfold secR
 rw[kG (by decide +kernel),blkE xq4 (.inl rfl) (by decide +kernel) (by decide +kernel)]; decide +kernel
theorem rx1:rptE exS xq1=0:=zlJ xq1 (by decide +kernel) (.inl rfl) (by decide +kernel) rfl fun _=>⟨by decide +kernel,rfl⟩
theorem rx2:rptE exS xq2=0:=zlJ xq2 (by decide +kernel) (.inr rfl) (by decide +kernel) rfl fun _=>⟨by decide +kernel,rfl⟩
theorem rx3:rptE exS xq3=0:=zlJ xq3 (by decide +kernel) (.inl rfl) (by decide +kernel) rfl fun _=>⟨by decide +kernel,rfl⟩
theorem rx4:rptE exS xq4=0:=zlJ xq4 (by decide +kernel) (.inl rfl) (by decide +kernel) rfl fun h=>absurd h (by decide +kernel)
abbrev B1:Nat->Bool:=lieE ⟨440,460⟩ ⟨0,0⟩
abbrev B2:Nat->Bool:=lieE ⟨1340,1360⟩ ⟨8,0⟩
abbrev B4:Nat->Bool:=notE ⟨410,490⟩ ⟨0,0⟩
def fullE (n:Nat):Bool:=decide (n<81)
theorem zq3 (b:Brn) (hr:b.Rise=0) (r:Rpt) (hk:r.Kind≠1) (hw:r.Tower=1 \/ r.Tower=2) (ht:within r.Tick 0 1048576=true) (hb:within r.Tick b.From b.To=false):alwP exS b r=fullE:=by
 funext n
 unfold alwP alwK fullE
 show (decide (n<81) && _)=_
 by_cases h:n<81
 ·rw[jG h,kT]
  unfold allB seenB
  rw[kG hk]
  show (!(_ && lookB exS b r (plc exS.c.M n)))=true
  rw[zkb b hr r hw ht h,hb,wD]; rfl
 rw[jH h]; rfl
theorem a1 (b:Brn) (hr:b.Rise=0) (hb:within 100 b.From b.To=true):alwP exS b xq1=B1:=zlm b hr xq1 _ _ rfl (.inl rfl) (by decide +kernel) hb sx1 (by decide +kernel)
theorem a2 (b:Brn) (hr:b.Rise=0) (hb:within 110 b.From b.To=true):alwP exS b xq2=B2:=zlm b hr xq2 _ _ rfl (.inr rfl) (by decide +kernel) hb sx2 (by decide +kernel)
theorem a3 (b:Brn) (hr:b.Rise=0) (hb:within 300 b.From b.To=true):alwP exS b xq3=B1:=zlm b hr xq3 _ _ rfl (.inl rfl) (by decide +kernel) hb sx3 (by decide +kernel)
theorem a4y (b:Brn) (hr:b.Rise=0) (hb:within 105 b.From b.To=true):alwP exS b xq4=B4:=zq4 b hr xq4 _ _ (by decide +kernel) (.inl rfl) (by decide +kernel) hb sx4 (by decide +kernel)
theorem a4n (b:Brn) (hr:b.Rise=0) (hb:within 105 b.From b.To=false):alwP exS b xq4=fullE:=zq3 b hr xq4 (by decide +kernel) (.inl rfl) (by decide +kernel) hb
theorem zqy (b:Brn) (hb:brnB b=true) (l:List Rpt) (h24:¬ 24<l.length) (h:∀ r∈l,rptE exS r=0) (hd:(l.map Rpt.ID).Nodup):givE exS b l=0:=by
 unfold givE
 rw[kG (fun hh=>hh svcEx),kG (by rw[hb]; decide),kG h24]
 refine zbg fun i hi=>?_
 have hm:l.getD i default=l[i]:=by rw[hX,hZ hi]; rfl
 unfold rp1E
 rw[kG (fun hh=>hh (by rw[hm]; exact h _ (kQ hi))),kG fun hc=>?_]
 have hc:=kD.1 hc
 rw[hm] at hc
 obtain⟨x,hx,e⟩:=kK.1 hc
 obtain⟨j,hj,rfl⟩:=kR hx
 rw[jQ] at hj
 rw[List.getElem_take] at e
 have:=kW.1 hd j i (by rw[kV]; omega) (by rw[kV]; exact hi) (by omega)
 simp only[List.getElem_map] at this
 exact this e
theorem zp2 {b:Brn} {l:List Rpt} {As:List (Nat->Bool)} (hb:brnB b=true) (h24:¬ 24<l.length) (h:∀ r∈l,rptE exS r=0) (hd:(l.map Rpt.ID).Nodup) (ha:l.map (alwP exS b)=As):(plcR exS b l).1=plsL exS.c.M (metP As):=by
 unfold plcR
 rw[kG (fun hh=>hh (zqy b hb l h24 h hd)),ha]
theorem sig3:sigL exR=[1,2,3]:=by
 unfold sigL
 rw[List.mergeSort_of_pairwise (by decide +kernel)]
 decide +kernel
theorem sig4:sigL [xq1,xq2,xq3,xq4]=[1,2,3]:=by
 unfold sigL
 rw[List.mergeSort_of_pairwise (by decide +kernel)]
 decide +kernel
theorem zbD {d:Day} {ids:List Int} {b:Brn} {l:List Rpt} {As:List (Nat->Bool)} {L:List Place} (hs:d.s=exS) (hl:d.Long=60) (eb:brnD d ids=b) (el:lstD d ids=l) (sh:b.To - b.From<=60) (hb:brnB b=true) (h24:¬ 24<l.length) (h:∀ r∈l,rptE exS r=0) (hd:(l.map Rpt.ID).Nodup) (ha:l.map (alwP exS b)=As) (hL:plsL exS.c.M (metP As)=L):plsD d ids=L:=by
 unfold plsD
 rw[eb,el,hs,hl,kH sh,zp2 hb h24 h hd ha,hL]
theorem zcN {d:Day} {ids:List Int} {b:Brn} (hl:d.Long=60) (eb:brnD d ids=b) (sh:¬ b.To - b.From<=60):plsD d ids=[]:=by
 unfold plsD
 rw[eb,hl,kG sh]
theorem zqj (m:Nat):memb [1,2,3] m=memb [1,2,3] (m % 8):=by
 unfold memb membA
 congr 1
 refine jbq fun i hi=>?_
 have hi:i<3:=kJ.1 hi
 show m.testBit i=(m % 2 ^ 3).testBit i
 rw[Nat.testBit_mod_two_pow,jG hi,kT]
abbrev L1:List Place:=[⟨1,1⟩,⟨2,2⟩,⟨3,3⟩,⟨4,4⟩,⟨5,5⟩,⟨6,6⟩,⟨7,7⟩,⟨8,8⟩]
abbrev L2:List Place:=[⟨7,1⟩,⟨6,2⟩,⟨5,3⟩,⟨4,4⟩,⟨3,5⟩,⟨2,6⟩,⟨1,7⟩,⟨0,8⟩]
theorem m1:plsL exS.c.M (metP [B1])=L1:=by decide +kernel
theorem m2:plsL exS.c.M (metP [B2])=L2:=by decide +kernel
theorem m12:plsL exS.c.M (metP [B1,B2])=[⟨4,4⟩]:=by decide +kernel
theorem m1f:plsL exS.c.M (metP [B1,fullE])=L1:=by decide +kernel
theorem m2f:plsL exS.c.M (metP [B2,fullE])=L2:=by decide +kernel
theorem m124:plsL exS.c.M (metP [B1,B2,B4])=[]:=by decide +kernel
theorem c1:plsD exD [1]=L1:=zbD (b:=⟨100,100,0⟩) (l:=[xq1]) (As:=[B1]) rfl rfl (by decide +kernel) (by decide +kernel) (by decide +kernel) (by decide +kernel) (by decide +kernel) (fun r hr=>by rw[kO.1 hr]; exact rx1) (by decide +kernel) (by
  simp only[kY,jaN]
  rw[a1 _ rfl (by decide +kernel)]) m1
theorem c2:plsD exD [2]=L2:=zbD (b:=⟨110,110,0⟩) (l:=[xq2]) (As:=[B2]) rfl rfl (by decide +kernel) (by decide +kernel) (by decide +kernel) (by decide +kernel) (by decide +kernel) (fun r hr=>by rw[kO.1 hr]; exact rx2) (by decide +kernel) (by
  simp only[kY,jaN]
  rw[a2 _ rfl (by decide +kernel)]) m2
theorem c3:plsD exD [1,2]=[⟨4,4⟩]:=zbD (b:=⟨100,110,0⟩) (l:=[xq1,xq2]) (As:=[B1,B2]) rfl rfl (by decide +kernel) (by decide +kernel) (by decide +kernel) (by decide +kernel) (by decide +kernel) (fun r hr=>by
  simp only[qB,jaf,jbc] at hr
  rcases hr with rfl | rfl
  ·exact rx1
  ·exact rx2
  ) (by decide +kernel) (by
  simp only[kY,jaN]
  rw[a1 _ rfl (by decide +kernel),a2 _ rfl (by decide +kernel)]) m12
theorem c4:plsD exD [3]=L1:=zbD (b:=⟨300,300,0⟩) (l:=[xq3]) (As:=[B1]) rfl rfl (by decide +kernel) (by decide +kernel) (by decide +kernel) (by decide +kernel) (by decide +kernel) (fun r hr=>by rw[kO.1 hr]; exact rx3) (by decide +kernel) (by
  simp only[kY,jaN]
  rw[a3 _ rfl (by decide +kernel)]) m1
theorem e1:plsD exD4 [1]=L1:=zbD (b:=⟨100,100,0⟩) (l:=[xq1,xq4]) (As:=[B1,fullE]) rfl rfl (by decide +kernel) (by decide +kernel) (by decide +kernel) (by decide +kernel) (by decide +kernel) (fun r hr=>by
  simp only[qB,jaf,jbc] at hr
  rcases hr with rfl | rfl
  ·exact rx1
  ·exact rx4
  ) (by decide +kernel) (by
  simp only[kY,jaN]
  rw[a1 _ rfl (by decide +kernel),a4n _ rfl (by decide +kernel)]) m1f
theorem e2:plsD exD4 [2]=L2:=zbD (b:=⟨110,110,0⟩) (l:=[xq2,xq4]) (As:=[B2,fullE]) rfl rfl (by decide +kernel) (by decide +kernel) (by decide +kernel) (by decide +kernel) (by decide +kernel) (fun r hr=>by
  simp only[qB,jaf,jbc] at hr
  rcases hr with rfl | rfl
  ·exact rx2
  ·exact rx4
  ) (by decide +kernel) (by
  simp only[kY,jaN]
  rw[a2 _ rfl (by decide +kernel),a4n _ rfl (by decide +kernel)]) m2f
theorem e3:plsD exD4 [1,2]=[]:=zbD (b:=⟨100,110,0⟩) (l:=[xq1,xq2,xq4]) (As:=[B1,B2,B4]) rfl rfl (by decide +kernel) (by decide +kernel) (by decide +kernel) (by decide +kernel) (by decide +kernel) (fun r hr=>by
  simp only[qB,jaf,jbc] at hr
  rcases hr with rfl | rfl | rfl
  ·exact rx1
  ·exact rx2
  ·exact rx4
  ) (by decide +kernel) (by
  simp only[kY,jaN]
  rw[a1 _ rfl (by decide +kernel),a2 _ rfl (by decide +kernel),a4y _ rfl (by decide +kernel)]) m124
theorem e4:plsD exD4 [3]=L1:=zbD (b:=⟨300,300,0⟩) (l:=[xq3,xq4]) (As:=[B1,fullE]) rfl rfl (by decide +kernel) (by decide +kernel) (by decide +kernel) (by decide +kernel) (by decide +kernel) (fun r hr=>by
  simp only[qB,jaf,jbc] at hr
  rcases hr with rfl | rfl
  ·exact rx3
  ·exact rx4
  ) (by decide +kernel) (by
  simp only[kY,jaN]
  rw[a3 _ rfl (by decide +kernel),a4n _ rfl (by decide +kernel)]) m1f
theorem c5:plsD exD [1,3]=[]:=zcN (b:=⟨100,300,0⟩) rfl (by decide +kernel) (by decide +kernel)
theorem c6:plsD exD [2,3]=[]:=zcN (b:=⟨110,300,0⟩) rfl (by decide +kernel) (by decide +kernel)
theorem c7:plsD exD [1,2,3]=[]:=zcN (b:=⟨100,300,0⟩) rfl (by decide +kernel) (by decide +kernel)
theorem e5:plsD exD4 [1,3]=[]:=zcN (b:=⟨100,300,0⟩) rfl (by decide +kernel) (by decide +kernel)
theorem e6:plsD exD4 [2,3]=[]:=zcN (b:=⟨110,300,0⟩) rfl (by decide +kernel) (by decide +kernel)
theorem e7:plsD exD4 [1,2,3]=[]:=zcN (b:=⟨100,300,0⟩) rfl (by decide +kernel) (by decide +kernel)
def T3 (m:Nat):List Place:=match m % 8 with
 | 1=>L1 | 2=>L2 | 3=>[⟨4,4⟩] | 4=>L1 | 0=>plsD exD [] | _=>[]
def T4 (m:Nat):List Place:=match m % 8 with
 | 1=>L1 | 2=>L2 | 4=>L1 | 0=>plsD exD4 [] | _=>[]
theorem cel3 (m:Nat):celD exD m=T3 m:=by
 have h:celD exD m=plsD exD (memb [1,2,3] (m % 8)):=by
  show plsD exD (memb (sigL exR) m)=_
  rw[sig3,zqj]
 rw[h]
 have h8:m % 8<8:=wI _ (by decide)
 unfold T3
 generalize m % 8=k at h8
 match k,h8 with
 | 0,_=>rfl
 | 1,_=>exact c1
 | 2,_=>exact c2
 | 3,_=>exact c3
 | 4,_=>exact c4
 | 5,_=>exact c5
 | 6,_=>exact c6
 | 7,_=>exact c7
theorem cel4 (m:Nat):celD exD4 m=T4 m:=by
 have h:celD exD4 m=plsD exD4 (memb [1,2,3] (m % 8)):=by
  show plsD exD4 (memb (sigL [xq1,xq2,xq3,xq4]) m)=_
  rw[sig4,zqj]
 rw[h]
 have h8:m % 8<8:=wI _ (by decide)
 unfold T4
 generalize m % 8=k at h8
 match k,h8 with
 | 0,_=>rfl
 | 1,_=>exact e1
 | 2,_=>exact e2
 | 3,_=>exact e3
 | 4,_=>exact e4
 | 5,_=>exact e5
 | 6,_=>exact e6
 | 7,_=>exact e7
section
variable (ids:List Int) (pv:D) (ok:List Int->Bool)
abbrev putSl (γ:Nat->Value) (i:Nat):List (Nat × AV):=[(0,.d (I i)),(1,.d (capB [lI ids])),(2,.pbox 4 (γ 4)),(3,.d (posD pv)),(4,.pbox 3 (γ 3)),(5,.pbox 5 (γ 5))]
theorem zhL (i:Nat) (ss:List (List Int)):∀ l,∀ v∈putArgs ids pv i l,∀ j∈v.refs,(look (putObs ids pv ss l) j).isSome=true:=by
 intro l v hv j hj
 simp only[putArgs,qB,jaf,jbc] at hv
 rcases hv with rfl | rfl | rfl | rfl | rfl | rfl
 ·cases hj
 ·cases hj
 ·obtain rfl:j=4:=by simpa [AV.refs] using hj
  rfl
 ·cases hj
 ·obtain rfl:j=3:=by simpa [AV.refs] using hj
  rfl
 obtain rfl:j=5:=by simpa [AV.refs] using hj
 rfl
theorem zp7 (hn:ids.length<=7) (hok:PosC pv ok) (ss:List (List Int)) (n:Nat) (hs:ss.length<=7) (hl:∀ s∈ss,s.length<=7) (hsub:Sub (allP ids ok) n (prt ok [] ss)) :
  SpecY PP 108 ((allP ids ok).map enP) n (prt ok [] ss).length (putArgs ids pv ids.length) (putObs ids pv ss) (putObs ids pv ss) [4,3,5] [B true] [B false]:=by
 refine zhA [10] Tryz.func108 rfl (by kernel_rfl) (putArgs ids pv ids.length) [7] rfl [(2,4),(4,3),(5,5)] rfl rfl rfl (zhL ids pv _ ss) (by decide) (fun _=>rfl) fun l γ=>?_
 refine sYe (by simp) ?_
 refine lOf (σ:=Nat) (fun j=>([(G,.gho (some n)),(0,.d (I ids.length)),(1,.d (capB [lI ids])),(2,.pbox 4 (γ 4)),(3,.d (posD pv)),(4,.pbox 3 (γ 3)),(5,.pbox 5 (γ 5)),(8,.own 17),(18,.own 100),(19,.d (I ss.length)),(20,.d (I j))],
   [(4,.box [.own 100]),(100,.row 22 1 ss.length (rowII ss)),(3,.box [.yl l]),(5,.box [.clo 108 (putCaps ids pv)]),(17,.row 22 1 (ss.take j).length (rowII (ss.take j)))])) (fun j=>j<=ss.length /\ ∀ q,q<j->ok (ss.getD q [])=true) (fun j=>ss.length - j) 0
  ⟨rfl,⟨obX rfl,obR rfl (dE _),obX rfl,obX rfl,obR rfl ⟨rfl,.inl rfl⟩,trivial⟩,wq rfl⟩ z0L fun j hj=>?_
 obtain⟨hj,ha⟩:=hj
 have lt:(ss.take j).length=j:=by rw[jQ]; omega
 apply bY <;> intro h2
 ·have h2:j<ss.length:=by have:=dT h2; omega
  have ej:((j:Nat):Int).toNat=j:=jaR j
  have hm:ss.getD j []∈ss:=by rw[hX,hZ h2]; exact kQ h2
  refine⟨⟨by omega,by omega⟩,⟨by omega,?_⟩⟩
  rcases hok with⟨g0,c0,rfl,hok⟩ | ⟨f0,m0,g0,rfl,hok⟩
  all_goals
   have hc:=hok (ss.getD (j:Int).toNat []) (by rw[ej]; exact hl _ hm)
   first | refine cP hc rfl rfl ?_ | refine CallSt.bn rfl rfl rfl hc rfl ?_
   apply bY <;> intro h3
   ·have h3:ok (ss.getD j [])=false:=by rw[ej] at h3; simpa using h3
    have em:prt ok [] ss=[]:=kG fun h=>by rw[jC.1 h _ hm] at h3; cases h3
    exact .inl ⟨rfl,⟨obX rfl,obR rfl (dE _),obX rfl,obX rfl,trivial⟩,avG rfl (by rw[em]; rfl),avQ rfl,avQ rfl,avQ rfl,avQ rfl,trivial⟩
   have h3:ok (ss.getD j [])=true:=by rw[ej] at h3; simpa using h3
   refine cR (zou (ss.getD (j:Int).toNat []) (by rw[ej]; have:=hl _ hm; omega)) rfl rfl ?_
   refine⟨⟨.inr rfl,by unfold maxLen; omega,by show ((ss.take j).length+1) * 24<=140737488355328; omega⟩,?_⟩
   refine⟨i6,?_⟩
   refine⟨j+1,⟨rfl,⟨obX rfl,obR rfl (dE _),obX rfl,obX rfl,obR rfl ?_,trivial⟩,wq rfl⟩,⟨h2,fun q hq=>?_⟩,msr h2⟩
   ·rw[zaL h2 []]
    refine zne rfl ?_
    show D.eqv (lI (ss.getD (j:Int).toNat [])) _
    rw[ej]; exact dE _
   by_cases e:q=j
   ·subst e; exact h3
   exact ha q (by omega)
 have h2:j=ss.length:=by have:=dF h2; omega
 subst h2
 rw[jZ]
 have em:prt ok [] ss=[ss]:=kH (jC.2 fun s hs=>by
  obtain⟨q,hq,rfl⟩:=kR hs
  have:=ha q hq
  rw[hX,hZ hq] at this
  exact this)
 refine kAt [(G,.gho (some n)),(0,.d (I ids.length)),(1,.d (capB [lI ids])),(2,.pbox 4 (γ 4)),(3,.d (posD pv)),(4,.pbox 3 (γ 3)),(5,.pbox 5 (γ 5)),(8,.d (lII ss))] (putObs ids pv ss l) ⟨rfl,⟨obX rfl,obR rfl (dE _),obX rfl,obX rfl,trivial⟩,avQ rfl,avQ rfl,avQ rfl,avQ rfl,avQ rfl,avQ rfl,avQ rfl,avOw rfl rfl rfl (dE _),trivial⟩ ?_
 refine CallSt.ydC (d:=36) (putSl ids pv γ ids.length) (putObs ids pv ss l) rfl rfl rfl rfl ⟨rfl,⟨obX rfl,obR rfl (dE _),obX rfl,obX rfl,trivial⟩,wq rfl⟩ (by rw[em] at hsub; exact hsub.get) rfl rfl ?_ ?_
 ·exact .inl ⟨rfl,⟨obX rfl,obR rfl (dE _),obX rfl,obX rfl,trivial⟩,avG rfl (by rw[em]; rfl),avQ rfl,avQ rfl,avQ rfl,avQ rfl,trivial⟩
 exact .inr ⟨rfl,trivial,avQ rfl,avQ rfl,trivial⟩
end
end Go.Pg
