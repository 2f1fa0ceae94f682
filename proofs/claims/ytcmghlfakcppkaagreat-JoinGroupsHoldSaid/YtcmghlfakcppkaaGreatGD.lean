/- Lemmas, joined by program. -/
import Derived.Test.YtcmghlfakcppkaaGreatGC
set_option maxHeartbeats 4000000
set_option linter.all false
set_option maxRecDepth 100000
namespace Go.Pg
open Go.Proofs Go.RowKit Go.Sort Go.Shelf
abbrev leI (x y:Int):Bool:=decide (x<=y)
def Srt (l:List Int):Prop:=l.Pairwise fun x y=>leI x y=true
theorem zdf {l m:List Int} (h1:Srt l) (h2:Srt m) (hp:l.Perm m):l=m:=
 List.Perm.eq_of_pairwise (le:=fun x y=>leI x y=true) (fun a b _ _ h3 h4=>by
  have h3:=kO h3
  have h4:=kO h4
  omega) h1 h2 hp
theorem zgT (l:List Rpt):Srt (sigL l):=
 List.pairwise_mergeSort (le:=fun x y=>decide (x<=y)) (fun a b c h1 h2=>by
  have h1:=kO h1
  have h2:=kO h2
  exact jG (by omega)) (fun a b=>by
  rw[jX,kV,kV]
  omega) _
def insK (l:List Int) (x:Int) (k:Nat):List Int:=l.take k++x :: l.drop k
theorem zdq (l:List Int) (x:Int) (k:Nat):(insK l x k).Perm (l ++ [x]):=by
 unfold insK
 have h1:(l.take k++x :: l.drop k).Perm (x :: (l.take k++l.drop k)):=List.perm_middle
 rw[List.take_append_drop] at h1
 exact h1.trans (List.perm_append_comm (l₁:=[x]) (l₂:=l))
theorem zhk {l:List Int} {x:Int} {k:Nat} (hk:k<=l.length) (hs:Srt l) (h1:∀ j,k<=j->j<l.length->x<l.getD j 0) (h2:0<k->l.getD (k - 1) 0<=x):Srt (insK l x k):=by
 have hd:=hs
 unfold Srt at hd
 rw[<- List.take_append_drop k l,List.pairwise_append] at hd
 obtain⟨d1,d2,d3⟩:=hd
 have g:∀ i j,i<j->j<l.length->l.getD i 0<=l.getD j 0:=fun i j hij hj=>by
  have:=kI.1 hs i j (by omega) hj hij
  have:=kO this
  rw[hX,hX,hZ hj,hZ (by omega)]
  exact this
 have lo:∀ y∈l.take k,y<=x:=fun y hy=>by
  obtain⟨j,hj,rfl⟩:=kM hy
  rw[jQ] at hj
  rw[jbh]
  have e:l[j]'(by omega)=l.getD j 0:=by rw[hX,hZ (by omega)]; rfl
  rw[e]
  have h3:=h2 (by omega)
  by_cases q:j=k - 1
  ·rw[q]; exact h3
  have:=g j (k - 1) (by omega) (by omega); omega
 have hi:∀ y∈l.drop k,x<=y:=fun y hy=>by
  obtain⟨j,hj,rfl⟩:=kM hy
  rw[jag] at hj
  rw[List.getElem_drop]
  have e:l[k+j]'(by omega)=l.getD (k+j) 0:=by rw[hX,hZ (by omega)]; rfl
  rw[e]
  have:=h1 (k+j) (by omega) (by omega)
  omega
 unfold Srt insK
 rw[List.pairwise_append]
 refine⟨d1,List.pairwise_cons.2 ⟨fun y hy=>jG (hi y hy),d2⟩,fun a ha c hc=>?_⟩
 rcases kX.1 hc with rfl | hc
 ·exact jG (lo a ha)
 have:=lo a ha
 have:=hi c hc
 exact jG (by omega)
theorem zlp (l:List Int) (x:Int) {k:Nat} (hk:k<=l.length) (m:Nat):(insK l x k).getD m 0=if m<k then l.getD m 0 else if m=k then x else l.getD (m - 1) 0:=by
 unfold insK
 rw[hX]
 by_cases h1:m<k
 ·rw[kG h1,jJ (by rw[jQ]; omega),jS,kG h1,<- hX]
 rw[kF h1,jK (by rw[jQ]; omega),jQ]
 rw[show min k l.length=k by omega]
 by_cases h2:m=k
 ·rw[kG h2,h2,kE]; rfl
 rw[kF h2]
 obtain⟨d,hd⟩:∃ d,m - k=d+1:=⟨m - k - 1,by omega⟩
 rw[hd,jai,qV,show k+d=m - 1 by omega,<- hX]
theorem zhl {l:List Int} {x:Int} {k:Nat} (hk:k<=l.length) {n n':Nat} {F f:Nat->Nat->D} (hn:n=k) (hn':n'=k) (hF:∀ a,a<k->F a 0=I (l.getD a 0)) (h:f 0 0=I x) :
  D.eqv (.slc 1 (n+1+(l.length - n')) (appRow (n+1) (appRow n F f) fun a _=>I (l.getD (n'+a) 0))) (lI (insK l x k)):=by
 subst hn
 subst hn'
 refine⟨by rw[(zdq l x n').length_eq,jR,qK]; omega,.inr ⟨rfl,fun m hm j hj=>?_⟩⟩
 obtain rfl:j=0:=by omega
 show D.eqv (appRow (n'+1) (appRow n' F f) (fun a _=>I (l.getD (n'+a) 0)) m 0) (I ((insK l x n').getD m 0))
 rw[zlp l x hk]
 unfold appRow
 by_cases h1:m<n'
 ·rw[kG (by omega),kG h1,kG h1,hF m h1]; exact dE _
 by_cases h2:m=n'
 ·rw[kG (by omega),kF h1,kF h1,kG h2,h2,kE,h]; exact dE _
 rw[kF (by omega),kF h1,kF h2]
 show D.eqv (I (l.getD (n'+(m - (n'+1))) 0)) _
 rw[show n'+(m - (n'+1))=m - 1 by omega]; exact dE _
theorem zot (d:Day) (hn:d.R.length<=1000000):Spec PP 28 [d.v] [.d (lI (sigL d.R))]:=by
 refine sA Tryz.func28 ?_
 refine lOf (σ:=List Int × Nat) (fun x=>([(1,.box 1 0),(3,.d (lI x.1)),(4,.d (I x.2))],[(1,.box (d.ds.map AV.d))])) (fun x=>x.2<=d.R.length/\Srt x.1/\x.1.Perm (sigK (d.R.take x.2))) (fun x=>d.R.length - x.2) ([],0)
  ⟨rfl,⟨obD d.ds rfl,trivial⟩,avQ rfl,avOw rfl rfl rfl ⟨rfl,.inl rfl⟩,avQ rfl,trivial⟩ ⟨jF _,List.Pairwise.nil,List.Perm.refl _⟩ fun⟨U,i⟩ ⟨hi,hs,hp⟩=>?_
 have hi:i<=d.R.length:=hi
 have hs:Srt U:=hs
 have hp:U.Perm (sigK (d.R.take i)):=hp
 have hU:U.length<=i:=by
  rw[hp.length_eq]
  have:=zb9 (d.R.take i)
  rw[jQ] at this; omega
 apply bY <;> intro h1
 ·have h1:i<d.R.length:=by have:(i:Int)<d.R.length:=dT h1; omega
  refine⟨⟨rfl,by omega,by show (i:Int)<d.R.length; omega⟩,?_⟩
  apply bY <;> intro h2
  ·have h2:isSg (d.R.getD i default)=false:=by simpa [isSg] using h2
   refine⟨i6,?_⟩
   refine⟨(U,i+1),⟨rfl,⟨obD d.ds rfl,trivial⟩,wq rfl⟩,⟨h1,hs,by rw[ziy h1 h2]; exact hp⟩,msr h1⟩
  have h2:isSg (d.R.getD i default)=true:=by simpa [isSg] using h2
  refine lOf (σ:=Nat) (fun k=>([(1,.box 1 0),(3,.d (lI U)),(4,.d (I i)),(5,.d (I k))],[(1,.box (d.ds.map AV.d))])) (fun k=>k<=U.length /\ ∀ j,k<=j->j<U.length->(d.R.getD i default).ID<U.getD j 0) (fun k=>k) U.length
   ⟨rfl,⟨obD d.ds rfl,trivial⟩,wq rfl⟩ ⟨jE _,fun j h3 h4=>absurd h4 (by omega)⟩ fun k hk=>?_
  obtain⟨hk,ha⟩:=hk
  refine oN 16 ?_
  apply bY <;> intro h3
  ·have h3:0<k:=by have:=dT h3; omega
   refine⟨i6,?_⟩
   refine⟨⟨rfl,by omega,by omega⟩,?_⟩
   refine⟨⟨rfl,by omega,by show (i:Int)<d.R.length; omega⟩,?_⟩
   have ek:((k:Int) - 1).toNat=k - 1:=by omega
   repeat first | apply sT | apply sF
   apply bY <;> intro h4
   ·have h4:(d.R.getD i default).ID<U.getD (k - 1) 0:=by have h4:=dT h4; rw[ek] at h4; exact h4
    refine⟨i6,?_⟩
    refine⟨k - 1,⟨rfl,⟨obD d.ds rfl,trivial⟩,avQ rfl,avQ rfl,avQ rfl,avI rfl (by omega),trivial⟩,⟨by omega,fun j h5 h6=>?_⟩,by omega⟩
    by_cases e:j=k - 1
    ·rw[e]; exact h4
    exact ha j (by omega) h6
   have h4:U.getD (k - 1) 0<=(d.R.getD i default).ID:=by have h4:=dF h4; rw[ek] at h4; have:¬ (d.R.getD i default).ID<U.getD (k - 1) 0:=h4; omega
   refine⟨⟨.inr rfl,by omega,by omega⟩,?_⟩
   refine⟨⟨.inr rfl,by simp only[maxLen]; omega,by dsimp only; omega⟩,?_⟩
   refine⟨⟨rfl,by omega,by show (i:Int)<d.R.length; omega⟩,?_⟩
   refine⟨⟨.inr rfl,by simp only[maxLen]; omega,by dsimp only; omega⟩,?_⟩
   refine⟨⟨.inr rfl,by omega,by omega⟩,?_⟩
   refine⟨⟨.inr rfl,by simp only[maxLen]; omega,by dsimp only; omega⟩,?_⟩
   refine⟨i6,?_⟩
   refine⟨(insK U (d.R.getD i default).ID k,i+1),⟨rfl,⟨obD d.ds rfl,trivial⟩,avQ rfl,avOw rfl rfl rfl ?_,avQ rfl,trivial⟩,⟨h1,zhk hk hs ha (fun _=>h4),?_⟩,msr h1⟩
   ·exact zhl hk (by omega) (by omega) (fun a _=>rfl) rfl
   rw[zeu h1 h2]
   exact (zdq _ _ _).trans (hp.append_right _)
  have h3:k=0:=by have:=dF h3; omega
  repeat first | apply sT | apply sF
  refine⟨⟨.inr rfl,by omega,by omega⟩,?_⟩
  refine⟨⟨.inr rfl,by simp only[maxLen]; omega,by dsimp only; omega⟩,?_⟩
  refine⟨⟨rfl,by omega,by show (i:Int)<d.R.length; omega⟩,?_⟩
  refine⟨⟨.inr rfl,by simp only[maxLen]; omega,by dsimp only; omega⟩,?_⟩
  refine⟨⟨.inr rfl,by omega,by omega⟩,?_⟩
  refine⟨⟨.inr rfl,by simp only[maxLen]; omega,by dsimp only; omega⟩,?_⟩
  refine⟨i6,?_⟩
  refine⟨(insK U (d.R.getD i default).ID k,i+1),⟨rfl,⟨obD d.ds rfl,trivial⟩,avQ rfl,avOw rfl rfl rfl ?_,avQ rfl,trivial⟩,⟨h1,zhk hk hs ha (fun h=>by omega),?_⟩,msr h1⟩
  ·exact zhl hk (by omega) (by omega) (fun a _=>rfl) rfl
  rw[zeu h1 h2]
  exact (zdq _ _ _).trans (hp.append_right _)
 have h1:i=d.R.length:=by have:¬ (i:Int)<d.R.length:=dF h1; omega
 subst h1
 rw[jZ] at hp
 rw[zdf (zgT d.R) hs ((jaQ _ _).trans hp.symm)]
 exact⟨dE _,trivial⟩
def EYC {τ:Type} (xs:List τ) (enc:τ->List V1) (cuts:List Nat) (l:Nat):Env:=⟨ET,false,l,fun n vs=>∃ x,xs[n]?=some x/\vs=enc x,true,fun i=>cuts.any (Nat.beq i)⟩
theorem zid {τ:Type} {xs:List τ} {enc:τ->List V1} (k:Nat) (vs:List V1):(∃ x,xs[k]?=some x/\vs=enc x) ↔ (xs.map enc)[k]?=some vs:=by
 rw[jU]
 cases xs[k]? with
 | none=>simp
 | some x=>simp; exact eq_comm
theorem zgR (cuts : List Nat) {f : FuncId} {fn : Func} {c : Code} (hf : PP.funcs[f]? = some fn) (hb : fn.body = some c) (hq : ((fn.name == "runtime.NumGoroutine") || !(codeN fn.ntmps c && Nat.ble fn.ntmps 4294967296)) = false)
  {τ : Type} {xs : List τ} {enc : τ -> List V1} {n m : Nat} (args : Nat -> List AV) {obs obs' : Nat -> List (Nat × Ob)} (ts : List Nat) (hts : fn.results.toList = ts.map ResultVar.tmp) (pins : List (Nat × Nat)) {res resF : List V1} (hlr : ts.length = res.length) (hlF : ts.length = resF.length) (hfl : resF.all V1.flat = true)
  (hr : ∀ l, ∀ v ∈ args l, ∀ j ∈ v.refs, (look (obs l) j).isSome = true) (hpn : (G :: (pins.map Prod.fst ++ ts)).Nodup) (hsz : ∀ l, Nat.ble (args l).length fn.ntmps = true)
  (h : ∀ l γ, awp PP TTab (EYC xs enc cuts l) c (St.of ((G, .gho (some n)) :: slotsM γ 0 (args l)) (obs l)) (retYM ts res resF γ pins (n + m) (obs' l))) : SpecY PP f (xs.map enc) n m args obs obs' (pins.map Prod.snd) res resF := by
 simp only [qH, qJ, jP] at hq
 exact zgQ hT (eq := ET) hE hM hf hb hq.1 hq.2.1 (jD hq.2.2) args ts hts pins hlr hlF hfl hr hpn (fun l => jD (hsz l)) (yd := fun n vs => ∃ x, xs[n]? = some x /\ vs = enc x) zid (fun i => cuts.any (Nat.beq i)) (fun _ _ _ _ hk => hk) h
section
variable {s:St} {o:Oper} {fo:Operand} {K:St->Prop} {args:List Operand} {τ:Type} {xs:List τ} {enc:τ->List V1} {cuts:List Nat} {l:Nat}
theorem CallSt.ydC {d n:Nat} {x:τ} (sl:List (Nat × AV)) (ob:List (Nat × Ob)) (hd:o.dst=some d) (hf:ev s fo = .yl l) (hg:s.sl G = .gho (some n)) (hG:look sl G=none) (hw:Weak s sl ob) (hx:xs[n]?=some x) (hv:toV1s s (args.map (ev s))=some (enc x))
  (hno:(args.map (ev s)).all (fun v=>!v.isOwn)=true) (k1:K ((St.of ((G,.gho (some (n+1))) :: sl) ob).put d (.d (.bool true)))) (k2:K ((St.of ((G,.gho none) :: stillS sl) []).put d (.d (.bool false)))):CallSt (EYC xs enc cuts l) PP s o fo args K:=by
 rw[zae]
 exact .inr (.inr (.inr (.inl ⟨⟨n,d,sl,ob,_,hd,hf,hg,hG,hw,hv,hno,⟨x,hx,rfl⟩,k1,k2⟩⟩)))
theorem CallSt.cy {n m:Nat} {f:FuncId} {ex:List AV} {ags:Nat->List AV} {obs obs':Nat->List (Nat × Ob)} {pins:List Nat} {res resF:List V1} (sl:List (Nat × AV)) (rest:List (Nat × Ob)) (h:SpecY PP f (xs.map enc) n m ags obs obs' pins res resF)
  (hg:s.sl G = .gho (some n)) (hG:look sl G=none) (hw:Weak s sl (obs l++rest)) (hc:calleeM (ev (St.of sl (obs l++rest)) fo)=some (f,ex)) (ha:(args.map (ev (St.of sl (obs l++rest)))++ex).map (fixA (obs l))=ags l) (hm:closM (obs l)=true) (hgm:goodM sl (obs l) (obs' l) rest pins=true)
  (k1:K ((St.of ((G,.gho (some (n+m))) :: sl) (obs' l++rest)).putO o.dst (resAV res))) (k2:K ((St.of ((G,.gho none) :: stillS sl) []).putO o.dst (resAV resF))):CallSt (EYC xs enc cuts l) PP s o fo args K:=by
 rw[zae]
 exact .inr (.inr (.inr (.inr ⟨⟨_,n,m,f,ex,ags,sl,rest,obs,obs',pins,res,resF,zid,h,hg,hG,hw,hc,ha,hm,hgm,k1,k2⟩⟩)))
end
theorem zjO {P:Program} {a:Act} {w:World} {o:Oper} {fo:Operand} {f:FuncId} {args:Array Operand} {at':Array TypeId} (hop:o.op = .call { callee:=.value fo,args,argTypes:=at' }) {u:Value} (hfo:a.eval fo = .func (.func f) #[u] #[]) (hent:Ent P f) :
  (execOp a.eval o).run P w = .ok (.enter f (u :: args.toList.map a.eval).toArray) w:=by
 have:(u :: args.toList.map a.eval).toArray = #[u]++args.map a.eval ++ #[]:=by simp
 rw[this]
 simp[execOp,hop,resolve,hfo,Deferred.ofValue,invoke,zaz hent]
section
variable {s:St} {o:Oper} {fo:Operand} {K:St->Prop} {E:Env}
theorem CallSt.bn {f:FuncId} {args:Array Operand} {at':Array TypeId} (hop:o.op = .call { callee:=.value fo,args,argTypes:=at' }) {m:Nat} {g:Nat->D} (hf:ev s fo = .d (.bnd f m g)) {xs res:List V1} (hx:toV1s s (args.toList.map (ev s))=some xs)
  (h:SpecG E.dr PP f (.agg ((List.range m).map g) :: xs) res) (hr:res.all V1.flat=true) (hk:K (s.putO o.dst (resAV res))):CallSt E PP s o fo args.toList K:=by
 rw[zae]
 refine .inr (.inr (.inl ⟨_,⟨fun cx a w hD hd hR=>?_⟩,hk⟩))
 obtain⟨γ,hg⟩:=hR
 have hc:=(ev_m hg fo).1
 rw[hf] at hc
 obtain⟨vs,hv,hl,h3⟩:=hc
 have hm:=(zbg hg hx (zbr hg args.toList)).1
 have hb:All2 (Rep w fun b=>b<w.heap.size) ((List.range m).map g) vs:=.map_left (All2.of_get (by simp[hl]) fun j q y hx hy=>by
  have hj:j<m:=by have:=(kC.1 hx).1; simpa using this
  rw[qQ hj] at hx
  cases hx
  obtain⟨u,hu,hr⟩:=h3 j hj
  rw[hy] at hu; cases hu
  exact Rep.keep (fun b hb=>⟨zai hg hb,rfl⟩) hr)
 refine .enter (zjO hop hv h.1) ?_
 refine (h.2 w _ _ (fun b hb=>hb) (.cons ⟨vs,rfl,hb⟩ hm)).mono fun en w' ⟨v,e,hb,hres⟩=>⟨v,e,γ,?_⟩
 exact (hg.grow hb.1 fun e=>hb.2 (hD e)).putO hd (zaO (.inl fun b hb=>hb.elim) (zdi hr hres)) (fun j hj=>by rw[zav] at hj; cases hj)
inductive PosC (pv:D) (ok:List Int->Bool):Prop
 | clo (g0:FuncId) (c0:D) (e:pv=cloB g0 [c0]) (h:∀ s:List Int,s.length<=7->Spec PP g0 [.d (lI s),.d c0] [B (ok s)])
 | bnd (f:FuncId) (m:Nat) (g:Nat->D) (e:pv = .bnd f m g) (h:∀ s:List Int,s.length<=7->Spec PP f [.agg ((List.range m).map g),.d (lI s)] [B (ok s)])
end
abbrev rowII (ss:List (List Int)):Nat->Nat->D:=fun i _=>lI (ss.getD i [])
theorem zoi {ss:List (List Int)} {k k':Nat} {s':List Int} {y:D} (hk:k<ss.length) (e1:k'=k) (hy:D.eqv y (lI s')):D.eqv (.slc 1 ss.length (storeRow (rowII ss) k' 0 [y])) (.slc 1 (ss.set k s').length (rowII (ss.set k s'))):=by
 subst e1
 refine⟨List.length_set.symm,.inr ⟨rfl,fun i hi j hj=>?_⟩⟩
 show D.eqv (storeRow (rowII ss) k' 0 [y] i j) (lI ((ss.set k' s').getD i []))
 rw[za7 ss k' i s' [] hk]
 obtain rfl:j=0:=by omega
 unfold storeRow
 by_cases h:i=k'
 ·rw[kG h,kG ⟨h,jE _,by simp⟩]
  exact hy
 rw[kF h,kF fun hh=>h hh.1]
 exact dE _
theorem ziM {ss:List (List Int)} {s:List Int} {n:Nat} {g:Nat->Nat->D} (hn:n=ss.length) (hg:D.eqv (g 0 0) (lI s)):D.eqv (.slc 1 (n+1) (appRow n (rowII ss) g)) (.slc 1 (ss ++ [s]).length (rowII (ss ++ [s]))):=by
 subst hn
 refine⟨by simp,.inr ⟨rfl,fun i hi j hj=>?_⟩⟩
 show D.eqv (appRow ss.length (rowII ss) g i j) (lI ((ss ++ [s]).getD i []))
 obtain rfl:j=0:=by omega
 unfold appRow
 by_cases h:i<ss.length
 ·rw[kG h,hX (l:=ss ++ [s]),jJ h,<- hX]
  exact dE _
 have e:i=ss.length:=by omega
 subst e
 rw[kF h,kE,hX,jK (jE _),kE]
 exact hg
theorem zk0 (l:List Int) (hn:l.length<=1000000):SpecO PP 39 [.d (lI l)] 3 1 l.length (rowI l):=by
 refine zcZ Tryz.func39 rfl (by kernel_rfl) rfl ?_
 refine fun b hb=>?_
 apply bY <;> intro h1
 ·have h0:=hb h1
  refine⟨rfl,rfl,h0.symm,fun i hi=>?_⟩
  omega
 refine⟨⟨.inr rfl,by unfold maxLen; omega,by show (0+l.length) * 8<=140737488355328; omega⟩,?_⟩
 refine⟨rfl,rfl,qG _,fun i hi j hj=>?_⟩
 exact dE _
theorem ziW (l:List Int) (hn:l.length<=1000000):Spec PP 39 [.d (lI l)] [.d (lI l)]:=by
 refine sA Tryz.func39 ?_
 refine fun b hb=>?_
 apply bY <;> intro h1
 ·have h0:=hb h1
  exact⟨⟨_,_,_,_,rfl,h0.symm,.inl rfl⟩,trivial⟩
 refine⟨⟨.inr rfl,by unfold maxLen; omega,by show (0+l.length) * 8<=140737488355328; omega⟩,?_⟩
 exact⟨⟨_,_,_,_,rfl,qG _,.inr ⟨rfl,fun i hi j hj=>dE _⟩⟩,trivial⟩
def Sub {α:Type} (L:List α) (n:Nat) (L':List α):Prop:=∃ u,u.length=n/\u++L' <+: L
theorem Sub.pre {α:Type} {L L' L2:List α} {n:Nat} (h:Sub L n L') (hp:L2 <+: L'):Sub L n L2:=by
 obtain⟨u,h1,h2⟩:=h
 exact⟨u,h1,List.IsPrefix.trans ((List.prefix_append_right_inj _).2 hp) h2⟩
theorem Sub.snd {α:Type} {L L1 L2:List α} {n:Nat} (h:Sub L n (L1++L2)):Sub L (n+L1.length) L2:=by
 obtain⟨u,h1,h2⟩:=h
 exact⟨u++L1,by rw[jR,h1],by rw[List.append_assoc]; exact h2⟩
theorem Sub.get {α:Type} {L L':List α} {x:α} {n:Nat} (h:Sub L n (x :: L')):L[n]?=some x:=by
 obtain⟨u,rfl,t,h2⟩:=h
 rw[<- h2]
 simp
def prtK {α:Type} (ok:List α->Bool) (a:α) (r:List α) (ss:List (List α)) (k:Nat):List (List (List α)):=(List.range k).flatMap fun k=>prt ok r (ss.set k (ss.getD k [] ++ [a]))
theorem zdk {α:Type} (ok:List α->Bool) (a:α) (r:List α) (ss:List (List α)) (k:Nat):prtK ok a r ss (k+1)=prtK ok a r ss k++prt ok r (ss.set k (ss.getD k [] ++ [a])):=by
 unfold prtK
 rw[qY,List.flatMap_append]; simp
theorem zg3 {α : Type} (ok : List α -> Bool) (a : α) (r : List α) (ss : List (List α)) : ∀ {k m : Nat}, k <= m -> prtK ok a r ss k <+: prtK ok a r ss m
  | k, 0, h => by obtain rfl : k = 0 := by omega
                  exact List.prefix_rfl
  | k, m + 1, h => by
    by_cases e : k = m + 1
    · subst e; exact List.prefix_rfl
    rw [zdk]
    exact List.IsPrefix.trans (zg3 ok a r ss (by omega)) (List.prefix_append _ _)
theorem zkX {α:Type} (ok:List α->Bool) (a:α) (r:List α) (ss:List (List α)):prt ok (a :: r) ss=prtK ok a r ss ss.length++prt ok r (ss ++ [[a]]):=rfl
section
variable (ids:List Int) (pv:D) (ok:List Int->Bool)
abbrev enP (p:List (List Int)):List V1:=[.d (lII p)]
abbrev allP:List (List (List Int)):=prt ok ids []
abbrev posD:D:=capB [pv]
def putCaps:List Cap:=[.dat (capB [lI ids]),.own 4,.dat (posD pv),.own 3,.own 5]
def putObs (ss:List (List Int)) (l:Nat):List (Nat × Ob):=[(4,.box [.own 100]),(100,.row 22 1 ss.length (rowII ss)),(3,.box [.yl l]),(5,.box [.clo 188 (putCaps ids pv)])]
def putArgs (i:Nat) (_:Nat):List AV:=[.d (I i),.d (capB [lI ids]),.box 4 0,.d (posD pv),.box 3 0,.box 5 0]
end
theorem zmq {d:Day} {ids:List Int} (h:askE d ids=0):DayOk d:=by
 unfold askE at h
 split at h
 ·rename_i h1; exact absurd h h1
 rename_i h1; exact zcS (jL h1)
def celR (d:Day) (ids:List Int):List Place × Int:=if askE d ids≠0 then ([],askE d ids) else (plsD d ids,0)
def sigR (d:Day):List Int × Int:=if dayE d≠0 then ([],dayE d) else (sigL d.R,0)
theorem zo2 (d:Day) (ids:List Int) (hn:d.R.length<=1000000) (hi:ids.length<=1000000):Spec PP 25 [d.v,.d (lI ids)] [.d (lP (celR d ids).1),.d (.int .i64 (celR d ids).2)]:=by
 refine sA Tryz.func25 ?_
 refine cP (zjx d ids hn hi) rfl rfl ?_
 unfold celR
 apply bY <;> intro h0
 ·rw[kG (by simpa using h0)]
  exact⟨⟨_,_,_,_,rfl,rfl,.inl rfl⟩,rtI rfl rfl,trivial⟩
 have h0:askE d ids=0:=by simpa using h0
 rw[kF (fun hh=>hh h0)]
 refine cR (zhg (zmq h0) ids hi) rfl rfl ?_
 exact⟨dE _,rtI rfl rfl,trivial⟩
theorem zhU (d:Day) (ids:List Int) (hn:d.R.length<=1000000) (hi:ids.length<=1000000):Spec PP 26 [d.v,.d (lI ids)] [B (decide (0<(celR d ids).1.length)),.d (.int .i64 (celR d ids).2)]:=by
 refine sA Tryz.func26 ?_
 refine cR (zo2 d ids hn hi) rfl rfl ?_
 exact⟨rtB rfl (wA.2 (by omega)),rtI rfl rfl,trivial⟩
theorem zgp (d:Day) (hn:d.R.length<=1000000):Spec PP 8 [d.v] [.d (lI (sigR d).1),.d (.int .i64 (sigR d).2)]:=by
 refine sA Tryz.func8 ?_
 refine cP (zb4 d hn) rfl rfl ?_
 unfold sigR
 apply bY <;> intro h0
 ·rw[kG (by simpa using h0)]
  exact⟨⟨_,_,_,_,rfl,rfl,.inl rfl⟩,rtI rfl rfl,trivial⟩
 have h0:dayE d=0:=by simpa using h0
 rw[kF (fun hh=>hh h0)]
 refine cR (zaY d hn) rfl rfl ?_
 exact⟨dE _,rtI rfl rfl,trivial⟩
def parE (d:Day) (a b:Int):Int:=if dayE d≠0 then dayE d else if partB [a,b] (sigL d.R)=false then 5 else if a=b then 1 else 0
theorem zo0 (d:Day) (a b:Int) (hn:d.R.length<=1000000):Spec PP 40 [d.v,N a,N b] [.d (.int .i64 (parE d a b))]:=by
 refine sA Tryz.func40 ?_
 refine cP (zb4 d hn) rfl rfl ?_
 unfold parE
 apply bY <;> intro h0
 ·rw[kG (by simpa using h0)]
  exact r1I rfl rfl
 have h0:dayE d=0:=by simpa using h0
 rw[kF (fun hh=>hh h0)]
 have hs:(sigL d.R).length<=1000000:=by rw[zbd]; exact jM (zb9 _) hn
 refine cR (zaY d hn) rfl rfl ?_
 refine fEq [15] (zl9 [a,b] (sigL d.R) (by simp) hs) rfl ⟨⟨rfl,.inr ⟨rfl,fun i hi j hj=>?_⟩⟩,dE _,trivial⟩ rfl ?_
 ·match i,hi,j,hj with
  | 0,_,0,_=>exact⟨rfl,rfl⟩
  | 1,_,0,_=>exact⟨rfl,rfl⟩
 apply bY <;> intro h1
 ·rw[kG (by simpa using h1)]
  exact r1I rfl rfl
 rw[kF (by simpa using h1)]
 apply bY <;> intro h2
 ·rw[kG (by simpa using h2)]
  exact r1I rfl rfl
 rw[kF (by simpa using h2)]
 exact r1I rfl rfl
abbrev lPP (l:List (List (List Int))):D:=.slc 1 l.length fun i _=>lII (l.getD i [])
def bthB (a b:Int) (s:List Int):Bool:=s.contains a && s.contains b
def togB (a b:Int) (p:List (List Int)):Bool:=p.any (bthB a b)
theorem zgn (a b:Int) (s:List Int) (hs:s.length<=1000000):Spec PP 115 [.d (lI s),.d (capB [I a]),.d (capB [I b])] [B (bthB a b s)]:=by
 refine sA Tryz.func115 ?_
 refine cP (zdY s a hs) rfl rfl ?_
 apply bY <;> intro h1
 ·have h1:s.contains a=true:=h1
  refine cP (zdY s b hs) rfl rfl ?_
  repeat first | apply sT | apply sF
  exact r1B rfl (by unfold bthB; rw[h1,wI])
 have h1:s.contains a=false:=h1
 repeat first | apply sT | apply sF
 exact r1B rfl (by unfold bthB; rw[h1,jal])
theorem zhT (p:List (List Int)) (a b:Int) (hp:p.length<=1000000) (hs:∀ s∈p,s.length<=1000000):Spec PP 76 [.d (lII p),N a,N b] [B (togB a b p)]:=by
 refine sA Tryz.func76 ?_
 refine fEq [4,5] (zkG p 115 (capB [I a]) (capB [I b]) (bthB a b) hp fun i hi=>zgn a b _ (hs _ ?_)) rfl ⟨dE _,⟨rfl,rfl,capB2 _ _ rfl rfl⟩,trivial⟩ rfl ?_
 ·rw[hX,hZ hi]; exact kR hi
 exact r1B rfl rfl
structure Vdt where
  Ans:Int
  T:List (List Int)
  A:List (List Int)
  deriving Inhabited
abbrev Vdt.v (x:Vdt):V1:=.agg [I x.Ans,lII x.T,lII x.A]
def fstP (p:List (List Int)->Bool) (l:List (List (List Int))):List (List Int):=(l.find? p).getD []
def vdtR (l:List (List (List Int))) (a b:Int):Vdt:=
 ⟨if l.any (togB a b)=true then (if (l.any fun p=>!togB a b p)=true then 3 else 2) else 1,fstP (togB a b) l,fstP (fun p=>!togB a b p) l⟩
theorem zfF (p:List (List Int)->Bool) {l:List (List (List Int))} {i:Nat} (h:i<l.length):fstP p (l.take (i+1))=if (l.take i).any p=true then fstP p (l.take i) else if p (l.getD i [])=true then l.getD i [] else []:=by
 unfold fstP
 rw[zaM h [],List.find?_append]
 cases hf:(l.take i).find? p with
 | some x=>
  rw[kG (kS.2 ⟨x,List.mem_of_find?_eq_some hf,List.find?_some hf⟩)]; rfl
 | none=>
 rw[kF fun ha=>by
  obtain⟨x,h1,h2⟩:=kS.1 ha
  exact List.find?_eq_none.1 hf x h1 h2]
 rw[List.find?_cons]
 cases p (l.getD i []) <;> rfl
theorem zhC (p:List (List Int)->Bool) {l:List (List (List Int))} {i:Nat} (h:i<l.length):(l.take (i+1)).any p=((l.take i).any p || p (l.getD i [])):=by
 rw[zaM h [],List.any_append]; simp
theorem znA {p:List (List Int)->Bool} {l:List (List (List Int))} (h:l.any p=false):fstP p l=[]:=by
 unfold fstP
 rw[List.find?_eq_none.2 fun x hx hp=>by have:=jan.1 h x hx; exact this hp]; rfl
theorem zbj {p:List (List Int)->Bool} {l:List (List (List Int))} {i:Nat} (h:i<l.length) (h2:(l.take i).any p=true \/ p (l.getD i [])=false):fstP p (l.take (i+1))=fstP p (l.take i):=by
 rw[zfF p h]
 by_cases h3:(l.take i).any p=true
 ·rw[kG h3]
 rw[kF h3,kF (by rw[h2.resolve_left h3]; decide),znA (by simpa using h3)]
theorem zhp {p:List (List Int)->Bool} {l:List (List (List Int))} {i:Nat} (h:i<l.length) (h2:(l.take i).any p=false) (h3:p (l.getD i [])=true):fstP p (l.take (i+1))=l.getD i []:=by
 rw[zfF p h,kF (by rw[h2]; decide),kG h3]
theorem zfx (l:List (List (List Int))) (a b:Int) (hl:l.length<=1000000) (hp:∀ p∈l,p.length<=1000000 /\ ∀ s∈p,s.length<=1000000):Spec PP 32 [.d (lPP l),N a,N b] [(vdtR l a b).v]:=by
 refine sA Tryz.func32 ?_
 refine lOf (σ:=Nat) (fun i=>([(1,.d (I a)),(2,.d (I b)),(6,.box 6 0),(7,.box 7 0),(8,.d (.bool ((l.take i).any (togB a b)))),(9,.d (.bool ((l.take i).any fun p=>!togB a b p))),(12,.d (lPP l)),(13,.d (I l.length)),(14,.d (I i))],
   [(6,.box (List.replicate 3 .any)),(7,.box ([I 0,lII (fstP (togB a b) (l.take i)),lII (fstP (fun p=>!togB a b p) (l.take i))].map AV.d))])) (fun i=>i<=l.length) (fun i=>l.length - i) 0
  ⟨rfl,⟨zby rfl rfl,⟨dE _,rfl,rfl,trivial⟩,trivial⟩,wq rfl⟩ (jF _) fun i hi=>?_
 have hi:i<=l.length:=hi
 apply bY <;> intro h1
 ·have h1:i<l.length:=by have:=dT h1; omega
  have hm:l.getD i []∈l:=by rw[hX,hZ h1]; exact kR h1
  obtain⟨g1,g2⟩:=hp _ hm
  have a1:=zhC (togB a b) h1
  have a2:=zhC (fun p=>!togB a b p) h1
  refine⟨⟨rfl,by omega,by omega⟩,?_⟩
  refine cP (zhT (l.getD i []) a b g1 g2) rfl rfl ?_
  apply bY <;> intro h2
  ·have h2:togB a b (l.getD i [])=true:=h2
   have h2':(!togB a b (l.getD i []))=false:=by rw[h2]; rfl
   rw[h2,qF] at a1
   rw[h2',jax] at a2
   apply bY <;> intro h3
   ·have h3:(l.take i).any (togB a b)=false:=by simpa using h3
    refine⟨i6,?_⟩
    refine⟨i+1,⟨rfl,⟨zby rfl rfl,?_,trivial⟩,?_⟩,h1,msr h1⟩
    ·rw[zhp (p:=togB a b) h1 h3 h2,zbj (p:=fun p=>!togB a b p) h1 (.inr h2')]; exact⟨dE _,dE _,dE _,trivial⟩
    rw[a1,a2]; exact wq rfl
   have h3:(l.take i).any (togB a b)=true:=by simpa using h3
   refine⟨i6,?_⟩
   refine⟨i+1,⟨rfl,⟨zby rfl rfl,?_,trivial⟩,?_⟩,h1,msr h1⟩
   ·rw[zbj (p:=togB a b) h1 (.inl h3),zbj (p:=fun p=>!togB a b p) h1 (.inr h2')]; exact⟨dE _,dE _,dE _,trivial⟩
   rw[a1.trans h3.symm,a2]; exact wq rfl
  have h2:togB a b (l.getD i [])=false:=h2
  have h2':(!togB a b (l.getD i []))=true:=by rw[h2]; rfl
  rw[h2,jax] at a1
  rw[h2',qF] at a2
  apply bY <;> intro h3
  ·have h3:((l.take i).any fun p=>!togB a b p)=false:=by simpa using h3
   refine⟨i6,?_⟩
   refine⟨i+1,⟨rfl,⟨zby rfl rfl,?_,trivial⟩,?_⟩,h1,msr h1⟩
   ·rw[zbj (p:=togB a b) h1 (.inr h2),zhp (p:=fun p=>!togB a b p) h1 h3 h2']; exact⟨dE _,dE _,dE _,trivial⟩
   rw[a1,a2]; exact wq rfl
  have h3:((l.take i).any fun p=>!togB a b p)=true:=by simpa using h3
  refine⟨i6,?_⟩
  refine⟨i+1,⟨rfl,⟨zby rfl rfl,?_,trivial⟩,?_⟩,h1,msr h1⟩
  ·rw[zbj (p:=togB a b) h1 (.inr h2),zbj (p:=fun p=>!togB a b p) h1 (.inl h3)]; exact⟨dE _,dE _,dE _,trivial⟩
  rw[a1,a2.trans h3.symm]; exact wq rfl
 have h1:i=l.length:=by have:=dF h1; omega
 subst h1
 rw[jZ]
 unfold vdtR
 apply bY <;> intro h2
 ·have h2:l.any (togB a b)=true:=h2
  rw[kG h2]
  repeat first | apply sT | apply sF
  apply bY <;> intro h3
  ·have h3:(l.any fun p=>!togB a b p)=true:=h3
   rw[kG h3]
   exact⟨rtC (a:=6) rfl rfl rfl rfl rfl rfl (zab _),trivial⟩
  have h3:(l.any fun p=>!togB a b p)=false:=h3
  rw[kF (by rw[h3]; decide)]
  refine sYe h2 ?_
  exact⟨rtC (a:=6) rfl rfl rfl rfl rfl rfl (zab _),trivial⟩
 have h2:l.any (togB a b)=false:=h2
 rw[kF (by rw[h2]; decide)]
 repeat first | apply sT | apply sF
 refine sNo h2 ?_
 exact⟨rtC (a:=6) rfl rfl rfl rfl rfl rfl (zab _),trivial⟩
def sml7 (d:Day):Prop:=d.s.c.M.G.length<=81/\d.s.c.T.length<=4/\d.s.c.Z.length<=8/\d.s.k.C.length<=4/\d.s.k.K.length<=12/\d.R.length<=40
instance decSml7 (d:Day):Decidable (sml7 d):=by unfold sml7; infer_instance
def few7 (d:Day):Prop:=sml7 d/\(((sigK d.R).length<=5/\d.R.length<=4+(sigK d.R).length) \/ 7<(sigK d.R).length \/ 10+(sigK d.R).length<d.R.length)
instance decFew7 (d:Day):Decidable (few7 d):=by unfold few7; infer_instance
theorem zn6 (d:Day):Spec PP 7 [d.v] [B (decide (few7 d))]:=by
 refine sA Tryz.func7 ?_
 have no:¬ sml7 d->false=decide (few7 d):=fun h=>(jH fun hh=>h hh.1).symm
 apply bY <;> intro g0
 ·have g:(81:Int)<d.s.c.M.G.length:=dT g0
  repeat first | apply sT | apply sF
  exact r1B rfl (no fun hh=>by unfold sml7 at hh; omega)
 have g0:¬ 81<d.s.c.M.G.length:=by have:¬ (81:Int)<d.s.c.M.G.length:=dF g0; omega
 repeat first | apply sT | apply sF
 apply bY <;> intro g1
 ·have g:(4:Int)<d.s.c.T.length:=dT g1
  repeat first | apply sT | apply sF
  exact r1B rfl (no fun hh=>by unfold sml7 at hh; omega)
 have g1:¬ 4<d.s.c.T.length:=by have:¬ (4:Int)<d.s.c.T.length:=dF g1; omega
 repeat first | apply sT | apply sF
 apply bY <;> intro g2
 ·have g:(8:Int)<d.s.c.Z.length:=dT g2
  repeat first | apply sT | apply sF
  exact r1B rfl (no fun hh=>by unfold sml7 at hh; omega)
 have g2:¬ 8<d.s.c.Z.length:=by have:¬ (8:Int)<d.s.c.Z.length:=dF g2; omega
 repeat first | apply sT | apply sF
 apply bY <;> intro g3
 ·have g:(4:Int)<d.s.k.C.length:=dT g3
  repeat first | apply sT | apply sF
  exact r1B rfl (no fun hh=>by unfold sml7 at hh; omega)
 have g3:¬ 4<d.s.k.C.length:=by have:¬ (4:Int)<d.s.k.C.length:=dF g3; omega
 repeat first | apply sT | apply sF
 apply bY <;> intro g4
 ·have g:(12:Int)<d.s.k.K.length:=dT g4
  repeat first | apply sT | apply sF
  exact r1B rfl (no fun hh=>by unfold sml7 at hh; omega)
 have g4:¬ 12<d.s.k.K.length:=by have:¬ (12:Int)<d.s.k.K.length:=dF g4; omega
 repeat first | apply sT | apply sF
 apply bY <;> intro g5
 ·have g:(40:Int)<d.R.length:=dT g5
  repeat first | apply sT | apply sF
  exact r1B rfl (no fun hh=>by unfold sml7 at hh; omega)
 have g5:¬ 40<d.R.length:=by have:¬ (40:Int)<d.R.length:=dF g5; omega
 have hs:sml7 d:=⟨by omega,by omega,by omega,by omega,by omega,by omega⟩
 have e1:(sigL d.R).length=(sigK d.R).length:=zbd d.R
 refine cR (zot d (by omega)) rfl rfl ?_
 have hk:=zb9 d.R
 have yes:(((sigK d.R).length<=5/\d.R.length<=4+(sigK d.R).length) \/ 7<(sigK d.R).length \/ 10+(sigK d.R).length<d.R.length)->true=decide (few7 d):=fun h=>(jG (⟨hs,h⟩:few7 d)).symm
 apply bY <;> intro h1
 ·have h1:(sigK d.R).length<=5:=by have:((sigL d.R).length:Int)<=5:=dT h1; omega
  refine⟨i6,?_⟩
  repeat first | apply sT | apply sF
  apply bY <;> intro h2
  ·have h2:d.R.length<=4+(sigK d.R).length:=by have:(d.R.length:Int) - (sigL d.R).length<=4:=dT h2; omega
   repeat first | apply sT | apply sF
   exact r1B rfl (yes (.inl ⟨h1,h2⟩))
  have h2:¬ d.R.length<=4+(sigK d.R).length:=by have:¬ (d.R.length:Int) - (sigL d.R).length<=4:=dF h2; omega
  repeat first | apply sT | apply sF
  refine sNo (jH (by omega)) ?_
  refine⟨i6,?_⟩
  repeat first | apply sT | apply sF
  refine r1B rfl ?_
  refine wA.2 ⟨fun h=>⟨hs,.inr (.inr (by omega))⟩,fun h=>?_⟩
  rcases h.2 with h3 | h3 | h3
  ·exact absurd h3.2 h2
  ·omega
  omega
 have h1:¬ (sigK d.R).length<=5:=by have:¬ ((sigL d.R).length:Int)<=5:=dF h1; omega
 repeat first | apply sT | apply sF
 apply bY <;> intro h2
 ·have h2:7<(sigK d.R).length:=by have:(7:Int)<(sigL d.R).length:=dT h2; omega
  repeat first | apply sT | apply sF
  exact r1B rfl (yes (.inr (.inl h2)))
 have h2:¬ 7<(sigK d.R).length:=by have:¬ (7:Int)<(sigL d.R).length:=dF h2; omega
 repeat first | apply sT | apply sF
 refine⟨i6,?_⟩
 repeat first | apply sT | apply sF
 refine r1B rfl ?_
 refine wA.2 ⟨fun h=>⟨hs,.inr (.inr (by omega))⟩,fun h=>?_⟩
 rcases h.2 with h3 | h3 | h3
 ·exact absurd h3.1 h1
 ·exact absurd h3 h2
 omega
def mst (ix:List Nat):Nat:=ix.foldl (fun a k=>max a (k+1)) 0
theorem zc2 (ix:List Nat) (k:Nat):mst (ix ++ [k])=max (mst ix) (k+1):=by unfold mst; rw[jam]; rfl
def bit1 (o:List Nat) (i k:Nat):List Nat:=if k<o.length then o.set k (o.getD k 0+2 ^ i) else o ++ [2 ^ i]
def bitK (ix:List Nat) (i:Nat):List Nat:=(List.range i).foldl (fun o i=>bit1 o i (ix.getD i 0)) []
def bitX (ix:List Nat):List Nat:=bitK ix ix.length
theorem zct (ix:List Nat) (i:Nat):bitK ix (i+1)=bit1 (bitK ix i) i (ix.getD i 0):=by
 unfold bitK
 rw[qY,jam]; rfl
def Rg (ix:List Nat):Prop:=∀ i,i<ix.length->ix.getD i 0<=mst (ix.take i)
theorem Rg.snoc {ix:List Nat} {k:Nat} (h:Rg ix) (hk:k<=mst ix):Rg (ix ++ [k]):=fun i hi=>by
 rw[jR,qK] at hi
 by_cases e:i<ix.length
 ·rw[hX,jJ e,<- hX,List.take_append_of_le_length (by omega)]
  exact h i e
 have e:i=ix.length:=by omega
 subst e
 rw[hX,jK (jE _),kE,List.take_append_of_le_length (jE _),jZ]
 exact hk
theorem zeH {ix:List Nat} {i:Nat} (h:i<ix.length):mst (ix.take (i+1))=max (mst (ix.take i)) (ix.getD i 0+1):=by rw[zaM h 0,zc2]
theorem zcu {ix:List Nat} (h:Rg ix):∀ i,i<=ix.length->(bitK ix i).length=mst (ix.take i)
 | 0,_=>rfl
 | i+1,hi=>by
  have ih:=zcu h i (by omega)
  have:=h i (by omega)
  rw[zct,zeH (by omega)]
  unfold bit1
  split
  ·rw[wH]; omega
  rw[jR,qK]; omega
theorem zbI (ix:List Nat):∀ i,∀ x∈bitK ix i,0<x/\x<2 ^ i
 | 0,x,h=>by cases h
 | i+1,x,h=>by
  rw[zct] at h
  have hp:2 ^ (i+1)=2 ^ i+2 ^ i:=by rw[Nat.pow_succ]; omega
  have h1:=Nat.two_pow_pos i
  unfold bit1 at h
  split at h
  ·rename_i hk
   rcases jbe h with h | rfl
   ·have:=zbI ix i x h; omega
   have:(bitK ix i).getD (ix.getD i 0) 0∈bitK ix i:=by rw[hX,hZ hk]; exact kR hk
   have:=zbI ix i _ this; omega
  rcases kQ.1 h with h | h
  ·have:=zbI ix i x h; omega
  rw[kH.1 h]; omega
theorem zls {l:List Nat} {k j x:Nat} (hk:k<l.length):(l.set k x).getD j 0=if j=k then x else l.getD j 0:=by
 rw[hX,List.getElem?_set]
 by_cases e:j=k
 ·subst e; rw[kG rfl,kG hk,kG rfl]; rfl
 rw[kF (fun h=>e h.symm),kF e,<- hX]
def SpecN (P:Program) (f:FuncId) (args:List V1) (obs':List (Nat × Ob)) (i:Nat) (res:List V1):Prop:=
 Ent P f /\ ∀ (w:World) (ok:Nat->Prop) (vs:List Value),(∀ b,ok b->b<w.heap.size)->All2 (Rep1 w ok) args vs ->
  Calls P f vs.toArray w fun en w'=>∃ b γ' us,en = .returned (.tuple (.pointer (some ⟨b,0,none⟩) :: us).toArray)/\γ' i = .pointer (some ⟨b,0,none⟩)/\FrM w w' γ' []/\OwnS w' (okM w w' ok γ' γ' [] obs') γ' obs' /\
   (∀ i o b,look obs' i=some o->blk (γ' i)=some b->w.heap.size<=b)/\All2 (Rep1 w' (okM w w' ok γ' γ' [] obs')) res us
theorem SpecN.eqv {P:Program} {f:FuncId} {xs ys:List V1} {obs':List (Nat × Ob)} {i:Nat} {res:List V1} (h:SpecN P f ys obs' i res) (he:eqV1s xs ys):SpecN P f xs obs' i res:=
 ⟨h.1,fun w ok vs hok hv=>h.2 w ok vs hok (za6 he hv)⟩
def gwX (p:Nat->Bool) (r:Nat) (ix:List Nat):List (List Nat):=((rgs r (mst ix)).map (ix ++ ·)).filter fun iy=>(bitX iy).all p
theorem zgV (r m:Nat):rgs (r+1) m=(List.range (m+1)).flatMap fun k=>(rgs r (max m (k+1))).map (k :: ·):=by
 show _++_=_
 rw[qY,List.flatMap_append,List.flatMap_cons,List.flatMap_nil,jaJ,Nat.max_eq_right (Nat.le_succ m)]
 congr 1
 exact zcn fun k hk=>by rw[Nat.max_eq_left (kK.1 hk)]
theorem SpecM.nil {P:Program} {f:FuncId} {a b c:AV} {k:Nat} {g:Nat->Nat->D} {obs obs':List (Nat × Ob)} {pins:List Nat} {res:List V1} (h:SpecM P f [a,.d (.slc k 0 g),b,c] obs obs' pins res):SpecM P f [a,.nilsl,b,c] obs obs' pins res:=
 ⟨h.1,fun w ok γ vs h1 h2 h3=>h.2 w ok γ vs h1 h2 (by
  cases h3 with
  | cons x h3=>
  cases h3 with
  | cons y h3=>exact .cons x (.cons (.inl ⟨y,rfl⟩) h3))⟩
theorem ziI:∀ (r:Nat) (ix:List Nat),Rg ix -> ∀ iy∈rgs r (mst ix),Rg (ix++iy)/\iy.length=r
 | 0,ix,h,iy,hy=>by
  obtain rfl:=kH.1 hy
  rw[jaJ]
  exact⟨h,rfl⟩
 | r+1,ix,h,iy,hy=>by
  rw[zgV] at hy
  obtain⟨k,hk,hy⟩:=List.mem_flatMap.1 hy
  obtain⟨iz,hz,rfl⟩:=kJ.1 hy
  have hk:=kK.1 hk
  rw[<- zc2] at hz
  have:=ziI r (ix ++ [k]) (h.snoc (by omega)) iz hz
  rw[List.append_assoc] at this
  exact⟨this.1,by rw[jaP,this.2]⟩
theorem zlZ:Rg []:=fun i hi=>absurd hi (qD _)
theorem zmd {p:Nat->Bool} {n:Nat} {ix:List Nat} (h:ix∈gwX p n []):Rg ix/\ix.length=n:=by
 obtain⟨h,_⟩:=jap.1 h
 obtain⟨iy,hy,rfl⟩:=kJ.1 h
 exact ziI n [] zlZ iy hy
def Rgs (l:List (List Nat)):Prop:=∀ x∈l,Rg x/\x.length<=7
theorem Rgs.get {l:List (List Nat)} (h:Rgs l) {i:Nat} (hi:i<l.length):Rg (l.getD i [])/\(l.getD i []).length<=7:=by
 rw[hX,hZ hi]; exact h _ (kR hi)
def setX (ids:List Int) (ix:List Nat):List (List Int):=(bitX ix).map (memb ids)
theorem zph {d:Day} (h:few7 d):d.R.length<=40:=h.1.2.2.2.2.2
def exR:List Rpt:=[⟨1,1,1,1,100,450,0,10⟩,⟨2,1,2,2,110,1350,0,10⟩,⟨3,1,1,1,300,450,0,10⟩]
def exS:Svc:=⟨⟨⟨9,9,List.replicate 81 0⟩,[⟨1,⟨0,0⟩,0⟩,⟨2,⟨8,0⟩,0⟩],[]⟩,⟨[⟨1,⟨0,0⟩,0,1000,0,0,0⟩,⟨2,⟨8,0⟩,0,1000,0,0,0⟩],[]⟩⟩
def exD:Day:=⟨exS,0,60,exR⟩
theorem grdE (p:Place):grd exS.c.M p=0:=by
 show (List.replicate 81 (0:Int)).getD _ 0=0
 rw[hX,List.getElem?_replicate]
 split <;> rfl
theorem valE:validM exS.c.M=true:=by unfold validM; decide +kernel
theorem zoj (id:Int) (h:id=1 \/ id=2) (p:Place) (hp:onM exS.c.M p=true) (t:Int) (ht:within t 0 1048576=true):seesE exS.c id p 0 t=(true,0):=by
 have e0:ctryE exS.c=0:=by unfold ctryE; rw[kF (by rw[valE]; decide +kernel)]; unfold towE hzE onM; decide +kernel
 have e1:(towG exS.c.T id)=(if id=1 then ⟨1,⟨0,0⟩,0⟩ else ⟨2,⟨8,0⟩,0⟩,true):=by rcases h with rfl | rfl <;> decide +kernel
 have e2:farZ t exS.c.Z=100:=rfl
 have op:=zaj.1 hp
 have ox:0<=p.X/\p.X<9:=op.1
 have oy:0<=p.Y/\p.Y<9:=op.2
 unfold seesE
 have e1':(towG exS.c.T id).2=true:=by rcases h with rfl | rfl <;> decide +kernel
 rw[kF (fun hh=>hh e0),kF (by rw[e1']; decide +kernel),kF (by rw[hp,ht]; decide +kernel),e2]
 have e3:seesB exS.c (towG exS.c.T id).1 p 0 100=true:=by
  unfold seesB
  have on1:onM exS.c.M ⟨0,0⟩=true:=by unfold onM; decide +kernel
  have on2:onM exS.c.M ⟨8,0⟩=true:=by unfold onM; decide +kernel
  have m1:=mulB (a:=p.X) (b:=p.X) (x:=20) (y:=20) (by omega) (by omega)
  have m2:=mulB (a:=p.Y) (b:=p.Y) (x:=20) (y:=20) (by omega) (by omega)
  have m3:=mulB (a:=8 - p.X) (b:=8 - p.X) (x:=20) (y:=20) (by omega) (by omega)
  rw[e1]
  rcases h with rfl | rfl
  ·show (nearB ⟨0,0⟩ p 100 && freeB exS.c.M ⟨0,0⟩ 0 p 0)=true
   rw[zfG grdE valE on1 hp (by decide +kernel) (by decide +kernel),jaj]
   unfold nearB
   refine jG ?_
   show (0 - p.X) * (0 - p.X)+(0 - p.Y) * (0 - p.Y)<=100 * 100
   have a1:(0 - p.X) * (0 - p.X)=p.X * p.X:=by rw[Int.zero_sub,Int.neg_mul_neg]
   have a2:(0 - p.Y) * (0 - p.Y)=p.Y * p.Y:=by rw[Int.zero_sub,Int.neg_mul_neg]
   omega
  show (nearB ⟨8,0⟩ p 100 && freeB exS.c.M ⟨8,0⟩ 0 p 0)=true
  rw[zfG grdE valE on2 hp (by decide +kernel) (by decide +kernel),jaj]
  unfold nearB
  refine jG ?_
  show (8 - p.X) * (8 - p.X)+(0 - p.Y) * (0 - p.Y)<=100 * 100
  have a2:(0 - p.Y) * (0 - p.Y)=p.Y * p.Y:=by rw[Int.zero_sub,Int.neg_mul_neg]
  omega
 rw[e3]
theorem thsE (x:Cir):thsL exS.k x=[thg0 x]:=by
 show [thg0 x].mergeSort _=[thg0 x]
 exact List.mergeSort_singleton _
theorem zerE (id t:Int) (h:id=1 \/ id=2) (ht:within t 0 1000=true):zerR exS.k id t=(⟨0,0⟩,0):=by
 have bt:=zaa.1 ht
 have e0:cirsE exS.k=0:=by decide +kernel
 have e1:cirI exS.k id=if id=1 then 0 else 1:=by rcases h with rfl | rfl <;> decide +kernel
 have go:∀ x:Cir,x.Drift=0->x.Lo=0->x.Hi=0->knw exS.k id [t]=(x,[thg0 x],0)->zerR exS.k id t=(⟨0,0⟩,0):=fun x d1 d2 d3 hk=>by
  have ec:clsL x [thg0 x]=[]:=by
   unfold clsL clsU clsI
   have en:noneB (thg0 x)=false:=by unfold noneB; exact jH (by show ¬ x.Hi<x.Lo; omega)
   simp[qY,en,clsJ]
  have ea:atR exS.k id t=(x,[thg0 x],0):=by
   unfold atR; rw[hk]; dsimp only; rw[kG rfl]; unfold agrE; rw[kG ec]
  have ed:drf x x.From t=0:=by unfold drf; rw[d1]; simp
  unfold zerR
  rw[ea,kF (fun hh=>hh rfl)]
  dsimp only
  unfold zer
  simp only[jaU,List.foldl_nil,zStep,thg0,ed,d2,d3]
  simp
 rcases h with rfl | rfl
 ·refine go ⟨1,⟨0,0⟩,0,1000,0,0,0⟩ rfl rfl rfl ?_
  unfold knw
  rw[kF (fun hh=>hh e0),e1,kF (by decide +kernel),kG (by show (within t 0 1000 && true)=true; rw[ht]; rfl),thsE]; rfl
 refine go ⟨2,⟨8,0⟩,0,1000,0,0,0⟩ rfl rfl rfl ?_
 unfold knw
 rw[kF (fun hh=>hh e0),e1,kF (by decide +kernel),kG (by show (within t 0 1000 && true)=true; rw[ht]; rfl),thsE]; rfl
theorem wdgE (r:Rpt) (hc:r.C=1 \/ r.C=2) (ht:within r.Tick 0 1000=true) (hs:within r.From 0 3599=true) (hl:r.Slack=10):wdgR exS.k (rdgO r)=(wdg (r.From - 10) 20,0):=by
 have e1:cirsE exS.k=0:=by decide +kernel
 have e2:rdgE exS.k (rdgO r)=0:=by
  unfold rdgE rdgO
  rw[kF (fun hh=>hh e1)]
  rw[kF]
  dsimp only
  rw[hs,hl]; decide +kernel
 have e3:zerR exS.k (rdgO r).C (rdgO r).Tick=(⟨0,0⟩,0):=zerE r.C r.Tick hc ht
 unfold wdgR
 rw[kF (fun hh=>hh e2),e3,kF (fun hh=>hh rfl)]
 show (if (900:Int)<2 * r.Slack+0 - 0 then _ else (wdg (r.From - r.Slack - 0) (2 * r.Slack+0 - 0),(0:Int)))=_
 rw[hl,kF (by decide +kernel)]
 congr 2
 omega
theorem blkE (r:Rpt) (hc:r.C=1 \/ r.C=2) (ht:within r.Tick 0 1000=true) (h:¬ (r.To - r.From) % 3600<2 * r.Slack+0 - 0):blkR exS r=(⟨(r.From+r.Slack) % 3600,(r.To - r.Slack) % 3600⟩,true):=by
 have e3:=zerE r.C r.Tick hc ht
 unfold blkR
 rw[e3]
 dsimp only
 rw[kF h]
 simp
def lieE (w:Wdg) (a:Place) (n:Nat):Bool:=decide (n<81) && liesW w a ⟨((n % 9:Nat):Int),((n / 9:Nat):Int)⟩
def notE (w:Wdg) (a:Place) (n:Nat):Bool:=decide (n<81) && !liesW w a ⟨((n % 9:Nat):Int),((n / 9:Nat):Int)⟩
theorem plcE {n:Nat} (h:n<81):onM exS.c.M (plc exS.c.M n)=true:=zoC valE h
theorem zjh (b:Brn) (hr:b.Rise=0) (r:Rpt) (hw:r.Tower=1 \/ r.Tower=2) (ht:within r.Tick 0 1048576=true) {n:Nat} (h:n<81):lookB exS b r (plc exS.c.M n)=within r.Tick b.From b.To:=by
 unfold lookB
 rw[hr,zoj r.Tower hw _ (plcE h) r.Tick ht]
 show (true && true && within r.Tick b.From b.To)=_
 cases within r.Tick b.From b.To <;> rfl
theorem zki (b:Brn) (hr:b.Rise=0) (r:Rpt) (w:Wdg) (a:Place) (hk:r.Kind=1) (hw:r.Tower=1 \/ r.Tower=2) (ht:within r.Tick 0 1048576=true) (hb:within r.Tick b.From b.To=true) (hs:secR exS r=(w,true)) (ha:(towG exS.c.T r.Tower).1.At=a):alwP exS b r=lieE w a:=by
 funext n
 unfold alwP alwK lieE
 show (decide (n<81) && _)=_
 by_cases h:n<81
 ·refine jI (decide (n<81) && ·) ?_
  unfold allB seenB
  rw[kG hk,hs,ha,zjh b hr r hw ht h,hb,jaj]; rfl
 rw[jH h]; rfl
theorem zpx (b:Brn) (hr:b.Rise=0) (r:Rpt) (w:Wdg) (a:Place) (hk:r.Kind≠1) (hw:r.Tower=1 \/ r.Tower=2) (ht:within r.Tick 0 1048576=true) (hb:within r.Tick b.From b.To=true) (hs:secR exS r=(w,true)) (ha:(towG exS.c.T r.Tower).1.At=a):alwP exS b r=notE w a:=by
 funext n
 unfold alwP alwK notE
 show (decide (n<81) && _)=_
 by_cases h:n<81
 ·refine jI (decide (n<81) && ·) ?_
  unfold allB seenB
  rw[kF hk,hs,ha,zjh b hr r hw ht h,hb,jaj]; rfl
 rw[jH h]; rfl
def xq1:Rpt:=⟨1,1,1,1,100,450,0,10⟩
def xq2:Rpt:=⟨2,1,2,2,110,1350,0,10⟩
def xq3:Rpt:=⟨3,1,1,1,300,450,0,10⟩
def xq4:Rpt:=⟨4,2,1,1,105,400,500,10⟩
def exD4:Day:=⟨exS,0,60,[xq1,xq2,xq3,xq4]⟩
theorem svcEx:svcE exS=0:=by
 have e0:ctryE exS.c=0:=by unfold ctryE; rw[kF (by rw[valE]; decide +kernel)]; unfold towE hzE onM; decide +kernel
 have e1:cirsE exS.k=0:=by decide +kernel
 unfold svcE
 rw[kF (fun hh=>hh e0),kF (fun hh=>hh e1)]
 decide +kernel
theorem zkL (r:Rpt) (hf:frmB r=true) (hc:r.C=1 \/ r.C=2) (ht:within r.Tick 0 1000=true) (hw:r.Tower=r.C) (hk:r.Kind=1->within r.From 0 3599=true/\r.Slack=10):rptE exS r=0:=by
 have e3:=zerE r.C r.Tick hc ht
 unfold rptE
 rw[kF (by rw[hf]; decide +kernel),hw,e3]
 have e4:¬ ((towG exS.c.T r.C).2=false \/ cirI exS.k r.C<0):=by rcases hc with e | e <;> rw[e] <;> decide +kernel
 have e5:(exS.k.C.getD (cirI exS.k r.C).toNat default).At=(towG exS.c.T r.C).1.At:=by rcases hc with e | e <;> rw[e] <;> decide +kernel
 rw[kF e4,kF (fun hh=>hh e5),kF (fun hh=>hh rfl)]
 split
 ·rename_i h1
  rw[wdgE r hc ht (hk h1).1 (hk h1).2]
 rfl
theorem sx1:secR exS xq1=(⟨440,460⟩,true):=by
 unfold secR
 rw[kG (by rfl),wdgE xq1 (.inl rfl) (by decide +kernel) (by decide +kernel) rfl]; decide +kernel
theorem sx2:secR exS xq2=(⟨1340,1360⟩,true):=by
 unfold secR
 rw[kG (by rfl),wdgE xq2 (.inr rfl) (by decide +kernel) (by decide +kernel) rfl]; decide +kernel
theorem sx3:secR exS xq3=(⟨440,460⟩,true):=by
 unfold secR
 rw[kG (by rfl),wdgE xq3 (.inl rfl) (by decide +kernel) (by decide +kernel) rfl]; decide +kernel
theorem sx4:secR exS xq4=(⟨410,490⟩,true):=by
 unfold secR
 rw[kF (by decide +kernel),blkE xq4 (.inl rfl) (by decide +kernel) (by decide +kernel)]; decide +kernel
theorem rx1:rptE exS xq1=0:=zkL xq1 (by decide +kernel) (.inl rfl) (by decide +kernel) rfl fun _=>⟨by decide +kernel,rfl⟩
theorem rx2:rptE exS xq2=0:=zkL xq2 (by decide +kernel) (.inr rfl) (by decide +kernel) rfl fun _=>⟨by decide +kernel,rfl⟩
theorem rx3:rptE exS xq3=0:=zkL xq3 (by decide +kernel) (.inl rfl) (by decide +kernel) rfl fun _=>⟨by decide +kernel,rfl⟩
theorem rx4:rptE exS xq4=0:=zkL xq4 (by decide +kernel) (.inl rfl) (by decide +kernel) rfl fun h=>absurd h (by decide +kernel)
abbrev B1:Nat->Bool:=lieE ⟨440,460⟩ ⟨0,0⟩
abbrev B2:Nat->Bool:=lieE ⟨1340,1360⟩ ⟨8,0⟩
abbrev B4:Nat->Bool:=notE ⟨410,490⟩ ⟨0,0⟩
def fullE (n:Nat):Bool:=decide (n<81)
theorem zpw (b:Brn) (hr:b.Rise=0) (r:Rpt) (hk:r.Kind≠1) (hw:r.Tower=1 \/ r.Tower=2) (ht:within r.Tick 0 1048576=true) (hb:within r.Tick b.From b.To=false):alwP exS b r=fullE:=by
 funext n
 unfold alwP alwK fullE
 show (decide (n<81) && _)=_
 by_cases h:n<81
 ·rw[jG h,wI]
  unfold allB seenB
  rw[kF hk]
  show (!(_ && lookB exS b r (plc exS.c.M n)))=true
  rw[zjh b hr r hw ht h,hb,jaY]; rfl
 rw[jH h]; rfl
theorem a1 (b:Brn) (hr:b.Rise=0) (hb:within 100 b.From b.To=true):alwP exS b xq1=B1:=zki b hr xq1 _ _ rfl (.inl rfl) (by decide +kernel) hb sx1 (by decide +kernel)
theorem a2 (b:Brn) (hr:b.Rise=0) (hb:within 110 b.From b.To=true):alwP exS b xq2=B2:=zki b hr xq2 _ _ rfl (.inr rfl) (by decide +kernel) hb sx2 (by decide +kernel)
theorem a3 (b:Brn) (hr:b.Rise=0) (hb:within 300 b.From b.To=true):alwP exS b xq3=B1:=zki b hr xq3 _ _ rfl (.inl rfl) (by decide +kernel) hb sx3 (by decide +kernel)
theorem a4y (b:Brn) (hr:b.Rise=0) (hb:within 105 b.From b.To=true):alwP exS b xq4=B4:=zpx b hr xq4 _ _ (by decide +kernel) (.inl rfl) (by decide +kernel) hb sx4 (by decide +kernel)
theorem a4n (b:Brn) (hr:b.Rise=0) (hb:within 105 b.From b.To=false):alwP exS b xq4=fullE:=zpw b hr xq4 (by decide +kernel) (.inl rfl) (by decide +kernel) hb
theorem zo7 (b:Brn) (hb:brnB b=true) (l:List Rpt) (h24:¬ 24<l.length) (h:∀ r∈l,rptE exS r=0) (hd:(l.map Rpt.ID).Nodup):givE exS b l=0:=by
 unfold givE
 rw[kF (fun hh=>hh svcEx),kF (by rw[hb]; decide),kF h24]
 refine zbh fun i hi=>?_
 have hm:l.getD i default=l[i]:=by rw[hX,hZ hi]; rfl
 unfold rp1E
 rw[kF (fun hh=>hh (by rw[hm]; exact h _ (kR hi))),kF fun hc=>?_]
 have hc:=kD.1 hc
 rw[hm] at hc
 obtain⟨x,hx,e⟩:=kJ.1 hc
 obtain⟨j,hj,rfl⟩:=kM hx
 rw[jQ] at hj
 rw[jbh] at e
 have:=kI.1 hd j i (by rw[kN]; omega) (by rw[kN]; exact hi) (by omega)
 simp only[List.getElem_map] at this
 exact this e
theorem zoB {b:Brn} {l:List Rpt} {As:List (Nat->Bool)} (hb:brnB b=true) (h24:¬ 24<l.length) (h:∀ r∈l,rptE exS r=0) (hd:(l.map Rpt.ID).Nodup) (ha:l.map (alwP exS b)=As):(plcR exS b l).1=plsL exS.c.M (metP As):=by
 unfold plcR
 rw[kF (fun hh=>hh (zo7 b hb l h24 h hd)),ha]
theorem sig3:sigL exR=[1,2,3]:=by
 unfold sigL
 rw[List.mergeSort_of_pairwise (by decide +kernel)]
 decide +kernel
theorem sig4:sigL [xq1,xq2,xq3,xq4]=[1,2,3]:=by
 unfold sigL
 rw[List.mergeSort_of_pairwise (by decide +kernel)]
 decide +kernel
theorem zbw {d:Day} {ids:List Int} {b:Brn} {l:List Rpt} {As:List (Nat->Bool)} {L:List Place} (hs:d.s=exS) (hl:d.Long=60) (eb:brnD d ids=b) (el:lstD d ids=l) (sh:b.To - b.From<=60) (hb:brnB b=true) (h24:¬ 24<l.length) (h:∀ r∈l,rptE exS r=0) (hd:(l.map Rpt.ID).Nodup) (ha:l.map (alwP exS b)=As) (hL:plsL exS.c.M (metP As)=L):plsD d ids=L:=by
 unfold plsD
 rw[eb,el,hs,hl,kG sh,zoB hb h24 h hd ha,hL]
theorem zcC {d:Day} {ids:List Int} {b:Brn} (hl:d.Long=60) (eb:brnD d ids=b) (sh:¬ b.To - b.From<=60):plsD d ids=[]:=by
 unfold plsD
 rw[eb,hl,kF sh]
theorem zoS (m:Nat):memb [1,2,3] m=memb [1,2,3] (m % 8):=by
 unfold memb membA
 congr 1
 refine List.filter_congr fun i hi=>?_
 have hi:i<3:=kK.1 hi
 show m.testBit i=(m % 2 ^ 3).testBit i
 rw[Nat.testBit_mod_two_pow,jG hi,wI]
abbrev L1:List Place:=[⟨1,1⟩,⟨2,2⟩,⟨3,3⟩,⟨4,4⟩,⟨5,5⟩,⟨6,6⟩,⟨7,7⟩,⟨8,8⟩]
abbrev L2:List Place:=[⟨7,1⟩,⟨6,2⟩,⟨5,3⟩,⟨4,4⟩,⟨3,5⟩,⟨2,6⟩,⟨1,7⟩,⟨0,8⟩]
theorem m1:plsL exS.c.M (metP [B1])=L1:=by decide +kernel
theorem m2:plsL exS.c.M (metP [B2])=L2:=by decide +kernel
theorem m12:plsL exS.c.M (metP [B1,B2])=[⟨4,4⟩]:=by decide +kernel
theorem m1f:plsL exS.c.M (metP [B1,fullE])=L1:=by decide +kernel
theorem m2f:plsL exS.c.M (metP [B2,fullE])=L2:=by decide +kernel
theorem m124:plsL exS.c.M (metP [B1,B2,B4])=[]:=by decide +kernel
theorem c1:plsD exD [1]=L1:=zbw (b:=⟨100,100,0⟩) (l:=[xq1]) (As:=[B1]) rfl rfl (by decide +kernel) (by decide +kernel) (by decide +kernel) (by decide +kernel) (by decide +kernel) (fun r hr=>by rw[kH.1 hr]; exact rx1) (by decide +kernel) (by
  simp only[kT,jaI]
  rw[a1 _ rfl (by decide +kernel)]) m1
theorem c2:plsD exD [2]=L2:=zbw (b:=⟨110,110,0⟩) (l:=[xq2]) (As:=[B2]) rfl rfl (by decide +kernel) (by decide +kernel) (by decide +kernel) (by decide +kernel) (by decide +kernel) (fun r hr=>by rw[kH.1 hr]; exact rx2) (by decide +kernel) (by
  simp only[kT,jaI]
  rw[a2 _ rfl (by decide +kernel)]) m2
theorem c3:plsD exD [1,2]=[⟨4,4⟩]:=zbw (b:=⟨100,110,0⟩) (l:=[xq1,xq2]) (As:=[B1,B2]) rfl rfl (by decide +kernel) (by decide +kernel) (by decide +kernel) (by decide +kernel) (by decide +kernel) (fun r hr=>by
  simp only[kX,wB,ja6] at hr
  rcases hr with rfl | rfl
  ·exact rx1
  ·exact rx2
  ) (by decide +kernel) (by
  simp only[kT,jaI]
  rw[a1 _ rfl (by decide +kernel),a2 _ rfl (by decide +kernel)]) m12
theorem c4:plsD exD [3]=L1:=zbw (b:=⟨300,300,0⟩) (l:=[xq3]) (As:=[B1]) rfl rfl (by decide +kernel) (by decide +kernel) (by decide +kernel) (by decide +kernel) (by decide +kernel) (fun r hr=>by rw[kH.1 hr]; exact rx3) (by decide +kernel) (by
  simp only[kT,jaI]
  rw[a3 _ rfl (by decide +kernel)]) m1
theorem e1:plsD exD4 [1]=L1:=zbw (b:=⟨100,100,0⟩) (l:=[xq1,xq4]) (As:=[B1,fullE]) rfl rfl (by decide +kernel) (by decide +kernel) (by decide +kernel) (by decide +kernel) (by decide +kernel) (fun r hr=>by
  simp only[kX,wB,ja6] at hr
  rcases hr with rfl | rfl
  ·exact rx1
  ·exact rx4
  ) (by decide +kernel) (by
  simp only[kT,jaI]
  rw[a1 _ rfl (by decide +kernel),a4n _ rfl (by decide +kernel)]) m1f
theorem e2:plsD exD4 [2]=L2:=zbw (b:=⟨110,110,0⟩) (l:=[xq2,xq4]) (As:=[B2,fullE]) rfl rfl (by decide +kernel) (by decide +kernel) (by decide +kernel) (by decide +kernel) (by decide +kernel) (fun r hr=>by
  simp only[kX,wB,ja6] at hr
  rcases hr with rfl | rfl
  ·exact rx2
  ·exact rx4
  ) (by decide +kernel) (by
  simp only[kT,jaI]
  rw[a2 _ rfl (by decide +kernel),a4n _ rfl (by decide +kernel)]) m2f
theorem e3:plsD exD4 [1,2]=[]:=zbw (b:=⟨100,110,0⟩) (l:=[xq1,xq2,xq4]) (As:=[B1,B2,B4]) rfl rfl (by decide +kernel) (by decide +kernel) (by decide +kernel) (by decide +kernel) (by decide +kernel) (fun r hr=>by
  simp only[kX,wB,ja6] at hr
  rcases hr with rfl | rfl | rfl
  ·exact rx1
  ·exact rx2
  ·exact rx4
  ) (by decide +kernel) (by
  simp only[kT,jaI]
  rw[a1 _ rfl (by decide +kernel),a2 _ rfl (by decide +kernel),a4y _ rfl (by decide +kernel)]) m124
theorem e4:plsD exD4 [3]=L1:=zbw (b:=⟨300,300,0⟩) (l:=[xq3,xq4]) (As:=[B1,fullE]) rfl rfl (by decide +kernel) (by decide +kernel) (by decide +kernel) (by decide +kernel) (by decide +kernel) (fun r hr=>by
  simp only[kX,wB,ja6] at hr
  rcases hr with rfl | rfl
  ·exact rx3
  ·exact rx4
  ) (by decide +kernel) (by
  simp only[kT,jaI]
  rw[a3 _ rfl (by decide +kernel),a4n _ rfl (by decide +kernel)]) m1f
theorem c5:plsD exD [1,3]=[]:=zcC (b:=⟨100,300,0⟩) rfl (by decide +kernel) (by decide +kernel)
theorem c6:plsD exD [2,3]=[]:=zcC (b:=⟨110,300,0⟩) rfl (by decide +kernel) (by decide +kernel)
theorem c7:plsD exD [1,2,3]=[]:=zcC (b:=⟨100,300,0⟩) rfl (by decide +kernel) (by decide +kernel)
theorem e5:plsD exD4 [1,3]=[]:=zcC (b:=⟨100,300,0⟩) rfl (by decide +kernel) (by decide +kernel)
theorem e6:plsD exD4 [2,3]=[]:=zcC (b:=⟨110,300,0⟩) rfl (by decide +kernel) (by decide +kernel)
theorem e7:plsD exD4 [1,2,3]=[]:=zcC (b:=⟨100,300,0⟩) rfl (by decide +kernel) (by decide +kernel)
def T3 (m:Nat):List Place:=match m % 8 with
 | 1=>L1 | 2=>L2 | 3=>[⟨4,4⟩] | 4=>L1 | 0=>plsD exD [] | _=>[]
def T4 (m:Nat):List Place:=match m % 8 with
 | 1=>L1 | 2=>L2 | 4=>L1 | 0=>plsD exD4 [] | _=>[]
theorem cel3 (m:Nat):celD exD m=T3 m:=by
 have h:celD exD m=plsD exD (memb [1,2,3] (m % 8)):=by
  show plsD exD (memb (sigL exR) m)=_
  rw[sig3,zoS]
 rw[h]
 have h8:m % 8<8:=jaf _ (by decide)
 unfold T3
 generalize m % 8=k at h8
 match k,h8 with
 | 0,_=>rfl
 | 1,_=>exact c1
 | 2,_=>exact c2
 | 3,_=>exact c3
 | 4,_=>exact c4
 | 5,_=>exact c5
 | 6,_=>exact c6
 | 7,_=>exact c7
theorem cel4 (m:Nat):celD exD4 m=T4 m:=by
 have h:celD exD4 m=plsD exD4 (memb [1,2,3] (m % 8)):=by
  show plsD exD4 (memb (sigL [xq1,xq2,xq3,xq4]) m)=_
  rw[sig4,zoS]
 rw[h]
 have h8:m % 8<8:=jaf _ (by decide)
 unfold T4
 generalize m % 8=k at h8
 match k,h8 with
 | 0,_=>rfl
 | 1,_=>exact e1
 | 2,_=>exact e2
 | 3,_=>exact e3
 | 4,_=>exact e4
 | 5,_=>exact e5
 | 6,_=>exact e6
 | 7,_=>exact e7
section
variable (ids:List Int) (pv:D) (ok:List Int->Bool)
abbrev putSl (γ:Nat->Value) (i:Nat):List (Nat × AV):=[(0,.d (I i)),(1,.d (capB [lI ids])),(2,.pbox 4 (γ 4)),(3,.d (posD pv)),(4,.pbox 3 (γ 3)),(5,.pbox 5 (γ 5))]
theorem zg0 (i:Nat) (ss:List (List Int)):∀ l,∀ v∈putArgs ids pv i l,∀ j∈v.refs,(look (putObs ids pv ss l) j).isSome=true:=by
 intro l v hv j hj
 simp only[putArgs,kX,wB,ja6] at hv
 rcases hv with rfl | rfl | rfl | rfl | rfl | rfl
 ·cases hj
 ·cases hj
 ·obtain rfl:j=4:=by simpa [AV.refs] using hj
  rfl
 ·cases hj
 ·obtain rfl:j=3:=by simpa [AV.refs] using hj
  rfl
 obtain rfl:j=5:=by simpa [AV.refs] using hj
 rfl
theorem zoG (hn:ids.length<=7) (hok:PosC pv ok) (ss:List (List Int)) (n:Nat) (hs:ss.length<=7) (hl:∀ s∈ss,s.length<=7) (hsub:Sub (allP ids ok) n (prt ok [] ss)) :
  SpecY PP 188 ((allP ids ok).map enP) n (prt ok [] ss).length (putArgs ids pv ids.length) (putObs ids pv ss) (putObs ids pv ss) [4,3,5] [B true] [B false]:=by
 refine zgR [10] Tryz.func188 rfl (by kernel_rfl) (putArgs ids pv ids.length) [7] rfl [(2,4),(4,3),(5,5)] rfl rfl rfl (zg0 ids pv _ ss) (by decide) (fun _=>rfl) fun l γ=>?_
 refine sYe (by simp) ?_
 refine lOf (σ:=Nat) (fun j=>([(G,.gho (some n)),(0,.d (I ids.length)),(1,.d (capB [lI ids])),(2,.pbox 4 (γ 4)),(3,.d (posD pv)),(4,.pbox 3 (γ 3)),(5,.pbox 5 (γ 5)),(8,.own 17),(18,.own 100),(19,.d (I ss.length)),(20,.d (I j))],
   [(4,.box [.own 100]),(100,.row 22 1 ss.length (rowII ss)),(3,.box [.yl l]),(5,.box [.clo 188 (putCaps ids pv)]),(17,.row 22 1 (ss.take j).length (rowII (ss.take j)))])) (fun j=>j<=ss.length /\ ∀ q,q<j->ok (ss.getD q [])=true) (fun j=>ss.length - j) 0
  ⟨rfl,⟨obX rfl,obR rfl (dE _),obX rfl,obX rfl,obR rfl ⟨rfl,.inl rfl⟩,trivial⟩,wq rfl⟩ z0L fun j hj=>?_
 obtain⟨hj,ha⟩:=hj
 have lt:(ss.take j).length=j:=by rw[jQ]; omega
 apply bY <;> intro h2
 ·have h2:j<ss.length:=by have:=dT h2; omega
  have ej:((j:Nat):Int).toNat=j:=wD j
  have hm:ss.getD j []∈ss:=by rw[hX,hZ h2]; exact kR h2
  refine⟨⟨by omega,by omega⟩,⟨by omega,?_⟩⟩
  rcases hok with⟨g0,c0,rfl,hok⟩ | ⟨f0,m0,g0,rfl,hok⟩
  all_goals
   have hc:=hok (ss.getD (j:Int).toNat []) (by rw[ej]; exact hl _ hm)
   first | refine cP hc rfl rfl ?_ | refine CallSt.bn rfl rfl rfl hc rfl ?_
   apply bY <;> intro h3
   ·have h3:ok (ss.getD j [])=false:=by rw[ej] at h3; simpa using h3
    have em:prt ok [] ss=[]:=kF fun h=>by rw[jC.1 h _ hm] at h3; cases h3
    exact .inl ⟨rfl,⟨obX rfl,obR rfl (dE _),obX rfl,obX rfl,trivial⟩,avG rfl (by rw[em]; rfl),avQ rfl,avQ rfl,avQ rfl,avQ rfl,trivial⟩
   have h3:ok (ss.getD j [])=true:=by rw[ej] at h3; simpa using h3
   refine cR (ziW (ss.getD (j:Int).toNat []) (by rw[ej]; have:=hl _ hm; omega)) rfl rfl ?_
   refine⟨⟨.inr rfl,by unfold maxLen; omega,by show ((ss.take j).length+1) * 24<=140737488355328; omega⟩,?_⟩
   refine⟨i6,?_⟩
   refine⟨j+1,⟨rfl,⟨obX rfl,obR rfl (dE _),obX rfl,obX rfl,obR rfl ?_,trivial⟩,wq rfl⟩,⟨h2,fun q hq=>?_⟩,msr h2⟩
   ·rw[zaM h2 []]
    refine ziM rfl ?_
    show D.eqv (lI (ss.getD (j:Int).toNat [])) _
    rw[ej]; exact dE _
   by_cases e:q=j
   ·subst e; exact h3
   exact ha q (by omega)
 have h2:j=ss.length:=by have:=dF h2; omega
 subst h2
 rw[jZ]
 have em:prt ok [] ss=[ss]:=kG (jC.2 fun s hs=>by
  obtain⟨q,hq,rfl⟩:=kM hs
  have:=ha q hq
  rw[hX,hZ hq] at this
  exact this)
 refine kAt [(G,.gho (some n)),(0,.d (I ids.length)),(1,.d (capB [lI ids])),(2,.pbox 4 (γ 4)),(3,.d (posD pv)),(4,.pbox 3 (γ 3)),(5,.pbox 5 (γ 5)),(8,.d (lII ss))] (putObs ids pv ss l) ⟨rfl,⟨obX rfl,obR rfl (dE _),obX rfl,obX rfl,trivial⟩,avQ rfl,avQ rfl,avQ rfl,avQ rfl,avQ rfl,avQ rfl,avQ rfl,avOw rfl rfl rfl (dE _),trivial⟩ ?_
 refine CallSt.ydC (d:=36) (putSl ids pv γ ids.length) (putObs ids pv ss l) rfl rfl rfl rfl ⟨rfl,⟨obX rfl,obR rfl (dE _),obX rfl,obX rfl,trivial⟩,wq rfl⟩ (by rw[em] at hsub; exact hsub.get) rfl rfl ?_ ?_
 ·exact .inl ⟨rfl,⟨obX rfl,obR rfl (dE _),obX rfl,obX rfl,trivial⟩,avG rfl (by rw[em]; rfl),avQ rfl,avQ rfl,avQ rfl,avQ rfl,trivial⟩
 exact .inr ⟨rfl,trivial,avQ rfl,avQ rfl,trivial⟩
end
end Go.Pg
