/- Lemmas, joined by program. -/
import Derived.Test.YtpkmlacgjfhdkaaGreatAE
set_option maxHeartbeats 4000000
set_option linter.all false
namespace Go.Pg
open Go.Proofs Go.RowKit
def renA (ρ:Nat->Nat):AV->AV
 | .d x=>.d x
 | .own i=>.own (ρ i)
 | .box i o=>.box (ρ i) o
 | _=>.any
def renO (ρ:Nat->Nat):Ob->Ob
 | .box cs=>.box (cs.map (renA ρ))
 | o=>o
def renL (ρ:Nat->Nat):List (Nat × Ob)->List (Nat × Ob)
 | []=>[]
 | (i,o) :: r=>(ρ i,renO ρ o) :: renL ρ r
theorem za7 {ρ:Nat->Nat}:∀ {l:List (Nat × Ob)} {j:Nat} {o':Ob},look (renL ρ l) j=some o' -> ∃ i o,look l i=some o/\j=ρ i/\o'=renO ρ o
 | [],_,_,h=>by cases h
 | (t,p) :: r,j,o',h=>by
  simp only[renL,look] at h
  cases hb:Nat.beq j (ρ t) with
  | true=>rw[hb] at h; cases h; exact⟨t,p,by simp only[look,zas]; rfl,jA hb,rfl⟩
  | false=>
  rw[hb] at h
  obtain⟨i,o,h1,rfl,h3⟩:=za7 (l:=r) h
  refine⟨i,o,?_,rfl,h3⟩
  simp only[look]
  rw[ze4 (fun e=>by subst e; rw[zas] at hb; cases hb)]
  exact h1
theorem zdL {ρ:Nat->Nat}:∀ {l:List (Nat × Ob)} {i:Nat},(look l i).isSome=true->(look (renL ρ l) (ρ i)).isSome=true
 | [],_,h=>by cases h
 | (t,p) :: r,i,h=>by
  simp only[renL,look] at h ⊢
  cases hb:Nat.beq i t with
  | true=>obtain rfl:=jA hb; rw[zas]; rfl
  | false=>
  rw[hb] at h
  cases Nat.beq (ρ i) (ρ t) with
  | true=>rfl
  | false=>exact zdL (l:=r) h
section
variable {w:World} {ok:Nat->Prop} {γ:Nat->Value} {ρ σ:Nat->Nat}
theorem zqN {c:AV} {v:Value} (hc:∀ j∈c.refs,σ (ρ j)=j) (h:M w ok γ c v):M w ok (fun j=>γ (σ j)) (renA ρ c) v:=by
 cases c with
 | d x=>exact h
 | own i=>
  show v=γ (σ (ρ i))
  rw[hc i (by simp[AV.refs])]; exact h
 | box i o=>
  obtain⟨b,h1,h2⟩:=h
  exact⟨b,by show γ (σ (ρ i))=_; rw[hc i (by simp[AV.refs])]; exact h1,h2⟩
 | _=>exact trivial
theorem zks {c:AV} {k:Nat} (h:k∈(renA ρ c).refs):∃ j∈c.refs,k=ρ j:=by
 cases c with
 | own i=>exact⟨i,by simp[AV.refs],by simpa [renA,AV.refs] using h⟩
 | box i o=>exact⟨i,by simp[AV.refs],by simpa [renA,AV.refs] using h⟩
 | _=>simp[renA,AV.refs] at h
theorem OwnS.ren {obs:List (Nat × Ob)} (h:OwnS w ok γ obs) (hσ:∀ i,(look obs i).isSome=true->σ (ρ i)=i):OwnS w ok (fun j=>γ (σ j)) (renL ρ obs) where
  objs:=fun j o' hj=>by
    obtain⟨i,o,h1,rfl,rfl⟩:=za7 hj
    have e:σ (ρ i)=i:=hσ i (by rw[h1]; rfl)
    have hh:=h.objs i o h1
    cases o with
    | box cs=>
      obtain⟨b,vs,T,g1,g2,g3,g4⟩:=hh
      refine⟨b,vs,T,by show γ (σ (ρ i))=_; rw[e]; exact g1,g2,g3,?_⟩
      have hr:=h.refs i cs h1
      clear h1 g1 g3 hj
      induction g4 with
      | nil=>exact .nil
      | cons h5 h6 ih=>exact .cons ⟨zqN (fun j hj=>hσ j (hr _ (jal ..) j hj)) h5.1,h5.2⟩ (ih fun c hc=>hr c (kO _ hc))
    | row e' k n f=>
      obtain⟨xs,g1,g2,g3⟩:=hh
      refine⟨xs,by show w.ownsRow 0 e' k (γ (σ (ρ i))) n xs; rw[e]; exact g1,fun b hb=>trivial,g3⟩
    | mp m ks f=>
      obtain⟨b,es,c,g1,g2,g3⟩:=hh
      exact⟨b,es,c,by show γ (σ (ρ i))=_; rw[e]; exact g1,g2,g3⟩
  refs:=fun j cs hj c hc k hk=>by
    obtain⟨i,o,h1,rfl,h3⟩:=za7 hj
    cases o with
    | box cs'=>
      cases h3
      obtain⟨c',hc',rfl⟩:=kI.1 hc
      obtain⟨j',hj',rfl⟩:=zks hk
      exact zdL (h.refs i cs' h1 c' hc' j' hj')
    | row _ _ _ _=>cases h3
    | mp _=>cases h3
  sep:=fun j k o o' hj hk hjk b hb hb'=>by
    obtain⟨i,p,h1,rfl,-⟩:=za7 hj
    obtain⟨i',p',h1',rfl,-⟩:=za7 hk
    have hb:blk (γ (σ (ρ i)))=some b:=hb
    have hb':blk (γ (σ (ρ i')))=some b:=hb'
    rw[hσ i (by rw[h1]; rfl)] at hb
    rw[hσ i' (by rw[h1']; rfl)] at hb'
    exact h.sep i i' p p' h1 h1' (fun e=>hjk (by rw[e])) b hb hb'
  out:=fun j o b hj hb=>by
    obtain⟨i,p,h1,rfl,-⟩:=za7 hj
    have hb:blk (γ (σ (ρ i)))=some b:=hb
    rw[hσ i (by rw[h1]; rfl)] at hb
    exact h.out i p b h1 hb
theorem zkr {obs:List (Nat × Ob)} (hσ:∀ i,(look obs i).isSome=true->σ (ρ i)=i) {b:Nat}:LentB (fun j=>γ (σ j)) (renL ρ obs) b->LentB γ obs b:=fun⟨j,o,h1,h2⟩=>by
 obtain⟨i,p,g1,rfl,-⟩:=za7 h1
 have h2:blk (γ (σ (ρ i)))=some b:=h2
 rw[hσ i (by rw[g1]; rfl)] at h2
 exact⟨i,p,g1,h2⟩
theorem zk3 {obs:List (Nat × Ob)} (hσ:∀ i,(look obs i).isSome=true->σ (ρ i)=i) {b:Nat}:LentB γ obs b->LentB (fun j=>γ (σ j)) (renL ρ obs) b:=fun⟨i,o,h1,h2⟩=>by
 have:=zdL (ρ:=ρ) (l:=obs) (i:=i) (by rw[h1]; rfl)
 obtain⟨o',e⟩:=kW.1 this
 exact⟨ρ i,o',e,by show blk (γ (σ (ρ i)))=_; rw[hσ i (by rw[h1]; rfl)]; exact h2⟩
end
theorem SpecM.ren {P:Program} {f:FuncId} {args:List AV} {obs obs':List (Nat × Ob)} {pins:List Nat} {res:List V1} (h:SpecM P f args obs obs' pins res) (ρ σ:Nat->Nat) (hσ:(obs'.all fun p=>Nat.beq (σ (ρ p.1)) p.1)=true) (hp:(pins.all fun i=>Nat.beq (σ i) i)=true) :
  SpecM P f args obs (renL ρ obs') pins res:=by
 have hσ':∀ i,(look obs' i).isSome=true->σ (ρ i)=i:=fun i hi=>by
  obtain⟨o,e⟩:=kW.1 hi
  exact jA (jC.1 hσ _ (zag e))
 refine⟨h.1,fun w ok γ vs hok ho hm=>(h.2 w ok γ vs hok ho hm).mono fun en w' ⟨r,γ',e,hf,hpin,ho',hn,hres⟩=>?_⟩
 have hM:∀ b,okM w w' ok γ γ' obs obs' b ↔ okM w w' ok γ (fun j=>γ' (σ j)) obs (renL ρ obs') b:=fun b=>
  ⟨fun hb=>hb.imp id fun hb=>⟨hb.1,hb.2.1,fun q=>hb.2.2 (zkr hσ' q)⟩,fun hb=>hb.imp id fun hb=>⟨hb.1,hb.2.1,fun q=>hb.2.2 (zk3 hσ' q)⟩⟩
 have eM:okM w w' ok γ γ' obs obs'=okM w w' ok γ (fun j=>γ' (σ j)) obs (renL ρ obs'):=funext fun b=>propext (hM b)
 refine⟨r,fun j=>γ' (σ j),e,hf,fun i hi=>?_,?_,fun j o b hj hb=>?_,?_⟩
 ·show γ' (σ i)=γ i
  rw[jA (jC.1 hp i hi)]; exact hpin i hi
 ·rw[<- eM]; exact ho'.ren hσ'
 ·obtain⟨i,p,h1,rfl,-⟩:=za7 hj
  have hb:blk (γ' (σ (ρ i)))=some b:=hb
  rw[hσ' i (by rw[h1]; rfl)] at hb
  exact hn i p b h1 hb
 rw[<- eM]; exact hres
def ckM (args:List AV) (obs:List (Nat × Ob)):Bool:=args.all fun v=>v.refs.all fun j=>(look obs j).isSome
theorem zfm (ids : List Nat) {f : FuncId} {fn : Func} {c : Code} (hf : PP.funcs[f]? = some fn) (hb : fn.body = some c) (hq : ((fn.name == "runtime.NumGoroutine") || !(codeN fn.ntmps c && Nat.ble fn.ntmps 4294967296)) = false)
  {args : List AV} {obs obs' : List (Nat × Ob)} (ts : List Nat) (pins : List (Nat × Nat)) {res : List V1} (hts : fn.results.toList = ts.map ResultVar.tmp) (hlr : ts.length = res.length) (hck : ckM args obs = true) (hpn : (pins.map Prod.fst ++ ts).Nodup) (hsz : Nat.ble args.length fn.ntmps = true)
  (h : ∀ γ, awp PP TTab (EC ids) c (St.of (slotsM γ 0 args) obs) (retM ts res γ pins obs')) : SpecM PP f args obs obs' (pins.map Prod.snd) res := by
 simp only [kU, kY, jP] at hq
 exact zmC (E := EC ids) hT hE hM hf hb hq.1 hq.2.1 ts hts pins hlr (fun v hv j hj => jC.1 (jC.1 hck v hv) j hj) hpn (jD hsz) (jD hq.2.2) h
theorem zmB (ids : List Nat) {f : FuncId} {fn : Func} {c : Code} (hf : PP.funcs[f]? = some fn) (hb : fn.body = some c) (hq : ((fn.name == "runtime.NumGoroutine") || !(codeN fn.ntmps c && Nat.ble fn.ntmps 4294967296)) = false)
  {args : List V1} {obs' : List (Nat × Ob)} (t0 i t1 : Nat) (ts : List Nat) {res : List V1} (hts : fn.results.toList = (t0 :: t1 :: ts).map ResultVar.tmp) (hlr : (t1 :: ts).length = res.length) (hpn : (t0 :: t1 :: ts).Nodup) (hsz : Nat.ble args.length fn.ntmps = true)
  (h : awp PP TTab (EC ids) c (St.of (argSlots 0 args) []) (retN t0 i (t1 :: ts) res obs')) : SpecN PP f args obs' i res := by
 simp only [kU, kY, jP] at hq
 exact zmA (E := EC ids) rfl hT hE hM hf hb hq.1 hq.2.1 t0 i t1 ts hts hlr hpn (jD hsz) (jD hq.2.2) h
end Go.Pg
set_option maxRecDepth 100000
namespace Go.Pg
open Go.Proofs Go.RowKit Go.Sort Go.Shelf
abbrev smO (s:Svc) (b:Brn) (l:List Rpt) (L:List (Nat->Bool)):List (Nat × Ob):=
 [(19,.box [.d (I s.c.M.W),.d (I s.c.M.H),.d (lI s.c.M.G),.d (lT s.c.T),.d (lZ s.c.Z),.d (lC s.k.C),.d (lK s.k.K),.d (I b.From),.d (I b.To),.d (I b.Rise),.own 1001,.own 1002]),(1001,.row 53 8 l.length (rowRp l)),(1002,.row 95 38 L.length (rowB L))]
theorem obY {s:St} {ob:Nat->Option Ob} {o:Option Ob} {cs cs':List AV} (g:o=some (.box cs)) (h:avles s ob cs cs'):Oble s ob o (.box cs'):=by subst g; exact h
theorem obNo {s:St} {ob:Nat->Option Ob} {o:Option Ob} {e k n:Nat} {f:Nat->Nat->D} (g:o=none) (h:n=0):Oble s ob o (.row e k n f):=by subst g; exact h
theorem cp_ok {s:Svc} (ok:SvcOk s):CpOk s:=by
 obtain⟨h1,h2,h3,-⟩:=zah ok.c.m
 have h4:s.c.M.W * s.c.M.H<=49 * 49:=Int.mul_le_mul h1.2 h2.2 (by omega) (by decide)
 have:=ok.c.t
 have:=ok.c.z
 have:=ok.k.n
 have:=ok.k.m
 exact⟨by omega,by omega,by omega,by omega,by omega⟩
theorem n_New (s:Svc) (b:Brn) (h0:svcE s=0) (hb:brnB b=true):SpecN PP 9 [s.v,b.v] (smO s b [] []) 19 [N 0]:=by
 refine zmB [] Tryz.func9 rfl (by kernel_rfl) 4 19 5 [] rfl rfl (by decide) rfl ?_
 refine cP (zdY s) rfl rfl ?_
 refine bY (fun h1=>absurd h0 (by simpa using h1)) (fun _=>?_)
 refine cP (zhs b) rfl rfl ?_
 rw[hb]
 refine sF ?_
 refine Exists.intro [0,2,1,3,4,5,6] (And.intro (by kernel_rfl) (fNo ?_))
 refine oRo (zmf s (cp_ok (zc9 h0))) rfl rfl ?_
 exact⟨rfl,⟨obY rfl ⟨dE _,dE _,dE _,dE _,dE _,dE _,dE _,dE _,dE _,dE _,⟨rfl,_,_,_,rfl⟩,⟨rfl,_,_,_,rfl⟩,trivial⟩,obNo rfl rfl,obNo rfl rfl,trivial⟩,wq rfl⟩
theorem zqm (x r:Rpt):Spec PP 32 [x.v,.d (capB r.ds)] [B (x.ID==r.ID)]:=by
 refine sA Tryz.func32 ?_
 exact r1B rfl rfl
def putE (s:Svc) (l:List Rpt) (r:Rpt):Int:=if 24<=l.length then 2 else if rptE s r≠0 then rptE s r else if (l.any fun x=>x.ID==r.ID)=true then 6 else 0
def putLs (s:Svc) (l:List Rpt) (r:Rpt):List Rpt:=if putE s l r=0 then l ++ [r] else l
theorem smW {st:St} {ob:Nat->Option Ob} (s:Svc) (b:Brn):avles st ob [.d (I s.c.M.W),.d (I s.c.M.H),.d (lI s.c.M.G),.d (lT s.c.T),.d (lZ s.c.Z),.d (lC s.k.C),.d (lK s.k.K),.d (I b.From),.d (I b.To),.d (I b.Rise),.own 1001,.own 1002] [.d (I s.c.M.W),.d (I s.c.M.H),.d (lI s.c.M.G),.d (lT s.c.T),.d (lZ s.c.Z),.d (lC s.k.C),.d (lK s.k.K),.d (I b.From),.d (I b.To),.d (I b.Rise),.own 1001,.own 1002]:=
 ⟨dE _,dE _,dE _,dE _,dE _,dE _,dE _,dE _,dE _,dE _,rfl,rfl,trivial⟩
theorem m_Put (s:Svc) (b:Brn) (l:List Rpt) (r:Rpt) (ok:SvcOk s):SpecM PP 12 [.box 19 0,.agg r.ds] (smO s b l (l.map (alwP s b))) (smO s b (putLs s l r) ((putLs s l r).map (alwP s b))) [19] [N (putE s l r)]:=by
 refine zfm [] Tryz.func12 rfl (by kernel_rfl) [4] [(0,19)] rfl rfl rfl (by decide) rfl fun γ=>?_
 apply bY <;> intro h1
 ·have h1:24<=l.length:=by have:=dT h1; omega
  have e:putE s l r=2:=by unfold putE; rw[kG h1]
  have e2:putLs s l r=l:=by unfold putLs; rw[e]; rfl
  rw[e,e2]
  exact⟨rfl,⟨obY rfl (smW s b),obR rfl (dE _),obR rfl (dE _),trivial⟩,⟨rfl,rfl⟩,avI rfl rfl,trivial⟩
 have h1:¬ 24<=l.length:=by have:=dF h1; omega
 refine oN 7 ?_
 refine oP (zbD s r (by have:=ok.c.t; omega) (by have:=ok.k.n; omega)) rfl rfl ?_
 apply bY <;> intro h2
 ·have h2:rptE s r≠0:=by simpa using h2
  have e:putE s l r=rptE s r:=by unfold putE; rw[kF h1,kG h2]
  have e2:putLs s l r=l:=by unfold putLs; rw[e,kF h2]
  rw[e,e2]
  exact⟨rfl,⟨obY rfl (smW s b),obR rfl (dE _),obR rfl (dE _),trivial⟩,⟨rfl,rfl⟩,avI rfl rfl,trivial⟩
 have h2:rptE s r=0:=by simpa using h2
 refine CallSt.lend [3,1001] rfl (zql l 32 (capB r.ds) (fun x=>x.ID==r.ID) (by omega) fun i _=>zqm _ r) rfl ⟨dE _,⟨rfl,rfl,fun j hj=>by obtain rfl:j=0:=jaV.1 hj; exact dE _⟩,trivial⟩ rfl ?_
 apply bY <;> intro h3
 ·have e:putE s l r=6:=by unfold putE; rw[kF h1,kF (fun hh=>hh h2),kG h3]
  have e2:putLs s l r=l:=by unfold putLs; rw[e]; rfl
  rw[e,e2]
  exact⟨rfl,⟨obY rfl (smW s b),obR rfl (dE _),obR rfl (dE _),trivial⟩,⟨rfl,rfl⟩,avI rfl rfl,trivial⟩
 have e:putE s l r=0:=by unfold putE; rw[kF h1,kF (fun hh=>hh h2),kF (by rw[h3]; decide)]
 have e2:putLs s l r=l ++ [r]:=by unfold putLs; rw[kG e]
 rw[e,e2]
 refine Exists.intro [1000,1,2,3,4,5,6,7,8,9,10,11,12,13,14,15,16,17,18,19] (And.intro (by kernel_rfl) (fNo ⟨rfl,⟨rfl,?_⟩⟩))
 refine oP (zgw s b r ok.c.m (zkn h2) (by have:=ok.c.t; omega)) rfl rfl ?_
 have hlen:(l.map (alwP s b)).length=l.length:=qA ..
 refine⟨⟨.inr rfl,by unfold maxLen; omega,by show ((l.map (alwP s b)).length+1) * 304<=140737488355328; omega⟩,?_⟩
 refine Exists.intro [1000,1,2,3,4,5,6,7,8,9,10] (And.intro (by kernel_rfl) (fNo ⟨rfl,⟨rfl,?_⟩⟩))
 refine⟨⟨.inr rfl,by unfold maxLen; omega,by show (l.length+1) * 64<=140737488355328; omega⟩,?_⟩
 refine⟨rfl,⟨obY rfl (smW s b),obR rfl (pushR (rd8 r)),obR rfl ?_,trivial⟩,⟨rfl,rfl⟩,avI rfl rfl,trivial⟩
 rw[jT]
 exact zqP fun j hj=>zrE (alwP s b r) hj
@[irreducible] def rmP (l:List Rpt) (i:Nat):List Rpt:=l.take i++l.drop (i+1)
theorem zoV {l:List Rpt} {i:Nat} (hi:i<l.length):(rmP l i).length=l.length - 1:=by unfold rmP; simp; omega
theorem zoW {l:List Rpt} {i j:Nat} (hi:i<l.length):(rmP l i)[j]?=if j<i then l[j]? else l[j+1]?:=by
 unfold rmP
 by_cases h:j<i
 ·rw[kG h,jJ (by rw[jQ]; omega),List.getElem?_take_of_lt h]
 rw[kF h,jK (by rw[jQ]; omega),jQ,qW]
 congr 1
 omega
theorem zoU (f:Rpt->Nat->Bool) (l:List Rpt) (i:Nat):(rmP l i).map f=rmB (l.map f) i:=by
 unfold rmP rmB
 rw[jT,List.map_take,List.map_drop]
theorem zqt (l:List Rpt) (i:Nat) (hi:i<l.length):SpecT PP 86 [] [.d (.int .i64 i),.d (.int .i64 ((i+1:Nat):Int))] 53 8 l.length (rowRp l) (rmP l i).length (rowRp (rmP l i)):=by
 obtain⟨i0,z,h1,h2,h3,h4,h5,h6⟩:=zgV (e:=53) (ei:=⟨8,true,64,List.replicate 8 (.int .i64 0),.struct [(0,3),(1,3),(2,3),(3,3),(4,3),(5,3),(6,3),(7,3)]⟩) (by kernel_rfl) rfl
 have h:=zcC Tryz.delR ⟨_,Tryz.func86,by kernel_rfl,by kernel_rfl⟩ (k:=8) (by decide) h3 h4 i0 h1 h2 z h5 (by rw[<- kB,h6]; rfl) (by rw[h6]; intro v hv; rw[List.eq_of_mem_replicate hv]; rfl) 53 l.length i (rowRp l) (fun m j _ hj=>zgG l m j) hi
 refine h.congr (zoV hi).symm fun m hm j hj=>?_
 have e:(rmP l i).getD m default=if m<i then l.getD m default else l.getD (m+1) default:=by
  rw[hU,zoW hi]
  split <;> rfl
 show (if m<i then rowRp l m else rowRp l (m+1)) j=((rmP l i).getD m default).at j
 rw[e]
 split <;> rfl
theorem zjj (l:List Rpt) (i:Nat) (hi:i<l.length) (hn:l.length<=1000000):SpecO PP 36 [.d (lR l),N i] 53 8 (rmP l i).length (rowRp (rmP l i)):=by
 refine zba Tryz.func36 rfl (by kernel_rfl) rfl ?_
 refine CallSt.own (ziB l hn) rfl rfl (fun m j _ hj=>zgG l m j) ?_
 refine⟨i6,?_⟩
 refine CallSt.tk rfl (zqt l i hi) ⟨⟨[],.tmp 6,[.tmp 7,.tmp 9],[],rfl,rfl,rfl,rfl,rfl,rfl,rfl⟩⟩ rfl ?_
 exact⟨rfl,rfl,rfl,fun i hi j hj=>dE _⟩
theorem zjk (L:List (Nat->Bool)) (i:Nat) (hi:i<L.length) (hn:L.length<=1000000):SpecO PP 37 [.d (lB L),N i] 95 38 (rmB L i).length (rowB (rmB L i)):=by
 refine zba Tryz.func37 rfl (by kernel_rfl) rfl ?_
 refine CallSt.own (zm0 L hn) rfl rfl (fun m j _ hj=>zpG L m j hj) ?_
 refine⟨i6,?_⟩
 refine CallSt.tk rfl (zqu L i hi) ⟨⟨[],.tmp 6,[.tmp 7,.tmp 9],[],rfl,rfl,rfl,rfl,rfl,rfl,rfl⟩⟩ rfl ?_
 exact⟨rfl,rfl,rfl,fun i hi j hj=>dE _⟩
theorem zjU (x:Rpt) (id:Int):Spec PP 35 [x.v,.d (capB [I id])] [B (x.ID==id)]:=by
 refine sA Tryz.func35 ?_
 exact r1B rfl rfl
def takE (l:List Rpt) (id:Int):Int:=if idxL (fun x:Rpt=>x.ID==id) l<0 then 5 else 0
def takL (l:List Rpt) (id:Int):List Rpt:=if idxL (fun x:Rpt=>x.ID==id) l<0 then l else rmP l (idxL (fun x:Rpt=>x.ID==id) l).toNat
theorem zq9 (s:Svc) (b:Brn) (l:List Rpt) (id:Int) (hn:l.length<=1000000):SpecM PP 13 [.box 19 0,.d (I id)] (smO s b l (l.map (alwP s b))) (smO s b (takL l id) ((takL l id).map (alwP s b))) [19] [N (takE l id)]:=by
 by_cases hneg:idxL (fun x:Rpt=>x.ID==id) l<0
 ·have e1:takE l id=5:=by unfold takE; rw[kG hneg]
  have e2:takL l id=l:=by unfold takL; rw[kG hneg]
  rw[e1,e2]
  refine zfm [] Tryz.func13 rfl (by kernel_rfl) [4] [(0,19)] rfl rfl rfl (by decide) rfl fun γ=>?_
  refine CallSt.lend [3,1001] rfl (zki l 35 (capB [I id]) (fun x=>x.ID==id) hn fun i _=>zjU _ id) rfl ⟨dE _,⟨rfl,rfl,fun j hj=>by obtain rfl:j=0:=jaV.1 hj; exact dE _⟩,trivial⟩ rfl ?_
  refine bY (fun h1=>?_) (fun h1=>absurd hneg (by have:=dF h1; omega))
  exact⟨rfl,⟨obY rfl (smW s b),obR rfl (dE _),obR rfl (dE _),trivial⟩,⟨rfl,rfl⟩,avI rfl rfl,trivial⟩
 have e1:takE l id=0:=by unfold takE; rw[kF hneg]
 have e2:takL l id=rmP l (idxL (fun x:Rpt=>x.ID==id) l).toNat:=by unfold takL; rw[kF hneg]
 rw[e1,e2,zoU]
 have hlt:(idxL (fun x:Rpt=>x.ID==id) l).toNat<l.length:=by
  rcases idxL_cases (fun x:Rpt=>x.ID==id) l default with⟨h,-⟩ | ⟨i,h1,h2,-⟩
  ·omega
  omega
 have hi:idxL (fun x:Rpt=>x.ID==id) l=((idxL (fun x:Rpt=>x.ID==id) l).toNat:Int):=by omega
 generalize (idxL (fun x:Rpt=>x.ID==id) l).toNat=k at hlt hi
 have hL:(l.map (alwP s b)).length=l.length:=qA ..
 refine SpecM.ren (obs':=[(19,.box [.d (I s.c.M.W),.d (I s.c.M.H),.d (lI s.c.M.G),.d (lT s.c.T),.d (lZ s.c.Z),.d (lC s.k.C),.d (lK s.k.K),.d (I b.From),.d (I b.To),.d (I b.Rise),.own 21,.own 27]),(21,.row 53 8 (rmP l k).length (rowRp (rmP l k))),(27,.row 95 38 (rmB (l.map (alwP s b)) k).length (rowB (rmB (l.map (alwP s b)) k)))]) ?_
  (fun i=>bif Nat.beq i 21 then 1001 else bif Nat.beq i 27 then 1002 else i) (fun i=>bif Nat.beq i 1001 then 21 else bif Nat.beq i 1002 then 27 else i) rfl rfl
 refine zfm [] Tryz.func13 rfl (by kernel_rfl) [4] [(0,19)] rfl rfl rfl (by decide) rfl fun γ=>?_
 refine CallSt.lend [3,1001] rfl (zki l 35 (capB [I id]) (fun x=>x.ID==id) hn fun i _=>zjU _ id) rfl ⟨dE _,⟨rfl,rfl,fun j hj=>by obtain rfl:j=0:=jaV.1 hj; exact dE _⟩,trivial⟩ rfl ?_
 rw[hi]
 refine bY (fun h1=>absurd hneg (by have:=dT h1; omega)) (fun h1=>?_)
 refine Exists.intro [0,1,2,3,4,5,6,8,9,10,11,12,6007,6013,14,15,16,17,18,19] (And.intro (by kernel_rfl) (fNo ?_))
 refine⟨⟨_,_,_,_,_,_,rfl,rfl,rfl,rfl,?_⟩⟩
 rw[zap]
 refine⟨_,_,_,_,_,none,rfl,zjj l k hlt hn,fun m j _ hj=>zgG _ m j,?_⟩
 refine⟨⟨_,_,_,_,_,_,rfl,rfl,rfl,rfl,?_⟩⟩
 rw[zap]
 refine⟨_,_,_,_,_,none,rfl,zjk (l.map (alwP s b)) k (by omega) (by omega),fun m j _ hj=>zpG _ m j hj,?_⟩
 exact⟨rfl,⟨obY rfl ⟨dE _,dE _,dE _,dE _,dE _,dE _,dE _,dE _,dE _,dE _,rfl,rfl,trivial⟩,obR rfl (dE _),obR rfl (dE _),trivial⟩,⟨rfl,rfl⟩,avI rfl rfl,trivial⟩
def cs2 (s:Svc) (l:List Rpt) (L:List (Nat->Bool)) (ps:List Place) (rs:List Rsn) (n:Nat) (q:Nat × Nat):Option (Nat × Nat):=
 if inB s ps q.1 n=true then (if 0<=fstI L n then none else some (q.1+1,q.2))
 else if outB s rs q.2 n=false then none
 else if rptI l (rs.getD q.2 default).R<0 \/ L.getD (rptI l (rs.getD q.2 default).R).toNat default n=true then none else some (q.1,q.2+1)
abbrev smC (s:Svc) (b:Brn) (l:List Rpt) (L:List (Nat->Bool)):List D:=[I s.c.M.W,I s.c.M.H,lI s.c.M.G,lT s.c.T,lZ s.c.Z,lC s.k.C,lK s.k.K,I b.From,I b.To,I b.Rise,lR l,lB L]
theorem zmZ (s:Svc) (P:Nat->Bool) (hv:validM s.c.M=true):SpecO PP 47 [s.v,.agg (bD P)] 39 2 (plsL s.c.M P).length (rowP (plsL s.c.M P)):=by
 have hl:=zbB hv
 refine zba Tryz.func47 rfl (by kernel_rfl) rfl ?_
 refine cR (zdX s.c.M) rfl rfl ?_
 refine CodeOb.rangeAt (zcJ s.c.M hv) rfl (fun _=>rfl) (by decide) [(2,.box 2 0),(3,.box 3 0),(5,.box 5 0)] [(5,0)] (fun pre=>obPls s P pre.length) rfl (fun _=>rfl) ?_ (Iv:=fun _=>True) trivial (fun v pre x hx _=>?_) (fun _=>?_)
 ·exact⟨rfl,⟨obX rfl,obX rfl,obN rfl rfl rfl,obZ rfl rfl,trivial⟩,wq rfl⟩
 ·obtain⟨rfl,hk⟩:=zgc hx
  have hn:=zbP hv (k:=pre.length)
  have hp:=znc P pre.length (by omega)
  rw[<- hn] at hp
  have hlen:=zfx s.c.M P pre.length
  refine cP hp rfl rfl ?_
  apply bY <;> intro h1
  ·refine⟨⟨.inr rfl,by unfold maxLen; omega,by show ((plsK s.c.M P pre.length).length+1) * 16<=140737488355328; omega⟩,?_⟩
   refine⟨trivial,rfl,⟨obX rfl,obX rfl,obO rfl,obR rfl ?_,trivial⟩,wq rfl⟩
   rw[jR]
   show D.eqv _ (.slc 2 (plsK s.c.M P (pre.length+1)).length (rowP (plsK s.c.M P (pre.length+1))))
   rw[zfw h1]
   exact zqO (at2 rfl rfl)
  refine⟨trivial,rfl,⟨obX rfl,obX rfl,obO rfl,obR rfl ?_,trivial⟩,wq rfl⟩
  rw[jR]
  show D.eqv _ (.slc 2 (plsK s.c.M P (pre.length+1)).length (rowP (plsK s.c.M P (pre.length+1))))
  rw[zhm h1]; exact dE _
 rw[zcq]
 exact⟨rfl,rfl,rfl,fun i hi j hj=>dE _⟩
theorem zom (l:List Place) (m j:Nat):(rowP l m j).flat=true:=by
 show ((l.getD m default).at j).flat=true
 unfold Place.at
 split <;> rfl
theorem zeH {d:Bool} {P:Program} {f:FuncId} {args:List V1} {e k n:Nat} {g:Nat->Nat->D} (h:SpecOG d P f args e k n g) (hg:∀ m j,m<n->j<k->(g m j).flat=true):SpecF d P f args [.d (.slc k n g)]:=
 ⟨h.1,fun w ok vs hok hv=>(h.2 w ok vs hok hv).mono fun en w' ⟨v,he,hb,xs,hown,hone,hr⟩=>⟨v,he,hb,by
  show Rep w' (fun b=>w.heap.size<=b/\b<w'.heap.size) (.slc k n g) v
  refine zb8 hown (fun m hm j hj=>?_) fun b hb'=>?_
  ·obtain⟨u,hu,h3⟩:=hr m hm j hj
   exact⟨u,hu,Rep.flat (hg m j hm hj) h3⟩
  refine⟨zem hown b hb',?_⟩
  rcases hown.2 with h1 | ⟨g',cap,cur,h1,h2,h3,h4⟩
  ·rw[h1.1] at hb'; cases hb'
  rw[h1] at hb'
  cases hb'
  exact (jB.1 h3).1⟩⟩
theorem zkR (s:Svc) (b:Brn) (l:List Rpt) (L:List (Nat->Bool)) (hn:l.length<=1000000):SpecO PP 15 [.d (.ptr 12 (getD' (smC s b l L)))] 53 8 l.length (rowRp l):=by
 refine zba Tryz.func15 rfl (by kernel_rfl) rfl ?_
 refine CallSt.own (ziB l hn) rfl rfl (fun m j _ _=>zgG l m j) ?_
 exact⟨rfl,rfl,rfl,fun i hi j hj=>dE _⟩
theorem zq7 (s:Svc) (b:Brn) (l:List Rpt) (L:List (Nat->Bool)) (hv:validM s.c.M=true) (hn:L.length<=1000000):SpecO PP 16 [.d (.ptr 12 (getD' (smC s b l L)))] 39 2 (plsL s.c.M (metP L)).length (rowP (plsL s.c.M (metP L))):=by
 refine zba Tryz.func16 rfl (by kernel_rfl) rfl ?_
 refine Exists.intro [0,1,2,3,4,5,6,7,8,6009,10] (And.intro (by kernel_rfl) (fNo ?_))
 refine oP (zof L hn) rfl rfl ?_
 refine⟨⟨_,_,_,_,_,_,rfl,rfl,rfl,rfl,?_⟩⟩
 rw[zap]
 refine⟨_,_,_,_,_,none,rfl,zmZ s (metP L) hv,fun m j _ _=>zom _ m j,?_⟩
 exact⟨rfl,rfl,rfl,fun i hi j hj=>dE _⟩
theorem zo3 {s:Svc} {b:Brn} {l:List Rpt} (h:givE s b l=0) (r:Rpt):givE s b (putLs s l r)=0:=by
 unfold putLs
 split
 ·rename_i e
  obtain⟨h1,h2,h3,h4,h5⟩:=zbE.1 h
  unfold putE at e
  split at e
  ·cases e
  rename_i c1
  split at e
  ·rename_i c2; exact absurd e c2
  rename_i c2
  split at e
  ·cases e
  rename_i c3
  refine zbE.2 ⟨h1,h2,by rw[jR,List.length_singleton]; omega,fun x hx=>?_,?_⟩
  ·rcases qD.1 hx with hx | hx
   ·exact h4 x hx
   obtain rfl:x=r:=by simpa using hx
   exact jL c2
  rw[jT,ja7]
  refine⟨h5,by simp,fun a ha c hc e=>c3 ?_⟩
  obtain rfl:c=r.ID:=by simpa using hc
  obtain⟨x,hx,rfl⟩:=kI.1 ha
  exact qK.2 ⟨x,hx,by simpa using e⟩
 exact h
theorem zkp (l:List Rpt) (i:Nat):(rmP l i).Sublist l:=by
 unfold rmP
 have h:(l.take i++l.drop (i+1)).Sublist (l.take i++l.drop i):=List.Sublist.append (List.Sublist.refl _) (List.drop_sublist_drop_left l (Nat.le_succ i))
 rwa [List.take_append_drop] at h
theorem zoI {s:Svc} {b:Brn} {l:List Rpt} (h:givE s b l=0) (id:Int):givE s b (takL l id)=0:=by
 unfold takL
 split
 ·exact h
 obtain⟨h1,h2,h3,h4,h5⟩:=zbE.1 h
 have hs:=zkp l (idxL (fun x:Rpt=>x.ID==id) l).toNat
 exact zpB h (jM hs.length_le h3) (fun r hr=>hs.subset hr) (h5.sublist (hs.map _))
structure Stx where
  W:Int
  R:Rpt
  id:Int
  P:Place
  deriving Inhabited
def Stx.at (x:Stx):Nat->D
 | 0=>I x.W
 | 1=>I x.R.ID
 | 2=>I x.R.Kind
 | 3=>I x.R.Tower
 | 4=>I x.R.C
 | 5=>I x.R.Tick
 | 6=>I x.R.From
 | 7=>I x.R.To
 | 8=>I x.R.Slack
 | 9=>I x.id
 | 10=>I x.P.X
 | _=>I x.P.Y
abbrev Stx.ds (x:Stx):List D:=[I x.W,I x.R.ID,I x.R.Kind,I x.R.Tower,I x.R.C,I x.R.Tick,I x.R.From,I x.R.To,I x.R.Slack,I x.id,I x.P.X,I x.P.Y]
theorem zpn (s:Svc) (b:Brn) (h:givE s b []≠0):Spec PP 9 [s.v,b.v] [.d (.val (.pointer none)),N (givE s b [])]:=by
 refine sA Tryz.func9 ?_
 refine cP (zdY s) rfl rfl ?_
 apply bY <;> intro h1
 ·have h1:svcE s≠0:=by simpa using h1
  refine⟨rfl,rtI rfl ?_,trivial⟩
  unfold givE; rw[kG h1]
 have h1:svcE s=0:=by simpa using h1
 refine cP (zhs b) rfl rfl ?_
 have hb:brnB b=false:=by
  cases e:brnB b with
  | false=>rfl
  | true=>exact absurd ((zbE (b:=b) (l:=[])).2 ⟨h1,e,jF _,fun r hr=>absurd hr (by simp),qZ⟩) h
 rw[hb]
 refine sT ?_
 refine⟨rfl,rtI rfl ?_,trivial⟩
 unfold givE; rw[kF (fun hh=>hh h1),kG hb]
theorem zlt {s:Svc} {b:Brn} {l:List Rpt} {L:List (Nat->Bool)}:D.eqv (.ptr ([I s.c.M.W,I s.c.M.H,lI s.c.M.G,lT s.c.T,lZ s.c.Z,lC s.k.C,lK s.k.K,I b.From,I b.To,I b.Rise,D.slc 8 l.length (rowRp l),D.slc 38 L.length (rowB L)].length - 0) fun j=>getD' [I s.c.M.W,I s.c.M.H,lI s.c.M.G,lT s.c.T,lZ s.c.Z,lC s.k.C,lK s.k.K,I b.From,I b.To,I b.Rise,D.slc 8 l.length (rowRp l),D.slc 38 L.length (rowB L)] (0+j)) (.ptr 12 (getD' (smC s b l L))):=
 ⟨rfl,fun j hj=>by
  show D.eqv (getD' _ (0+j)) _
  rw[k9]; exact dE _⟩
abbrev smOr (s:Svc) (b:Brn) (l:List Rpt) (L:List (Nat->Bool)) (rest:List (Nat × Ob)):List (Nat × Ob):=
 (19,.box [.d (I s.c.M.W),.d (I s.c.M.H),.d (lI s.c.M.G),.d (lT s.c.T),.d (lZ s.c.Z),.d (lC s.k.C),.d (lK s.k.K),.d (I b.From),.d (I b.To),.d (I b.Rise),.own 1001,.own 1002]) :: (1001,.row 53 8 l.length (rowRp l)) :: (1002,.row 95 38 L.length (rowB L)) :: rest
theorem zqg {s:St} {sl:List (Nat × AV)} {obs rest l:List (Nat × Ob)} (e:obs++rest=l) (h:Weak s sl l):Weak s sl (obs++rest):=e ▸ h
theorem zpN {s:Svc} {zs:List Zs} (h:drfB s zs=true) (ok:CirsOk s.k):(∀ z∈zs,0<=z.T/\z.T<=1048576)/\zs.length<=1000000:=by
 unfold drfB at h
 simp only[jP,kA,jC] at h
 obtain⟨h0,h1⟩:=h
 have:=ok.n
 refine⟨fun z hz=>?_,by omega⟩
 obtain⟨i,hi,rfl⟩:=zbh default hz
 have d:=h1 i (kK.2 (by omega))
 unfold drfC at d
 simp only[jP,qP] at d
 have:=(ok.cs i (by omega)).t
 have:=d.1.1.2
 omega
theorem two_u {α:Type} {Q G:α->Prop} {T:Prop} (h:(∀ x,Q x->G x)->T) (g:∀ x,Q x->G x):T:=h g
theorem zkv {s:Svc} {l:List Rpt} {r:Rpt}:(putLs s l r).length<=l.length+1 /\ ∀ x∈putLs s l r,x∈l \/ x=r:=by
 unfold putLs
 split
 ·exact⟨by simp,fun x hx=>by simpa using hx⟩
 exact⟨by omega,fun x hx=>.inl hx⟩
theorem zmt {l:List Rpt} {id:Int}:(takL l id).length<=l.length /\ ∀ x∈takL l id,x∈l:=by
 unfold takL
 split
 ·exact⟨jE _,fun x hx=>hx⟩
 have:=zkp l (idxL (fun x:Rpt=>x.ID==id) l).toNat
 exact⟨this.length_le,fun x hx=>this.subset hx⟩
theorem s_TopDriftingCirclesAreTrue (s:Svc) (zs:List Zs) (b:Brn) (p:Place) (l:List Rpt) (f:Form) (back:Int) (hb:0<=back/\back<=65535):Spec PP 3 [s.v,.d (lZs zs),b.v,p.v,.d (lR l),f.v,.d (.int .u16 back)] [B true]:=by
 refine zcD [12] Tryz.func3 rfl (by kernel_rfl) rfl ?_
 refine cP (zqk s) rfl rfl ?_
 apply bY <;> intro h1
 ·repeat first | apply sT | apply sF
  refine cP zcp rfl rfl ?_
  exact r1B rfl rfl
 repeat first | apply sT | apply sF
 apply bY <;> intro h2
 ·repeat first | apply sT | apply sF
  refine cP zcp rfl rfl ?_
  exact r1B rfl rfl
 have hl:l.length<=10:=by have:¬ (10:Int)<l.length:=dF h2; omega
 repeat first | apply sT | apply sF
 refine cP (zdY s) rfl rfl ?_
 repeat first | apply sT | apply sF
 apply bY <;> intro h3
 ·repeat first | apply sT | apply sF
  refine cP zcp rfl rfl ?_
  exact r1B rfl rfl
 have h3:svcE s=0:=by simpa using h3
 have ok:=zc9 h3
 repeat first | apply sT | apply sF
 refine cP (zi5 s zs h3) rfl rfl ?_
 repeat first | apply sT | apply sF
 apply bY <;> intro h4
 ·repeat first | apply sT | apply sF
  refine cP zcp rfl rfl ?_
  exact r1B rfl rfl
 have h4:drfB s zs=true:=by simpa using h4
 obtain⟨z1,z2⟩:=zpN h4 ok.k
 repeat first | apply sT | apply sF
 refine cP (g_On s.c.M p ok.c.m) rfl rfl ?_
 repeat first | apply sT | apply sF
 apply bY <;> intro h5
 ·repeat first | apply sT | apply sF
  refine cP zcp rfl rfl ?_
  exact r1B rfl rfl
 have h5:onM s.c.M p=true:=by simpa using h5
 by_cases h0:givE s b []=0
 case neg=>
  refine cR (zpn s b h0) rfl rfl ?_
  refine sYe (by simpa using h0) ?_
  refine cP zcp rfl rfl ?_
  exact r1B rfl rfl
 obtain⟨g1,g2,-,-,-⟩:=zbE.1 h0
 refine CallSt.obN [(1,.d (lZs zs)),(4,.d (lR l)),(6,.d (.int .u16 back)),(7,.box 7 0),(9,.box 9 0),(10,.box 10 0),(12,.box 12 0),(48,.agg s.ds),(49,.agg b.ds)] [(7,.box (s.ds.map AV.d)),(9,.box (b.ds.map AV.d)),(10,.box ([I p.X,I p.Y].map AV.d)),(12,.box ([I f.X,I f.Y].map AV.d))] rfl rfl (n_New s b g1 g2)
  ⟨rfl,⟨obD s.ds rfl,obD b.ds rfl,obD [I p.X,I p.Y] rfl,obD [I f.X,I f.Y] rfl,trivial⟩,wq rfl⟩ rfl ⟨zab _,zab _,trivial⟩ rfl rfl rfl ?_
 repeat first | apply sT | apply sF
 refine lOf (σ:=Nat × List Rpt) (fun x=>([(1,.d (lZs zs)),(4,.d (lR l)),(6,.d (.int .u16 back)),(7,.box 7 0),(9,.box 9 0),(10,.box 10 0),(12,.box 12 0),(15,.box 19 0),(56,.d (lR l)),(57,.d (I l.length)),(58,.d (I x.1))],smOr s b x.2 (x.2.map (alwP s b)) [(7,.box (s.ds.map AV.d)),(9,.box (b.ds.map AV.d)),(10,.box ([I p.X,I p.Y].map AV.d)),(12,.box ([I f.X,I f.Y].map AV.d))]))
  (fun x=>x.1<=l.length/\x.2.length<=x.1/\givE s b x.2=0 /\ ∀ r∈x.2,allB s b r p=true) (fun x=>l.length - x.1) (0,[])
  ⟨rfl,⟨obY rfl (smW s b),obR rfl (dE _),obR rfl (dE _),obD s.ds rfl,obD b.ds rfl,obD [I p.X,I p.Y] rfl,obD [I f.X,I f.Y] rfl,trivial⟩,wq rfl⟩ ⟨jF _,jE _,h0,fun r hr=>by cases hr⟩ fun x hx=>?_
 obtain⟨i,S⟩:=x
 obtain⟨hi,hS,hg,ha⟩:=hx
 have hi:i<=l.length:=hi
 have hS:S.length<=i:=hS
 have hg:givE s b S=0:=hg
 have ha:∀ r∈S,allB s b r p=true:=ha
 apply bY <;> intro h6
 rotate_left
 ·refine cP zcp rfl rfl ?_
  exact r1B rfl rfl
 have h6:i<l.length:=by have:=dT h6; omega
 refine⟨⟨rfl,by omega,by omega⟩,?_⟩
 refine cP (zfF s (l.getD i default)) rfl rfl ?_
 apply bY <;> intro h7
 ·repeat first | apply sT | apply sF
  refine⟨i6,?_⟩
  exact⟨(i+1,S),⟨rfl,⟨obY rfl (smW s b),obR rfl (dE _),obR rfl (dE _),obD s.ds rfl,obD b.ds rfl,obD [I p.X,I p.Y] rfl,obD [I f.X,I f.Y] rfl,trivial⟩,wq rfl⟩,⟨h6,Nat.le_succ_of_le hS,hg,ha⟩,msr h6⟩
 have h7:crpE s (l.getD i default)=0:=by simpa using h7
 repeat first | apply sT | apply sF
 refine cP (zme s b zs p (l.getD i default) h7 z1 z2) rfl rfl ?_
 repeat first | apply sT | apply sF
 apply bY <;> intro h8
 ·repeat first | apply sT | apply sF
  refine⟨i6,?_⟩
  exact⟨(i+1,S),⟨rfl,⟨obY rfl (smW s b),obR rfl (dE _),obR rfl (dE _),obD s.ds rfl,obD b.ds rfl,obD [I p.X,I p.Y] rfl,obD [I f.X,I f.Y] rfl,trivial⟩,wq rfl⟩,⟨h6,Nat.le_succ_of_le hS,hg,ha⟩,msr h6⟩
 have h8:honB s b zs p (l.getD i default)=true:=by simpa using h8
 have hr:allB s b (l.getD i default) p=true:=by
  unfold honB at h8
  rw[jP] at h8
  exact zfJ h4 (zru h7).2.1 h8.1 h8.2
 have pg:=zo3 hg (l.getD i default)
 obtain⟨pl,pm⟩:=zkv (s:=s) (l:=S) (r:=l.getD i default)
 have pa:∀ x∈putLs s S (l.getD i default),allB s b x p=true:=fun x hx=>by
  rcases pm x hx with hx | rfl
  ·exact ha x hx
  exact hr
 obtain⟨tl,tm⟩:=zmt (l:=putLs s S (l.getD i default)) (id:=(l.getD i default).ID)
 have tg:=zoI pg (l.getD i default).ID
 repeat first | apply sT | apply sF
 apply two_u (Q:=fun L:List Rpt=>givE s b L=0/\L.length<=i+1 /\ ∀ x∈L,allB s b x p=true)
 ·intro key
  refine CallSt.ob [(1,.d (lZs zs)),(4,.d (lR l)),(6,.d (.int .u16 back)),(7,.box 7 0),(9,.box 9 0),(10,.box 10 0),(12,.box 12 0),(15,.box 19 0),(17,.d (I i)),(18,.box 18 0),(56,.d (lR l)),(57,.d (I l.length)),(58,.d (I i)),(76,.box 19 0),(77,.agg (l.getD i default).ds)] (smO s b S (S.map (alwP s b))) [(7,.box (s.ds.map AV.d)),(9,.box (b.ds.map AV.d)),(10,.box ([I p.X,I p.Y].map AV.d)),(12,.box ([I f.X,I f.Y].map AV.d)),(18,.box ((l.getD i default).ds.map AV.d))] rfl rfl (m_Put s b S (l.getD i default) ok)
   (zqg (l:=smOr s b S (S.map (alwP s b)) [(7,.box (s.ds.map AV.d)),(9,.box (b.ds.map AV.d)),(10,.box ([I p.X,I p.Y].map AV.d)),(12,.box ([I f.X,I f.Y].map AV.d)),(18,.box ((l.getD i default).ds.map AV.d))]) rfl ⟨rfl,⟨obY rfl (smW s b),obR rfl (dE _),obR rfl (dE _),obD s.ds rfl,obD b.ds rfl,obD [I p.X,I p.Y] rfl,obD [I f.X,I f.Y] rfl,obD (l.getD i default).ds rfl,trivial⟩,wq rfl⟩) ⟨⟨[],rfl,rfl⟩⟩ rfl rfl ?_
  apply bY <;> intro h9
  ·repeat first | apply sT | apply sF
   refine⟨by decide,⟨Int.tmod_nonneg _ (Int.natCast_nonneg i),?_⟩⟩
   repeat first | apply sT | apply sF
   apply bY <;> intro h10
   ·repeat first | apply sT | apply sF
    refine CallSt.ob [(1,.d (lZs zs)),(4,.d (lR l)),(6,.d (.int .u16 back)),(7,.box 7 0),(9,.box 9 0),(10,.box 10 0),(12,.box 12 0),(15,.box 19 0),(17,.d (I i)),(18,.box 18 0),(56,.d (lR l)),(57,.d (I l.length)),(58,.d (I i)),(88,.box 19 0),(90,.d (I (l.getD i default).ID))] (smO s b (putLs s S (l.getD i default)) ((putLs s S (l.getD i default)).map (alwP s b))) [(7,.box (s.ds.map AV.d)),(9,.box (b.ds.map AV.d)),(10,.box ([I p.X,I p.Y].map AV.d)),(12,.box ([I f.X,I f.Y].map AV.d)),(18,.box ((l.getD i default).ds.map AV.d))] rfl rfl (zq9 s b (putLs s S (l.getD i default)) (l.getD i default).ID (by omega))
     (zqg (l:=smOr s b (putLs s S (l.getD i default)) ((putLs s S (l.getD i default)).map (alwP s b)) [(7,.box (s.ds.map AV.d)),(9,.box (b.ds.map AV.d)),(10,.box ([I p.X,I p.Y].map AV.d)),(12,.box ([I f.X,I f.Y].map AV.d)),(18,.box ((l.getD i default).ds.map AV.d))]) rfl ⟨rfl,⟨obY rfl (smW s b),obR rfl (dE _),obR rfl (dE _),obD s.ds rfl,obD b.ds rfl,obD [I p.X,I p.Y] rfl,obD [I f.X,I f.Y] rfl,obD (l.getD i default).ds rfl,trivial⟩,wq rfl⟩) ⟨⟨[],rfl,rfl⟩⟩ rfl rfl ?_
    obtain⟨L,hL⟩:∃ L,L=takL (putLs s S (l.getD i default)) (l.getD i default).ID:=⟨_,rfl⟩
    refine kAt [(1,.d (lZs zs)),(4,.d (lR l)),(6,.d (.int .u16 back)),(7,.box 7 0),(9,.box 9 0),(10,.box 10 0),(12,.box 12 0),(15,.box 19 0),(56,.d (lR l)),(57,.d (I l.length)),(58,.d (I i))] (smOr s b L (L.map (alwP s b)) [(7,.box (s.ds.map AV.d)),(9,.box (b.ds.map AV.d)),(10,.box ([I p.X,I p.Y].map AV.d)),(12,.box ([I f.X,I f.Y].map AV.d))]) ⟨rfl,⟨obY rfl (smW s b),obR rfl (by rw[hL]; exact dE _),obR rfl (by rw[hL]; exact dE _),obD s.ds rfl,obD b.ds rfl,obD [I p.X,I p.Y] rfl,obD [I f.X,I f.Y] rfl,trivial⟩,wq rfl⟩ ?_
    exact key L ⟨by rw[hL]; exact tg,by rw[hL]; omega,by rw[hL]; exact fun x hx=>pa x (tm x hx)⟩
   repeat first | apply sT | apply sF
   obtain⟨L,hL⟩:∃ L,L=putLs s S (l.getD i default):=⟨_,rfl⟩
   refine kAt [(1,.d (lZs zs)),(4,.d (lR l)),(6,.d (.int .u16 back)),(7,.box 7 0),(9,.box 9 0),(10,.box 10 0),(12,.box 12 0),(15,.box 19 0),(56,.d (lR l)),(57,.d (I l.length)),(58,.d (I i))] (smOr s b L (L.map (alwP s b)) [(7,.box (s.ds.map AV.d)),(9,.box (b.ds.map AV.d)),(10,.box ([I p.X,I p.Y].map AV.d)),(12,.box ([I f.X,I f.Y].map AV.d))]) ⟨rfl,⟨obY rfl (smW s b),obR rfl (by rw[hL]; exact dE _),obR rfl (by rw[hL]; exact dE _),obD s.ds rfl,obD b.ds rfl,obD [I p.X,I p.Y] rfl,obD [I f.X,I f.Y] rfl,trivial⟩,wq rfl⟩ ?_
   exact key L ⟨by rw[hL]; exact pg,by rw[hL]; omega,by rw[hL]; exact pa⟩
  repeat first | apply sT | apply sF
  obtain⟨L,hL⟩:∃ L,L=putLs s S (l.getD i default):=⟨_,rfl⟩
  refine kAt [(1,.d (lZs zs)),(4,.d (lR l)),(6,.d (.int .u16 back)),(7,.box 7 0),(9,.box 9 0),(10,.box 10 0),(12,.box 12 0),(15,.box 19 0),(56,.d (lR l)),(57,.d (I l.length)),(58,.d (I i))] (smOr s b L (L.map (alwP s b)) [(7,.box (s.ds.map AV.d)),(9,.box (b.ds.map AV.d)),(10,.box ([I p.X,I p.Y].map AV.d)),(12,.box ([I f.X,I f.Y].map AV.d))]) ⟨rfl,⟨obY rfl (smW s b),obR rfl (by rw[hL]; exact dE _),obR rfl (by rw[hL]; exact dE _),obD s.ds rfl,obD b.ds rfl,obD [I p.X,I p.Y] rfl,obD [I f.X,I f.Y] rfl,trivial⟩,wq rfl⟩ ?_
  exact key L ⟨by rw[hL]; exact pg,by rw[hL]; omega,by rw[hL]; exact pa⟩
 intro L hQ
 obtain⟨q1,q2,q3⟩:=hQ
 have ct:=zqj s b L p f q1 (by omega) h5 q3
 refine oN 10 ?_
 refine CallOb.deep (zeH (zkR s b L (L.map (alwP s b)) (by omega)) (fun m j _ _=>zgG L m j)) rfl ⟨zlt,trivial⟩ ?_
 refine CallOb.deep (zeH (zq7 s b L (L.map (alwP s b)) ok.c.m (by rw[qA]; omega)) (fun m j _ _=>zom _ m j)) rfl ⟨zlt,trivial⟩ ?_
 refine oP ct rfl rfl ?_
 repeat first | apply sT | apply sF | refine bY (fun h=>absurd h (by simp)) (fun _=>?_)
 refine⟨i6,?_⟩
 exact⟨(i+1,L),⟨rfl,⟨obY rfl (smW s b),obR rfl (dE _),obR rfl (dE _),obD s.ds rfl,obD b.ds rfl,obD [I p.X,I p.Y] rfl,obD [I f.X,I f.Y] rfl,trivial⟩,wq rfl⟩,⟨h6,q2,q1,q3⟩,msr h6⟩
theorem fitG {α:Type} [Inhabited α] {k:Nat} {sh:Nat->Sh} {at_:α->Nat->D} {x:D} (H:∀ g:Nat->D,(∀ j,j<k->Fits (sh j) (g j)) -> ∃ a:α,∀ j,j<k->D.eqv (g j) (at_ a j)) (h:Fits (.sl k sh) x):∃ l:List α,l.length<=maxLen/\D.eqv x (.slc k l.length fun i=>at_ (l.getD i default)):=by
 obtain⟨n,f,rfl,hn,hf⟩:=h
 have q:∀ i,i<n -> ∃ a:α,∀ j,j<k->D.eqv (f i j) (at_ a j):=fun i hi=>H (f i) (hf i hi)
 refine⟨(List.range n).map fun i=>if h:i<n then Classical.choose (q i h) else default,by simpa using hn,by simp,.inr ⟨rfl,fun i hi j hj=>?_⟩⟩
 have e:(((List.range n).map fun i=>if h:i<n then Classical.choose (q i h) else default).getD i default)=Classical.choose (q i hi):=by
  rw[hU,jU,qG hi]
  show (if h:i<n then Classical.choose (q i h) else default)=_
  rw[dif_pos hi]
 dsimp only
 rw[e]
 exact jae (q i hi) j hj
abbrev shZs:Sh:=.sl 3 fun j=>shSl.getD' [.int .i64,.int .i64,shI 1] j
theorem rep_lZs {w:World} {ok:Nat->Prop} {x:D} {v:Value} (hr:Rep1 w ok (.d x) v) (h:All2 Fits [shZs] [x]):∃ l:List Zs,Rep1 w ok (.d (lZs l)) v:=by
 cases h with
 | cons h _=>
 obtain⟨l,_,e⟩:=fitG (at_:=Zs.at) (fun g hg=>by
  obtain⟨a,-,ha⟩:=hg 0 (by decide)
  obtain⟨b,-,hb⟩:=hg 1 (by decide)
  obtain⟨z,hz⟩:=fitI (α:=Int) (at_:=fun a _=>I a) (fun g=>g 0) (fun g j hj=>by
   match j,hj with
   | 0,_=>rfl) (hg 2 (by decide))
  refine⟨⟨a,b,z⟩,fun j hj=>?_⟩
  match j,hj with
  | 0,_=>rw[ha]; exact⟨rfl,rfl⟩
  | 1,_=>rw[hb]; exact⟨rfl,rfl⟩
  | 2,_=>exact hz) h
 exact⟨l,Rep.eqv hr e⟩
end Go.Pg
