/- Lemmas, joined by program. -/
import Derived.Test.YtnifogelanhdiaaGreatME
import Derived.KernelRfl
import Derived.Shelf.SlSortCmp.NoneTotal
import Derived.Test.YtnifogelanhdiaaGreatChecked
set_option maxHeartbeats 4000000
set_option linter.all false
namespace Go.Pg
open Go.RowKit Go.Proofs Go.Shelf Go.Sort Go.Lib
def SpecW (P:Program) (f:FuncId) (pre post:List V1) (e k n:Nat) (g g':Nat->Nat->D) (res:List V1):Prop:=
 Ent P f /\ ∀ (w:World) (ok:Nat->Prop) (vs us:List Value) (v:Value) (xs:List Value),(∀ b,ok b->b<w.heap.size)->All2 (Rep1 w ok) pre vs->All2 (Rep1 w ok) post us->RowAt w ok e k n g v xs ->
  Calls P f (vs++v :: us).toArray w fun en w'=>∃ r,en = .returned r/\w.grownBy w' (blk v)/\ResRep w' (fun _=>False) res r /\
   ∃ xs',w'.ownsRow 0 e k v n xs'/\(∀ u∈xs',u.oneCell'=true) /\ ∀ m,m<n -> ∀ j,j<k -> ∃ u,xs'[m * k+j]?=some u/\Rep w' ok (g' m j) u
section
variable {s:St} {o:Oper} {fo:Operand} {f:FuncId} {K:St->Prop}
theorem CallSt.rwW {E:Env} (hdr:E.dr=false) {args:Array Operand} {at':Array TypeId} (hop:o.op = .call { callee:=.value fo,args,argTypes:=at' }) {pre post res:List V1} {i e k n:Nat} {g g':Nat->Nat->D} (h:SpecW PP f pre post e k n g g' res)
  (ha:RowArgs s fo args.toList f pre i post) (hi:s.ob i=some (.row e k n g)) (hk:K ((s.setOb i (some (.row e k n g'))).putO o.dst (resAV res))):CallSt E PP s o fo args.toList K:=by
 rw[zaf]
 refine .inr (.inr (.inl ⟨_,⟨fun cx a w hD hd hR=>?_⟩,hk⟩))
 obtain⟨γ,hg⟩:=hR
 obtain⟨caps,vs,us,xs,h1,h2,h3,h4,h5⟩:=zcr hg ha hi
 refine .enter (zaF hop h1 h.1) ?_
 rw[h2]
 refine (h.2 w _ vs us _ xs (fun b hb=>zal hg hb) h3 h4 h5).mono fun en w' ⟨r,he,hgr,hres,ys,y1,y2,y3⟩=>⟨r,he,γ,?_⟩
 refine (hg.change (i:=i) (o':=.row e k n g') hi hgr (fun e=>by have:=hD e; rw[hdr] at this; cases this) (fun ok hok=>⟨ys,y1,fun b hb=>(zaG hg hi hb).1,y2,fun m hm j hj=>?_⟩) (fun cs e=>by cases e)).putO hd (zaS (.inl fun b hb=>hb.elim) hres) (fun j hj=>by rw[zav] at hj; cases hj)
 obtain⟨u,hu,hr⟩:=y3 m hm j hj
 exact⟨u,hu,Rep.keep0 (w:=w') (fun b hb=>⟨(hok b hb).1,zd2 rfl⟩) hr⟩
end
theorem SpecW.congr {P:Program} {f:FuncId} {pre post res:List V1} {e k n:Nat} {g0 g g1 g':Nat->Nat->D} (h:SpecW P f pre post e k n g0 g1 res) (he:∀ m,m<n -> ∀ j,j<k->g m j=g0 m j) (he':∀ m,m<n -> ∀ j,j<k->g' m j=g1 m j):SpecW P f pre post e k n g g' res:=
 ⟨h.1,fun w ok vs us v xs h1 h2 h3 hr=>(h.2 w ok vs us v xs h1 h2 h3 ⟨hr.own,hr.one,fun m hm j hj=>by rw[<- he m hm j hj]; exact hr.rep m hm j hj,hr.sep⟩).mono fun en w' ⟨r,e1,e2,e3,xs',e4,e5,e6⟩=>⟨r,e1,e2,e3,xs',e4,e5,fun m hm j hj=>by rw[he' m hm j hj]; exact e6 m hm j hj⟩⟩
section
variable {α:Type} [Inhabited α] {k:Nat} (enc:α->List Value) (hl:∀ x,(enc x).length=k) (h1:∀ x,∀ v∈enc x,v.oneCell'=true)
include hl in
theorem zod (d:Array α) {t:Nat} (h:t<d.size * k):(enc d[t / k]!)[t % k]?=some (flatK enc k d)[t]!:=by
 have hk:0<k:=by
  rcases jat k with h0 | h0
  ·subst h0; simp at h
  exact h0
 rw[get_flatK _ _ _ _ h]
 have:t % k<(enc d[t / k]!).length:=by rw[hl]; exact jay t hk
 rw[List.getElem!_eq_getElem?_getD,kF this]; rfl
include hl in
theorem zo2 {w:World} {e g:Nat} {cur:Array Value} {l:List α} {xs:List Value} (hh:w.heap[g]?=some (.cells cur e (0,0))) (ht:cur.toList.take (l.length * k)=xs)
  (hr:∀ m,m<l.length -> ∀ j,j<k->xs[m * k+j]?=(enc (l.getD m default))[j]?):HoldsK enc k w g 0 l.toArray:=by
 intro t ht'
 rw[size_flatK] at ht'
 have ht2:=ht'
 simp only[jaP] at ht'
 have hk:0<k:=by
  rcases jat k with h0 | h0
  ·subst h0; simp at ht'
  exact h0
 have hm:t / k<l.length:=jaN (by rwa [qI] at ht')
 have hu:=hr (t / k) hm (t % k) (jay t hk)
 have e1:t / k * k+t % k=t:=by rw[qI]; exact jaY t k
 have hf:=zod enc hl l.toArray ht2
 rw[zbu l hm] at hf
 rw[e1,<- ht,jS,kH ht',hf] at hu
 rw[qH]
 refine⟨?_,?_⟩
 ·simp only[World.cell?,hh,id_eq]
  have:cur[t]?=some (flatK enc k l.toArray)[t]!:=by simpa using hu
  simp[this]
 simp[World.frozen?,hh]
include hl h1 in
theorem zqM {w:World} {e g cap:Nat} {cur:Array Value} (m:Nat) (l:List α) (os:Array Obj) (hh:w.heap[g]?=some (.cells cur e (0,0))) (hlc:l.length<=cap) (hcap:cap<=maxLen) (hcs:cur.size=cap * k) :
  w.grownBy (sortWorldK enc k w g 0 m l.toArray os) (some g) /\ ∃ xs',(sortWorldK enc k w g 0 m l.toArray os).ownsRow 0 e k (.slice (some ⟨g,0,none⟩) l.length cap) l.length xs'/\(∀ u∈xs',u.oneCell'=true) /\
   ∀ m',m'<l.length -> ∀ j,j<k->xs'[m' * k+j]?=(enc (l.getD m' default))[j]?:=by
 have hg:g<w.heap.size:=(jB.1 hh).1
 have hheap:∀ i,i<w.heap.size->(sortWorldK enc k w g 0 m l.toArray os).heap[i]?=if i=g then some (.cells (putCells id 0 (flatK enc k l.toArray) cur) e (0,0)) else w.heap[i]?:=fun i hi=>by
  simp only[sortWorldK,grow,putRowK,putRow,mapBlock,ahead]
  rw[jaG (by simpa using hi),jbc]
  by_cases e':g=i
  ·subst e'; simp[hh,onCells]
  rw[kG e',kG (fun e''=>e' e''.symm)]; rfl
 refine⟨⟨rfl,rfl,rfl,by simp[sortWorldK,grow,putRowK,putRow,mapBlock,ahead],fun i hi hne=>?_⟩,?_⟩
 ·rw[hheap i hi,kG fun e'=>hne (by rw[e'])]
 have hF:=size_flatK enc k l.toArray
 simp only[jaP] at hF
 have hle:l.length * k<=cap * k:=jW k hlc
 have hget:∀ t,t<l.length * k->(putCells id 0 (flatK enc k l.toArray) cur).toList[t]?=(enc (l.getD (t / k) default))[t % k]?:=fun t ht=>by
  have hk:0<k:=by
   rcases jat k with h0 | h0
   ·subst h0; simp at ht
   exact h0
  have hm:t / k<l.length:=jaN (by rwa [qI] at ht)
  have hlt:t<cur.size:=by omega
  rw[ja1,putCells,Array.getElem?_mapIdx,qX hlt]
  simp only[qG,jF,true_and,qH,hF,kH ht,Nat.sub_zero,id_eq]
  rw[<- zod enc hl l.toArray (by simpa using ht),zbu l hm]
 have hsz:(putCells id 0 (flatK enc k l.toArray) cur).size=cap * k:=by simp[putCells,hcs]
 have hsz':(putCells id 0 (flatK enc k l.toArray) cur).toList.length=cap * k:=(kB).trans hsz
 refine⟨(putCells id 0 (flatK enc k l.toArray) cur).toList.take (l.length * k),⟨by rw[jQ,hsz']; exact Nat.min_eq_left hle,.inr ⟨g,cap,_,rfl,jF _,by rw[hheap g hg,kH rfl],hlc,hcap,hsz,rfl⟩⟩,fun u hu=>?_,fun m' hm' j hj=>?_⟩
 ·obtain⟨t,ht⟩:=jaD hu
  rw[jS] at ht
  split at ht
  ·rename_i hlt; rw[hget t hlt] at ht; exact h1 _ _ (qD ht)
  cases ht
 have hlt:m' * k+j<l.length * k:=by
  have:(m'+1) * k<=l.length * k:=jW k hm'
  rw[qC] at this; omega
 rw[jS,kH hlt,hget _ hlt]
 have e1:(m' * k+j) / k=m':=by rw[qI,Nat.mul_add_div (by omega),jbf hj]; simp
 have e2:(m' * k+j) % k=j:=by rw[qI,ja7,jaC hj]
 rw[e1,e2]
end
structure Dats (α:Type) (k:Nat) where
  lst:α->List D
  len:∀ x,(lst x).length=k
  at_:α->Nat->D
  hat:∀ x j,j<k->(lst x)[j]?=some (at_ x j)
def Dats.row {α:Type} [Inhabited α] {k:Nat} (A:Dats α k) (l:List α):Nat->Nat->D:=fun i=>A.at_ (l.getD i default)
theorem zeI {P:Program} {ρ:Ren} (S:SlLaysF0.n6 P ρ) (hent:Ent P (ρ.f 6)) {k:Nat} (aE:∀ w,(isAgg (ρ.t 24)).run P w = .ok true w) (zE:∀ w,(Go.sizeOf (ρ.t 24)).run P w = .ok k w)
  {α:Type} [Inhabited α] (A:Dats α k) (L:List α) (cf:α->α->Int) (hO:SWO (ltOf cf)) (hT:∀ i j,i<L.length->j<L.length->ltOf cf (L.getD i default) (L.getD j default)=false->ltOf cf (L.getD j default) (L.getD i default)=false->i=j)
  (g:FuncId) (hc:∀ x∈L,∀ y∈L,SpecD P g [.agg (A.lst x),.agg (A.lst y)] [.d (.int .i64 (cf x y))]) (e:TypeId) (hn:L.length<=1000000) :
  SpecW P (ρ.f 6) [] [.d (.fn g)] e k L.length (A.row L) (A.row (L.mergeSort fun x y=>!(ltOf cf) y x)) []:=by
 refine⟨hent,fun w ok vs us v xs hok h1 h2 hr=>?_⟩
 cases h1
 cases h2 with
 | cons h2 h3=>
 cases h3
 rename_i fv
 have hfv:fv = .func (.func g) #[] #[]:=h2
 subst hfv
 by_cases h0:L=[]
 ·subst h0
  obtain⟨p,cap,rfl⟩:∃ p cap,v = .slice p 0 cap:=by
   rcases hr.own.2 with⟨h3,_⟩ | ⟨q,cap,cur,h3,_⟩
   ·exact⟨_,_,h3⟩
   exact⟨_,_,h3⟩
  refine (AnyF.slices_SortFunc_none S p cap _ w).mono ?_
  rintro en w' ⟨rfl,rfl⟩
  exact⟨_,rfl,⟨rfl,rfl,rfl,jE _,fun _ _ _=>rfl⟩,⟨[],rfl,.nil⟩,xs,hr.own,hr.one,fun m hm=>absurd hm (qQ _)⟩
 have hpos:0<L.length:=ja6.2 h0
 haveI:Inhabited (Fin L.length):=⟨⟨0,hpos⟩⟩
 rcases hr.own.2 with⟨_,h4⟩ | ⟨q,cap,cur,rfl,_,hh,hnc,hcap,hcs,htk⟩
 ·exact absurd (jag.1 h4) h0
 have hxl:xs.length=L.length * k:=hr.own.1
 let enc:Fin L.length->List Value:=fun i=>(xs.drop (i.1 * k)).take k
 have enc_get:∀ (i:Fin L.length) j,j<k->(enc i)[j]?=xs[i.1 * k+j]?:=fun i j hj=>by
  show ((xs.drop (i.1 * k)).take k)[j]?=_
  rw[jS,kH hj,wK]
 have enc_len:∀ i,(enc i).length=k:=fun i=>by
  show ((xs.drop (i.1 * k)).take k).length=k
  rw[jQ,ja5,hxl]
  have:(i.1+1) * k<=L.length * k:=jW k i.2
  rw[qC] at this; omega
 have enc_one:∀ i,∀ v∈enc i,v.oneCell'=true:=fun i v hv=>hr.one v (ja4 (jav hv))
 have fr:∀ m,∀ hm:m<L.length,(List.finRange L.length).getD m default=⟨m,hm⟩:=fun m hm=>by
  rw[hU,kF (by simpa using hm)]; simp
 have hH:HoldsK enc k w q 0 (List.finRange L.length).toArray:=zo2 enc enc_len (xs:=xs) hh (by rw[jbj]; exact htk) fun m hm j hj=>by
  rw[jbj] at hm
  rw[fr m hm,enc_get _ j hj]
 have hq:q<w.heap.size:=(jB.1 hh).1
 let cf':Fin L.length->Fin L.length->Int:=fun i j=>cf (L.getD i.1 default) (L.getD j.1 default)
 have hmem:∀ i:Fin L.length,L.getD i.1 default∈L:=fun i=>by
  rw[hU,kF i.2]; exact kT i.2
 have hlt:∀ i j,ltOf cf' i j=ltOf cf (L.getD i.1 default) (L.getD j.1 default):=fun _ _=>rfl
 have hent':∀ args w,(callFunc g args).run P w = .ok (.enter g args) w:=fun args w=>zaz (hc _ (hmem ⟨0,hpos⟩) _ (hmem ⟨0,hpos⟩)).1 args w
 have hcmp:CmpLays P g #[] enc k cf' q 0 (List.finRange L.length).toArray.size w:=fun m os dk hdk x y=>by
  have hdl:dk.toList.length=L.length:=by rw[kB,hdk]; simp
  have hgr:w.grownBy (sortWorldK enc k w q 0 m dk os) (some q):=by
   have:=(zqM enc enc_len enc_one (cap:=cap) m dk.toList os hh (by rw[hdl]; exact hnc) hcap hcs).1
   simpa using this
  refine ((hc _ (hmem x) _ (hmem y)).2 _ ok [.agg (enc x).toArray,.agg (enc y).toArray] (fun b hb=>jN (hok b hb) hgr.size) ?_).mono ?_
  ·have one:∀ z:Fin L.length,Rep1 (sortWorldK enc k w q 0 m dk os) ok (.agg (A.lst (L.getD z.1 default))) (.agg (enc z).toArray):=fun z=>by
    refine⟨enc z,rfl,All2.of_get (by rw[A.len,enc_len]) fun j a b ha hb=>?_⟩
    have hj:j<k:=by rw[<- enc_len z]; exact (kC.1 hb).1
    rw[A.hat _ j hj] at ha
    cases ha
    rw[enc_get z j hj] at hb
    obtain⟨u,hu,hrep⟩:=hr.rep z.1 z.2 j hj
    rw[hb] at hu; cases hu
    exact Rep.keep0 (fun b hb=>⟨hb,zd2 (hgr.block b (hok b hb) fun e=>hr.sep b e.symm hb)⟩) hrep
   exact .cons (one x) (.cons (one y) .nil)
  rintro en w' ⟨v,rfl,⟨hb,hd⟩,hres⟩
  have hv:v = .int .i64 (cf' x y):=hres
  exact⟨by rw[hv],zcB hb (hd rfl)⟩
 have hrun:=AnyQ.slices_SortFunc_total S k aE zE enc enc_len enc_one cf' ⟨fun i=>hO.1 _,fun i j l=>hO.2 _ _ _,fun i j l=>hO.3 _ _ _⟩ g #[] q 0 cap (List.finRange L.length).toArray w hent' hcmp hH hq (by simp; omega) (fun i j a b=>Fin.ext (hT i.1 j.1 i.2 j.2 a b))
 simp only[jaP,jbj] at hrun
 refine hrun.mono ?_
 rintro en w' ⟨rfl,m,os,rfl⟩
 have hlen:((List.finRange L.length).mergeSort fun x y=>!(ltOf cf') y x).length=L.length:=by rw[kY,jbj]
 obtain⟨p1,xs',p2,p3,p4⟩:=zqM enc enc_len enc_one (cap:=cap) m ((List.finRange L.length).mergeSort fun x y=>!(ltOf cf') y x) os hh (by rw[hlen]; exact hnc) hcap hcs
 rw[hlen] at p2 p4
 have hmap:((List.finRange L.length).mergeSort fun x y=>!(ltOf cf') y x).map (fun i=>L.getD i.1 default)=L.mergeSort fun x y=>!(ltOf cf) y x:=by
  rw[List.map_mergeSort (f:=fun i:Fin L.length=>L.getD i.1 default) (r:=fun x y=>!(ltOf cf') y x) (s:=fun x y=>!(ltOf cf) y x) (fun a _ b _=>rfl)]
  congr 1
  apply List.ext_getElem?
  intro i
  by_cases hi:i<L.length
  ·rw[jU,kF (by simpa using hi),kF hi]
   simp[hU,hi]
  rw[qU (by simpa using hi),qU (by omega)]
 refine⟨_,rfl,p1,⟨[],rfl,.nil⟩,xs',p2,p3,fun m' hm' j hj=>?_⟩
 have hx:(L.mergeSort fun x y=>!(ltOf cf) y x).getD m' default=L.getD (((List.finRange L.length).mergeSort fun x y=>!(ltOf cf') y x).getD m' default).1 default:=by
  rw[<- hmap,hU,jU,kF (by rw[hlen]; exact hm'),hU (l:=List.mergeSort _ _),kF (by rw[hlen]; exact hm')]
  rfl
 have q4:=p4 m' hm' j hj
 generalize ((List.finRange L.length).mergeSort fun x y=>!(ltOf cf') y x).getD m' default=i at hx q4
 obtain⟨u,hu,hrep⟩:=hr.rep i.1 i.2 j hj
 refine⟨u,by rw[q4,enc_get i j hj,hu],?_⟩
 show Rep _ ok (A.at_ ((L.mergeSort fun x y=>!(ltOf cf) y x).getD m' default) j) u
 rw[hx]
 exact Rep.keep0 (fun b hb=>⟨hb,zd2 (p1.block b (hok b hb) fun e=>hr.sep b e.symm hb)⟩) hrep
end Go.Pg
namespace Go.Proofs
open Go.Shelf Go.RowKit Go.Lib Go.Sort
def Tryz.sortFt_ren:Go.Shelf.Ren:=⟨fun | 6=>49 | 15=>109 | 14=>108 | 28=>165 | 29=>166 | 20=>157 | 21=>158 | 22=>159 | 23=>160 | 24=>161 | 25=>162 | 26=>163 | 27=>164 | 46=>207 | 47=>208 | 48=>209 | 49=>210 | 50=>211 | 57=>224 | n=>n,fun | 22=>66 | 24=>123 | 25=>134 | 3=>3 | 39=>200 | 0=>0 | 53=>257 | 55=>240 | 4=>4 | 46=>251 | 45=>250 | 50=>93 | 5=>5 | 9=>9 | 66=>288 | 70=>292 | 76=>315 | 77=>235 | n=>n,fun | n=>n⟩
theorem Tryz.sortFt:Go.Proofs.SlLaysF0.n6 Tryz.prog Tryz.sortFt_ren:={
  mixed:=by kernel_rfl,
  f6:=⟨Tryz.f49.name,by decide,Tryz.func49.trans (jI some (by kernel_rfl))⟩,
  f14:=⟨Tryz.f108.name,by decide,Tryz.func108.trans (jI some (by kernel_rfl))⟩,
  f15:=Tryz.func109.trans (jI some (by kernel_rfl)),
  f20:=⟨Tryz.f157.name,by decide,Tryz.func157.trans (jI some (by kernel_rfl))⟩,
  f21:=⟨Tryz.f158.name,by decide,Tryz.func158.trans (jI some (by kernel_rfl))⟩,
  f22:=⟨Tryz.f159.name,by decide,Tryz.func159.trans (jI some (by kernel_rfl))⟩,
  f23:=⟨Tryz.f160.name,by decide,Tryz.func160.trans (jI some (by kernel_rfl))⟩,
  f24:=⟨Tryz.f161.name,by decide,Tryz.func161.trans (jI some (by kernel_rfl))⟩,
  f25:=⟨Tryz.f162.name,by decide,Tryz.func162.trans (jI some (by kernel_rfl))⟩,
  f26:=⟨Tryz.f163.name,by decide,Tryz.func163.trans (jI some (by kernel_rfl))⟩,
  f27:=⟨Tryz.f164.name,by decide,Tryz.func164.trans (jI some (by kernel_rfl))⟩,
  f28:=Tryz.func165.trans (jI some (by kernel_rfl)),
  f29:=Tryz.func166.trans (jI some (by kernel_rfl)),
  f46:=⟨Tryz.f207.name,by decide,Tryz.func207.trans (jI some (by kernel_rfl))⟩,
  f47:=Tryz.func208.trans (jI some (by kernel_rfl)),
  f48:=Tryz.func209.trans (jI some (by kernel_rfl)),
  f49:=⟨Tryz.f210.name,by decide,Tryz.func210.trans (jI some (by kernel_rfl))⟩,
  f50:=⟨Tryz.f211.name,by decide,Tryz.func211.trans (jI some (by kernel_rfl))⟩,
  f57:=⟨Tryz.f224.name,by decide,Tryz.func224.trans (jI some (by kernel_rfl))⟩,
  t0:=Tryz.underlying0,
  a0:=Tryz.isAgg0,
  z0:=Tryz.sizeOf0,
  v0:=Tryz.zeroValue0,
  t3:=Tryz.underlying3,
  a3:=Tryz.isAgg3,
  z3:=Tryz.sizeOf3,
  v3:=Tryz.zeroValue3,
  t4:=Tryz.underlying4,
  a4:=Tryz.isAgg4,
  z4:=Tryz.sizeOf4,
  v4:=Tryz.zeroValue4,
  t5:=Tryz.underlying5,
  a5:=Tryz.isAgg5,
  z5:=Tryz.sizeOf5,
  v5:=Tryz.zeroValue5,
  t9:=Tryz.underlying9,
  a9:=Tryz.isAgg9,
  z9:=Tryz.sizeOf9,
  v9:=Tryz.zeroValue9,
  t22:=Tryz.underlying66,
  a22:=Tryz.isAgg66,
  z22:=Tryz.sizeOf66,
  v22:=Tryz.zeroValue66,
  t25:=Tryz.underlying134,
  a25:=Tryz.isAgg134,
  z25:=Tryz.sizeOf134,
  v25:=Tryz.zeroValue134,
  t39:=Tryz.underlying200,
  a39:=Tryz.isAgg200,
  z39:=Tryz.sizeOf200,
  v39:=Tryz.zeroValue200,
  t45:=Tryz.underlying250,
  a45:=Tryz.isAgg250,
  z45:=Tryz.sizeOf250,
  v45:=Tryz.zeroValue250,
  t46:=Tryz.underlying251,
  a46:=Tryz.isAgg251,
  z46:=Tryz.sizeOf251,
  v46:=Tryz.zeroValue251,
  t50:=Tryz.underlying93,
  a50:=Tryz.isAgg93,
  z50:=Tryz.sizeOf93,
  v50:=Tryz.zeroValue93,
  t53:=Tryz.underlying257,
  a53:=Tryz.isAgg257,
  z53:=Tryz.sizeOf257,
  v53:=Tryz.zeroValue257,
  t55:=Tryz.underlying240,
  a55:=Tryz.isAgg240,
  z55:=Tryz.sizeOf240,
  v55:=Tryz.zeroValue240,
  t66:=Tryz.underlying288,
  a66:=Tryz.isAgg288,
  z66:=Tryz.sizeOf288,
  v66:=Tryz.zeroValue288,
  t70:=Tryz.underlying292,
  a70:=Tryz.isAgg292,
  z70:=Tryz.sizeOf292,
  v70:=Tryz.zeroValue292,
  t76:=Tryz.underlying315,
  a76:=Tryz.isAgg315,
  z76:=Tryz.sizeOf315,
  v76:=Tryz.zeroValue315,
  t77:=Tryz.underlying235,
  a77:=Tryz.isAgg235,
  z77:=Tryz.sizeOf235,
  v77:=Tryz.zeroValue235 }
def Tryz.sortMf_ren:Go.Shelf.Ren:=⟨fun | 6=>52 | 15=>109 | 14=>111 | 28=>165 | 29=>166 | 20=>168 | 21=>169 | 22=>170 | 23=>171 | 24=>172 | 25=>173 | 26=>174 | 27=>175 | 46=>213 | 47=>208 | 48=>209 | 49=>214 | 50=>215 | 57=>225 | n=>n,fun | 22=>67 | 24=>126 | 25=>136 | 3=>3 | 39=>200 | 0=>0 | 53=>257 | 55=>240 | 4=>4 | 46=>251 | 45=>250 | 50=>93 | 5=>5 | 9=>9 | 66=>288 | 70=>292 | 76=>315 | 77=>235 | n=>n,fun | n=>n⟩
theorem Tryz.sortMf:Go.Proofs.SlLaysF0.n6 Tryz.prog Tryz.sortMf_ren:={
  mixed:=by kernel_rfl,
  f6:=⟨Tryz.f52.name,by decide,Tryz.func52.trans (jI some (by kernel_rfl))⟩,
  f14:=⟨Tryz.f111.name,by decide,Tryz.func111.trans (jI some (by kernel_rfl))⟩,
  f15:=Tryz.func109.trans (jI some (by kernel_rfl)),
  f20:=⟨Tryz.f168.name,by decide,Tryz.func168.trans (jI some (by kernel_rfl))⟩,
  f21:=⟨Tryz.f169.name,by decide,Tryz.func169.trans (jI some (by kernel_rfl))⟩,
  f22:=⟨Tryz.f170.name,by decide,Tryz.func170.trans (jI some (by kernel_rfl))⟩,
  f23:=⟨Tryz.f171.name,by decide,Tryz.func171.trans (jI some (by kernel_rfl))⟩,
  f24:=⟨Tryz.f172.name,by decide,Tryz.func172.trans (jI some (by kernel_rfl))⟩,
  f25:=⟨Tryz.f173.name,by decide,Tryz.func173.trans (jI some (by kernel_rfl))⟩,
  f26:=⟨Tryz.f174.name,by decide,Tryz.func174.trans (jI some (by kernel_rfl))⟩,
  f27:=⟨Tryz.f175.name,by decide,Tryz.func175.trans (jI some (by kernel_rfl))⟩,
  f28:=Tryz.func165.trans (jI some (by kernel_rfl)),
  f29:=Tryz.func166.trans (jI some (by kernel_rfl)),
  f46:=⟨Tryz.f213.name,by decide,Tryz.func213.trans (jI some (by kernel_rfl))⟩,
  f47:=Tryz.func208.trans (jI some (by kernel_rfl)),
  f48:=Tryz.func209.trans (jI some (by kernel_rfl)),
  f49:=⟨Tryz.f214.name,by decide,Tryz.func214.trans (jI some (by kernel_rfl))⟩,
  f50:=⟨Tryz.f215.name,by decide,Tryz.func215.trans (jI some (by kernel_rfl))⟩,
  f57:=⟨Tryz.f225.name,by decide,Tryz.func225.trans (jI some (by kernel_rfl))⟩,
  t0:=Tryz.underlying0,
  a0:=Tryz.isAgg0,
  z0:=Tryz.sizeOf0,
  v0:=Tryz.zeroValue0,
  t3:=Tryz.underlying3,
  a3:=Tryz.isAgg3,
  z3:=Tryz.sizeOf3,
  v3:=Tryz.zeroValue3,
  t4:=Tryz.underlying4,
  a4:=Tryz.isAgg4,
  z4:=Tryz.sizeOf4,
  v4:=Tryz.zeroValue4,
  t5:=Tryz.underlying5,
  a5:=Tryz.isAgg5,
  z5:=Tryz.sizeOf5,
  v5:=Tryz.zeroValue5,
  t9:=Tryz.underlying9,
  a9:=Tryz.isAgg9,
  z9:=Tryz.sizeOf9,
  v9:=Tryz.zeroValue9,
  t22:=Tryz.underlying67,
  a22:=Tryz.isAgg67,
  z22:=Tryz.sizeOf67,
  v22:=Tryz.zeroValue67,
  t25:=Tryz.underlying136,
  a25:=Tryz.isAgg136,
  z25:=Tryz.sizeOf136,
  v25:=Tryz.zeroValue136,
  t39:=Tryz.underlying200,
  a39:=Tryz.isAgg200,
  z39:=Tryz.sizeOf200,
  v39:=Tryz.zeroValue200,
  t45:=Tryz.underlying250,
  a45:=Tryz.isAgg250,
  z45:=Tryz.sizeOf250,
  v45:=Tryz.zeroValue250,
  t46:=Tryz.underlying251,
  a46:=Tryz.isAgg251,
  z46:=Tryz.sizeOf251,
  v46:=Tryz.zeroValue251,
  t50:=Tryz.underlying93,
  a50:=Tryz.isAgg93,
  z50:=Tryz.sizeOf93,
  v50:=Tryz.zeroValue93,
  t53:=Tryz.underlying257,
  a53:=Tryz.isAgg257,
  z53:=Tryz.sizeOf257,
  v53:=Tryz.zeroValue257,
  t55:=Tryz.underlying240,
  a55:=Tryz.isAgg240,
  z55:=Tryz.sizeOf240,
  v55:=Tryz.zeroValue240,
  t66:=Tryz.underlying288,
  a66:=Tryz.isAgg288,
  z66:=Tryz.sizeOf288,
  v66:=Tryz.zeroValue288,
  t70:=Tryz.underlying292,
  a70:=Tryz.isAgg292,
  z70:=Tryz.sizeOf292,
  v70:=Tryz.zeroValue292,
  t76:=Tryz.underlying315,
  a76:=Tryz.isAgg315,
  z76:=Tryz.sizeOf315,
  v76:=Tryz.zeroValue315,
  t77:=Tryz.underlying235,
  a77:=Tryz.isAgg235,
  z77:=Tryz.sizeOf235,
  v77:=Tryz.zeroValue235 }
end Go.Proofs
set_option maxRecDepth 100000
namespace Go.Pg
open Go.Proofs Go.RowKit Go.Sort Go.Shelf
theorem ordC (a b:Int):(ord a b = -1/\a<b) \/ (ord a b=1/\b<a) \/ (ord a b=0/\a=b):=by
 unfold ord
 by_cases h1:a<b
 ·exact .inl ⟨kH h1,h1⟩
 by_cases h2:b<a
 ·exact .inr (.inl ⟨by rw[kG h1,kH h2],h2⟩)
 exact .inr (.inr ⟨by rw[kG h1,kG h2],by omega⟩)
def cmpL:List Int->List Int->Int
 | [],[]=>0
 | [],_ :: _=>-1
 | _ :: _,[]=>1
 | a :: r,b :: q=>if ord a b≠0 then ord a b else cmpL r q
theorem zgI:∀ a,cmpL a a=0
 | []=>rfl
 | a :: r=>by
  have:ord a a=0:=by rcases ordC a a with⟨_,h⟩ | ⟨_,h⟩ | ⟨h,_⟩ <;> omega
  rw[cmpL,kG (by rw[this]; simp),zgI r]
theorem cmpL_cases:∀ a b,(cmpL a b = -1/\cmpL b a=1) \/ (cmpL a b=1/\cmpL b a = -1) \/ (cmpL a b=0/\a=b)
 | [],[]=>.inr (.inr ⟨rfl,rfl⟩)
 | [],_ :: _=>.inl ⟨rfl,rfl⟩
 | _ :: _,[]=>.inr (.inl ⟨rfl,rfl⟩)
 | a :: r,b :: q=>by
  unfold cmpL
  rcases ordC a b with⟨e,h⟩ | ⟨e,h⟩ | ⟨e,h⟩ <;> rcases ordC b a with⟨e',h'⟩ | ⟨e',h'⟩ | ⟨e',h'⟩ <;> first | omega | skip
  subst h
  rw[kG (by rw[e]; simp),kG (by rw[e]; simp)]
  rcases cmpL_cases r q with h | h | ⟨h,e⟩
  ·exact .inl h
  ·exact .inr (.inl h)
  exact .inr (.inr ⟨h,by rw[e]⟩)
theorem zcY:∀ a b c,cmpL a b = -1->cmpL b c = -1->cmpL a c = -1
 | [],[],_,h,_=>by cases h
 | [],_ :: _,[],_,h=>by cases h
 | [],_ :: _,_ :: _,_,_=>rfl
 | _ :: _,[],_,h,_=>by cases h
 | _ :: _,_ :: _,[],_,h=>by cases h
 | a :: r,b :: q,c :: p,h1,h2=>by
  unfold cmpL at h1 h2 ⊢
  rcases ordC a b with⟨e,h⟩ | ⟨e,h⟩ | ⟨e,h⟩ <;> rcases ordC b c with⟨e',h'⟩ | ⟨e',h'⟩ | ⟨e',h'⟩ <;> rcases ordC a c with⟨e2,h3⟩ | ⟨e2,h3⟩ | ⟨e2,h3⟩ <;> first | omega | skip
  all_goals rw[e] at h1; rw[e'] at h2; rw[e2]
  all_goals first | rfl | (simp at h1; done) | (simp at h2; done) | skip
  simp only[ne_eq,jaO,jaE] at h1 h2 ⊢
  exact zcY r q p h1 h2
theorem swoL {α:Type} (key:α->List Int):SWO (ltOf fun x y:α=>cmpL (key x) (key y)):=by
 have lt:∀ x y:α,ltOf (fun x y:α=>cmpL (key x) (key y)) x y=decide (cmpL (key x) (key y)<0):=fun _ _=>rfl
 have iff:∀ a b,cmpL a b<0 ↔ cmpL a b = -1:=fun a b=>by rcases cmpL_cases a b with⟨h,_⟩ | ⟨h,_⟩ | ⟨h,_⟩ <;> omega
 refine⟨fun x=>?_,fun x y z h1 h2=>?_,fun x y z h1 h2=>?_⟩
 ·rw[lt,zgI]; rfl
 ·rw[lt,kA,iff] at *
  exact zcY _ _ _ h1 h2
 rw[lt,jae,iff] at *
 intro h3
 rcases cmpL_cases (key x) (key y) with⟨h,_⟩ | ⟨_,h⟩ | ⟨_,h⟩
 ·exact h1 h
 ·exact h2 (zcY _ _ _ h h3)
 rw[h] at h3; exact h2 h3
theorem zgJ {a b:List Int} (h1:decide (cmpL a b<0)=false) (h2:decide (cmpL b a<0)=false):a=b:=by
 rw[jae] at h1 h2
 rcases cmpL_cases a b with⟨h,_⟩ | ⟨_,h⟩ | ⟨_,h⟩
 ·omega
 ·omega
 exact h
theorem zrY (a b:List Int) (ha:a.length<=1000000) (hb:b.length<=1000000):SpecD PP 110 [.d (lI a),.d (lI b)] [N (cmpL a b)]:=by
 refine zbw Tryz.func110 rfl (by kernel_rfl) rfl ?_
 refine lOf (σ:=Nat) (fun i=>([(0,.d (lI a)),(1,.d (lI b)),(9,.d (lI a)),(10,.d (I a.length)),(11,.d (I i))],[])) (fun i=>i<=a.length/\i<=b.length/\cmpL (a.drop i) (b.drop i)=cmpL a b) (fun i=>a.length - i) 0
  ⟨rfl,trivial,wq rfl⟩ ⟨jF _,jF _,rfl⟩ fun i hi=>?_
 obtain⟨hi,hj,he⟩:=hi
 apply bY <;> intro h1
 ·have h1:i<a.length:=by have:=dT h1; omega
  have da:a.drop i=a.getD i 0 :: a.drop (i+1):=by rw[qB h1,hU,kF h1]; rfl
  refine⟨⟨rfl,by omega,by omega⟩,?_⟩
  apply bY <;> intro h2
  ·have h2:b.length<=i:=by have:(b.length:Int)<=i:=dT h2; omega
   have db:b.drop i=[]:=List.drop_eq_nil_iff.2 h2
   rw[da,db] at he
   exact r1I rfl he
  have h2:i<b.length:=by have:¬ (b.length:Int)<=i:=dF h2; omega
  have db:b.drop i=b.getD i 0 :: b.drop (i+1):=by rw[qB h2,hU,kF h2]; rfl
  refine⟨⟨rfl,by omega,by omega⟩,?_⟩
  refine cP (zrZ (a.getD i 0) (b.getD i 0)) rfl rfl ?_
  rw[da,db,cmpL] at he
  apply bY <;> intro h3
  ·have h3:ord (a.getD i 0) (b.getD i 0)≠0:=by simpa using h3
   rw[kH h3] at he
   exact r1I rfl he
  have h3:ord (a.getD i 0) (b.getD i 0)=0:=by simpa using h3
  rw[kG (by rw[h3]; simp)] at he
  refine⟨i6,?_⟩
  exact⟨i+1,⟨rfl,trivial,wq rfl⟩,⟨h1,h2,he⟩,msr h1⟩
 have h1:i=a.length:=by have:=dF h1; omega
 subst h1
 rw[jbh] at he
 apply bY <;> intro h2
 ·have h2:a.length<b.length:=by have:(a.length:Int)<b.length:=dT h2; omega
  have db:b.drop a.length=b.getD a.length 0 :: b.drop (a.length+1):=by rw[qB h2,hU,kF h2]; rfl
  rw[db] at he
  exact r1I rfl he
 have h2:b.length<=a.length:=by have:¬ (a.length:Int)<b.length:=dF h2; omega
 rw[List.drop_eq_nil_iff.2 h2] at he
 exact r1I rfl he
theorem zoP (a b:List Int) (ha:a.length<=1000000) (hb:b.length<=1000000):SpecD PP 51 [.d (lI a),.d (lI b)] [N (cmpL a b)]:=by
 refine zbw Tryz.func51 rfl (by kernel_rfl) rfl ?_
 refine cP (zrY a b ha hb) rfl rfl ?_
 exact r1I rfl rfl
structure Fit where
  IDs:List Int
  At:Place
  deriving Inhabited
structure Mis where
  IDs:List Int
  R:List Rsn
  deriving Inhabited
def Fit.at (x:Fit):Nat->D
 | 0=>lI x.IDs
 | 1=>I x.At.X
 | _=>I x.At.Y
def Mis.at (x:Mis):Nat->D
 | 0=>lI x.IDs
 | _=>lRs x.R
abbrev Fit.v (x:Fit):V1:=.agg [lI x.IDs,I x.At.X,I x.At.Y]
abbrev Mis.v (x:Mis):V1:=.agg [lI x.IDs,lRs x.R]
abbrev lFt (l:List Fit):D:=.slc 3 l.length fun i=>(l.getD i default).at
abbrev lMs (l:List Mis):D:=.slc 2 l.length fun i=>(l.getD i default).at
def FtD:Dats Fit 3 where
  lst x:=[lI x.IDs,I x.At.X,I x.At.Y]
  len _:=rfl
  at_ x:=x.at
  hat x j hj:=by
    match j,hj with
    | 0,_=>rfl
    | 1,_=>rfl
    | 2,_=>rfl
def MsD:Dats Mis 2 where
  lst x:=[lI x.IDs,lRs x.R]
  len _:=rfl
  at_ x:=x.at
  hat x j hj:=by
    match j,hj with
    | 0,_=>rfl
    | 1,_=>rfl
theorem znp (x y:Fit) (hx:x.IDs.length<=1000000) (hy:y.IDs.length<=1000000):SpecD PP 50 [x.v,y.v] [N (cmpL x.IDs y.IDs)]:=by
 refine zbw Tryz.func50 rfl (by kernel_rfl) rfl ?_
 refine cP (zoP x.IDs y.IDs hx hy) rfl rfl ?_
 exact r1I rfl rfl
theorem zno (x y:Mis) (hx:x.IDs.length<=1000000) (hy:y.IDs.length<=1000000):SpecD PP 53 [x.v,y.v] [N (cmpL x.IDs y.IDs)]:=by
 refine zbw Tryz.func53 rfl (by kernel_rfl) rfl ?_
 refine cP (zoP x.IDs y.IDs hx hy) rfl rfl ?_
 exact r1I rfl rfl
def srtF (l:List Fit):List Fit:=l.mergeSort fun x y=>!decide (cmpL y.IDs x.IDs<0)
def srtM (l:List Mis):List Mis:=l.mergeSort fun x y=>!decide (cmpL y.IDs x.IDs<0)
theorem aggFt:∀ w,(isAgg (Tryz.sortFt_ren.t 24)).run PP w = .ok true w:=fun _=>by kernel_rfl
theorem sizFt:∀ w,(Go.sizeOf (Tryz.sortFt_ren.t 24)).run PP w = .ok 3 w:=fun _=>by kernel_rfl
theorem aggMs:∀ w,(isAgg (Tryz.sortMf_ren.t 24)).run PP w = .ok true w:=fun _=>by kernel_rfl
theorem sizMs:∀ w,(Go.sizeOf (Tryz.sortMf_ren.t 24)).run PP w = .ok 2 w:=fun _=>by kernel_rfl
theorem zmV (L:List Fit) (hn:L.length<=1000000) (hd:∀ i j,i<L.length->j<L.length->(L.getD i default).IDs=(L.getD j default).IDs->i=j) (hl:∀ x∈L,x.IDs.length<=1000000) :
  SpecW PP 49 [] [.d (.fn 50)] 123 3 L.length (FtD.row L) (FtD.row (srtF L)) []:=
 zeI Tryz.sortFt ⟨_,Tryz.func49,by kernel_rfl,by kernel_rfl⟩ aggFt sizFt FtD L (fun x y=>cmpL x.IDs y.IDs) (swoL Fit.IDs) (fun i j hi hj h1 h2=>hd i j hi hj (zgJ h1 h2)) 50 (fun x hx y hy=>znp x y (hl x hx) (hl y hy)) 123 hn
theorem zmU (L:List Mis) (hn:L.length<=1000000) (hd:∀ i j,i<L.length->j<L.length->(L.getD i default).IDs=(L.getD j default).IDs->i=j) (hl:∀ x∈L,x.IDs.length<=1000000) :
  SpecW PP 52 [] [.d (.fn 53)] 126 2 L.length (MsD.row L) (MsD.row (srtM L)) []:=
 zeI Tryz.sortMf ⟨_,Tryz.func52,by kernel_rfl,by kernel_rfl⟩ aggMs sizMs MsD L (fun x y=>cmpL x.IDs y.IDs) (swoL Mis.IDs) (fun i j hi hj h1 h2=>hd i j hi hj (zgJ h1 h2)) 53 (fun x hx y hy=>zno x y (hl x hx) (hl y hy)) 126 hn
def misR (d:Day) (ids:List Int):List Rsn:=if (brnD d ids).To - (brnD d ids).From<=d.Long then (rsnR d.s (brnD d ids) (lstD d ids)).1 else []
def greB (d:Day) (ks:List Nat) (m:Nat):Bool:=fitK d ks m && !growK d ks m
def leaB (d:Day) (ks:List Nat) (m:Nat):Bool:=!fitK d ks m && partK d ks m
abbrev fitF (d:Day) (m:Nat):Fit:=⟨memb (sigL d.R) m,(celD d m).getD 0 default⟩
abbrev misF (d:Day) (m:Nat):Mis:=⟨memb (sigL d.R) m,misR d (memb (sigL d.R) m)⟩
def tabA {α:Type} (p:Nat->Bool) (f:Nat->α):Nat->List α
 | 0=>[]
 | m+1=>if m≠0/\p m=true then tabA p f m ++ [f m] else tabA p f m
theorem zfh {α:Type} {p:Nat->Bool} {f:Nat->α} {m:Nat} (h0:1<=m) (h:p m=true):tabA p f (m+1)=tabA p f m ++ [f m]:=by rw[tabA,kH ⟨by omega,h⟩]
theorem zcd {α:Type} {p:Nat->Bool} {f:Nat->α} {m:Nat} (h:p m=false):tabA p f (m+1)=tabA p f m:=by rw[tabA,kG fun hh=>by rw[h] at hh; cases hh.2]
theorem zcn {α:Type} (p:Nat->Bool) (f:Nat->α):∀ m,(tabA p f m).length<=m
 | 0=>jE _
 | m+1=>by
  have:=zcn p f m
  unfold tabA
  split
  ·rw[jR]; simp; omega
  omega
theorem za2 {α:Type} {p:Nat->Bool} {f:Nat->α}:∀ {m:Nat} {x:α},x∈tabA p f m -> ∃ k,0<k/\k<m/\p k=true/\x=f k
 | 0,x,h=>by cases h
 | m+1,x,h=>by
  unfold tabA at h
  split at h
  ·rename_i hm
   rcases kR.1 h with h | h
   ·obtain⟨k,h1,h2,h3⟩:=za2 h; exact⟨k,h1,by omega,h3⟩
   exact⟨m,by omega,by omega,hm.2,kM.1 h⟩
  obtain⟨k,h1,h2,h3⟩:=za2 h; exact⟨k,h1,by omega,h3⟩
theorem zcm {α:Type} (p:Nat->Bool) (f:Nat->α):∀ m,tabA p f m=(tabA p id m).map f
 | 0=>rfl
 | m+1=>by
  unfold tabA
  split
  ·rw[zcm p f m,jT]; rfl
  exact zcm p f m
theorem zcQ {p:Nat->Bool}:∀ m,(tabA p id m).Nodup
 | 0=>jac
 | m+1=>by
  unfold tabA
  split
  ·refine jaz.2 ⟨zcQ m,by simp,fun a ha b hb=>?_⟩
   obtain⟨k,_,h2,_,h3⟩:=za2 ha
   simp at hb; subst hb; simp at h3; omega
  exact zcQ m
theorem pushF {l:List Fit} {x:Fit} {g:Nat->Nat->D} (hg:∀ j,j<3->D.eqv (g 0 j) (x.at j)):D.eqv (.slc 3 (l.length+1) (appRow l.length (FtD.row l) g)) (.slc 3 (l ++ [x]).length (FtD.row (l ++ [x]))):=by
 refine⟨by simp,.inr ⟨rfl,fun i hi j hj=>?_⟩⟩
 show D.eqv (appRow l.length (FtD.row l) g i j) (((l ++ [x]).getD i default).at j)
 unfold appRow
 by_cases h:i<l.length
 ·rw[kH h,hU,jJ h,<- hU]
  exact dE _
 have e:i=l.length:=by omega
 subst e
 rw[kG h,kE,hU,jK (jE _),kE]
 exact hg j hj
theorem zq9 {l:List Mis} {x:Mis} {g:Nat->Nat->D} (hg:∀ j,j<2->D.eqv (g 0 j) (x.at j)):D.eqv (.slc 2 (l.length+1) (appRow l.length (MsD.row l) g)) (.slc 2 (l ++ [x]).length (MsD.row (l ++ [x]))):=by
 refine⟨by simp,.inr ⟨rfl,fun i hi j hj=>?_⟩⟩
 show D.eqv (appRow l.length (MsD.row l) g i j) (((l ++ [x]).getD i default).at j)
 unfold appRow
 by_cases h:i<l.length
 ·rw[kH h,hU,jJ h,<- hU]
  exact dE _
 have e:i=l.length:=by omega
 subst e
 rw[kG h,kE,hU,jK (jE _),kE]
 exact hg j hj
theorem zkQ {α:Type} {l:List α} (h:l.Nodup) {i j:Nat} (hi:i<l.length) (hj:j<l.length) (e:l[i]=l[j]):i=j:=by
 have h:=kV.1 h
 rcases jbs i j with g | g | g
 ·exact absurd e (h i j hi hj g)
 ·exact g
 exact absurd e.symm (h j i hj hi g)
theorem zaU {ids:List Int} (hd:ids.Nodup) {m i:Nat} (hi:i<ids.length):ids.getD i 0∈memb ids m ↔ m.testBit i=true:=by
 unfold memb membA
 rw[kK]
 constructor
 ·rintro⟨j,hj,e⟩
  rw[kW,kI] at hj
  rw[hU,hU,kF hj.1,kF hi] at e
  have:j=i:=zkQ hd hj.1 hi e
  subst this; exact hj.2
 intro h
 exact⟨i,kW.2 ⟨kI.2 hi,h⟩,rfl⟩
theorem zm9 {ids:List Int} (hd:ids.Nodup) {m k:Nat} (hm:m<2 ^ ids.length) (hk:k<2 ^ ids.length) (h:memb ids m=memb ids k):m=k:=by
 apply jaM
 intro i
 by_cases hi:i<ids.length
 ·rw[kO,<- zaU hd hi,<- zaU hd hi,h]
 have h2:2 ^ ids.length<=2 ^ i:=jau (by decide) (by omega)
 rw[jaW (by omega),jaW (by omega)]
theorem DayOk.nodR {d:Day} (h:DayOk d):(d.R.map Rpt.ID).Nodup:=by
 have:∀ i,i<=d.R.length->((d.R.take i).map Rpt.ID).Nodup:=by
  intro i
  induction i with
  | zero=>intro _; simp
  | succ i ih=>
  intro hi
  rw[zay (by omega) default,jT]
  refine jaz.2 ⟨ih (by omega),by simp,fun a ha b hb=>?_⟩
  have:=h.tw i (by omega)
  rw[wI] at this
  obtain⟨x,hx,rfl⟩:=kK.1 ha
  have h1:=this x hx
  simp at hb h1
  rw[hb]; exact h1
 have:=this d.R.length (jE _)
 rwa [jZ] at this
theorem DayOk.nod {d:Day} (h:DayOk d):(sigL d.R).Nodup:=by
 unfold sigL
 refine (qW _ _).nodup_iff.2 ?_
 unfold sigK
 exact List.Nodup.sublist (List.Sublist.map _ (List.filter_sublist ..)) h.nodR
theorem zhX {α:Type} [Inhabited α] {d:Day} (h:DayOk d) (key:α->List Int) (p:Nat->Bool) (f:Nat->α) (hk:∀ m,key (f m)=memb (sigL d.R) m) {n:Nat} (hn:n<=2 ^ (sigL d.R).length) :
  ∀ i j,i<(tabA p f n).length->j<(tabA p f n).length->key ((tabA p f n).getD i default)=key ((tabA p f n).getD j default)->i=j:=by
 intro i j hi hj e
 have hl:(tabA p f n).length=(tabA p id n).length:=by rw[zcm p f,kU]
 have g:∀ i,i<(tabA p f n).length -> ∃ hi:i<(tabA p id n).length,(tabA p f n).getD i default=f (tabA p id n)[i]:=fun i hi=>by
  have hi':i<(tabA p id n).length:=by rw[<- hl]; exact hi
  refine⟨hi',?_⟩
  rw[hU,zcm p f,jU,kF hi']; rfl
 obtain⟨hi',e1⟩:=g i hi
 obtain⟨hj',e2⟩:=g j hj
 rw[e1,e2,hk,hk] at e
 have lt:∀ i,∀ hi:i<(tabA p id n).length,(tabA p id n)[i]<2 ^ (sigL d.R).length:=fun i hi=>by
  obtain⟨k,_,h2,_,h3⟩:=za2 (kT hi)
  rw[h3]; simp; omega
 have:=zm9 h.nod (lt i hi') (lt j hj') e
 exact zkQ (zcQ n) hi' hj' this
def tabR (d:Day):List Fit × List Mis × Int:=
 if dayE d≠0 then ([],[],dayE d) else (srtF (tabA (greB d (ksD d)) (fitF d) (2 ^ (sigL d.R).length)),srtM (tabA (leaB d (ksD d)) (misF d) (2 ^ (sigL d.R).length)),0)
theorem zld (d:Day) (hn:d.R.length<=1000000):Spec PP 16 [d.v] [.agg [lFt (tabR d).1,lMs (tabR d).2.1],.d (.int .i64 (tabR d).2.2)]:=by
 refine za3 [20] Tryz.func16 rfl (by kernel_rfl) rfl ?_
 refine cP (zbD d hn) rfl rfl ?_
 apply bY <;> intro h0
 ·have e:tabR d=([],[],dayE d):=by unfold tabR; rw[kH (by simpa using h0)]
  rw[e]
  exact⟨rtC (a:=2) rfl rfl rfl rfl rfl rfl ⟨rfl,rfl,trivial⟩,rtI rfl rfl,trivial⟩
 have h0:dayE d=0:=by simpa using h0
 have h:=zap h0
 have hn:=h.n
 have h7:=sig7 h
 have e:tabR d=(srtF (tabA (greB d (ksD d)) (fitF d) (2 ^ (sigL d.R).length)),srtM (tabA (leaB d (ksD d)) (misF d) (2 ^ (sigL d.R).length)),0):=by unfold tabR; rw[kG (fun hh=>hh h0)]
 rw[e]
 refine cR (zoE h) rfl rfl ?_
 have hp:2 ^ (sigL d.R).length<=2 ^ 7:=jau (by decide) h7
 refine lOf (σ:=Nat) (fun m=>([(1,.box 1 0),(2,.box 2 0),(5,.box 5 0),(6,.box 6 0),(7,.d (I m))],[(1,.box (d.ds.map AV.d)),(2,.box (List.replicate 2 .any)),(5,.box ((d.ds ++ [lI (sigL d.R),cmap d (ksD d)]).map AV.d)),(6,.box [.own 52,.own 87]),
   (52,.row 123 3 (tabA (greB d (ksD d)) (fitF d) m).length (FtD.row (tabA (greB d (ksD d)) (fitF d) m))),(87,.row 126 2 (tabA (leaB d (ksD d)) (misF d) m).length (MsD.row (tabA (leaB d (ksD d)) (misF d) m)))]))
  (fun m=>1<=m/\m<=2 ^ (sigL d.R).length) (fun m=>2 ^ (sigL d.R).length - m) 1
  ⟨rfl,⟨obD d.ds rfl,zaM rfl rfl,obD (d.ds ++ [lI (sigL d.R),cmap d (ksD d)]) rfl,⟨⟨rfl,_,_,_,rfl⟩,⟨rfl,_,_,_,rfl⟩,trivial⟩,rfl,rfl,trivial⟩,wq rfl⟩ ⟨jE _,Nat.one_le_two_pow⟩ fun m hm=>?_
 obtain⟨hm,hm2⟩:=hm
 have es:=bShl h7
 have l1:=zcn (greB d (ksD d)) (fitF d) m
 have l2:=zcn (leaB d (ksD d)) (misF d) m
 have hi:(memb (sigL d.R) m).length<=1000000:=jM (zbd _ _ _) (by omega)
 refine⟨by omega,?_⟩
 apply bY <;> intro h1
 ·have h1:m<2 ^ (sigL d.R).length:=by
   have h1:(m:Int)<((2 ^ (sigL d.R).length:Nat):Int):=by rw[<- es]; exact dT h1
   omega
  have hms:2 ^ (sigL d.R).length - (m+1)<2 ^ (sigL d.R).length - m:=by omega
  refine cR (zd3 (sigL d.R) m h7 (by omega)) rfl rfl ?_
  refine cP (zeX d (ksD d) m) rfl rfl ?_
  apply bY <;> intro h2
  ·have h2:fitK d (ksD d) m=true:=h2
   have e2:leaB d (ksD d) m=false:=by unfold leaB; rw[h2]; rfl
   refine cP (zpZ d (ksD d) m h7 (by omega)) rfl rfl ?_
   repeat first | apply sT | apply sF
   apply bY <;> intro h3
   ·have h3:growK d (ksD d) m=false:=by simpa using h3
    have e1:greB d (ksD d) m=true:=by unfold greB; rw[h2,h3]; rfl
    have hf:(ksD d).contains m=true/\0<(celD d m).length:=by unfold fitK at h2; simpa using h2
    refine oN 14 ?_
    refine⟨⟨kInt,rfl⟩,lP (celD d m),?_,?_⟩
    ·have:=zoz d (ksD d) m
     rw[kH hf.1] at this
     exact this
    refine⟨⟨rfl,by omega,by omega⟩,?_⟩
    refine⟨⟨.inr rfl,by unfold maxLen; omega,by show ((tabA (greB d (ksD d)) (fitF d) m).length+1) * 40<=140737488355328; omega⟩,?_⟩
    refine⟨i6,?_⟩
    refine⟨m+1,⟨rfl,⟨obD d.ds rfl,zaM rfl rfl,obD (d.ds ++ [lI (sigL d.R),cmap d (ksD d)]) rfl,obX rfl,obR rfl ?_,obR rfl ?_,trivial⟩,wq rfl⟩,⟨by omega,h1⟩,hms⟩
    ·rw[zfh hm e1]
     refine pushF fun j hj=>?_
     match j,hj with
     | 0,_=>exact dE _
     | 1,_=>exact dE _
     | 2,_=>exact dE _
    rw[zcd e2]; exact dE _
   have h3:growK d (ksD d) m=true:=by simpa using h3
   have e1:greB d (ksD d) m=false:=by unfold greB; rw[h2,h3]; rfl
   refine cP (zeX d (ksD d) m) rfl rfl ?_
   refine sNo (by rw[h2]; rfl) ?_
   repeat first | apply sT | apply sF
   refine⟨i6,?_⟩
   refine⟨m+1,⟨rfl,⟨obD d.ds rfl,zaM rfl rfl,obD (d.ds ++ [lI (sigL d.R),cmap d (ksD d)]) rfl,obX rfl,obR rfl ?_,obR rfl ?_,trivial⟩,wq rfl⟩,⟨by omega,h1⟩,hms⟩
   ·rw[zcd e1]; exact dE _
   rw[zcd e2]; exact dE _
  have h2:fitK d (ksD d) m=false:=h2
  have e1:greB d (ksD d) m=false:=by unfold greB; rw[h2]; rfl
  repeat first | apply sT | apply sF
  refine cP (zeX d (ksD d) m) rfl rfl ?_
  refine sYe (by rw[h2]; rfl) ?_
  refine cP (zlc d (ksD d) m h7 (by omega)) rfl rfl ?_
  repeat first | apply sT | apply sF
  apply bY <;> intro h3
  ·have h3:partK d (ksD d) m=true:=h3
   have e2:leaB d (ksD d) m=true:=by unfold leaB; rw[h2,h3]; rfl
   refine cP (ziG d (memb (sigL d.R) m) (by omega) hi) rfl rfl ?_
   refine cP (zfF d (brnD d (memb (sigL d.R) m)) (zfT h _)) rfl rfl ?_
   apply bY <;> intro h4
   ·have h4:(brnD d (memb (sigL d.R) m)).To - (brnD d (memb (sigL d.R) m)).From<=d.Long:=by simpa using h4
    have er:misR d (memb (sigL d.R) m)=(rsnR d.s (brnD d (memb (sigL d.R) m)) (lstD d (memb (sigL d.R) m))).1:=by unfold misR; rw[kH h4]
    refine oN 12 ?_
    refine oRo (ziF d (memb (sigL d.R) m) (by omega) hi) rfl rfl ?_
    refine oRo (zk8 d.s (brnD d (memb (sigL d.R) m)) (lstD d (memb (sigL d.R) m))) rfl rfl ?_
    refine⟨⟨.inr rfl,by unfold maxLen; omega,by show ((tabA (leaB d (ksD d)) (misF d) m).length+1) * 48<=140737488355328; omega⟩,?_⟩
    refine⟨i6,?_⟩
    refine⟨m+1,⟨rfl,⟨obD d.ds rfl,zaM rfl rfl,obD (d.ds ++ [lI (sigL d.R),cmap d (ksD d)]) rfl,obX rfl,obR rfl ?_,obR rfl ?_,trivial⟩,wq rfl⟩,⟨by omega,h1⟩,hms⟩
    ·rw[zcd e1]; exact dE _
    rw[zfh hm e2]
    refine zq9 fun j hj=>?_
    match j,hj with
    | 0,_=>exact dE _
    | 1,_=>show D.eqv _ (lRs (misR d (memb (sigL d.R) m))); rw[er]; exact dE _
   have h4:¬ (brnD d (memb (sigL d.R) m)).To - (brnD d (memb (sigL d.R) m)).From<=d.Long:=by simpa using h4
   have er:misR d (memb (sigL d.R) m)=[]:=by unfold misR; rw[kG h4]
   refine⟨⟨.inr rfl,by unfold maxLen; omega,by show ((tabA (leaB d (ksD d)) (misF d) m).length+1) * 48<=140737488355328; omega⟩,?_⟩
   refine⟨i6,?_⟩
   refine⟨m+1,⟨rfl,⟨obD d.ds rfl,zaM rfl rfl,obD (d.ds ++ [lI (sigL d.R),cmap d (ksD d)]) rfl,obX rfl,obR rfl ?_,obR rfl ?_,trivial⟩,wq rfl⟩,⟨by omega,h1⟩,hms⟩
   ·rw[zcd e1]; exact dE _
   rw[zfh hm e2]
   refine zq9 fun j hj=>?_
   match j,hj with
   | 0,_=>exact dE _
   | 1,_=>show D.eqv _ (lRs (misR d (memb (sigL d.R) m))); rw[er]; rfl
  have h3:partK d (ksD d) m=false:=h3
  have e2:leaB d (ksD d) m=false:=by unfold leaB; rw[h3,qP]
  refine⟨i6,?_⟩
  refine⟨m+1,⟨rfl,⟨obD d.ds rfl,zaM rfl rfl,obD (d.ds ++ [lI (sigL d.R),cmap d (ksD d)]) rfl,obX rfl,obR rfl ?_,obR rfl ?_,trivial⟩,wq rfl⟩,⟨by omega,h1⟩,hms⟩
  ·rw[zcd e1]; exact dE _
  rw[zcd e2]; exact dE _
 have h1:m=2 ^ (sigL d.R).length:=by
  have h1:¬ (m:Int)<((2 ^ (sigL d.R).length:Nat):Int):=by rw[<- es]; exact dF h1
  omega
 subst h1
 have hl:∀ m,(memb (sigL d.R) m).length<=1000000:=fun m=>jM (zbd _ _ _) (by omega)
 refine CallSt.rwW rfl rfl (zmV (tabA (greB d (ksD d)) (fitF d) (2 ^ (sigL d.R).length)) (by omega) (zhX h Fit.IDs _ _ (fun _=>rfl) (jE _)) (fun x hx=>by
  obtain⟨k,_,_,_,rfl⟩:=za2 hx; exact hl k)) ⟨⟨[],.tmp 90,[.func 50],[],rfl,rfl,rfl,rfl,rfl,rfl,rfl⟩⟩ rfl ?_
 refine CallSt.rwW rfl rfl (zmU (tabA (leaB d (ksD d)) (misF d) (2 ^ (sigL d.R).length)) (by omega) (zhX h Mis.IDs _ _ (fun _=>rfl) (jE _)) (fun x hx=>by
  obtain⟨k,_,_,_,rfl⟩:=za2 hx; exact hl k)) ⟨⟨[],.tmp 93,[.func 53],[],rfl,rfl,rfl,rfl,rfl,rfl,rfl⟩⟩ rfl ?_
 refine kAt [(2,.box 2 0),(6,.box 6 0)] [(2,.box (List.replicate 2 .any)),(6,.box ([lFt (srtF (tabA (greB d (ksD d)) (fitF d) (2 ^ (sigL d.R).length))),lMs (srtM (tabA (leaB d (ksD d)) (misF d) (2 ^ (sigL d.R).length)))].map AV.d))]
  ⟨rfl,⟨zaM rfl rfl,⟨⟨rfl,_,_,_,_,rfl,⟨(kY _).symm,.inr ⟨rfl,fun i _ j _=>dE _⟩⟩⟩,⟨rfl,_,_,_,_,rfl,⟨(kY _).symm,.inr ⟨rfl,fun i _ j _=>dE _⟩⟩⟩,trivial⟩,trivial⟩,wq rfl⟩ ?_
 exact⟨rtC (a:=2) rfl rfl rfl rfl rfl rfl (zab _),rtI rfl rfl,trivial⟩
def brn2 (ids:List Int) (x:Int × Int) (r:Rpt):Int × Int:=if ids.contains r.ID=true then (min x.1 r.Tick,max x.2 r.Tick) else x
def brnT (ids:List Int) (l:List Rpt):Int × Int:=l.foldl (brn2 ids) (1048576,0)
def brn7 (d:Day) (ids:List Int):Brn:=⟨(brnT ids d.R).1,(brnT ids d.R).2,d.Rise⟩
theorem zl2 (ids:List Int) (l:List Rpt) {i:Nat} (h:i<l.length):brnT ids (l.take (i+1))=brn2 ids (brnT ids (l.take i)) (l.getD i default):=by
 unfold brnT
 rw[zay h default,jai]; rfl
theorem zi0 {d:Day} (h:DayOk d) (ids:List Int):∀ i,i<=d.R.length->if ((d.R.take i).any fun r=>ids.contains r.ID)=true then brnS ids (d.R.take i)=(true,(brnT ids (d.R.take i)).1,(brnT ids (d.R.take i)).2) else brnS ids (d.R.take i)=(false,0,0)/\brnT ids (d.R.take i)=(1048576,0)
 | 0,_=>by simp[brnS,brnT]
 | i+1,hi=>by
  have ih:=zi0 h ids i (by omega)
  obtain⟨b1,b2⟩:=h.tick (show i<d.R.length by omega)
  have ea:((d.R.take (i+1)).any fun r=>ids.contains r.ID)=(((d.R.take i).any fun r=>ids.contains r.ID) || ids.contains (d.R.getD i default).ID):=by
   rw[zay (by omega) default,List.any_append]; simp
  rw[zcK ids d.R (by omega),zl2 ids d.R (by omega),ea]
  generalize brnS ids (d.R.take i)=u at ih ⊢
  generalize brnT ids (d.R.take i)=v at ih ⊢
  cases ha:((d.R.take i).any fun r=>ids.contains r.ID) with
  | true=>
   rw[ha,kH rfl] at ih
   rw[kH (by rfl),ih]
   unfold brn1 brn2
   cases hc:ids.contains (d.R.getD i default).ID <;> rfl
  | false=>
  rw[ha,kG (by decide)] at ih
  obtain⟨rfl,rfl⟩:=ih
  cases hc:ids.contains (d.R.getD i default).ID with
  | true=>
   rw[kH (by rfl)]
   unfold brn1 brn2
   rw[kH hc,kH hc]
   show (true,min _ _,max _ _)=(true,min _ _,max _ _)
   congr 2
   ·show min (d.R.getD i default).Tick (d.R.getD i default).Tick=min 1048576 (d.R.getD i default).Tick
    omega
   ·show max (d.R.getD i default).Tick (d.R.getD i default).Tick=max 0 (d.R.getD i default).Tick
    omega
  | false=>
  rw[kG (by decide)]
  unfold brn1 brn2
  rw[kG (by rw[hc]; decide),kG (by rw[hc]; decide)]
  exact⟨rfl,rfl⟩
theorem zqx {d:Day} (h:DayOk d) {ids:List Int} (ha:(d.R.any fun r=>ids.contains r.ID)=true):brn7 d ids=brnD d ids:=by
 have:=zi0 h ids d.R.length (jE _)
 rw[jZ,kH ha] at this
 unfold brn7 brnD
 rw[this]
def tldL (d:Day) (ids:List Int):List Place:=if d.Long<(brn7 d ids).To - (brn7 d ids).From then [] else (plcR d.s (brn7 d ids) (lstD d ids)).1
abbrev leI (x y:Int):Bool:=decide (x<=y)
def Srt (l:List Int):Prop:=l.Pairwise fun x y=>leI x y=true
theorem zdJ {l m:List Int} (h1:Srt l) (h2:Srt m) (hp:l.Perm m):l=m:=
 List.Perm.eq_of_pairwise (le:=fun x y=>leI x y=true) (fun a b _ _ h3 h4=>by
  have h3:=kQ h3
  have h4:=kQ h4
  omega) h1 h2 hp
theorem zmE (l:List Rpt):Srt (sigL l):=
 List.pairwise_mergeSort (le:=fun x y=>decide (x<=y)) (fun a b c h1 h2=>by
  have h1:=kQ h1
  have h2:=kQ h2
  exact jG (by omega)) (fun a b=>by
  rw[jX,kJ,kJ]
  omega) _
theorem zky {a b:List Int}:partB a b=true ↔ ∀ j,j<a.length->b.contains (a.getD j 0)=true:=by
 unfold partB
 rw[jC]
 constructor
 ·intro h j hj
  rw[hU,kF hj]
  exact h _ (kT hj)
 intro h x hx
 obtain⟨j,hj,rfl⟩:=kP hx
 have:=h j hj
 rw[hU,kF hj] at this
 exact this
theorem zmI {l:List Rpt} {x:Int} (h:x∈sigK l):∃ r∈l,r.ID=x:=by
 unfold sigK at h
 obtain⟨r,hr,e⟩:=kK.1 h
 exact⟨r,(kW.1 hr).1,e⟩
theorem zmF {l:List Rpt} {x:Int}:x∈sigL l ↔ x∈sigK l:=(qW _ _).mem_iff
theorem zqA {d:Day} {ids:List Int} (h:askE d ids=0):(d.R.any fun r=>ids.contains r.ID)=true:=by
 unfold askE at h
 split at h
 ·rename_i h1; exact absurd h h1
 split at h
 ·cases h
 rename_i h2
 split at h
 ·cases h
 rename_i h3
 have hs:setB ids=true:=by simpa using h2
 have hp:partB ids (sigL d.R)=true:=by simpa using h3
 have hl:0<ids.length:=by unfold setB at hs; simp at hs; exact hs.2
 have h4:=zky.1 hp 0 hl
 obtain⟨r,hr,e⟩:=zmI (zmF.1 (kD.1 h4))
 refine kL.2 ⟨r,hr,kD.2 ?_⟩
 rw[e,hU,kF hl]
 exact kT hl
theorem zo8 {d:Day} (h:DayOk d) {ids:List Int} (ha:(d.R.any fun r=>ids.contains r.ID)=true):tldL d ids=plsD d ids:=by
 unfold tldL plsD
 rw[zqx h ha]
 by_cases g:(brnD d ids).To - (brnD d ids).From<=d.Long
 ·rw[kH g,kG (by omega)]
 rw[kG g,kH (by omega)]
def fitX (d:Day) (m:Nat):Bool:=decide (0<m) && decide (0<(tldL d (memb (sigL d.R) m)).length)
def badX (p:Nat->Bool) (m o:Nat):Bool:=(p m && p o && decide (m &&& o=m)) || (!p m && !p o && decide (o &&& m=o))
def lonK (p:Nat->Bool) (m o:Nat):Bool:=(List.range o).all fun x=>decide (x=0) || decide (x=m) || !badX p m x
def greX (p:Nat->Bool) (n m:Nat):Bool:=lonK p m n && p m
def leaX (p:Nat->Bool) (n m:Nat):Bool:=lonK p m n && !p m
def mst (ix:List Nat):Nat:=ix.foldl (fun a k=>max a (k+1)) 0
theorem zdt (ix:List Nat) (k:Nat):mst (ix ++ [k])=max (mst ix) (k+1):=by unfold mst; rw[jai]; rfl
def bit1 (o:List Nat) (i k:Nat):List Nat:=if k<o.length then o.set k (o.getD k 0+2 ^ i) else o ++ [2 ^ i]
def bitK (ix:List Nat) (i:Nat):List Nat:=(List.range i).foldl (fun o i=>bit1 o i (ix.getD i 0)) []
def bitX (ix:List Nat):List Nat:=bitK ix ix.length
theorem zcM (ix:List Nat) (i:Nat):bitK ix (i+1)=bit1 (bitK ix i) i (ix.getD i 0):=by
 unfold bitK
 rw[wG,jai]; rfl
def Rg (ix:List Nat):Prop:=∀ i,i<ix.length->ix.getD i 0<=mst (ix.take i)
theorem Rg.snoc {ix:List Nat} {k:Nat} (h:Rg ix) (hk:k<=mst ix):Rg (ix ++ [k]):=fun i hi=>by
 rw[jR,wD] at hi
 by_cases e:i<ix.length
 ·rw[hU,jJ e,<- hU,List.take_append_of_le_length (by omega)]
  exact h i e
 have e:i=ix.length:=by omega
 subst e
 rw[hU,jK (jE _),kE,List.take_append_of_le_length (jE _),jZ]
 exact hk
theorem zfx {ix:List Nat} {i:Nat} (h:i<ix.length):mst (ix.take (i+1))=max (mst (ix.take i)) (ix.getD i 0+1):=by rw[zay h 0,zdt]
theorem zcN {ix:List Nat} (h:Rg ix):∀ i,i<=ix.length->(bitK ix i).length=mst (ix.take i)
 | 0,_=>rfl
 | i+1,hi=>by
  have ih:=zcN h i (by omega)
  have:=h i (by omega)
  rw[zcM,zfx (by omega)]
  unfold bit1
  split
  ·rw[jaQ]; omega
  rw[jR,wD]; omega
theorem zbj (ix:List Nat):∀ i,∀ x∈bitK ix i,0<x/\x<2 ^ i
 | 0,x,h=>by cases h
 | i+1,x,h=>by
  rw[zcM] at h
  have hp:2 ^ (i+1)=2 ^ i+2 ^ i:=by rw[Nat.pow_succ]; omega
  have h1:=Nat.two_pow_pos i
  unfold bit1 at h
  split at h
  ·rename_i hk
   rcases jaL h with h | rfl
   ·have:=zbj ix i x h; omega
   have:(bitK ix i).getD (ix.getD i 0) 0∈bitK ix i:=by rw[hU,kF hk]; exact kT hk
   have:=zbj ix i _ this; omega
  rcases kR.1 h with h | h
  ·have:=zbj ix i x h; omega
  rw[kM.1 h]; omega
theorem znx {l:List Nat} {k j x:Nat} (hk:k<l.length):(l.set k x).getD j 0=if j=k then x else l.getD j 0:=by
 rw[hU,List.getElem?_set]
 by_cases e:j=k
 ·subst e; rw[kH rfl,kH hk,kH rfl]; rfl
 rw[kG (fun h=>e h.symm),kG e,<- hU]
def SpecN (P:Program) (f:FuncId) (args:List V1) (obs':List (Nat × Ob)) (i:Nat) (res:List V1):Prop:=
 Ent P f /\ ∀ (w:World) (ok:Nat->Prop) (vs:List Value),(∀ b,ok b->b<w.heap.size)->All2 (Rep1 w ok) args vs ->
  Calls P f vs.toArray w fun en w'=>∃ b γ' us,en = .returned (.tuple (.pointer (some ⟨b,0,none⟩) :: us).toArray)/\γ' i = .pointer (some ⟨b,0,none⟩)/\FrM w w' γ' []/\OwnS w' (okM w w' ok γ' γ' [] obs') γ' obs' /\
   (∀ i o b,look obs' i=some o->blk (γ' i)=some b->w.heap.size<=b)/\All2 (Rep1 w' (okM w w' ok γ' γ' [] obs')) res us
theorem SpecN.eqv {P:Program} {f:FuncId} {xs ys:List V1} {obs':List (Nat × Ob)} {i:Nat} {res:List V1} (h:SpecN P f ys obs' i res) (he:eqV1s xs ys):SpecN P f xs obs' i res:=
 ⟨h.1,fun w ok vs hok hv=>h.2 w ok vs hok (zbc he hv)⟩
def gwX (p:Nat->Bool) (r:Nat) (ix:List Nat):List (List Nat):=((rgs r (mst ix)).map (ix ++ ·)).filter fun iy=>(bitX iy).all p
theorem zh8 (r m:Nat):rgs (r+1) m=(List.range (m+1)).flatMap fun k=>(rgs r (max m (k+1))).map (k :: ·):=by
 show _++_=_
 rw[wG,List.flatMap_append,List.flatMap_cons,List.flatMap_nil,jaT,Nat.max_eq_right (Nat.le_succ m)]
 congr 1
 exact zcE fun k hk=>by rw[Nat.max_eq_left (kI.1 hk)]
theorem SpecM.nil {P:Program} {f:FuncId} {a b c:AV} {k:Nat} {g:Nat->Nat->D} {obs obs':List (Nat × Ob)} {pins:List Nat} {res:List V1} (h:SpecM P f [a,.d (.slc k 0 g),b,c] obs obs' pins res):SpecM P f [a,.nilsl,b,c] obs obs' pins res:=
 ⟨h.1,fun w ok γ vs h1 h2 h3=>h.2 w ok γ vs h1 h2 (by
  cases h3 with
  | cons x h3=>
  cases h3 with
  | cons y h3=>exact .cons x (.cons (.inl ⟨y,rfl⟩) h3))⟩
theorem zgc:∀ (r:Nat) (ix:List Nat),Rg ix -> ∀ iy∈rgs r (mst ix),Rg (ix++iy)/\iy.length=r
 | 0,ix,h,iy,hy=>by
  obtain rfl:=kM.1 hy
  rw[jaT]
  exact⟨h,rfl⟩
 | r+1,ix,h,iy,hy=>by
  rw[zh8] at hy
  obtain⟨k,hk,hy⟩:=List.mem_flatMap.1 hy
  obtain⟨iz,hz,rfl⟩:=kK.1 hy
  have hk:=kI.1 hk
  rw[<- zdt] at hz
  have:=zgc r (ix ++ [k]) (h.snoc (by omega)) iz hz
  rw[List.append_assoc] at this
  exact⟨this.1,by rw[jaH,this.2]⟩
theorem zh9:Rg []:=fun i hi=>absurd hi (qQ _)
theorem zoI {p:Nat->Bool} {n:Nat} {ix:List Nat} (h:ix∈gwX p n []):Rg ix/\ix.length=n:=by
 obtain⟨h,_⟩:=kW.1 h
 obtain⟨iy,hy,rfl⟩:=kK.1 h
 exact zgc n [] zh9 iy hy
def Rgs (l:List (List Nat)):Prop:=∀ x∈l,Rg x/\x.length<=7
theorem Rgs.get {l:List (List Nat)} (h:Rgs l) {i:Nat} (hi:i<l.length):Rg (l.getD i [])/\(l.getD i []).length<=7:=by
 rw[hU,kF hi]; exact h _ (kT hi)
def setX (ids:List Int) (ix:List Nat):List (List Int):=(bitX ix).map (memb ids)
theorem DayOk.nodL {d:Day} (h:DayOk d) (ids:List Int):((lstD d ids).map Rpt.ID).Nodup:=List.Nodup.sublist (List.Sublist.map _ (List.filter_sublist ..)) h.nodR
theorem DayOk.rpt {d:Day} (h:DayOk d) {r:Rpt} (hr:r∈d.R):rptE d.s r=0/\frmB r=true/\0<=r.Tick/\r.Tick<=1048576:=by
 obtain⟨i,hi,rfl⟩:=kP hr
 have e:d.R.getD i default=d.R[i]:=by rw[hU,kF hi]; rfl
 have h1:=zlB (h.rp i hi)
 have h2:=h.tick hi
 rw[e] at h1 h2
 exact⟨h1.2.1,h1.2.2,h2⟩
theorem zl1 (ids:List Int) (l:List Rpt):∀ i,i<=l.length->((brnS ids (l.take i)).1=true ↔ ∃ r∈l.take i,ids.contains r.ID=true)/\((brnS ids (l.take i)).1=true ->
  (∀ r∈l.take i,ids.contains r.ID=true->(brnS ids (l.take i)).2.1<=r.Tick/\r.Tick<=(brnS ids (l.take i)).2.2)/\(∃ r∈l.take i,ids.contains r.ID=true/\r.Tick=(brnS ids (l.take i)).2.1) /\ ∃ r∈l.take i,ids.contains r.ID=true/\r.Tick=(brnS ids (l.take i)).2.2)
 | 0,_=>by simp[brnS]
 | i+1,hi=>by
  obtain⟨a1,a2⟩:=zl1 ids l i (by omega)
  rw[zcK ids l (by omega),zay (show i<l.length by omega) default]
  generalize brnS ids (l.take i)=x at a1 a2
  generalize l.getD i default=r
  generalize l.take i=t at a1 a2
  unfold brn1
  by_cases hc:ids.contains r.ID=true
  ·rw[kH hc]
   refine⟨⟨fun _=>⟨r,by simp,hc⟩,fun _=>rfl⟩,fun _=>?_⟩
   by_cases hx:x.1=true
   ·obtain⟨b1,⟨p,hp,hp1,hp2⟩,⟨q,hq,hq1,hq2⟩⟩:=a2 hx
    simp only[hx,jbd]
    refine⟨fun r' hr' hc'=>?_,?_,?_⟩
    ·rcases kR.1 hr' with h | h
     ·have:=b1 r' h hc'; omega
     rw[kM.1 h]; omega
    ·by_cases hm:x.2.1<=r.Tick
     ·exact⟨p,qE _ hp,hp1,by rw[hp2]; omega⟩
     exact⟨r,by simp,hc,by omega⟩
    by_cases hm:r.Tick<=x.2.2
    ·exact⟨q,qE _ hq,hq1,by rw[hq2]; omega⟩
    exact⟨r,by simp,hc,by omega⟩
   simp only[hx,jaE]
   refine⟨fun r' hr' hc'=>?_,⟨r,by simp,hc,by simp⟩,⟨r,by simp,hc,by simp⟩⟩
   rcases kR.1 hr' with h | h
   ·exact absurd (a1.2 ⟨r',h,hc'⟩) hx
   rw[kM.1 h]; simp
  rw[kG hc]
  refine⟨a1.trans ⟨fun⟨p,hp,hc'⟩=>⟨p,qE _ hp,hc'⟩,fun⟨p,hp,hc'⟩=>?_⟩,fun hx=>?_⟩
  ·rcases kR.1 hp with h | h
   ·exact⟨p,h,hc'⟩
   rw[kM.1 h] at hc'; exact absurd hc' hc
  obtain⟨b1,⟨p,hp,hp1,hp2⟩,⟨q,hq,hq1,hq2⟩⟩:=a2 hx
  refine⟨fun r' hr' hc'=>?_,⟨p,qE _ hp,hp1,hp2⟩,⟨q,qE _ hq,hq1,hq2⟩⟩
  rcases kR.1 hr' with h | h
  ·exact b1 r' h hc'
  rw[kM.1 h] at hc'; exact absurd hc' hc
theorem zcL {d:Day} {ids:List Int} (hB:(d.R.any fun r=>ids.contains r.ID)=true) :
  (∀ r∈d.R,ids.contains r.ID=true->(brnD d ids).From<=r.Tick/\r.Tick<=(brnD d ids).To)/\(∃ r∈d.R,ids.contains r.ID=true/\r.Tick=(brnD d ids).From) /\ ∃ r∈d.R,ids.contains r.ID=true/\r.Tick=(brnD d ids).To:=by
 have:=zl1 ids d.R d.R.length (jE _)
 rw[jZ] at this
 obtain⟨r,hr,hc⟩:=kL.1 hB
 exact this.2 (this.1.2 ⟨r,hr,hc⟩)
theorem zfS {d:Day} (h:DayOk d) {ids:List Int} (hB:(d.R.any fun r=>ids.contains r.ID)=true):brnB (brnD d ids)=true:=by
 obtain⟨h1,⟨r,hr,hc,e⟩,⟨q,hq,hq1,hq2⟩⟩:=zcL hB
 have g1:=(h.rpt hr).2.2
 have g2:=(h.rpt hq).2.2
 have g3:=(h1 r hr hc).2
 unfold brnB
 rw[show (brnD d ids).Rise=d.Rise from rfl,h.rise,jG (by omega),jG (by omega),jG (by omega)]
 rfl
theorem zi1 {d:Day} {A B:List Int} (hs:∀ x,B.contains x=true->A.contains x=true) (hB:(d.R.any fun r=>B.contains r.ID)=true):(brnD d A).From<=(brnD d B).From/\(brnD d B).To<=(brnD d A).To:=by
 have hA:(d.R.any fun r=>A.contains r.ID)=true:=by
  obtain⟨r,hr,hc⟩:=kL.1 hB
  exact kL.2 ⟨r,hr,hs _ hc⟩
 obtain⟨h1,_,_⟩:=zcL hA
 obtain⟨_,⟨r,hr,hc,e⟩,⟨q,hq,hq1,hq2⟩⟩:=zcL hB
 have g1:=(h1 r hr (hs _ hc)).1
 have g2:=(h1 q hq (hs _ hq1)).2
 omega
theorem zhv {d:Day} (h:DayOk d) {b:Brn} (hb:brnB b=true) (ids:List Int):givE d.s b (lstD d ids)=0:=by
 have hn:=h.n
 have hl:=ziy d ids
 unfold givE
 rw[kG (fun hh=>hh h.s),kG (by rw[hb]; decide),kG (by omega)]
 refine za7 fun i hi=>?_
 have hm:(lstD d ids).getD i default=(lstD d ids)[i]:=by rw[hU,kF hi]; rfl
 have hr:(lstD d ids)[i]∈d.R:=(kW.1 (kT hi)).1
 unfold rp1E
 rw[kG (fun hh=>hh (by rw[hm]; exact (h.rpt hr).1)),kG fun hc=>?_]
 have hc:=kD.1 hc
 rw[hm] at hc
 obtain⟨x,hx,e⟩:=kK.1 hc
 obtain⟨j,hj,rfl⟩:=kP hx
 rw[jQ] at hj
 rw[jbt] at e
 have:=kV.1 (h.nodL ids) j i (by rw[kU]; omega) (by rw[kU]; exact hi) (by omega)
 simp only[List.getElem_map] at this
 exact this e
theorem zdT {d:Day} (h:DayOk d) {ids:List Int} (hB:(d.R.any fun r=>ids.contains r.ID)=true) :
  plsD d ids=if (brnD d ids).To - (brnD d ids).From<=d.Long then plsL d.s.c.M (metP ((lstD d ids).map (alwP d.s (brnD d ids)))) else []:=by
 have e:plcR d.s (brnD d ids) (lstD d ids)=(plsL d.s.c.M (metP ((lstD d ids).map (alwP d.s (brnD d ids)))),0):=by
  unfold plcR
  rw[kG (fun hh=>hh (zhv h (zfS h hB) ids))]
 unfold plsD
 rw[e]
theorem zdq {s:Svc} {b b':Brn} {r:Rpt} {p:Place} (hr:b.Rise=b'.Rise) (hw:within r.Tick b.From b.To=true->within r.Tick b'.From b'.To=true) (h:seenB s b r p=true):seenB s b' r p=true:=by
 unfold seenB lookB at *
 simp only[jP] at *
 rw[<- hr]
 exact⟨h.1,h.2.1,hw h.2.2⟩
theorem zn9 {d:Day} (h:DayOk d) {A B:List Int} (hs:∀ x,B.contains x=true->A.contains x=true) (hB:(d.R.any fun r=>B.contains r.ID)=true) {r:Rpt} (hr:r∈lstD d B) {n:Nat} (ha:alwP d.s (brnD d A) r n=true):alwP d.s (brnD d B) r n=true:=by
 obtain⟨m1,m2⟩:=zi1 hs hB
 obtain⟨hr1,hr2⟩:=kW.1 hr
 unfold alwP alwK at *
 simp only[jP] at *
 refine⟨ha.1,?_⟩
 have ha:=ha.2
 unfold allB at *
 by_cases hk:r.Kind=1
 ·rw[kH hk] at *
  refine zdq (b:=brnD d A) (b':=brnD d B) rfl (fun _=>?_) ha
  have hc:B.contains r.ID=true:=by
   unfold offB at hr2
   simpa [hk] using hr2
  have:=(zcL hB).1 r hr1 hc
  unfold within
  simpa using this
 rw[kG hk] at *
 rw[jY] at *
 rw[qF] at *
 intro hh
 refine ha (zdq (b:=brnD d B) (b':=brnD d A) rfl (fun hw=>?_) hh)
 unfold within at *
 simp only[jP,kA] at *
 omega
theorem zb2 {m:Mp} {P:Nat->Bool} {p:Place}:p∈plsL m P ↔ ∃ n,n<m.w * m.h/\P n=true/\plc m n=p:=by
 unfold plsL plsK
 rw[kK]
 constructor
 ·rintro⟨n,hn,e⟩
  rw[kW,kI] at hn
  exact⟨n,hn.1,hn.2,e⟩
 rintro⟨n,h1,h2,e⟩
 exact⟨n,kW.2 ⟨kI.2 h1,h2⟩,e⟩
theorem zkq {d:Day} (h:DayOk d) {A B:List Int} (hs:∀ x,B.contains x=true->A.contains x=true) (hB:(d.R.any fun r=>B.contains r.ID)=true) {p:Place} (hp:p∈plsD d A):p∈plsD d B:=by
 have hA:(d.R.any fun r=>A.contains r.ID)=true:=by
  obtain⟨r,hr,hc⟩:=kL.1 hB
  exact kL.2 ⟨r,hr,hs _ hc⟩
 obtain⟨m1,m2⟩:=zi1 hs hB
 rw[zdT h hA] at hp
 rw[zdT h hB]
 split at hp
 ·rename_i g
  rw[kH (by omega)]
  obtain⟨n,h1,h2,e⟩:=zb2.1 hp
  refine zb2.2 ⟨n,h1,?_,e⟩
  unfold metP at *
  rw[jC] at *
  intro P hP
  obtain⟨r,hr,rfl⟩:=kK.1 hP
  have hr':r∈lstD d A:=by
   obtain⟨g1,g2⟩:=kW.1 hr
   refine kW.2 ⟨g1,?_⟩
   unfold offB at *
   cases e1:A.contains r.ID with
   | true=>simp
   | false=>
   have:B.contains r.ID=false:=by rw[qF]; intro hh; rw[hs _ hh] at e1; cases e1
   rw[this] at g2
   exact g2
  exact zn9 h hs hB hr (h2 _ (kK.2 ⟨r,hr',rfl⟩))
 cases hp
def exR:List Rpt:=[⟨1,1,1,1,100,450,0,10⟩,⟨2,1,2,2,110,1350,0,10⟩,⟨3,1,1,1,300,450,0,10⟩]
def exS:Svc:=⟨⟨⟨9,9,List.replicate 81 0⟩,[⟨1,⟨0,0⟩,0⟩,⟨2,⟨8,0⟩,0⟩],[]⟩,⟨[⟨1,⟨0,0⟩,0,1000,0,0,0⟩,⟨2,⟨8,0⟩,0,1000,0,0,0⟩],[]⟩⟩
def exD:Day:=⟨exS,0,60,exR⟩
theorem zja:Spec PP 27 [] [exD.v]:=by
 refine za3 [6] Tryz.func27 rfl (by kernel_rfl) rfl ?_
 refine⟨⟨by decide,rfl,by decide,by decide⟩,?_⟩
 refine kAt [(0,.box 0 0),(1,.box 1 0)] [(0,.box (List.replicate 10 .any)),(1,.box (exD.ds.map AV.d))] ⟨rfl,⟨zaM rfl rfl,?_,trivial⟩,wq rfl⟩ ?_
 ·refine⟨⟨rfl,rfl⟩,⟨rfl,rfl⟩,⟨rfl,.inr ⟨rfl,fun i hi j hj=>?_⟩⟩,⟨rfl,_,_,_,_,rfl,rfl,.inr ⟨rfl,fun i hi j hj=>?_⟩⟩,rfl,⟨rfl,_,_,_,_,rfl,rfl,.inr ⟨rfl,fun i hi j hj=>?_⟩⟩,rfl,⟨rfl,rfl⟩,⟨rfl,rfl⟩,⟨rfl,_,_,_,_,rfl,rfl,.inr ⟨rfl,fun i hi j hj=>?_⟩⟩,trivial⟩
  ·have hj:j<1:=hj
   obtain rfl:j=0:=by omega
   show D.eqv (I 0) (I ((List.replicate 81 (0:Int)).getD i 0))
   have:(List.replicate 81 (0:Int)).getD i 0=0:=by
    rw[hU,List.getElem?_replicate]
    split <;> rfl
   rw[this]
   exact⟨rfl,rfl⟩
  ·have hi:i<2:=hi
   have hj:j<4:=hj
   obtain rfl | rfl:i=0 \/ i=1:=by omega
   all_goals match j,hj with
   | 0,_=>exact⟨rfl,rfl⟩
   | 1,_=>exact⟨rfl,rfl⟩
   | 2,_=>exact⟨rfl,rfl⟩
   | 3,_=>exact⟨rfl,rfl⟩
  ·have hi:i<2:=hi
   have hj:j<8:=hj
   obtain rfl | rfl:i=0 \/ i=1:=by omega
   all_goals match j,hj with
   | 0,_=>exact⟨rfl,rfl⟩
   | 1,_=>exact⟨rfl,rfl⟩
   | 2,_=>exact⟨rfl,rfl⟩
   | 3,_=>exact⟨rfl,rfl⟩
   | 4,_=>exact⟨rfl,rfl⟩
   | 5,_=>exact⟨rfl,rfl⟩
   | 6,_=>exact⟨rfl,rfl⟩
   | 7,_=>exact⟨rfl,rfl⟩
  have hi:i<3:=hi
  have hj:j<8:=hj
  obtain rfl | rfl | rfl:i=0 \/ i=1 \/ i=2:=by omega
  all_goals match j,hj with
  | 0,_=>exact⟨rfl,rfl⟩
  | 1,_=>exact⟨rfl,rfl⟩
  | 2,_=>exact⟨rfl,rfl⟩
  | 3,_=>exact⟨rfl,rfl⟩
  | 4,_=>exact⟨rfl,rfl⟩
  | 5,_=>exact⟨rfl,rfl⟩
  | 6,_=>exact⟨rfl,rfl⟩
  | 7,_=>exact⟨rfl,rfl⟩
 exact⟨rtC (a:=0) rfl rfl rfl rfl rfl rfl (zab _),trivial⟩
theorem grdE (p:Place):grd exS.c.M p=0:=by
 show (List.replicate 81 (0:Int)).getD _ 0=0
 rw[hU,List.getElem?_replicate]
 split <;> rfl
theorem valE:validM exS.c.M=true:=by unfold validM; decide +kernel
theorem zqX (id:Int) (h:id=1 \/ id=2) (p:Place) (hp:onM exS.c.M p=true) (t:Int) (ht:within t 0 1048576=true):seesE exS.c id p 0 t=(true,0):=by
 have e0:ctryE exS.c=0:=by unfold ctryE; rw[kG (by rw[valE]; decide +kernel)]; unfold towE hzE onM; decide +kernel
 have e1:(towG exS.c.T id)=(if id=1 then ⟨1,⟨0,0⟩,0⟩ else ⟨2,⟨8,0⟩,0⟩,true):=by rcases h with rfl | rfl <;> decide +kernel
 have e2:farZ t exS.c.Z=100:=rfl
 have op:=zah.1 hp
 have ox:0<=p.X/\p.X<9:=op.1
 have oy:0<=p.Y/\p.Y<9:=op.2
 unfold seesE
 have e1':(towG exS.c.T id).2=true:=by rcases h with rfl | rfl <;> decide +kernel
 rw[kG (fun hh=>hh e0),kG (by rw[e1']; decide +kernel),kG (by rw[hp,ht]; decide +kernel),e2]
 have e3:seesB exS.c (towG exS.c.T id).1 p 0 100=true:=by
  unfold seesB
  have on1:onM exS.c.M ⟨0,0⟩=true:=by unfold onM; decide +kernel
  have on2:onM exS.c.M ⟨8,0⟩=true:=by unfold onM; decide +kernel
  have m1:=mulB (a:=p.X) (b:=p.X) (x:=20) (y:=20) (by omega) (by omega)
  have m2:=mulB (a:=p.Y) (b:=p.Y) (x:=20) (y:=20) (by omega) (by omega)
  have m3:=mulB (a:=8 - p.X) (b:=8 - p.X) (x:=20) (y:=20) (by omega) (by omega)
  rw[e1]
  rcases h with rfl | rfl
  ·show (nearB ⟨0,0⟩ p 100 && freeB exS.c.M ⟨0,0⟩ 0 p 0)=true
   rw[zgz grdE valE on1 hp (by decide +kernel) (by decide +kernel),jak]
   unfold nearB
   refine jG ?_
   show (0 - p.X) * (0 - p.X)+(0 - p.Y) * (0 - p.Y)<=100 * 100
   have a1:(0 - p.X) * (0 - p.X)=p.X * p.X:=by rw[Int.zero_sub,Int.neg_mul_neg]
   have a2:(0 - p.Y) * (0 - p.Y)=p.Y * p.Y:=by rw[Int.zero_sub,Int.neg_mul_neg]
   omega
  show (nearB ⟨8,0⟩ p 100 && freeB exS.c.M ⟨8,0⟩ 0 p 0)=true
  rw[zgz grdE valE on2 hp (by decide +kernel) (by decide +kernel),jak]
  unfold nearB
  refine jG ?_
  show (8 - p.X) * (8 - p.X)+(0 - p.Y) * (0 - p.Y)<=100 * 100
  have a2:(0 - p.Y) * (0 - p.Y)=p.Y * p.Y:=by rw[Int.zero_sub,Int.neg_mul_neg]
  omega
 rw[e3]
theorem thsE (x:Cir):thsL exS.k x=[thg0 x]:=by
 show [thg0 x].mergeSort _=[thg0 x]
 exact List.mergeSort_singleton _
theorem zerE (id t:Int) (h:id=1 \/ id=2) (ht:within t 0 1000=true):zerR exS.k id t=(⟨0,0⟩,0):=by
 have bt:=zaa.1 ht
 have e0:cirsE exS.k=0:=by decide +kernel
 have e1:cirI exS.k id=if id=1 then 0 else 1:=by rcases h with rfl | rfl <;> decide +kernel
 have go:∀ x:Cir,x.Drift=0->x.Lo=0->x.Hi=0->knw exS.k id [t]=(x,[thg0 x],0)->zerR exS.k id t=(⟨0,0⟩,0):=fun x d1 d2 d3 hk=>by
  have ec:clsL x [thg0 x]=[]:=by
   unfold clsL clsU clsI
   have en:noneB (thg0 x)=false:=by unfold noneB; exact jH (by show ¬ x.Hi<x.Lo; omega)
   simp[wG,en,clsJ]
  have ea:atR exS.k id t=(x,[thg0 x],0):=by
   unfold atR; rw[hk]; dsimp only; rw[kH rfl]; unfold agrE; rw[kH ec]
  have ed:drf x x.From t=0:=by unfold drf; rw[d1]; simp
  unfold zerR
  rw[ea,kG (fun hh=>hh rfl)]
  dsimp only
  unfold zer
  simp only[jaS,List.foldl_nil,zStep,thg0,ed,d2,d3]
  simp
 rcases h with rfl | rfl
 ·refine go ⟨1,⟨0,0⟩,0,1000,0,0,0⟩ rfl rfl rfl ?_
  unfold knw
  rw[kG (fun hh=>hh e0),e1,kG (by decide +kernel),kH (by show (within t 0 1000 && true)=true; rw[ht]; rfl),thsE]; rfl
 refine go ⟨2,⟨8,0⟩,0,1000,0,0,0⟩ rfl rfl rfl ?_
 unfold knw
 rw[kG (fun hh=>hh e0),e1,kG (by decide +kernel),kH (by show (within t 0 1000 && true)=true; rw[ht]; rfl),thsE]; rfl
theorem wdgE (r:Rpt) (hc:r.C=1 \/ r.C=2) (ht:within r.Tick 0 1000=true) (hs:within r.From 0 3599=true) (hl:r.Slack=10):wdgR exS.k (rdgO r)=(wdg (r.From - 10) 20,0):=by
 have e1:cirsE exS.k=0:=by decide +kernel
 have e2:rdgE exS.k (rdgO r)=0:=by
  unfold rdgE rdgO
  rw[kG (fun hh=>hh e1)]
  rw[kG]
  dsimp only
  rw[hs,hl]; decide +kernel
 have e3:zerR exS.k (rdgO r).C (rdgO r).Tick=(⟨0,0⟩,0):=zerE r.C r.Tick hc ht
 unfold wdgR
 rw[kG (fun hh=>hh e2),e3,kG (fun hh=>hh rfl)]
 show (if (900:Int)<2 * r.Slack+0 - 0 then _ else (wdg (r.From - r.Slack - 0) (2 * r.Slack+0 - 0),(0:Int)))=_
 rw[hl,kG (by decide +kernel)]
 congr 2
 omega
theorem blkE (r:Rpt) (hc:r.C=1 \/ r.C=2) (ht:within r.Tick 0 1000=true) (h:¬ (r.To - r.From) % 3600<2 * r.Slack+0 - 0):blkR exS r=(⟨(r.From+r.Slack) % 3600,(r.To - r.Slack) % 3600⟩,true):=by
 have e3:=zerE r.C r.Tick hc ht
 unfold blkR
 rw[e3]
 dsimp only
 rw[kG h]
 simp
def lieE (w:Wdg) (a:Place) (n:Nat):Bool:=decide (n<81) && liesW w a ⟨((n % 9:Nat):Int),((n / 9:Nat):Int)⟩
def notE (w:Wdg) (a:Place) (n:Nat):Bool:=decide (n<81) && !liesW w a ⟨((n % 9:Nat):Int),((n / 9:Nat):Int)⟩
theorem plcE {n:Nat} (h:n<81):onM exS.c.M (plc exS.c.M n)=true:=zos valE h
theorem zkX (b:Brn) (hr:b.Rise=0) (r:Rpt) (hw:r.Tower=1 \/ r.Tower=2) (ht:within r.Tick 0 1048576=true) {n:Nat} (h:n<81):lookB exS b r (plc exS.c.M n)=within r.Tick b.From b.To:=by
 unfold lookB
 rw[hr,zqX r.Tower hw _ (plcE h) r.Tick ht]
 show (true && true && within r.Tick b.From b.To)=_
 cases within r.Tick b.From b.To <;> rfl
theorem zmc (b:Brn) (hr:b.Rise=0) (r:Rpt) (w:Wdg) (a:Place) (hk:r.Kind=1) (hw:r.Tower=1 \/ r.Tower=2) (ht:within r.Tick 0 1048576=true) (hb:within r.Tick b.From b.To=true) (hs:secR exS r=(w,true)) (ha:(towG exS.c.T r.Tower).1.At=a):alwP exS b r=lieE w a:=by
 funext n
 unfold alwP alwK lieE
 show (decide (n<81) && _)=_
 by_cases h:n<81
 ·refine jI (decide (n<81) && ·) ?_
  unfold allB seenB
  rw[kH hk,hs,ha,zkX b hr r hw ht h,hb,jak]; rfl
 rw[jH h]; rfl
theorem zsg (b:Brn) (hr:b.Rise=0) (r:Rpt) (w:Wdg) (a:Place) (hk:r.Kind≠1) (hw:r.Tower=1 \/ r.Tower=2) (ht:within r.Tick 0 1048576=true) (hb:within r.Tick b.From b.To=true) (hs:secR exS r=(w,true)) (ha:(towG exS.c.T r.Tower).1.At=a):alwP exS b r=notE w a:=by
 funext n
 unfold alwP alwK notE
 show (decide (n<81) && _)=_
 by_cases h:n<81
 ·refine jI (decide (n<81) && ·) ?_
  unfold allB seenB
  rw[kG hk,hs,ha,zkX b hr r hw ht h,hb,jak]; rfl
 rw[jH h]; rfl
def xq1:Rpt:=⟨1,1,1,1,100,450,0,10⟩
def xq2:Rpt:=⟨2,1,2,2,110,1350,0,10⟩
def xq3:Rpt:=⟨3,1,1,1,300,450,0,10⟩
def xq4:Rpt:=⟨4,2,1,1,105,400,500,10⟩
def exD4:Day:=⟨exS,0,60,[xq1,xq2,xq3,xq4]⟩
theorem svcEx:svcE exS=0:=by
 have e0:ctryE exS.c=0:=by unfold ctryE; rw[kG (by rw[valE]; decide +kernel)]; unfold towE hzE onM; decide +kernel
 have e1:cirsE exS.k=0:=by decide +kernel
 unfold svcE
 rw[kG (fun hh=>hh e0),kG (fun hh=>hh e1)]
 decide +kernel
theorem zmM (r:Rpt) (hf:frmB r=true) (hc:r.C=1 \/ r.C=2) (ht:within r.Tick 0 1000=true) (hw:r.Tower=r.C) (hk:r.Kind=1->within r.From 0 3599=true/\r.Slack=10):rptE exS r=0:=by
 have e3:=zerE r.C r.Tick hc ht
 unfold rptE
 rw[kG (by rw[hf]; decide +kernel),hw,e3]
 have e4:¬ ((towG exS.c.T r.C).2=false \/ cirI exS.k r.C<0):=by rcases hc with e | e <;> rw[e] <;> decide +kernel
 have e5:(exS.k.C.getD (cirI exS.k r.C).toNat default).At=(towG exS.c.T r.C).1.At:=by rcases hc with e | e <;> rw[e] <;> decide +kernel
 rw[kG e4,kG (fun hh=>hh e5),kG (fun hh=>hh rfl)]
 split
 ·rename_i h1
  rw[wdgE r hc ht (hk h1).1 (hk h1).2]
 rfl
theorem sx1:secR exS xq1=(⟨440,460⟩,true):=by
 unfold secR
 rw[kH (by rfl),wdgE xq1 (.inl rfl) (by decide +kernel) (by decide +kernel) rfl]; decide +kernel
theorem sx2:secR exS xq2=(⟨1340,1360⟩,true):=by
 unfold secR
 rw[kH (by rfl),wdgE xq2 (.inr rfl) (by decide +kernel) (by decide +kernel) rfl]; decide +kernel
theorem sx3:secR exS xq3=(⟨440,460⟩,true):=by
 unfold secR
 rw[kH (by rfl),wdgE xq3 (.inl rfl) (by decide +kernel) (by decide +kernel) rfl]; decide +kernel
theorem sx4:secR exS xq4=(⟨410,490⟩,true):=by
 unfold secR
 rw[kG (by decide +kernel),blkE xq4 (.inl rfl) (by decide +kernel) (by decide +kernel)]; decide +kernel
theorem rx1:rptE exS xq1=0:=zmM xq1 (by decide +kernel) (.inl rfl) (by decide +kernel) rfl fun _=>⟨by decide +kernel,rfl⟩
theorem rx2:rptE exS xq2=0:=zmM xq2 (by decide +kernel) (.inr rfl) (by decide +kernel) rfl fun _=>⟨by decide +kernel,rfl⟩
theorem rx3:rptE exS xq3=0:=zmM xq3 (by decide +kernel) (.inl rfl) (by decide +kernel) rfl fun _=>⟨by decide +kernel,rfl⟩
theorem rx4:rptE exS xq4=0:=zmM xq4 (by decide +kernel) (.inl rfl) (by decide +kernel) rfl fun h=>absurd h (by decide +kernel)
abbrev B1:Nat->Bool:=lieE ⟨440,460⟩ ⟨0,0⟩
abbrev B2:Nat->Bool:=lieE ⟨1340,1360⟩ ⟨8,0⟩
abbrev B4:Nat->Bool:=notE ⟨410,490⟩ ⟨0,0⟩
def fullE (n:Nat):Bool:=decide (n<81)
theorem zsf (b:Brn) (hr:b.Rise=0) (r:Rpt) (hk:r.Kind≠1) (hw:r.Tower=1 \/ r.Tower=2) (ht:within r.Tick 0 1048576=true) (hb:within r.Tick b.From b.To=false):alwP exS b r=fullE:=by
 funext n
 unfold alwP alwK fullE
 show (decide (n<81) && _)=_
 by_cases h:n<81
 ·rw[jG h,kN]
  unfold allB seenB
  rw[kG hk]
  show (!(_ && lookB exS b r (plc exS.c.M n)))=true
  rw[zkX b hr r hw ht h,hb,qP]; rfl
 rw[jH h]; rfl
theorem a1 (b:Brn) (hr:b.Rise=0) (hb:within 100 b.From b.To=true):alwP exS b xq1=B1:=zmc b hr xq1 _ _ rfl (.inl rfl) (by decide +kernel) hb sx1 (by decide +kernel)
theorem a2 (b:Brn) (hr:b.Rise=0) (hb:within 110 b.From b.To=true):alwP exS b xq2=B2:=zmc b hr xq2 _ _ rfl (.inr rfl) (by decide +kernel) hb sx2 (by decide +kernel)
theorem a3 (b:Brn) (hr:b.Rise=0) (hb:within 300 b.From b.To=true):alwP exS b xq3=B1:=zmc b hr xq3 _ _ rfl (.inl rfl) (by decide +kernel) hb sx3 (by decide +kernel)
theorem a4y (b:Brn) (hr:b.Rise=0) (hb:within 105 b.From b.To=true):alwP exS b xq4=B4:=zsg b hr xq4 _ _ (by decide +kernel) (.inl rfl) (by decide +kernel) hb sx4 (by decide +kernel)
theorem a4n (b:Brn) (hr:b.Rise=0) (hb:within 105 b.From b.To=false):alwP exS b xq4=fullE:=zsf b hr xq4 (by decide +kernel) (.inl rfl) (by decide +kernel) hb
theorem givEx (b:Brn) (hb:brnB b=true) (l:List Rpt) (h24:¬ 24<l.length) (h:∀ r∈l,rptE exS r=0) (hd:(l.map Rpt.ID).Nodup):givE exS b l=0:=by
 unfold givE
 rw[kG (fun hh=>hh svcEx),kG (by rw[hb]; decide),kG h24]
 refine za7 fun i hi=>?_
 have hm:l.getD i default=l[i]:=by rw[hU,kF hi]; rfl
 unfold rp1E
 rw[kG (fun hh=>hh (by rw[hm]; exact h _ (kT hi))),kG fun hc=>?_]
 have hc:=kD.1 hc
 rw[hm] at hc
 obtain⟨x,hx,e⟩:=kK.1 hc
 obtain⟨j,hj,rfl⟩:=kP hx
 rw[jQ] at hj
 rw[jbt] at e
 have:=kV.1 hd j i (by rw[kU]; omega) (by rw[kU]; exact hi) (by omega)
 simp only[List.getElem_map] at this
 exact this e
theorem zre {b:Brn} {l:List Rpt} {As:List (Nat->Bool)} (hb:brnB b=true) (h24:¬ 24<l.length) (h:∀ r∈l,rptE exS r=0) (hd:(l.map Rpt.ID).Nodup) (ha:l.map (alwP exS b)=As):(plcR exS b l).1=plsL exS.c.M (metP As):=by
 unfold plcR
 rw[kG (fun hh=>hh (givEx b hb l h24 h hd)),ha]
theorem sig3:sigL exR=[1,2,3]:=by
 unfold sigL
 rw[List.mergeSort_of_pairwise (by decide +kernel)]
 decide +kernel
theorem zbJ {d:Day} {ids:List Int} {b:Brn} {l:List Rpt} {As:List (Nat->Bool)} {L:List Place} (hs:d.s=exS) (hl:d.Long=60) (eb:brnD d ids=b) (el:lstD d ids=l) (sh:b.To - b.From<=60) (hb:brnB b=true) (h24:¬ 24<l.length) (h:∀ r∈l,rptE exS r=0) (hd:(l.map Rpt.ID).Nodup) (ha:l.map (alwP exS b)=As) (hL:plsL exS.c.M (metP As)=L):plsD d ids=L:=by
 unfold plsD
 rw[eb,el,hs,hl,kH sh,zre hb h24 h hd ha,hL]
theorem zdU {d:Day} {ids:List Int} {b:Brn} (hl:d.Long=60) (eb:brnD d ids=b) (sh:¬ b.To - b.From<=60):plsD d ids=[]:=by
 unfold plsD
 rw[eb,hl,kG sh]
theorem memb8 (m:Nat):memb [1,2,3] m=memb [1,2,3] (m % 8):=by
 unfold memb membA
 congr 1
 refine jbu fun i hi=>?_
 have hi:i<3:=kI.1 hi
 show m.testBit i=(m % 2 ^ 3).testBit i
 rw[Nat.testBit_mod_two_pow,jG hi,kN]
abbrev L1:List Place:=[⟨1,1⟩,⟨2,2⟩,⟨3,3⟩,⟨4,4⟩,⟨5,5⟩,⟨6,6⟩,⟨7,7⟩,⟨8,8⟩]
abbrev L2:List Place:=[⟨7,1⟩,⟨6,2⟩,⟨5,3⟩,⟨4,4⟩,⟨3,5⟩,⟨2,6⟩,⟨1,7⟩,⟨0,8⟩]
theorem m1:plsL exS.c.M (metP [B1])=L1:=by decide +kernel
theorem m2:plsL exS.c.M (metP [B2])=L2:=by decide +kernel
theorem m12:plsL exS.c.M (metP [B1,B2])=[⟨4,4⟩]:=by decide +kernel
theorem m1f:plsL exS.c.M (metP [B1,fullE])=L1:=by decide +kernel
theorem m2f:plsL exS.c.M (metP [B2,fullE])=L2:=by decide +kernel
theorem m124:plsL exS.c.M (metP [B1,B2,B4])=[]:=by decide +kernel
theorem c1:plsD exD [1]=L1:=zbJ (b:=⟨100,100,0⟩) (l:=[xq1]) (As:=[B1]) rfl rfl (by decide +kernel) (by decide +kernel) (by decide +kernel) (by decide +kernel) (by decide +kernel) (fun r hr=>by rw[kM.1 hr]; exact rx1) (by decide +kernel) (by
  simp only[kX,jaZ]
  rw[a1 _ rfl (by decide +kernel)]) m1
theorem c2:plsD exD [2]=L2:=zbJ (b:=⟨110,110,0⟩) (l:=[xq2]) (As:=[B2]) rfl rfl (by decide +kernel) (by decide +kernel) (by decide +kernel) (by decide +kernel) (by decide +kernel) (fun r hr=>by rw[kM.1 hr]; exact rx2) (by decide +kernel) (by
  simp only[kX,jaZ]
  rw[a2 _ rfl (by decide +kernel)]) m2
theorem c3:plsD exD [1,2]=[⟨4,4⟩]:=zbJ (b:=⟨100,110,0⟩) (l:=[xq1,xq2]) (As:=[B1,B2]) rfl rfl (by decide +kernel) (by decide +kernel) (by decide +kernel) (by decide +kernel) (by decide +kernel) (fun r hr=>by
  simp only[k9,jao,jbk] at hr
  rcases hr with rfl | rfl
  ·exact rx1
  ·exact rx2
  ) (by decide +kernel) (by
  simp only[kX,jaZ]
  rw[a1 _ rfl (by decide +kernel),a2 _ rfl (by decide +kernel)]) m12
theorem c4:plsD exD [3]=L1:=zbJ (b:=⟨300,300,0⟩) (l:=[xq3]) (As:=[B1]) rfl rfl (by decide +kernel) (by decide +kernel) (by decide +kernel) (by decide +kernel) (by decide +kernel) (fun r hr=>by rw[kM.1 hr]; exact rx3) (by decide +kernel) (by
  simp only[kX,jaZ]
  rw[a3 _ rfl (by decide +kernel)]) m1
theorem e1:plsD exD4 [1]=L1:=zbJ (b:=⟨100,100,0⟩) (l:=[xq1,xq4]) (As:=[B1,fullE]) rfl rfl (by decide +kernel) (by decide +kernel) (by decide +kernel) (by decide +kernel) (by decide +kernel) (fun r hr=>by
  simp only[k9,jao,jbk] at hr
  rcases hr with rfl | rfl
  ·exact rx1
  ·exact rx4
  ) (by decide +kernel) (by
  simp only[kX,jaZ]
  rw[a1 _ rfl (by decide +kernel),a4n _ rfl (by decide +kernel)]) m1f
theorem e2:plsD exD4 [2]=L2:=zbJ (b:=⟨110,110,0⟩) (l:=[xq2,xq4]) (As:=[B2,fullE]) rfl rfl (by decide +kernel) (by decide +kernel) (by decide +kernel) (by decide +kernel) (by decide +kernel) (fun r hr=>by
  simp only[k9,jao,jbk] at hr
  rcases hr with rfl | rfl
  ·exact rx2
  ·exact rx4
  ) (by decide +kernel) (by
  simp only[kX,jaZ]
  rw[a2 _ rfl (by decide +kernel),a4n _ rfl (by decide +kernel)]) m2f
theorem e3:plsD exD4 [1,2]=[]:=zbJ (b:=⟨100,110,0⟩) (l:=[xq1,xq2,xq4]) (As:=[B1,B2,B4]) rfl rfl (by decide +kernel) (by decide +kernel) (by decide +kernel) (by decide +kernel) (by decide +kernel) (fun r hr=>by
  simp only[k9,jao,jbk] at hr
  rcases hr with rfl | rfl | rfl
  ·exact rx1
  ·exact rx2
  ·exact rx4
  ) (by decide +kernel) (by
  simp only[kX,jaZ]
  rw[a1 _ rfl (by decide +kernel),a2 _ rfl (by decide +kernel),a4y _ rfl (by decide +kernel)]) m124
theorem e4:plsD exD4 [3]=L1:=zbJ (b:=⟨300,300,0⟩) (l:=[xq3,xq4]) (As:=[B1,fullE]) rfl rfl (by decide +kernel) (by decide +kernel) (by decide +kernel) (by decide +kernel) (by decide +kernel) (fun r hr=>by
  simp only[k9,jao,jbk] at hr
  rcases hr with rfl | rfl
  ·exact rx3
  ·exact rx4
  ) (by decide +kernel) (by
  simp only[kX,jaZ]
  rw[a3 _ rfl (by decide +kernel),a4n _ rfl (by decide +kernel)]) m1f
theorem c5:plsD exD [1,3]=[]:=zdU (b:=⟨100,300,0⟩) rfl (by decide +kernel) (by decide +kernel)
theorem c6:plsD exD [2,3]=[]:=zdU (b:=⟨110,300,0⟩) rfl (by decide +kernel) (by decide +kernel)
theorem c7:plsD exD [1,2,3]=[]:=zdU (b:=⟨100,300,0⟩) rfl (by decide +kernel) (by decide +kernel)
theorem e5:plsD exD4 [1,3]=[]:=zdU (b:=⟨100,300,0⟩) rfl (by decide +kernel) (by decide +kernel)
theorem e6:plsD exD4 [2,3]=[]:=zdU (b:=⟨110,300,0⟩) rfl (by decide +kernel) (by decide +kernel)
def T3 (m:Nat):List Place:=match m % 8 with
 | 1=>L1 | 2=>L2 | 3=>[⟨4,4⟩] | 4=>L1 | 0=>plsD exD [] | _=>[]
theorem cel3 (m:Nat):celD exD m=T3 m:=by
 have h:celD exD m=plsD exD (memb [1,2,3] (m % 8)):=by
  show plsD exD (memb (sigL exR) m)=_
  rw[sig3,memb8]
 rw[h]
 have h8:m % 8<8:=jay _ (by decide)
 unfold T3
 generalize m % 8=k at h8
 match k,h8 with
 | 0,_=>rfl
 | 1,_=>exact c1
 | 2,_=>exact c2
 | 3,_=>exact c3
 | 4,_=>exact c4
 | 5,_=>exact c5
 | 6,_=>exact c6
 | 7,_=>exact c7
def fitT (T:Nat->List Place) (ks:List Nat) (m:Nat):Bool:=ks.contains m && decide (0<(T m).length)
def partT (T:Nat->List Place) (n:Nat) (ks:List Nat) (set:Nat):Bool:=(List.range n).all fun i=>(offS set i==set) || (offS set i==0) || fitT T ks (offS set i)
def growT (T:Nat->List Place) (n:Nat) (ks:List Nat) (set:Nat):Bool:=(List.range n).any fun i=>(onS set i != set) && fitT T ks (onS set i)
def keysT (T:Nat->List Place) (n:Nat):Nat->List Nat
 | 0=>[]
 | m+1=>if m≠0/\partT T n (keysT T n m) m=true then keysT T n m ++ [m] else keysT T n m
section
variable {d:Day} {T:Nat->List Place} (h:∀ m,celD d m=T m) {ids:List Int} (hi:sigL d.R=ids)
include h
theorem zls:fitK d=fitT T:=by
 funext ks m
 unfold fitK fitT
 rw[h]
include hi
theorem zot (ks:List Nat) (m:Nat):partK d ks m=partT T ids.length ks m:=by
 unfold partK partT parK
 rw[zls h,hi]
theorem zrO (ks:List Nat) (m:Nat):growK d ks m=growT T ids.length ks m:=by
 unfold growK growT groK
 rw[zls h,hi]
theorem ziD:∀ m,keysD d m=keysT T ids.length m
 | 0=>rfl
 | m+1=>by
  unfold keysD keysT
  rw[ziD m,zot h hi]
theorem zpF:parts d=prt (fun s=>fitT T (keysT T ids.length (2 ^ ids.length)) (bitS ids s)) ids []:=by
 unfold parts ksD
 rw[zls h,ziD h hi,hi]
end
theorem p3:parts exD=[[[1,2],[3]],[[1],[2],[3]]]:=by
 rw[zpF cel3 sig3]
 decide +kernel
theorem dE3:dayE exD=0:=by decide +kernel
theorem zqN:(tabR exD).1.length=2/\(tabR exD).2.1.length=2/\(tabR exD).2.2=0:=by
 have e:tabR exD=(srtF (tabA (greB exD (ksD exD)) (fitF exD) (2 ^ (sigL exD.R).length)),srtM (tabA (leaB exD (ksD exD)) (misF exD) (2 ^ (sigL exD.R).length)),0):=by unfold tabR; rw[kG (fun hh=>hh dE3)]
 have g:∀ m,greB exD (ksD exD) m=(fitT T3 (keysT T3 3 8) m && !growT T3 3 (keysT T3 3 8) m):=fun m=>by
  unfold greB ksD
  rw[zls cel3,zrO cel3 sig3,ziD cel3 sig3,show sigL exD.R=[1,2,3] from sig3]; rfl
 have l:∀ m,leaB exD (ksD exD) m=(!fitT T3 (keysT T3 3 8) m && partT T3 3 (keysT T3 3 8) m):=fun m=>by
  unfold leaB ksD
  rw[zls cel3,zot cel3 sig3,ziD cel3 sig3,show sigL exD.R=[1,2,3] from sig3]; rfl
 have hl:∀ {α:Type} (p:Nat->Bool) (f:Nat->α) (n:Nat),(tabA p f n).length=(tabA p id n).length:=fun p f n=>by rw[zcm p f,kU]
 rw[e]
 refine⟨?_,?_,rfl⟩
 ·show (srtF _).length=2
  unfold srtF
  rw[kY,hl,show sigL exD.R=[1,2,3] from sig3,show greB exD (ksD exD)=_ from funext g]
  decide +kernel
 show (srtM _).length=2
 unfold srtM
 rw[kY,hl,show sigL exD.R=[1,2,3] from sig3,show leaB exD (ksD exD)=_ from funext l]
 decide +kernel
theorem SpecTO.eqv {dr:Bool} {P:Program} {f:FuncId} {xs ys:List V1} {e k n:Nat} {g:Nat->Nat->D} {res:List V1} (h:SpecTO dr P f ys e k n g res) (he:eqV1s xs ys):SpecTO dr P f xs e k n g res:=
 ⟨h.1,fun w ok vs hok hv=>h.2 w ok vs hok (zbc he hv)⟩
end Go.Pg
