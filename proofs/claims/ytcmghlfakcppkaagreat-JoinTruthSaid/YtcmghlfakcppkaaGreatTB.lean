/- Lemmas, joined by program. -/
import Derived.Test.YtcmghlfakcppkaaGreatTA
import Derived.KernelRfl
import Derived.Shelf.SlSortCmp.NoneTotal
import Derived.Test.YtcmghlfakcppkaaGreatChecked
set_option maxHeartbeats 4000000
set_option linter.all false
namespace Go.Pg
open Go.RowKit Go.Proofs Go.Shelf Go.Sort Go.Lib
def SpecW (P:Program) (f:FuncId) (pre post:List V1) (e k n:Nat) (g g':Nat->Nat->D) (res:List V1):Prop:=
 Ent P f /\ ∀ (w:World) (ok:Nat->Prop) (vs us:List Value) (v:Value) (xs:List Value),(∀ b,ok b->b<w.heap.size)->All2 (Rep1 w ok) pre vs->All2 (Rep1 w ok) post us->RowAt w ok e k n g v xs ->
  Calls P f (vs++v :: us).toArray w fun en w'=>∃ r,en = .returned r/\w.grownBy w' (blk v)/\ResRep w' (fun _=>False) res r /\
   ∃ xs',w'.ownsRow 0 e k v n xs'/\(∀ u∈xs',u.oneCell'=true) /\ ∀ m,m<n -> ∀ j,j<k -> ∃ u,xs'[m * k+j]?=some u/\Rep w' ok (g' m j) u
section
variable {s:St} {o:Oper} {fo:Operand} {f:FuncId} {K:St->Prop}
theorem CallSt.rwW {E:Env} (hdr:E.dr=false) {args:Array Operand} {at':Array TypeId} (hop:o.op = .call { callee:=.value fo,args,argTypes:=at' }) {pre post res:List V1} {i e k n:Nat} {g g':Nat->Nat->D} (h:SpecW PP f pre post e k n g g' res)
  (ha:RowArgs s fo args.toList f pre i post) (hi:s.ob i=some (.row e k n g)) (hk:K ((s.setOb i (some (.row e k n g'))).putO o.dst (resAV res))):CallSt E PP s o fo args.toList K:=by
 rw[zaf]
 refine .inr (.inr (.inl ⟨_,⟨fun cx a w hD hd hR=>?_⟩,hk⟩))
 obtain⟨γ,hg⟩:=hR
 obtain⟨caps,vs,us,xs,h1,h2,h3,h4,h5⟩:=zcp hg ha hi
 refine .enter (zaA hop h1 h.1) ?_
 rw[h2]
 refine (h.2 w _ vs us _ xs (fun b hb=>zak hg hb) h3 h4 h5).mono fun en w' ⟨r,he,hgr,hres,ys,y1,y2,y3⟩=>⟨r,he,γ,?_⟩
 refine (hg.change (i:=i) (o':=.row e k n g') hi hgr (fun e=>by have:=hD e; rw[hdr] at this; cases this) (fun ok hok=>⟨ys,y1,fun b hb=>(zaB hg hi hb).1,y2,fun m hm j hj=>?_⟩) (fun cs e=>by cases e)).putO hd (zaT (.inl fun b hb=>hb.elim) hres) (fun j hj=>by rw[zaz] at hj; cases hj)
 obtain⟨u,hu,hr⟩:=y3 m hm j hj
 exact⟨u,hu,Rep.keep0 (w:=w') (fun b hb=>⟨(hok b hb).1,zdZ rfl⟩) hr⟩
end
theorem SpecW.congr {P:Program} {f:FuncId} {pre post res:List V1} {e k n:Nat} {g0 g g1 g':Nat->Nat->D} (h:SpecW P f pre post e k n g0 g1 res) (he:∀ m,m<n -> ∀ j,j<k->g m j=g0 m j) (he':∀ m,m<n -> ∀ j,j<k->g' m j=g1 m j):SpecW P f pre post e k n g g' res:=
 ⟨h.1,fun w ok vs us v xs h1 h2 h3 hr=>(h.2 w ok vs us v xs h1 h2 h3 ⟨hr.own,hr.one,fun m hm j hj=>by rw[<- he m hm j hj]; exact hr.rep m hm j hj,hr.sep⟩).mono fun en w' ⟨r,e1,e2,e3,xs',e4,e5,e6⟩=>⟨r,e1,e2,e3,xs',e4,e5,fun m hm j hj=>by rw[he' m hm j hj]; exact e6 m hm j hj⟩⟩
section
variable {α:Type} [Inhabited α] {k:Nat} (enc:α->List Value) (hl:∀ x,(enc x).length=k) (h1:∀ x,∀ v∈enc x,v.oneCell'=true)
include hl in
theorem zoV (d:Array α) {t:Nat} (h:t<d.size * k):(enc d[t / k]!)[t % k]?=some (flatK enc k d)[t]!:=by
 have hk:0<k:=by
  rcases jat k with h0 | h0
  ·subst h0; simp at h
  exact h0
 rw[get_flatK _ _ _ _ h]
 have:t % k<(enc d[t / k]!).length:=by rw[hl]; exact jar t hk
 rw[List.getElem!_eq_getElem?_getD,kF this]; rfl
include hl in
theorem zpQ {w:World} {e g:Nat} {cur:Array Value} {l:List α} {xs:List Value} (hh:w.heap[g]?=some (.cells cur e (0,0))) (ht:cur.toList.take (l.length * k)=xs)
  (hr:∀ m,m<l.length -> ∀ j,j<k->xs[m * k+j]?=(enc (l.getD m default))[j]?):HoldsK enc k w g 0 l.toArray:=by
 intro t ht'
 rw[size_flatK] at ht'
 have ht2:=ht'
 simp only[jaU] at ht'
 have hk:0<k:=by
  rcases jat k with h0 | h0
  ·subst h0; simp at ht'
  exact h0
 have hm:t / k<l.length:=jaR (by rwa [qG] at ht')
 have hu:=hr (t / k) hm (t % k) (jar t hk)
 have e1:t / k * k+t % k=t:=by rw[qG]; exact jbr t k
 have hf:=zoV enc hl l.toArray ht2
 rw[zbv l hm] at hf
 rw[e1,<- ht,jS,kH ht',hf] at hu
 rw[qF]
 refine⟨?_,?_⟩
 ·simp only[World.cell?,hh,id_eq]
  have:cur[t]?=some (flatK enc k l.toArray)[t]!:=by simpa using hu
  simp[this]
 simp[World.frozen?,hh]
include hl h1 in
theorem zrN {w:World} {e g cap:Nat} {cur:Array Value} (m:Nat) (l:List α) (os:Array Obj) (hh:w.heap[g]?=some (.cells cur e (0,0))) (hlc:l.length<=cap) (hcap:cap<=maxLen) (hcs:cur.size=cap * k) :
  w.grownBy (sortWorldK enc k w g 0 m l.toArray os) (some g) /\ ∃ xs',(sortWorldK enc k w g 0 m l.toArray os).ownsRow 0 e k (.slice (some ⟨g,0,none⟩) l.length cap) l.length xs'/\(∀ u∈xs',u.oneCell'=true) /\
   ∀ m',m'<l.length -> ∀ j,j<k->xs'[m' * k+j]?=(enc (l.getD m' default))[j]?:=by
 have hg:g<w.heap.size:=(jB.1 hh).1
 have hheap:∀ i,i<w.heap.size->(sortWorldK enc k w g 0 m l.toArray os).heap[i]?=if i=g then some (.cells (putCells id 0 (flatK enc k l.toArray) cur) e (0,0)) else w.heap[i]?:=fun i hi=>by
  simp only[sortWorldK,grow,putRowK,putRow,mapBlock,ahead]
  rw[jaM (by simpa using hi),jbj]
  by_cases e':g=i
  ·subst e'; simp[hh,onCells]
  rw[kG e',kG (fun e''=>e' e''.symm)]; rfl
 refine⟨⟨rfl,rfl,rfl,by simp[sortWorldK,grow,putRowK,putRow,mapBlock,ahead],fun i hi hne=>?_⟩,?_⟩
 ·rw[hheap i hi,kG fun e'=>hne (by rw[e'])]
 have hF:=size_flatK enc k l.toArray
 simp only[jaU] at hF
 have hle:l.length * k<=cap * k:=jW k hlc
 have hget:∀ t,t<l.length * k->(putCells id 0 (flatK enc k l.toArray) cur).toList[t]?=(enc (l.getD (t / k) default))[t % k]?:=fun t ht=>by
  have hk:0<k:=by
   rcases jat k with h0 | h0
   ·subst h0; simp at ht
   exact h0
  have hm:t / k<l.length:=jaR (by rwa [qG] at ht)
  have hlt:t<cur.size:=by omega
  rw[ja5,putCells,Array.getElem?_mapIdx,wI hlt]
  simp only[qC,jF,true_and,qF,hF,kH ht,Nat.sub_zero,id_eq]
  rw[<- zoV enc hl l.toArray (by simpa using ht),zbv l hm]
 have hsz:(putCells id 0 (flatK enc k l.toArray) cur).size=cap * k:=by simp[putCells,hcs]
 have hsz':(putCells id 0 (flatK enc k l.toArray) cur).toList.length=cap * k:=(kB).trans hsz
 refine⟨(putCells id 0 (flatK enc k l.toArray) cur).toList.take (l.length * k),⟨by rw[jQ,hsz']; exact Nat.min_eq_left hle,.inr ⟨g,cap,_,rfl,jF _,by rw[hheap g hg,kH rfl],hlc,hcap,hsz,rfl⟩⟩,fun u hu=>?_,fun m' hm' j hj=>?_⟩
 ·obtain⟨t,ht⟩:=jaG hu
  rw[jS] at ht
  split at ht
  ·rename_i hlt; rw[hget t hlt] at ht; exact h1 _ _ (qB ht)
  cases ht
 have hlt:m' * k+j<l.length * k:=by
  have:(m'+1) * k<=l.length * k:=jW k hm'
  rw[qA] at this; omega
 rw[jS,kH hlt,hget _ hlt]
 have e1:(m' * k+j) / k=m':=by rw[qG,Nat.mul_add_div (by omega),jbl hj]; simp
 have e2:(m' * k+j) % k=j:=by rw[qG,jbc,jaE hj]
 rw[e1,e2]
end
structure Dats (α:Type) (k:Nat) where
  lst:α->List D
  len:∀ x,(lst x).length=k
  at_:α->Nat->D
  hat:∀ x j,j<k->(lst x)[j]?=some (at_ x j)
def Dats.row {α:Type} [Inhabited α] {k:Nat} (A:Dats α k) (l:List α):Nat->Nat->D:=fun i=>A.at_ (l.getD i default)
theorem zeA {P:Program} {ρ:Ren} (S:SlLaysF0.n6 P ρ) (hent:Ent P (ρ.f 6)) {k:Nat} (aE:∀ w,(isAgg (ρ.t 24)).run P w = .ok true w) (zE:∀ w,(Go.sizeOf (ρ.t 24)).run P w = .ok k w)
  {α:Type} [Inhabited α] (A:Dats α k) (L:List α) (cf:α->α->Int) (hO:SWO (ltOf cf)) (hT:∀ i j,i<L.length->j<L.length->ltOf cf (L.getD i default) (L.getD j default)=false->ltOf cf (L.getD j default) (L.getD i default)=false->i=j)
  (g:FuncId) (hc:∀ x∈L,∀ y∈L,SpecD P g [.agg (A.lst x),.agg (A.lst y)] [.d (.int .i64 (cf x y))]) (e:TypeId) (hn:L.length<=1000000) :
  SpecW P (ρ.f 6) [] [.d (.fn g)] e k L.length (A.row L) (A.row (L.mergeSort fun x y=>!(ltOf cf) y x)) []:=by
 refine⟨hent,fun w ok vs us v xs hok h1 h2 hr=>?_⟩
 cases h1
 cases h2 with
 | cons h2 h3=>
 cases h3
 rename_i fv
 have hfv:fv = .func (.func g) #[] #[]:=h2
 subst hfv
 by_cases h0:L=[]
 ·subst h0
  obtain⟨p,cap,rfl⟩:∃ p cap,v = .slice p 0 cap:=by
   rcases hr.own.2 with⟨h3,_⟩ | ⟨q,cap,cur,h3,_⟩
   ·exact⟨_,_,h3⟩
   exact⟨_,_,h3⟩
  refine (AnyF.slices_SortFunc_none S p cap _ w).mono ?_
  rintro en w' ⟨rfl,rfl⟩
  exact⟨_,rfl,⟨rfl,rfl,rfl,jE _,fun _ _ _=>rfl⟩,⟨[],rfl,.nil⟩,xs,hr.own,hr.one,fun m hm=>absurd hm (qD _)⟩
 have hpos:0<L.length:=jaZ.2 h0
 haveI:Inhabited (Fin L.length):=⟨⟨0,hpos⟩⟩
 rcases hr.own.2 with⟨_,h4⟩ | ⟨q,cap,cur,rfl,_,hh,hnc,hcap,hcs,htk⟩
 ·exact absurd (jau.1 h4) h0
 have hxl:xs.length=L.length * k:=hr.own.1
 let enc:Fin L.length->List Value:=fun i=>(xs.drop (i.1 * k)).take k
 have enc_get:∀ (i:Fin L.length) j,j<k->(enc i)[j]?=xs[i.1 * k+j]?:=fun i j hj=>by
  show ((xs.drop (i.1 * k)).take k)[j]?=_
  rw[jS,kH hj,qS]
 have enc_len:∀ i,(enc i).length=k:=fun i=>by
  show ((xs.drop (i.1 * k)).take k).length=k
  rw[jQ,jaw,hxl]
  have:(i.1+1) * k<=L.length * k:=jW k i.2
  rw[qA] at this; omega
 have enc_one:∀ i,∀ v∈enc i,v.oneCell'=true:=fun i v hv=>hr.one v (jaS (wJ hv))
 have fr:∀ m,∀ hm:m<L.length,(List.finRange L.length).getD m default=⟨m,hm⟩:=fun m hm=>by
  rw[hZ,kF (by simpa using hm)]; simp
 have hH:HoldsK enc k w q 0 (List.finRange L.length).toArray:=zpQ enc enc_len (xs:=xs) hh (by rw[jbn]; exact htk) fun m hm j hj=>by
  rw[jbn] at hm
  rw[fr m hm,enc_get _ j hj]
 have hq:q<w.heap.size:=(jB.1 hh).1
 let cf':Fin L.length->Fin L.length->Int:=fun i j=>cf (L.getD i.1 default) (L.getD j.1 default)
 have hmem:∀ i:Fin L.length,L.getD i.1 default∈L:=fun i=>by
  rw[hZ,kF i.2]; exact kS i.2
 have hlt:∀ i j,ltOf cf' i j=ltOf cf (L.getD i.1 default) (L.getD j.1 default):=fun _ _=>rfl
 have hent':∀ args w,(callFunc g args).run P w = .ok (.enter g args) w:=fun args w=>zaD (hc _ (hmem ⟨0,hpos⟩) _ (hmem ⟨0,hpos⟩)).1 args w
 have hcmp:CmpLays P g #[] enc k cf' q 0 (List.finRange L.length).toArray.size w:=fun m os dk hdk x y=>by
  have hdl:dk.toList.length=L.length:=by rw[kB,hdk]; simp
  have hgr:w.grownBy (sortWorldK enc k w q 0 m dk os) (some q):=by
   have:=(zrN enc enc_len enc_one (cap:=cap) m dk.toList os hh (by rw[hdl]; exact hnc) hcap hcs).1
   simpa using this
  refine ((hc _ (hmem x) _ (hmem y)).2 _ ok [.agg (enc x).toArray,.agg (enc y).toArray] (fun b hb=>jN (hok b hb) hgr.size) ?_).mono ?_
  ·have one:∀ z:Fin L.length,Rep1 (sortWorldK enc k w q 0 m dk os) ok (.agg (A.lst (L.getD z.1 default))) (.agg (enc z).toArray):=fun z=>by
    refine⟨enc z,rfl,All2.of_get (by rw[A.len,enc_len]) fun j a b ha hb=>?_⟩
    have hj:j<k:=by rw[<- enc_len z]; exact (kC.1 hb).1
    rw[A.hat _ j hj] at ha
    cases ha
    rw[enc_get z j hj] at hb
    obtain⟨u,hu,hrep⟩:=hr.rep z.1 z.2 j hj
    rw[hb] at hu; cases hu
    exact Rep.keep0 (fun b hb=>⟨hb,zdZ (hgr.block b (hok b hb) fun e=>hr.sep b e.symm hb)⟩) hrep
   exact .cons (one x) (.cons (one y) .nil)
  rintro en w' ⟨v,rfl,⟨hb,hd⟩,hres⟩
  have hv:v = .int .i64 (cf' x y):=hres
  exact⟨by rw[hv],zcA hb (hd rfl)⟩
 have hrun:=AnyQ.slices_SortFunc_total S k aE zE enc enc_len enc_one cf' ⟨fun i=>hO.1 _,fun i j l=>hO.2 _ _ _,fun i j l=>hO.3 _ _ _⟩ g #[] q 0 cap (List.finRange L.length).toArray w hent' hcmp hH hq (by simp; omega) (fun i j a b=>Fin.ext (hT i.1 j.1 i.2 j.2 a b))
 simp only[jaU,jbn] at hrun
 refine hrun.mono ?_
 rintro en w' ⟨rfl,m,os,rfl⟩
 have hlen:((List.finRange L.length).mergeSort fun x y=>!(ltOf cf') y x).length=L.length:=by rw[qM,jbn]
 obtain⟨p1,xs',p2,p3,p4⟩:=zrN enc enc_len enc_one (cap:=cap) m ((List.finRange L.length).mergeSort fun x y=>!(ltOf cf') y x) os hh (by rw[hlen]; exact hnc) hcap hcs
 rw[hlen] at p2 p4
 have hmap:((List.finRange L.length).mergeSort fun x y=>!(ltOf cf') y x).map (fun i=>L.getD i.1 default)=L.mergeSort fun x y=>!(ltOf cf) y x:=by
  rw[List.map_mergeSort (f:=fun i:Fin L.length=>L.getD i.1 default) (r:=fun x y=>!(ltOf cf') y x) (s:=fun x y=>!(ltOf cf) y x) (fun a _ b _=>rfl)]
  congr 1
  apply List.ext_getElem?
  intro i
  by_cases hi:i<L.length
  ·rw[jU,kF (by simpa using hi),kF hi]
   simp[hZ,hi]
  rw[jad (by simpa using hi),jad (by omega)]
 refine⟨_,rfl,p1,⟨[],rfl,.nil⟩,xs',p2,p3,fun m' hm' j hj=>?_⟩
 have hx:(L.mergeSort fun x y=>!(ltOf cf) y x).getD m' default=L.getD (((List.finRange L.length).mergeSort fun x y=>!(ltOf cf') y x).getD m' default).1 default:=by
  rw[<- hmap,hZ,jU,kF (by rw[hlen]; exact hm'),hZ (l:=List.mergeSort _ _),kF (by rw[hlen]; exact hm')]
  rfl
 have q4:=p4 m' hm' j hj
 generalize ((List.finRange L.length).mergeSort fun x y=>!(ltOf cf') y x).getD m' default=i at hx q4
 obtain⟨u,hu,hrep⟩:=hr.rep i.1 i.2 j hj
 refine⟨u,by rw[q4,enc_get i j hj,hu],?_⟩
 show Rep _ ok (A.at_ ((L.mergeSort fun x y=>!(ltOf cf) y x).getD m' default) j) u
 rw[hx]
 exact Rep.keep0 (fun b hb=>⟨hb,zdZ (p1.block b (hok b hb) fun e=>hr.sep b e.symm hb)⟩) hrep
end Go.Pg
namespace Go.Proofs
open Go.Shelf Go.RowKit Go.Lib Go.Sort
def Tryz.sortFt_ren:Go.Shelf.Ren:=⟨fun | 6=>63 | 15=>103 | 14=>102 | 28=>151 | 29=>152 | 20=>143 | 21=>144 | 22=>145 | 23=>146 | 24=>147 | 25=>148 | 26=>149 | 27=>150 | 46=>215 | 47=>216 | 48=>217 | 49=>218 | 50=>219 | 57=>257 | n=>n,fun | 22=>83 | 24=>130 | 25=>140 | 3=>3 | 39=>182 | 0=>0 | 53=>226 | 55=>207 | 4=>4 | 46=>220 | 45=>219 | 50=>53 | 5=>5 | 9=>9 | 66=>290 | 70=>294 | 76=>332 | 77=>333 | n=>n,fun | n=>n⟩
theorem Tryz.sortFt:Go.Proofs.SlLaysF0.n6 Tryz.prog Tryz.sortFt_ren:={
  mixed:=by kernel_rfl,
  f6:=⟨Tryz.f63.name,by decide,Tryz.func63.trans (jI some (by kernel_rfl))⟩,
  f14:=⟨Tryz.f102.name,by decide,Tryz.func102.trans (jI some (by kernel_rfl))⟩,
  f15:=Tryz.func103.trans (jI some (by kernel_rfl)),
  f20:=⟨Tryz.f143.name,by decide,Tryz.func143.trans (jI some (by kernel_rfl))⟩,
  f21:=⟨Tryz.f144.name,by decide,Tryz.func144.trans (jI some (by kernel_rfl))⟩,
  f22:=⟨Tryz.f145.name,by decide,Tryz.func145.trans (jI some (by kernel_rfl))⟩,
  f23:=⟨Tryz.f146.name,by decide,Tryz.func146.trans (jI some (by kernel_rfl))⟩,
  f24:=⟨Tryz.f147.name,by decide,Tryz.func147.trans (jI some (by kernel_rfl))⟩,
  f25:=⟨Tryz.f148.name,by decide,Tryz.func148.trans (jI some (by kernel_rfl))⟩,
  f26:=⟨Tryz.f149.name,by decide,Tryz.func149.trans (jI some (by kernel_rfl))⟩,
  f27:=⟨Tryz.f150.name,by decide,Tryz.func150.trans (jI some (by kernel_rfl))⟩,
  f28:=Tryz.func151.trans (jI some (by kernel_rfl)),
  f29:=Tryz.func152.trans (jI some (by kernel_rfl)),
  f46:=⟨Tryz.f215.name,by decide,Tryz.func215.trans (jI some (by kernel_rfl))⟩,
  f47:=Tryz.func216.trans (jI some (by kernel_rfl)),
  f48:=Tryz.func217.trans (jI some (by kernel_rfl)),
  f49:=⟨Tryz.f218.name,by decide,Tryz.func218.trans (jI some (by kernel_rfl))⟩,
  f50:=⟨Tryz.f219.name,by decide,Tryz.func219.trans (jI some (by kernel_rfl))⟩,
  f57:=⟨Tryz.f257.name,by decide,Tryz.func257.trans (jI some (by kernel_rfl))⟩,
  t0:=Tryz.underlying0,
  a0:=Tryz.isAgg0,
  z0:=Tryz.sizeOf0,
  v0:=Tryz.zeroValue0,
  t3:=Tryz.underlying3,
  a3:=Tryz.isAgg3,
  z3:=Tryz.sizeOf3,
  v3:=Tryz.zeroValue3,
  t4:=Tryz.underlying4,
  a4:=Tryz.isAgg4,
  z4:=Tryz.sizeOf4,
  v4:=Tryz.zeroValue4,
  t5:=Tryz.underlying5,
  a5:=Tryz.isAgg5,
  z5:=Tryz.sizeOf5,
  v5:=Tryz.zeroValue5,
  t9:=Tryz.underlying9,
  a9:=Tryz.isAgg9,
  z9:=Tryz.sizeOf9,
  v9:=Tryz.zeroValue9,
  t22:=Tryz.underlying83,
  a22:=Tryz.isAgg83,
  z22:=Tryz.sizeOf83,
  v22:=Tryz.zeroValue83,
  t25:=Tryz.underlying140,
  a25:=Tryz.isAgg140,
  z25:=Tryz.sizeOf140,
  v25:=Tryz.zeroValue140,
  t39:=Tryz.underlying182,
  a39:=Tryz.isAgg182,
  z39:=Tryz.sizeOf182,
  v39:=Tryz.zeroValue182,
  t45:=Tryz.underlying219,
  a45:=Tryz.isAgg219,
  z45:=Tryz.sizeOf219,
  v45:=Tryz.zeroValue219,
  t46:=Tryz.underlying220,
  a46:=Tryz.isAgg220,
  z46:=Tryz.sizeOf220,
  v46:=Tryz.zeroValue220,
  t50:=Tryz.underlying53,
  a50:=Tryz.isAgg53,
  z50:=Tryz.sizeOf53,
  v50:=Tryz.zeroValue53,
  t53:=Tryz.underlying226,
  a53:=Tryz.isAgg226,
  z53:=Tryz.sizeOf226,
  v53:=Tryz.zeroValue226,
  t55:=Tryz.underlying207,
  a55:=Tryz.isAgg207,
  z55:=Tryz.sizeOf207,
  v55:=Tryz.zeroValue207,
  t66:=Tryz.underlying290,
  a66:=Tryz.isAgg290,
  z66:=Tryz.sizeOf290,
  v66:=Tryz.zeroValue290,
  t70:=Tryz.underlying294,
  a70:=Tryz.isAgg294,
  z70:=Tryz.sizeOf294,
  v70:=Tryz.zeroValue294,
  t76:=Tryz.underlying332,
  a76:=Tryz.isAgg332,
  z76:=Tryz.sizeOf332,
  v76:=Tryz.zeroValue332,
  t77:=Tryz.underlying333,
  a77:=Tryz.isAgg333,
  z77:=Tryz.sizeOf333,
  v77:=Tryz.zeroValue333 }
def Tryz.sortMf_ren:Go.Shelf.Ren:=⟨fun | 6=>66 | 15=>103 | 14=>105 | 28=>151 | 29=>152 | 20=>154 | 21=>155 | 22=>156 | 23=>157 | 24=>158 | 25=>159 | 26=>160 | 27=>161 | 46=>221 | 47=>216 | 48=>217 | 49=>222 | 50=>223 | 57=>258 | n=>n,fun | 22=>84 | 24=>132 | 25=>142 | 3=>3 | 39=>182 | 0=>0 | 53=>226 | 55=>207 | 4=>4 | 46=>220 | 45=>219 | 50=>53 | 5=>5 | 9=>9 | 66=>290 | 70=>294 | 76=>332 | 77=>333 | n=>n,fun | n=>n⟩
theorem Tryz.sortMf:Go.Proofs.SlLaysF0.n6 Tryz.prog Tryz.sortMf_ren:={
  mixed:=by kernel_rfl,
  f6:=⟨Tryz.f66.name,by decide,Tryz.func66.trans (jI some (by kernel_rfl))⟩,
  f14:=⟨Tryz.f105.name,by decide,Tryz.func105.trans (jI some (by kernel_rfl))⟩,
  f15:=Tryz.func103.trans (jI some (by kernel_rfl)),
  f20:=⟨Tryz.f154.name,by decide,Tryz.func154.trans (jI some (by kernel_rfl))⟩,
  f21:=⟨Tryz.f155.name,by decide,Tryz.func155.trans (jI some (by kernel_rfl))⟩,
  f22:=⟨Tryz.f156.name,by decide,Tryz.func156.trans (jI some (by kernel_rfl))⟩,
  f23:=⟨Tryz.f157.name,by decide,Tryz.func157.trans (jI some (by kernel_rfl))⟩,
  f24:=⟨Tryz.f158.name,by decide,Tryz.func158.trans (jI some (by kernel_rfl))⟩,
  f25:=⟨Tryz.f159.name,by decide,Tryz.func159.trans (jI some (by kernel_rfl))⟩,
  f26:=⟨Tryz.f160.name,by decide,Tryz.func160.trans (jI some (by kernel_rfl))⟩,
  f27:=⟨Tryz.f161.name,by decide,Tryz.func161.trans (jI some (by kernel_rfl))⟩,
  f28:=Tryz.func151.trans (jI some (by kernel_rfl)),
  f29:=Tryz.func152.trans (jI some (by kernel_rfl)),
  f46:=⟨Tryz.f221.name,by decide,Tryz.func221.trans (jI some (by kernel_rfl))⟩,
  f47:=Tryz.func216.trans (jI some (by kernel_rfl)),
  f48:=Tryz.func217.trans (jI some (by kernel_rfl)),
  f49:=⟨Tryz.f222.name,by decide,Tryz.func222.trans (jI some (by kernel_rfl))⟩,
  f50:=⟨Tryz.f223.name,by decide,Tryz.func223.trans (jI some (by kernel_rfl))⟩,
  f57:=⟨Tryz.f258.name,by decide,Tryz.func258.trans (jI some (by kernel_rfl))⟩,
  t0:=Tryz.underlying0,
  a0:=Tryz.isAgg0,
  z0:=Tryz.sizeOf0,
  v0:=Tryz.zeroValue0,
  t3:=Tryz.underlying3,
  a3:=Tryz.isAgg3,
  z3:=Tryz.sizeOf3,
  v3:=Tryz.zeroValue3,
  t4:=Tryz.underlying4,
  a4:=Tryz.isAgg4,
  z4:=Tryz.sizeOf4,
  v4:=Tryz.zeroValue4,
  t5:=Tryz.underlying5,
  a5:=Tryz.isAgg5,
  z5:=Tryz.sizeOf5,
  v5:=Tryz.zeroValue5,
  t9:=Tryz.underlying9,
  a9:=Tryz.isAgg9,
  z9:=Tryz.sizeOf9,
  v9:=Tryz.zeroValue9,
  t22:=Tryz.underlying84,
  a22:=Tryz.isAgg84,
  z22:=Tryz.sizeOf84,
  v22:=Tryz.zeroValue84,
  t25:=Tryz.underlying142,
  a25:=Tryz.isAgg142,
  z25:=Tryz.sizeOf142,
  v25:=Tryz.zeroValue142,
  t39:=Tryz.underlying182,
  a39:=Tryz.isAgg182,
  z39:=Tryz.sizeOf182,
  v39:=Tryz.zeroValue182,
  t45:=Tryz.underlying219,
  a45:=Tryz.isAgg219,
  z45:=Tryz.sizeOf219,
  v45:=Tryz.zeroValue219,
  t46:=Tryz.underlying220,
  a46:=Tryz.isAgg220,
  z46:=Tryz.sizeOf220,
  v46:=Tryz.zeroValue220,
  t50:=Tryz.underlying53,
  a50:=Tryz.isAgg53,
  z50:=Tryz.sizeOf53,
  v50:=Tryz.zeroValue53,
  t53:=Tryz.underlying226,
  a53:=Tryz.isAgg226,
  z53:=Tryz.sizeOf226,
  v53:=Tryz.zeroValue226,
  t55:=Tryz.underlying207,
  a55:=Tryz.isAgg207,
  z55:=Tryz.sizeOf207,
  v55:=Tryz.zeroValue207,
  t66:=Tryz.underlying290,
  a66:=Tryz.isAgg290,
  z66:=Tryz.sizeOf290,
  v66:=Tryz.zeroValue290,
  t70:=Tryz.underlying294,
  a70:=Tryz.isAgg294,
  z70:=Tryz.sizeOf294,
  v70:=Tryz.zeroValue294,
  t76:=Tryz.underlying332,
  a76:=Tryz.isAgg332,
  z76:=Tryz.sizeOf332,
  v76:=Tryz.zeroValue332,
  t77:=Tryz.underlying333,
  a77:=Tryz.isAgg333,
  z77:=Tryz.sizeOf333,
  v77:=Tryz.zeroValue333 }
end Go.Proofs
set_option maxRecDepth 100000
namespace Go.Pg
open Go.Proofs Go.RowKit Go.Sort Go.Shelf
section
variable {s:St} {o:Oper} {fo:Operand} {f:FuncId} {K:St->Prop} {E:Env}
theorem CallSt.tkF (ids:List Nat) {args:Array Operand} {at':Array TypeId} (hop:o.op = .call { callee:=.value fo,args,argTypes:=at' }) {pre post po:List V1} {i e k n n':Nat} {g g':Nat->Nat->D} (h:SpecT PP f pre post e k n g n' g')
  (ha:RowArgs (s.freezes ids) fo args.toList f pre i po) (he:eqV1s po post) (hi:(s.freezes ids).ob i=some (.row e k n g)) (hk:K (remk (s.freezes ids) i (.row e k n' g') o.dst)):CallSt EN PP s o fo args.toList K:=by
 rw[zaf]
 refine .inr (.inr (.inl ⟨_,⟨fun cx a w hD hd hR=>?_⟩,hk⟩))
 obtain⟨γ,hg⟩:=R.freezes ids hR
 obtain⟨caps,vs,us,xs,h1,h2,h3,h4,h5⟩:=zcp hg ha hi
 refine .enter (zaA hop h1 h.1) ?_
 rw[h2]
 refine (h.2 w _ vs us _ xs (fun b hb=>zak hg hb) h3 (zbd he h4) h5).mono fun en w' ⟨r,he,hgr,hbl,ys,y1,y2,y3⟩=>⟨r,he,?_⟩
 refine zcQ (o':=.row e k n' g') hg hi hd hgr (fun e=>by have:=hD e; cases this) (fun b hb=>hbl b hb) (fun ok hok=>⟨ys,by rw[zac]; exact y1,(fun b hb=>?_),y2,fun m hm j hj=>?_⟩) (fun cs e=>by cases e)
 ·rw[zac] at hb
  rcases hbl b hb with h6 | h6
  ·exact (zaB hg hi h6).1
  exact .inl (jM hg.below.size h6)
 obtain⟨u,hu,hr⟩:=y3 m hm j hj
 exact⟨u,hu,Rep.keep0 (w:=w') (fun b hb=>hb.elim) hr⟩
end
theorem zbO {α:Type} (m:List α) (k i:Nat) (p d:α) (hk:k<m.length):(m.set k p).getD i d=if i=k then p else m.getD i d:=by
 rw[hZ,List.getElem?_set,hZ]
 by_cases h:k=i
 ·subst h; simp[hk]
 rw[kG h,kG fun e=>h e.symm]
theorem setRp {m:List Rpt} {n k k':Nat} {p q:Rpt} (hk:k<m.length) (e1:k'=k) (e2:q=p):D.eqv (.slc 8 n (storeRow (rowRp m) k' 0 [I q.ID,I q.Kind,I q.Tower,I q.C,I q.Tick,I q.From,I q.To,I q.Slack])) (.slc 8 n (rowRp (m.set k p))):=by
 subst e1; subst e2
 refine⟨rfl,.inr ⟨rfl,fun i hi j hj=>?_⟩⟩
 show D.eqv (storeRow (rowRp m) k' 0 _ i j) (((m.set k' q).getD i default).at j)
 rw[zbO m k' i q default hk]
 unfold storeRow
 by_cases h:i=k'
 ·rw[kH h,kH ⟨h,by omega,by simpa using hj⟩]
  match j,hj with
  | 0,_=>exact⟨rfl,rfl⟩
  | 1,_=>exact⟨rfl,rfl⟩
  | 2,_=>exact⟨rfl,rfl⟩
  | 3,_=>exact⟨rfl,rfl⟩
  | 4,_=>exact⟨rfl,rfl⟩
  | 5,_=>exact⟨rfl,rfl⟩
  | 6,_=>exact⟨rfl,rfl⟩
  | 7,_=>exact⟨rfl,rfl⟩
 rw[kG h,kG fun hh=>h hh.1]
 exact dE _
theorem zp2 (p:Rpt->Bool) (g:FuncId) (c0:D) (hg:∀ r:Rpt,Spec PP g [r.v,.d c0] [B (p r)]) (l:List Rpt) (hn:l.length<=1000000):SpecT PP 99 [] [.d (cloB g [c0])] 90 8 l.length (rowRp l) (filR p l l.length).length (rowRp (filR p l l.length)):=by
 refine zm5 Tryz.func99 rfl (by kernel_rfl) (fun i _ j _=>zpw _ i j) rfl fun v=>?_
 refine cP (zo1 l g c0 p hn fun i _=>hg _) rfl rfl ?_
 rcases idxL_cases p l default with⟨e0,h1⟩ | ⟨i,h1,e0,h2,h3⟩
 ·refine sYe (by rw[e0]; rfl) ?_
  have e:filR p l l.length=l:=by rw[zjc p l (jE _) h1,jZ]
  rw[e]
  exact⟨rfl,rfl,rfl,fun i hi j hj=>dE _⟩
 refine sNo (by rw[e0]; simp) ?_
 have ck:filR p l (i+1)=l.take i:=by rw[zcE p l h1,kH h2,jaK,zjc p l (by omega) h3]
 refine⟨by rw[e0]; exact i6,?_⟩
 refine lOf (σ:=Nat × Nat × List Rpt) (fun x=>([(0,.own 0),(1,.d (cloB g [c0])),(5,.d (I x.2.1)),(6,.d (I x.1))],[(0,.row 90 8 l.length (rowRp x.2.2))]))
  (fun x=>i+1<=x.1/\x.1<=l.length/\x.2.2.length=l.length/\x.2.1<=x.1 - 1/\x.2.2.take x.2.1=filR p l x.1 /\ ∀ m,x.1<=m->x.2.2.getD m default=l.getD m default) (fun x=>l.length - x.1) (i+1,i,l)
  ⟨rfl,⟨obR rfl (dE _),trivial⟩,rfl,avQ rfl,?_,?_,trivial⟩ ⟨jE _,h1,rfl,by simp,ck.symm,fun _ _=>rfl⟩ fun x hx=>?_
 ·exact avQ (by rw[e0]; rfl)
 ·exact avQ (by rw[e0]; rfl)
 obtain⟨x1,x2,x3,x4,x5,x6⟩:=hx
 apply bY <;> intro g1
 ·have g1:x.1<l.length:=by have:=dT g1; omega
  have e1:x.2.2.getD (x.1:Int).toNat default=l.getD x.1 default:=by rw[jaJ,x6 x.1 (jE _)]
  refine⟨⟨by omega,by omega⟩,⟨by omega,?_⟩⟩
  refine cP (hg (x.2.2.getD (x.1:Int).toNat default)) rfl rfl ?_
  apply bY <;> intro g2
  ·have g2:p (l.getD x.1 default)=false:=by rw[e1] at g2; simpa using g2
   refine⟨⟨by omega,by omega⟩,⟨by omega,?_⟩⟩
   refine⟨i6,?_⟩
   refine⟨i6,?_⟩
   refine⟨(x.1+1,x.2.1+1,x.2.2.set x.2.1 (l.getD x.1 default)),⟨rfl,⟨obR rfl (setRp (by omega) (jaJ _) e1),trivial⟩,rfl,wq rfl⟩,⟨by omega,by omega,by simp; omega,(show x.2.1+1<=x.1+1 - 1 by omega),?_,fun m hm=>?_⟩,?_⟩
   ·show (x.2.2.set x.2.1 (l.getD x.1 default)).take (x.2.1+1)=filR p l (x.1+1)
    rw[zcE p l g1,kG (by rw[g2]; decide),zav (i:=x.2.1) (by simp; omega) default,zbO _ _ _ _ _ (by omega),kH rfl,<- x5,List.take_set_of_le (jE _)]
   ·have hm:x.1+1<=m:=hm
    show (x.2.2.set x.2.1 (l.getD x.1 default)).getD m default=_
    rw[zbO _ _ _ _ _ (by omega),kG (by omega)]
    exact x6 m (by omega)
   show l.length - (x.1+1)<l.length - x.1
   omega
  have g2:p (l.getD x.1 default)=true:=by rw[e1] at g2; simpa using g2
  refine⟨i6,?_⟩
  refine⟨(x.1+1,x.2.1,x.2.2),⟨rfl,⟨obR rfl (dE _),trivial⟩,rfl,wq rfl⟩,⟨by omega,by omega,x3,(show x.2.1<=x.1+1 - 1 by omega),?_,fun m hm=>x6 m (by have:x.1+1<=m:=hm; omega)⟩,?_⟩
  ·show x.2.2.take x.2.1=filR p l (x.1+1)
   rw[zcE p l g1,kH g2,jaK,x5]
  show l.length - (x.1+1)<l.length - x.1
  omega
 have g1:x.1=l.length:=by have:=dF g1; omega
 have hk':x.2.1=(filR p l l.length).length:=by
  have:=jI List.length x5
  rw[jQ,g1] at this
  omega
 refine⟨⟨rfl,by omega,by omega⟩,?_⟩
 refine⟨by omega,?_⟩
 refine⟨⟨by omega,by omega⟩,?_⟩
 refine⟨rfl,rfl,?_,fun i hi j hj=>?_⟩
 ·show (x.2.1:Int).toNat=_
  omega
 have e3:(filR p l l.length).getD i default=x.2.2.getD i default:=by
  rw[<- g1,<- x5,hZ,jS,kH (by omega),<- hZ]
 show D.eqv (clrRow (rowRp x.2.2) (x.2.1:Int).toNat (l.length - (x.2.1:Int).toNat) _ i j) (((filR p l l.length).getD i default).at j)
 unfold clrRow
 rw[kG (by omega),e3]
 exact dE _
def offB (ids:List Int) (r:Rpt):Bool:=(r.Kind==1) && !ids.contains r.ID
def lstD (d:Day) (ids:List Int):List Rpt:=d.R.filter fun r=>!offB ids r
theorem ziU (d:Day) (ids:List Int):(lstD d ids).length<=d.R.length:=jac _ _
theorem zqZ (ids:List Int) (hi:ids.length<=1000000) (r:Rpt):Spec PP 101 [r.v,.d (capB [lI ids])] [B (offB ids r)]:=by
 refine sA Tryz.func101 ?_
 apply bY <;> intro h1
 ·have h1:(r.Kind==1)=true:=h1
  refine cP (zc7 ids r.ID hi) rfl rfl ?_
  refine sT ?_
  exact r1B rfl (by unfold offB; rw[h1,qI])
 have h1:(r.Kind==1)=false:=h1
 refine sF ?_
 exact r1B rfl (by unfold offB; rw[h1,qQ])
theorem zlQ (d:Day) (ids:List Int) (hn:d.R.length<=1000000) (hi:ids.length<=1000000):Spec PP 62 [d.v,.d (lI ids)] [.d (lR (lstD d ids))]:=by
 have e:filR (offB ids) d.R d.R.length=lstD d ids:=by unfold filR lstD; rw[jZ]
 refine sA Tryz.func62 ?_
 refine CallSt.own (znL d.R hn) rfl rfl (fun m j _ _=>zpw _ m j) ?_
 refine CallSt.tkF [3] rfl (zp2 (offB ids) 101 (capB [lI ids]) (zqZ ids hi) d.R hn) ⟨⟨[],.tmp 7,[.tmp 8],[],rfl,rfl,rfl,rfl,rfl,rfl,rfl⟩⟩ ⟨⟨rfl,rfl,fun j hj=>by obtain rfl:j=0:=jaH.1 hj; exact dE _⟩,trivial⟩ rfl ?_
 rw[e]
 exact⟨⟨_,_,_,_,rfl,rfl,.inr ⟨rfl,fun i _ j _=>dE _⟩⟩,trivial⟩
def day1E (d:Day) (i:Nat):Int:=
 if crpE d.s (d.R.getD i default)≠0 then crpE d.s (d.R.getD i default) else if ((d.R.take i).any fun x=>x.ID==(d.R.getD i default).ID)=true then 6 else 0
def dayE (d:Day):Int:=
 if svcE d.s≠0 then svcE d.s else if (!within d.Rise 0 200 || !within d.Long 0 1440)=true then 1
 else if 7<(sigK d.R).length \/ 10+(sigK d.R).length<d.R.length then 2 else err1 (day1E d) d.R.length
theorem zn6 (x r:Rpt):Spec PP 72 [x.v,.d (capB r.ds)] [B (x.ID==r.ID)]:=by
 refine sA Tryz.func72 ?_
 exact r1B rfl rfl
theorem zqW (l:List Rpt) {i:Nat} (h:i<=l.length):D.eqv (.slc 8 i fun m=>(l.getD m default).at) (lR (l.take i)):=by
 refine⟨by rw[jQ]; omega,.inr ⟨rfl,fun m hm j _=>?_⟩⟩
 show D.eqv ((l.getD m default).at j) (((l.take i).getD m default).at j)
 rw[hZ,hZ,jS,kH hm]
 exact dE _
theorem zcd (d:Day) (hn:d.R.length<=1000000):Spec PP 29 [d.v] [.d (.int .i64 (dayE d))]:=by
 refine sA Tryz.func29 ?_
 refine cP (zhH d.s) rfl rfl ?_
 apply bY <;> intro h0
 ·refine r1I rfl ?_
  unfold dayE; rw[kH (by simpa using h0)]
 have h0:svcE d.s=0:=by simpa using h0
 refine cP (ziY d.Rise 0 200) rfl rfl ?_
 apply bY <;> intro h1
 ·have h1:(!within d.Rise 0 200)=true:=h1
  repeat first | apply sT | apply sF
  refine r1I rfl ?_
  unfold dayE; rw[kG (fun hh=>hh h0),kH (by rw[h1]; rfl)]
 have h1:(!within d.Rise 0 200)=false:=h1
 refine cP (ziY d.Long 0 1440) rfl rfl ?_
 repeat first | apply sT | apply sF
 apply bY <;> intro h2
 ·have h2:(!within d.Long 0 1440)=true:=h2
  refine r1I rfl ?_
  unfold dayE; rw[kG (fun hh=>hh h0),kH (by rw[h1,h2]; rfl)]
 have h2:(!within d.Long 0 1440)=false:=h2
 refine cR (zaO d hn) rfl rfl ?_
 have e1:(sigL d.R).length=(sigK d.R).length:=zby d.R
 have eg:dayE d=if 7<(sigK d.R).length \/ 10+(sigK d.R).length<d.R.length then 2 else err1 (day1E d) d.R.length:=by
  unfold dayE; rw[kG (fun hh=>hh h0),kG (by rw[h1,h2]; decide)]
 rw[eg]
 apply bY <;> intro h3
 ·have h3:7<(sigK d.R).length:=by have:(7:Int)<(sigL d.R).length:=dT h3; omega
  repeat first | apply sT | apply sF
  refine r1I rfl ?_
  rw[kH (.inl h3)]
 have h3:¬ 7<(sigK d.R).length:=by have:¬ (7:Int)<(sigL d.R).length:=dF h3; omega
 refine⟨i6,?_⟩
 repeat first | apply sT | apply sF
 apply bY <;> intro h4
 ·have h4:10+(sigK d.R).length<d.R.length:=by have:(10:Int)<(d.R.length:Int) - (sigL d.R).length:=dT h4; omega
  refine r1I rfl ?_
  rw[kH (.inr h4)]
 have h4:¬ 10+(sigK d.R).length<d.R.length:=by have:¬ (10:Int)<(d.R.length:Int) - (sigL d.R).length:=dF h4; omega
 rw[kG (fun h=>h.elim h3 h4)]
 have hl:d.R.length<=17:=by omega
 refine lOf (σ:=Nat) (fun i=>([(1,.box 1 0),(38,.d (lR d.R)),(39,.d (I d.R.length)),(40,.d (I i))],[(1,.box (d.ds.map AV.d))])) (fun i=>i<=d.R.length /\ ∀ j,j<i->day1E d j=0) (fun i=>d.R.length - i) 0
  ⟨rfl,⟨obD d.ds rfl,trivial⟩,wq rfl⟩ z0L fun i hi=>?_
 obtain⟨hi,ha⟩:=hi
 apply bY <;> intro h5
 ·have h5:i<d.R.length:=by have:=dT h5; omega
  refine⟨⟨rfl,by omega,by omega⟩,?_⟩
  refine cP (zfN d.s (d.R.getD i default)) rfl rfl ?_
  apply bY <;> intro h6
  ·have h6:crpE d.s (d.R.getD i default)≠0:=by simpa using h6
   have e2:day1E d i=crpE d.s (d.R.getD i default):=by unfold day1E; rw[kH h6]
   refine r1I rfl ?_
   rw[zas ha (by rw[e2]; exact h6) h5,e2]
  have h6:crpE d.s (d.R.getD i default)=0:=by simpa using h6
  refine⟨⟨.inr rfl,by omega,by omega⟩,?_⟩
  refine fEq [6] (zrL (d.R.take i) 72 (capB (d.R.getD i default).ds) (fun x=>x.ID==(d.R.getD i default).ID) (by rw[jQ]; omega) fun k _=>zn6 _ _) rfl ⟨zqW d.R hi,⟨rfl,rfl,fun j hj=>?_⟩,trivial⟩ rfl ?_
  ·obtain rfl:j=0:=jaH.1 hj
   exact dE _
  apply bY <;> intro h7
  ·have e2:day1E d i=6:=by unfold day1E; rw[kG (fun hh=>hh h6),kH h7]
   refine r1I rfl ?_
   rw[zas ha (by rw[e2]; decide) h5,e2]
  have e2:day1E d i=0:=by unfold day1E; rw[kG (fun hh=>hh h6),kG (by rw[show ((d.R.take i).any fun x=>x.ID==(d.R.getD i default).ID)=false from h7]; decide)]
  refine⟨i6,?_⟩
  refine⟨i+1,⟨rfl,⟨obD d.ds rfl,trivial⟩,wq rfl⟩,⟨h5,fun j hj=>?_⟩,msr h5⟩
  by_cases e:j=i
  ·subst e; exact e2
  exact ha j (by omega)
 have h5:i=d.R.length:=by have:=dF h5; omega
 subst h5
 refine r1I rfl ?_
 rw[zaL ha]
def askE (d:Day) (ids:List Int):Int:=if dayE d≠0 then dayE d else if setB ids=false then 1 else if partB ids (sigL d.R)=false then 5 else 0
theorem zlU (d:Day) (ids:List Int) (hn:d.R.length<=1000000) (hi:ids.length<=1000000):Spec PP 53 [d.v,.d (lI ids)] [.d (.int .i64 (askE d ids))]:=by
 refine sA Tryz.func53 ?_
 refine cP (zcd d hn) rfl rfl ?_
 apply bY <;> intro h0
 ·refine r1I rfl ?_
  unfold askE; rw[kH (by simpa using h0)]
 have h0:dayE d=0:=by simpa using h0
 refine cP (zlR ids hi) rfl rfl ?_
 apply bY <;> intro h1
 ·have h1:setB ids=false:=by simpa using h1
  refine r1I rfl ?_
  unfold askE; rw[kG (fun hh=>hh h0),kH h1]
 have h1:setB ids=true:=by simpa using h1
 have hs:(sigL d.R).length<=1000000:=by rw[zby]; exact jM (zcn _) hn
 refine cR (zaO d hn) rfl rfl ?_
 refine cP (zpq ids (sigL d.R) hi hs) rfl rfl ?_
 apply bY <;> intro h2
 ·have h2:partB ids (sigL d.R)=false:=by simpa using h2
  refine r1I rfl ?_
  unfold askE; rw[kG (fun hh=>hh h0),kG (by rw[h1]; decide),kH h2]
 have h2:partB ids (sigL d.R)=true:=by simpa using h2
 refine r1I rfl ?_
 unfold askE; rw[kG (fun hh=>hh h0),kG (by rw[h1]; decide),kG (by rw[h2]; decide)]
def brn1 (ids:List Int) (x:Bool × Int × Int) (r:Rpt):Bool × Int × Int:=if ids.contains r.ID=true then (true,min (if x.1=true then x.2.1 else r.Tick) r.Tick,max (if x.1=true then x.2.2 else r.Tick) r.Tick) else x
def brnS (ids:List Int) (l:List Rpt):Bool × Int × Int:=l.foldl (brn1 ids) (false,0,0)
def brnD (d:Day) (ids:List Int):Brn:=⟨(brnS ids d.R).2.1,(brnS ids d.R).2.2,d.Rise⟩
theorem zbV (ids:List Int) (l:List Rpt) {i:Nat} (h:i<l.length):brnS ids (l.take (i+1))=brn1 ids (brnS ids (l.take i)) (l.getD i default):=by
 unfold brnS
 rw[zav h default,wA]; rfl
theorem zlT (d:Day) (ids:List Int) (hn:d.R.length<=1000000) (hi:ids.length<=1000000):Spec PP 59 [d.v,.d (lI ids)] [(brnD d ids).v]:=by
 refine sA Tryz.func59 ?_
 refine lOf (σ:=Nat) (fun i=>([(1,.d (lI ids)),(2,.box 2 0),(4,.box 4 0),(5,.box 5 0),(6,.d (.bool (brnS ids (d.R.take i)).1)),(13,.d (lR d.R)),(14,.d (I d.R.length)),(15,.d (I i))],
   [(2,.box (d.ds.map AV.d)),(4,.box ([I 0,I 0,I 0].map AV.d)),(5,.box ([I (brnS ids (d.R.take i)).2.1,I (brnS ids (d.R.take i)).2.2,I d.Rise].map AV.d))])) (fun i=>i<=d.R.length) (fun i=>d.R.length - i) 0
  ⟨rfl,⟨obD d.ds rfl,obD [I 0,I 0,I 0] rfl,obD [I 0,I 0,I d.Rise] rfl,trivial⟩,wq rfl⟩ (jF _) fun i hi'=>?_
 have hi':i<=d.R.length:=hi'
 apply bY <;> intro h1
 ·have h1:i<d.R.length:=by have:=dT h1; omega
  have es:=zbV ids d.R h1
  refine⟨⟨rfl,by omega,by omega⟩,?_⟩
  refine cP (zc7 ids (d.R.getD i default).ID hi) rfl rfl ?_
  apply bY <;> intro h2
  ·have h2:ids.contains (d.R.getD i default).ID=false:=by simpa using h2
   have e:brnS ids (d.R.take (i+1))=brnS ids (d.R.take i):=by rw[es]; unfold brn1; rw[kG (by rw[h2]; decide)]
   refine⟨i6,?_⟩
   refine⟨i+1,⟨rfl,⟨obD d.ds rfl,obD [I 0,I 0,I 0] rfl,?_,trivial⟩,?_⟩,h1,msr h1⟩
   ·rw[e]; exact obD [I _,I _,I _] rfl
   rw[e]; exact wq rfl
  have h2:ids.contains (d.R.getD i default).ID=true:=by simpa using h2
  apply bY <;> intro h3
  ·have h3:(brnS ids (d.R.take i)).1=false:=by simpa using h3
   have e:brnS ids (d.R.take (i+1))=(true,min (d.R.getD i default).Tick (d.R.getD i default).Tick,max (d.R.getD i default).Tick (d.R.getD i default).Tick):=by rw[es]; unfold brn1; rw[kH h2,h3]; rfl
   refine oL [0,1,2,4,4003,5,6,7,8] (FzOb.fz [8] ⟨rfl,?_⟩)
   refine oL [0,1,2,3,4,5,6,7,10,4008,9,11,12,13] (FzOb.fz [8] ⟨rfl,?_⟩)
   refine⟨i6,?_⟩
   refine⟨i+1,⟨rfl,⟨obD d.ds rfl,obD [I 0,I 0,I 0] rfl,?_,trivial⟩,?_⟩,h1,msr h1⟩
   ·rw[e]; exact obD [I _,I _,I _] rfl
   rw[e]; exact wq rfl
  have h3:(brnS ids (d.R.take i)).1=true:=by simpa using h3
  have e:brnS ids (d.R.take (i+1))=(true,min (brnS ids (d.R.take i)).2.1 (d.R.getD i default).Tick,max (brnS ids (d.R.take i)).2.2 (d.R.getD i default).Tick):=by rw[es]; unfold brn1; rw[kH h2,kH h3,kH h3]
  refine oL [0,1,2,3,4,5,6,7,10,4008,9,11,12,13] (FzOb.fz [8] ⟨rfl,?_⟩)
  refine⟨i6,?_⟩
  refine⟨i+1,⟨rfl,⟨obD d.ds rfl,obD [I 0,I 0,I 0] rfl,?_,trivial⟩,?_⟩,h1,msr h1⟩
  ·rw[e]; exact obD [I _,I _,I _] rfl
  rw[e]; exact⟨avQ rfl,avQ rfl,avQ rfl,avQ rfl,avQ (jI (fun b=>AV.d (.bool b)) h3),avQ rfl,avQ rfl,avQ rfl,trivial⟩
 have h1:i=d.R.length:=by have:=dF h1; omega
 subst h1
 rw[jZ]
 exact⟨rtC (a:=4) rfl rfl rfl rfl rfl rfl (zab _),trivial⟩
theorem zhJ (d:Day) (b:Brn) (hb:inR .i64 (b.To - b.From)):Spec PP 60 [d.v,b.v] [B (decide (b.To - b.From<=d.Long))]:=by
 refine sA Tryz.func60 ?_
 refine⟨hb,?_⟩
 exact r1B rfl rfl
structure DayOk (d:Day):Prop where
  s:svcE d.s=0
  rise:within d.Rise 0 200=true
  long:within d.Long 0 1440=true
  sg:(sigK d.R).length<=7
  bl:d.R.length<=10+(sigK d.R).length
  rp:∀ i,i<d.R.length->crpE d.s (d.R.getD i default)=0
  tw:∀ i,i<d.R.length->((d.R.take i).any fun x=>x.ID==(d.R.getD i default).ID)=false
theorem za5 {d:Day} (h:dayE d=0):DayOk d:=by
 unfold dayE at h
 split at h
 ·rename_i h1; exact absurd h h1
 rename_i h1
 split at h
 ·cases h
 rename_i h2
 split at h
 ·cases h
 rename_i h3
 have a:=zbi h
 have A:∀ i,i<d.R.length->crpE d.s (d.R.getD i default)=0/\((d.R.take i).any fun x=>x.ID==(d.R.getD i default).ID)=false:=fun i hi=>by
  have:=a i hi
  unfold day1E at this
  split at this
  ·rename_i h4; exact absurd this h4
  rename_i h4
  split at this
  ·cases this
  rename_i h5
  exact⟨jL h4,by simpa using h5⟩
 have h2:within d.Rise 0 200=true/\within d.Long 0 1440=true:=by
  cases e1:within d.Rise 0 200 <;> cases e2:within d.Long 0 1440 <;> simp_all
 exact⟨jL h1,h2.1,h2.2,by omega,by omega,fun i hi=>(A i hi).1,fun i hi=>(A i hi).2⟩
theorem DayOk.n {d:Day} (h:DayOk d):d.R.length<=17:=by have:=h.sg; have:=h.bl; omega
theorem zjy {n lo hi:Int} (h:within n lo hi=true):lo<=n/\n<=hi:=by
 unfold within at h
 simpa using h
theorem DayOk.tick {d:Day} (h:DayOk d) {i:Nat} (hi:i<d.R.length):0<=(d.R.getD i default).Tick/\(d.R.getD i default).Tick<=1048576:=by
 have h1:=(ztj (h.rp i hi)).2.2
 unfold frmB frmC at h1
 have:within (d.R.getD i default).Tick 0 1048576=true:=by
  cases e:within (d.R.getD i default).Tick 0 1048576 with
  | true=>rfl
  | false=>rw[e] at h1; simp at h1
 exact zjy this
theorem zmx {d:Day} (h:DayOk d) (ids:List Int):∀ i,i<=d.R.length->0<=(brnS ids (d.R.take i)).2.1/\(brnS ids (d.R.take i)).2.1<=1048576/\0<=(brnS ids (d.R.take i)).2.2/\(brnS ids (d.R.take i)).2.2<=1048576
 | 0,_=>by simp[brnS]
 | i+1,hi=>by
  obtain⟨a1,a2,a3,a4⟩:=zmx h ids i (by omega)
  obtain⟨b1,b2⟩:=h.tick (show i<d.R.length by omega)
  rw[zbV ids d.R (by omega)]
  unfold brn1
  split
  ·show 0<=min _ _/\min _ _<=_/\0<=max _ _/\max _ _<=_
   split <;> omega
  exact⟨a1,a2,a3,a4⟩
theorem zh1 {d:Day} (h:DayOk d) (ids:List Int):inR .i64 ((brnD d ids).To - (brnD d ids).From):=by
 have:=zmx h ids d.R.length (jE _)
 rw[jZ] at this
 show inR .i64 ((brnS ids d.R).2.2 - (brnS ids d.R).2.1)
 exact i6
def plsD (d:Day) (ids:List Int):List Place:=if (brnD d ids).To - (brnD d ids).From<=d.Long then (plcR d.s (brnD d ids) (lstD d ids)).1 else []
theorem zdB {d:Day} (h:DayOk d) (ids:List Int) (hi:ids.length<=1000000):Spec PP 45 [d.v,.d (lI ids)] [.d (lP (plsD d ids))]:=by
 have hn:=h.n
 refine sA Tryz.func45 ?_
 refine cP (zlT d ids (by omega) hi) rfl rfl ?_
 refine cP (zhJ d (brnD d ids) (zh1 h ids)) rfl rfl ?_
 apply bY <;> intro h1
 ·have h1:¬ (brnD d ids).To - (brnD d ids).From<=d.Long:=by simpa using h1
  have e:plsD d ids=[]:=by unfold plsD; rw[kG h1]
  rw[e]
  exact⟨⟨_,_,_,_,rfl,rfl,.inl rfl⟩,trivial⟩
 have h1:(brnD d ids).To - (brnD d ids).From<=d.Long:=by simpa using h1
 have e:plsD d ids=(plcR d.s (brnD d ids) (lstD d ids)).1:=by unfold plsD; rw[kH h1]
 rw[e]
 refine oN 12 ?_
 refine oRo (zlQ d ids (by omega) hi) rfl rfl ?_
 refine oRo (znZ d.s (brnD d ids) (lstD d ids)) rfl rfl ?_
 exact⟨dE _,trivial⟩
def offS (a i:Nat):Nat:=a &&& (127 - 2 ^ i)
def onS (a i:Nat):Nat:=a ||| 2 ^ i
theorem al7L {n m:Nat} {P:Nat->Nat->Bool} (h:((List.range n).all fun a=>(List.range m).all (P a))=true) {a i:Nat} (ha:a<n) (hi:i<m):P a i=true:=
 jC.1 (jC.1 h a (kJ.2 ha)) i (kJ.2 hi)
theorem bShl {i:Nat} (hi:i<=7):IntKind.wrap .i64 (1 * 2 ^ (min ((i:Nat):Int).toNat 64))=((2 ^ i:Nat):Int):=by
 have:∀ i,i<8->IntKind.wrap .i64 (1 * 2 ^ (min ((i:Nat):Int).toNat 64))=((2 ^ i:Nat):Int):=by decide
 exact this i (by omega)
theorem bOff {a i:Nat} (ha:a<128) (hi:i<7):IntKind.wrap .i64 ((BitVec.ofInt 64 (a:Int) &&& ~~~ BitVec.ofInt 64 (IntKind.wrap .i64 (1 * 2 ^ (min ((i:Nat):Int).toNat 64)))).toNat:Int)=((offS a i:Nat):Int):=by
 have:=al7L (n:=128) (m:=7) (P:=fun a i=>decide (IntKind.wrap .i64 ((BitVec.ofInt 64 (a:Int) &&& ~~~ BitVec.ofInt 64 (IntKind.wrap .i64 (1 * 2 ^ (min ((i:Nat):Int).toNat 64)))).toNat:Int)=((offS a i:Nat):Int))) (by decide +kernel) ha hi
 exact kQ this
theorem bOn {a i:Nat} (ha:a<128) (hi:i<7):IntKind.wrap .i64 ((BitVec.ofInt 64 (a:Int) ||| BitVec.ofInt 64 (IntKind.wrap .i64 (1 * 2 ^ (min ((i:Nat):Int).toNat 64)))).toNat:Int)=((onS a i:Nat):Int):=by
 have:=al7L (n:=128) (m:=7) (P:=fun a i=>decide (IntKind.wrap .i64 ((BitVec.ofInt 64 (a:Int) ||| BitVec.ofInt 64 (IntKind.wrap .i64 (1 * 2 ^ (min ((i:Nat):Int).toNat 64)))).toNat:Int)=((onS a i:Nat):Int))) (by decide +kernel) ha hi
 exact kQ this
theorem bHas {a i:Nat} (ha:a<128) (hi:i<7):(IntKind.wrap .i64 ((BitVec.ofInt 64 ((a:Int).fdiv (2 ^ (min ((i:Nat):Int).toNat 64))) &&& BitVec.ofInt 64 1).toNat:Int)==1)=a.testBit i:=by
 have:=al7L (n:=128) (m:=7) (P:=fun a i=>decide ((IntKind.wrap .i64 ((BitVec.ofInt 64 ((a:Int).fdiv (2 ^ (min ((i:Nat):Int).toNat 64))) &&& BitVec.ofInt 64 1).toNat:Int)==1)=a.testBit i)) (by decide +kernel) ha hi
 exact kQ this
theorem zsG {a i:Nat} (ha:a<128) (hi:i<7):onS a i<128:=Nat.or_lt_two_pow (n:=7) ha (Nat.pow_lt_pow_right (by decide) hi)
def membA (ids:List Int) (set i:Nat):List Int:=((List.range i).filter (set.testBit ·)).map (ids.getD · 0)
def memb (ids:List Int) (set:Nat):List Int:=membA ids set ids.length
theorem zcw {ids:List Int} {set i:Nat} (h:set.testBit i=true):membA ids set (i+1)=membA ids set i ++ [ids.getD i 0]:=by
 unfold membA
 rw[jab,kZ,qU h,jT]; rfl
theorem zdt {ids:List Int} {set i:Nat} (h:set.testBit i=false):membA ids set (i+1)=membA ids set i:=by
 unfold membA
 rw[jab,kZ,qV (by rw[h]; decide)]; simp
theorem zcx (ids:List Int) (set i:Nat):(membA ids set i).length<=i:=by
 unfold membA
 rw[kW]
 exact jM (jac _ _) (by rw[List.length_range]; exact jE _)
theorem zgC (ids:List Int) (set:Nat) (hn:ids.length<=7) (hs:set<128):Spec PP 55 [.d (lI ids),N (set:Int)] [.d (lI (memb ids set))]:=by
 refine sA Tryz.func55 ?_
 refine lOf (σ:=Nat) (fun i=>([(1,.d (I set)),(5,.own 5),(8,.d (lI ids)),(9,.d (I ids.length)),(10,.d (I i))],[(5,.row 3 1 (membA ids set i).length (rowI (membA ids set i)))])) (fun i=>i<=ids.length) (fun i=>ids.length - i) 0
  ⟨rfl,⟨obR rfl ⟨rfl,.inl rfl⟩,trivial⟩,wq rfl⟩ (jF _) fun i hi=>?_
 have hi:i<=ids.length:=hi
 have hl:=zcx ids set i
 apply bY <;> intro h1
 ·have h1:i<ids.length:=by have:=dT h1; omega
  refine⟨⟨rfl,by omega,by omega⟩,?_⟩
  refine⟨by omega,?_⟩
  apply bY <;> intro h2
  ·have h2:set.testBit i=true:=by rw[<- bHas hs (show i<7 by omega)]; exact h2
   refine⟨⟨.inr rfl,by unfold maxLen; omega,by show ((membA ids set i).length+1) * 8<=140737488355328; omega⟩,?_⟩
   refine⟨i6,?_⟩
   refine⟨i+1,⟨rfl,⟨obR rfl ?_,trivial⟩,wq rfl⟩,h1,msr h1⟩
   rw[zcw h2]
   exact zqw rfl
  have h2:set.testBit i=false:=by rw[<- bHas hs (show i<7 by omega)]; exact h2
  refine⟨i6,?_⟩
  refine⟨i+1,⟨rfl,⟨obR rfl ?_,trivial⟩,wq rfl⟩,h1,msr h1⟩
  rw[zdt h2]
  exact dE _
 have h1:i=ids.length:=by have:=dF h1; omega
 subst h1
 exact⟨⟨_,_,_,_,rfl,rfl,.inr ⟨rfl,fun i _ j _=>dE _⟩⟩,trivial⟩
abbrev celD (d:Day) (set:Nat):List Place:=plsD d (memb (sigL d.R) set)
abbrev keyN (ks:List Nat):List (List Int):=ks.map fun k=>[((k:Nat):Int)]
abbrev cmap (d:Day) (ks:List Nat):D:=.mp 1 (keyN ks) fun j=>lP (celD d (ks.getD j 0))
abbrev lkV (d:Day) (ks:List Nat):V1:=.agg (d.ds ++ [lI (sigL d.R),cmap d ks])
def fitK (d:Day) (ks:List Nat) (set:Nat):Bool:=ks.contains set && decide (0<(celD d set).length)
theorem idxN:∀ (ks:List Nat) (k:Nat),(keyN ks).idxOf [((k:Nat):Int)]=ks.idxOf k
 | [],_=>rfl
 | a :: r,k=>by
  show List.idxOf _ ([((a:Nat):Int)] :: keyN r)=_
  rw[List.idxOf_cons,List.idxOf_cons,idxN r k]
  by_cases h:a=k
  ·subst h; simp
  have h1:([((a:Nat):Int)] == [((k:Nat):Int)])=false:=by simp only[jaq,ne_eq,jam,and_true]; omega
  have h2:(a==k)=false:=by simpa using h
  rw[h1,h2]
theorem zpk (d:Day) (ks:List Nat) (k:Nat):D.eqv (lkD (keyN ks) (fun j=>lP (celD d (ks.getD j 0))) [((k:Nat):Int)] .nil) (lP (if ks.contains k=true then celD d k else [])):=by
 unfold lkD
 rw[idxN,kW]
 by_cases h:ks.contains k=true
 ·have hm:k∈ks:=kD.1 h
  have hl:=jaV.2 hm
  rw[kH hl,kH h]
  have:ks.getD (ks.idxOf k) 0=k:=by
   rw[hZ,kF hl]
   exact List.getElem_idxOf hl
  show D.eqv (lP (celD d (ks.getD (ks.idxOf k) 0))) _
  rw[this]
  exact dE _
 have hm:k∉ks:=fun hm=>h (kD.2 hm)
 rw[kG (fun hl=>hm (jaV.1 hl)),kG h]
 rfl
theorem zeQ (d:Day) (ks:List Nat) (set:Nat):Spec PP 56 [lkV d ks,N (set:Int)] [B (fitK d ks set)]:=by
 refine sA Tryz.func56 ?_
 refine⟨⟨kInt,rfl⟩,_,zpk d ks set,?_⟩
 refine r1B rfl ?_
 unfold fitK
 by_cases h:ks.contains set=true
 ·rw[kH h,h,qI]
  exact qO.2 (by omega)
 rw[kG h,qK.2 h]; rfl
def parK (d:Day) (ks:List Nat) (set i:Nat):Bool:=(offS set i==set) || (offS set i==0) || fitK d ks (offS set i)
def partK (d:Day) (ks:List Nat) (set:Nat):Bool:=(List.range (sigL d.R).length).all (parK d ks set)
def groK (d:Day) (ks:List Nat) (set i:Nat):Bool:=(onS set i != set) && fitK d ks (onS set i)
def growK (d:Day) (ks:List Nat) (set:Nat):Bool:=(List.range (sigL d.R).length).any (groK d ks set)
theorem neT {a b:Nat} (h:((a:Int) != (b:Int))=true):¬ a=b:=fun e=>by subst e; simp at h
theorem neF {a b:Nat} (h:((a:Int) != (b:Int))=false):a=b:=by
 have:(a:Int)=b:=by simpa using h
 omega
theorem sig7 {d:Day} (h:DayOk d):(sigL d.R).length<=7:=by rw[zby]; exact h.sg
theorem zlP (d:Day) (ks:List Nat) (set:Nat) (hn:(sigL d.R).length<=7) (hs:set<128):Spec PP 58 [lkV d ks,N (set:Int)] [B (partK d ks set)]:=by
 refine sA Tryz.func58 ?_
 refine lOf (σ:=Nat) (fun i=>([(1,.d (I set)),(2,.box 2 0),(8,.d (lI (sigL d.R))),(9,.d (I (sigL d.R).length)),(10,.d (I i))],[(2,.box ((d.ds ++ [lI (sigL d.R),cmap d ks]).map AV.d))])) (fun i=>i<=(sigL d.R).length /\ ∀ j,j<i->parK d ks set j=true) (fun i=>(sigL d.R).length - i) 0
  ⟨rfl,⟨obD (d.ds ++ [lI (sigL d.R),cmap d ks]) rfl,trivial⟩,wq rfl⟩ z0L fun i hi=>?_
 obtain⟨hi,ha⟩:=hi
 apply bY <;> intro h1
 ·have h1:i<(sigL d.R).length:=by have:=dT h1; omega
  have eo:=bOff hs (show i<7 by omega)
  refine⟨by omega,?_⟩
  have next:parK d ks set i=true -> ∀ j,j<i+1->parK d ks set j=true:=fun e j hj=>by
   by_cases q:j=i
   ·subst q; exact e
   exact ha j (by omega)
  apply bY <;> intro h2
  ·have h2:((offS set i:Int) != set)=true:=by rw[<- eo]; exact h2
   have h2:¬ offS set i=set:=neT h2
   repeat first | apply sT | apply sF
   apply bY <;> intro h3
   ·have h3:((offS set i:Int) != 0)=true:=by rw[<- eo]; exact h3
    have h3:¬ offS set i=0:=neT (b:=0) h3
    repeat first | apply sT | apply sF
    refine fEq [] (zeQ d ks (offS set i)) rfl ⟨zab _,⟨rfl,eo⟩,trivial⟩ rfl ?_
    repeat first | apply sT | apply sF
    have ep:parK d ks set i=fitK d ks (offS set i):=by unfold parK; simp[h2,h3]
    apply bY <;> intro h4
    ·have h4:fitK d ks (offS set i)=false:=by simpa using h4
     refine r1B rfl ?_
     symm
     rw[qK]
     intro hh
     have:=jC.1 hh i (kJ.2 h1)
     rw[ep,h4] at this; cases this
    have h4:fitK d ks (offS set i)=true:=by simpa using h4
    refine⟨i6,?_⟩
    exact⟨i+1,⟨rfl,⟨obD (d.ds ++ [lI (sigL d.R),cmap d ks]) rfl,trivial⟩,wq rfl⟩,⟨h1,next (by rw[ep,h4])⟩,msr h1⟩
   have h3:((offS set i:Int) != 0)=false:=by rw[<- eo]; exact h3
   have h3:offS set i=0:=neF (b:=0) h3
   repeat first | apply sT | apply sF
   refine⟨i6,?_⟩
   exact⟨i+1,⟨rfl,⟨obD (d.ds ++ [lI (sigL d.R),cmap d ks]) rfl,trivial⟩,wq rfl⟩,⟨h1,next (by unfold parK; simp[h3])⟩,msr h1⟩
  have h2:((offS set i:Int) != set)=false:=by rw[<- eo]; exact h2
  have h2:offS set i=set:=neF h2
  repeat first | apply sT | apply sF
  refine⟨i6,?_⟩
  exact⟨i+1,⟨rfl,⟨obD (d.ds ++ [lI (sigL d.R),cmap d ks]) rfl,trivial⟩,wq rfl⟩,⟨h1,next (by unfold parK; simp[h2])⟩,msr h1⟩
 have h1:i=(sigL d.R).length:=by have:=dF h1; omega
 subst h1
 refine r1B rfl ?_
 exact (jC.2 fun j hj=>ha j (kJ.1 hj)).symm
theorem zq0 (d:Day) (ks:List Nat) (set:Nat) (hn:(sigL d.R).length<=7) (hs:set<128):Spec PP 57 [lkV d ks,N (set:Int)] [B (growK d ks set)]:=by
 refine sA Tryz.func57 ?_
 refine lOf (σ:=Nat) (fun i=>([(1,.d (I set)),(2,.box 2 0),(8,.d (lI (sigL d.R))),(9,.d (I (sigL d.R).length)),(10,.d (I i))],[(2,.box ((d.ds ++ [lI (sigL d.R),cmap d ks]).map AV.d))])) (fun i=>i<=(sigL d.R).length /\ ∀ j,j<i->groK d ks set j=false) (fun i=>(sigL d.R).length - i) 0
  ⟨rfl,⟨obD (d.ds ++ [lI (sigL d.R),cmap d ks]) rfl,trivial⟩,wq rfl⟩ z0L fun i hi=>?_
 obtain⟨hi,ha⟩:=hi
 apply bY <;> intro h1
 ·have h1:i<(sigL d.R).length:=by have:=dT h1; omega
  have eo:=bOn hs (show i<7 by omega)
  refine⟨by omega,?_⟩
  have next:groK d ks set i=false -> ∀ j,j<i+1->groK d ks set j=false:=fun e j hj=>by
   by_cases q:j=i
   ·subst q; exact e
   exact ha j (by omega)
  apply bY <;> intro h2
  ·have h2:((onS set i:Int) != set)=true:=by rw[<- eo]; exact h2
   have h2:¬ onS set i=set:=neT h2
   refine fEq [] (zeQ d ks (onS set i)) rfl ⟨zab _,⟨rfl,eo⟩,trivial⟩ rfl ?_
   repeat first | apply sT | apply sF
   have ep:groK d ks set i=fitK d ks (onS set i):=by unfold groK; simp[h2]
   apply bY <;> intro h4
   ·have h4:fitK d ks (onS set i)=true:=h4
    refine r1B rfl ?_
    exact (kL.2 ⟨i,kJ.2 h1,by rw[ep,h4]⟩).symm
   have h4:fitK d ks (onS set i)=false:=h4
   refine⟨i6,?_⟩
   exact⟨i+1,⟨rfl,⟨obD (d.ds ++ [lI (sigL d.R),cmap d ks]) rfl,trivial⟩,wq rfl⟩,⟨h1,next (by rw[ep,h4])⟩,msr h1⟩
  have h2:((onS set i:Int) != set)=false:=by rw[<- eo]; exact h2
  have h2:onS set i=set:=neF h2
  repeat first | apply sT | apply sF
  refine⟨i6,?_⟩
  exact⟨i+1,⟨rfl,⟨obD (d.ds ++ [lI (sigL d.R),cmap d ks]) rfl,trivial⟩,wq rfl⟩,⟨h1,next (by unfold groK; simp[h2])⟩,msr h1⟩
 have h1:i=(sigL d.R).length:=by have:=dF h1; omega
 subst h1
 refine r1B rfl ?_
 symm
 rw[qK]
 intro hh
 obtain⟨j,hj,e⟩:=kL.1 hh
 rw[ha j (kJ.1 hj)] at e; cases e
def keysD (d:Day):Nat->List Nat
 | 0=>[]
 | m+1=>if m≠0/\partK d (keysD d m) m=true then keysD d m ++ [m] else keysD d m
theorem zdA (d:Day):∀ (m:Nat),∀ k∈keysD d m,0<k/\k<m
 | 0,k,h=>by cases h
 | m+1,k,h=>by
  unfold keysD at h
  split at h
  ·rename_i hm
   rcases kN.1 h with h | h
   ·have:=zdA d m k h; omega
   obtain rfl:=kI.1 h; omega
  have:=zdA d m k h; omega
theorem zqt {d:Day} {ks:List Nat} {m:Nat} (h:m∉ks):D.eqv (.mp 1 (putK (keyN ks) [((m:Nat):Int)]) (putF (keyN ks) (fun j=>lP (celD d (ks.getD j 0))) [((m:Nat):Int)] (lP (celD d m)))) (cmap d (ks ++ [m])):=by
 have hi:(keyN ks).idxOf [((m:Nat):Int)]=ks.length:=by rw[idxN]; exact List.idxOf_eq_length h
 have hn:¬ (keyN ks).idxOf [((m:Nat):Int)]<(keyN ks).length:=by rw[hi,kW]; exact Nat.lt_irrefl _
 refine⟨rfl,?_,fun j hj=>?_⟩
 ·unfold putK
  rw[kG hn]
  show keyN ks++_=keyN (ks ++ [m])
  rw[keyN,keyN,jT]; rfl
 unfold putF
 rw[hi]
 by_cases e:j=ks.length
 ·subst e
  rw[kH rfl]
  show D.eqv _ (lP (celD d ((ks ++ [m]).getD ks.length 0)))
  rw[hZ,jK (jE _),kE]
  exact dE _
 have hj:j<ks.length:=by
  unfold putK at hj
  rw[kG hn,jR,kW] at hj
  simp at hj; omega
 rw[kG e]
 show D.eqv (lP (celD d (ks.getD j 0))) (lP (celD d ((ks ++ [m]).getD j 0)))
 rw[hZ,hZ,jJ hj]
 exact dE _
theorem zjt {s:St} {ob:Nat->Option Ob}:∀ (cs:List AV),avles s ob cs (List.replicate cs.length .any)
 | []=>trivial
 | _ :: r=>⟨by unfold AVle; trivial,zjt r⟩
theorem zbK {s:St} {ob:Nat->Option Ob} {cs:List AV} {n:Nat} {o:Option Ob} (h:o=some (.box cs)) (hn:cs.length=n):Oble s ob o (.box (List.replicate n .any)):=by
 subst h; subst hn; exact zjt cs
abbrev lkA (d:Day):List AV:=d.ds.map AV.d ++ [.d (lI (sigL d.R)),.own 8]
theorem zpr {d:Day} (h:DayOk d):Spec PP 54 [d.v] [lkV d (keysD d (2 ^ (sigL d.R).length))]:=by
 have hn:=h.n
 have h7:=sig7 h
 refine zck [7] Tryz.func54 rfl (by kernel_rfl) rfl ?_
 refine oL [0,1,2,2003,4,5,6] (fNo ?_)
 refine oRo (zaO d (by omega)) rfl rfl ?_
 refine⟨rfl,?_⟩
 refine lOf (σ:=Nat) (fun m=>([(1,.box 1 0),(2,.box 2 0),(3,.box 3 0),(4,.d (I m))],[(1,.box (d.ds.map AV.d)),(2,.box (List.replicate 12 .any)),(3,.box (lkA d)),(8,.mp 1 (keyN (keysD d m)) fun j=>lP (celD d ((keysD d m).getD j 0)))])) (fun m=>1<=m/\m<=2 ^ (sigL d.R).length) (fun m=>2 ^ (sigL d.R).length - m) 1
  ⟨rfl,⟨obD d.ds rfl,zbK rfl rfl,obX rfl,obMp rfl ⟨rfl,rfl,fun j hj=>absurd hj (qD _)⟩,trivial⟩,avQ rfl,avQ rfl,avQ rfl,avQ rfl,trivial⟩ ⟨jE _,Nat.one_le_two_pow⟩ fun m hm=>?_
 obtain⟨hm,hm2⟩:=hm
 have hp:2 ^ (sigL d.R).length<=2 ^ 7:=ja7 (by decide) h7
 have es:=bShl h7
 refine⟨by omega,?_⟩
 apply bY <;> intro h1
 ·have h1:m<2 ^ (sigL d.R).length:=by
   have h1:(m:Int)<((2 ^ (sigL d.R).length:Nat):Int):=by rw[<- es]; exact dT h1
   omega
  refine cP (zlP d (keysD d m) m h7 (by omega)) rfl rfl ?_
  apply bY <;> intro h2
  ·have h2:partK d (keysD d m) m=true:=h2
   have e:keysD d (m+1)=keysD d m ++ [m]:=by rw[keysD,kH ⟨by omega,h2⟩]
   refine oN 10 ?_
   refine oRo (zgC (sigL d.R) m h7 (by omega)) rfl rfl ?_
   refine oRo (zdB h (memb (sigL d.R) m) (jM (zcx _ _ _) (by omega))) rfl rfl ?_
   refine⟨⟨kInt,rfl⟩,?_⟩
   refine⟨i6,?_⟩
   refine⟨m+1,⟨rfl,⟨obD d.ds rfl,zbK rfl rfl,obX rfl,obMp rfl ?_,trivial⟩,wq rfl⟩,⟨by omega,h1⟩,(show 2 ^ (sigL d.R).length - (m+1)<2 ^ (sigL d.R).length - m by omega)⟩
   rw[e]
   exact zqt fun hm=>by have:=zdA d m m hm; omega
  have h2:partK d (keysD d m) m=false:=h2
  have e:keysD d (m+1)=keysD d m:=by rw[keysD,kG fun hh=>by rw[h2] at hh; cases hh.2]
  refine⟨i6,?_⟩
  refine⟨m+1,⟨rfl,⟨obD d.ds rfl,zbK rfl rfl,obX rfl,obMp rfl ?_,trivial⟩,wq rfl⟩,⟨by omega,h1⟩,(show 2 ^ (sigL d.R).length - (m+1)<2 ^ (sigL d.R).length - m by omega)⟩
  rw[e]
  exact dE _
 have h1:m=2 ^ (sigL d.R).length:=by
  have h1:¬ (m:Int)<((2 ^ (sigL d.R).length:Nat):Int):=by rw[<- es]; exact dF h1
  omega
 subst h1
 refine kAt [(2,.box 2 0),(3,.box 3 0)] [(2,.box (List.replicate 12 .any)),(3,.box ((d.ds ++ [lI (sigL d.R),cmap d (keysD d (2 ^ (sigL d.R).length))]).map AV.d))]
  ⟨rfl,⟨zbK rfl rfl,⟨dE _,dE _,dE _,dE _,dE _,dE _,dE _,dE _,dE _,dE _,dE _,⟨rfl,_,_,_,rfl,dE _⟩,trivial⟩,trivial⟩,wq rfl⟩ ?_
 exact⟨rtC (a:=2) rfl rfl rfl rfl rfl rfl (zab _),trivial⟩
abbrev ksD (d:Day):List Nat:=keysD d (2 ^ (sigL d.R).length)
theorem ordC (a b:Int):(ord a b = -1/\a<b) \/ (ord a b=1/\b<a) \/ (ord a b=0/\a=b):=by
 unfold ord
 by_cases h1:a<b
 ·exact .inl ⟨kH h1,h1⟩
 by_cases h2:b<a
 ·exact .inr (.inl ⟨by rw[kG h1,kH h2],h2⟩)
 exact .inr (.inr ⟨by rw[kG h1,kG h2],by omega⟩)
def cmpL:List Int->List Int->Int
 | [],[]=>0
 | [],_ :: _=>-1
 | _ :: _,[]=>1
 | a :: r,b :: q=>if ord a b≠0 then ord a b else cmpL r q
theorem zgW:∀ a,cmpL a a=0
 | []=>rfl
 | a :: r=>by
  have:ord a a=0:=by rcases ordC a a with⟨_,h⟩ | ⟨_,h⟩ | ⟨h,_⟩ <;> omega
  rw[cmpL,kG (by rw[this]; simp),zgW r]
theorem cmpL_cases:∀ a b,(cmpL a b = -1/\cmpL b a=1) \/ (cmpL a b=1/\cmpL b a = -1) \/ (cmpL a b=0/\a=b)
 | [],[]=>.inr (.inr ⟨rfl,rfl⟩)
 | [],_ :: _=>.inl ⟨rfl,rfl⟩
 | _ :: _,[]=>.inr (.inl ⟨rfl,rfl⟩)
 | a :: r,b :: q=>by
  unfold cmpL
  rcases ordC a b with⟨e,h⟩ | ⟨e,h⟩ | ⟨e,h⟩ <;> rcases ordC b a with⟨e',h'⟩ | ⟨e',h'⟩ | ⟨e',h'⟩ <;> first | omega | skip
  subst h
  rw[kG (by rw[e]; simp),kG (by rw[e]; simp)]
  rcases cmpL_cases r q with h | h | ⟨h,e⟩
  ·exact .inl h
  ·exact .inr (.inl h)
  exact .inr (.inr ⟨h,by rw[e]⟩)
theorem zcZ:∀ a b c,cmpL a b = -1->cmpL b c = -1->cmpL a c = -1
 | [],[],_,h,_=>by cases h
 | [],_ :: _,[],_,h=>by cases h
 | [],_ :: _,_ :: _,_,_=>rfl
 | _ :: _,[],_,h,_=>by cases h
 | _ :: _,_ :: _,[],_,h=>by cases h
 | a :: r,b :: q,c :: p,h1,h2=>by
  unfold cmpL at h1 h2 ⊢
  rcases ordC a b with⟨e,h⟩ | ⟨e,h⟩ | ⟨e,h⟩ <;> rcases ordC b c with⟨e',h'⟩ | ⟨e',h'⟩ | ⟨e',h'⟩ <;> rcases ordC a c with⟨e2,h3⟩ | ⟨e2,h3⟩ | ⟨e2,h3⟩ <;> first | omega | skip
  all_goals rw[e] at h1; rw[e'] at h2; rw[e2]
  all_goals first | rfl | (simp at h1; done) | (simp at h2; done) | skip
  simp only[ne_eq,jaT,jaz] at h1 h2 ⊢
  exact zcZ r q p h1 h2
theorem swoL {α:Type} (key:α->List Int):SWO (ltOf fun x y:α=>cmpL (key x) (key y)):=by
 have lt:∀ x y:α,ltOf (fun x y:α=>cmpL (key x) (key y)) x y=decide (cmpL (key x) (key y)<0):=fun _ _=>rfl
 have iff:∀ a b,cmpL a b<0 ↔ cmpL a b = -1:=fun a b=>by rcases cmpL_cases a b with⟨h,_⟩ | ⟨h,_⟩ | ⟨h,_⟩ <;> omega
 refine⟨fun x=>?_,fun x y z h1 h2=>?_,fun x y z h1 h2=>?_⟩
 ·rw[lt,zgW]; rfl
 ·rw[lt,kA,iff] at *
  exact zcZ _ _ _ h1 h2
 rw[lt,jaY,iff] at *
 intro h3
 rcases cmpL_cases (key x) (key y) with⟨h,_⟩ | ⟨_,h⟩ | ⟨_,h⟩
 ·exact h1 h
 ·exact h2 (zcZ _ _ _ h h3)
 rw[h] at h3; exact h2 h3
theorem zgX {a b:List Int} (h1:decide (cmpL a b<0)=false) (h2:decide (cmpL b a<0)=false):a=b:=by
 rw[jaY] at h1 h2
 rcases cmpL_cases a b with⟨h,_⟩ | ⟨_,h⟩ | ⟨_,h⟩
 ·omega
 ·omega
 exact h
theorem zth (a b:List Int) (ha:a.length<=1000000) (hb:b.length<=1000000):SpecD PP 104 [.d (lI a),.d (lI b)] [N (cmpL a b)]:=by
 refine zbx Tryz.func104 rfl (by kernel_rfl) rfl ?_
 refine lOf (σ:=Nat) (fun i=>([(0,.d (lI a)),(1,.d (lI b)),(9,.d (lI a)),(10,.d (I a.length)),(11,.d (I i))],[])) (fun i=>i<=a.length/\i<=b.length/\cmpL (a.drop i) (b.drop i)=cmpL a b) (fun i=>a.length - i) 0
  ⟨rfl,trivial,wq rfl⟩ ⟨jF _,jF _,rfl⟩ fun i hi=>?_
 obtain⟨hi,hj,he⟩:=hi
 apply bY <;> intro h1
 ·have h1:i<a.length:=by have:=dT h1; omega
  have da:a.drop i=a.getD i 0 :: a.drop (i+1):=by rw[qE h1,hZ,kF h1]; rfl
  refine⟨⟨rfl,by omega,by omega⟩,?_⟩
  apply bY <;> intro h2
  ·have h2:b.length<=i:=by have:(b.length:Int)<=i:=dT h2; omega
   have db:b.drop i=[]:=List.drop_eq_nil_iff.2 h2
   rw[da,db] at he
   exact r1I rfl he
  have h2:i<b.length:=by have:¬ (b.length:Int)<=i:=dF h2; omega
  have db:b.drop i=b.getD i 0 :: b.drop (i+1):=by rw[qE h2,hZ,kF h2]; rfl
  refine⟨⟨rfl,by omega,by omega⟩,?_⟩
  refine cP (zti (a.getD i 0) (b.getD i 0)) rfl rfl ?_
  rw[da,db,cmpL] at he
  apply bY <;> intro h3
  ·have h3:ord (a.getD i 0) (b.getD i 0)≠0:=by simpa using h3
   rw[kH h3] at he
   exact r1I rfl he
  have h3:ord (a.getD i 0) (b.getD i 0)=0:=by simpa using h3
  rw[kG (by rw[h3]; simp)] at he
  refine⟨i6,?_⟩
  exact⟨i+1,⟨rfl,trivial,wq rfl⟩,⟨h1,h2,he⟩,msr h1⟩
 have h1:i=a.length:=by have:=dF h1; omega
 subst h1
 rw[jba] at he
 apply bY <;> intro h2
 ·have h2:a.length<b.length:=by have:(a.length:Int)<b.length:=dT h2; omega
  have db:b.drop a.length=b.getD a.length 0 :: b.drop (a.length+1):=by rw[qE h2,hZ,kF h2]; rfl
  rw[db] at he
  exact r1I rfl he
 have h2:b.length<=a.length:=by have:¬ (a.length:Int)<b.length:=dF h2; omega
 rw[List.drop_eq_nil_iff.2 h2] at he
 exact r1I rfl he
theorem zpy (a b:List Int) (ha:a.length<=1000000) (hb:b.length<=1000000):SpecD PP 65 [.d (lI a),.d (lI b)] [N (cmpL a b)]:=by
 refine zbx Tryz.func65 rfl (by kernel_rfl) rfl ?_
 refine cP (zth a b ha hb) rfl rfl ?_
 exact r1I rfl rfl
structure Fit where
  IDs:List Int
  At:Place
  deriving Inhabited
structure Mis where
  IDs:List Int
  R:List Rsn
  deriving Inhabited
def Fit.at (x:Fit):Nat->D
 | 0=>lI x.IDs
 | 1=>I x.At.X
 | _=>I x.At.Y
def Mis.at (x:Mis):Nat->D
 | 0=>lI x.IDs
 | _=>lRs x.R
abbrev Fit.v (x:Fit):V1:=.agg [lI x.IDs,I x.At.X,I x.At.Y]
abbrev Mis.v (x:Mis):V1:=.agg [lI x.IDs,lRs x.R]
abbrev lFt (l:List Fit):D:=.slc 3 l.length fun i=>(l.getD i default).at
abbrev lMs (l:List Mis):D:=.slc 2 l.length fun i=>(l.getD i default).at
def FtD:Dats Fit 3 where
  lst x:=[lI x.IDs,I x.At.X,I x.At.Y]
  len _:=rfl
  at_ x:=x.at
  hat x j hj:=by
    match j,hj with
    | 0,_=>rfl
    | 1,_=>rfl
    | 2,_=>rfl
def MsD:Dats Mis 2 where
  lst x:=[lI x.IDs,lRs x.R]
  len _:=rfl
  at_ x:=x.at
  hat x j hj:=by
    match j,hj with
    | 0,_=>rfl
    | 1,_=>rfl
theorem zn4 (x y:Fit) (hx:x.IDs.length<=1000000) (hy:y.IDs.length<=1000000):SpecD PP 64 [x.v,y.v] [N (cmpL x.IDs y.IDs)]:=by
 refine zbx Tryz.func64 rfl (by kernel_rfl) rfl ?_
 refine cP (zpy x.IDs y.IDs hx hy) rfl rfl ?_
 exact r1I rfl rfl
theorem zn3 (x y:Mis) (hx:x.IDs.length<=1000000) (hy:y.IDs.length<=1000000):SpecD PP 67 [x.v,y.v] [N (cmpL x.IDs y.IDs)]:=by
 refine zbx Tryz.func67 rfl (by kernel_rfl) rfl ?_
 refine cP (zpy x.IDs y.IDs hx hy) rfl rfl ?_
 exact r1I rfl rfl
def srtF (l:List Fit):List Fit:=l.mergeSort fun x y=>!decide (cmpL y.IDs x.IDs<0)
def srtM (l:List Mis):List Mis:=l.mergeSort fun x y=>!decide (cmpL y.IDs x.IDs<0)
theorem aggFt:∀ w,(isAgg (Tryz.sortFt_ren.t 24)).run PP w = .ok true w:=fun _=>by kernel_rfl
theorem sizFt:∀ w,(Go.sizeOf (Tryz.sortFt_ren.t 24)).run PP w = .ok 3 w:=fun _=>by kernel_rfl
theorem aggMs:∀ w,(isAgg (Tryz.sortMf_ren.t 24)).run PP w = .ok true w:=fun _=>by kernel_rfl
theorem sizMs:∀ w,(Go.sizeOf (Tryz.sortMf_ren.t 24)).run PP w = .ok 2 w:=fun _=>by kernel_rfl
theorem znp (L:List Fit) (hn:L.length<=1000000) (hd:∀ i j,i<L.length->j<L.length->(L.getD i default).IDs=(L.getD j default).IDs->i=j) (hl:∀ x∈L,x.IDs.length<=1000000) :
  SpecW PP 63 [] [.d (.fn 64)] 130 3 L.length (FtD.row L) (FtD.row (srtF L)) []:=
 zeA Tryz.sortFt ⟨_,Tryz.func63,by kernel_rfl,by kernel_rfl⟩ aggFt sizFt FtD L (fun x y=>cmpL x.IDs y.IDs) (swoL Fit.IDs) (fun i j hi hj h1 h2=>hd i j hi hj (zgX h1 h2)) 64 (fun x hx y hy=>zn4 x y (hl x hx) (hl y hy)) 130 hn
theorem zno (L:List Mis) (hn:L.length<=1000000) (hd:∀ i j,i<L.length->j<L.length->(L.getD i default).IDs=(L.getD j default).IDs->i=j) (hl:∀ x∈L,x.IDs.length<=1000000) :
  SpecW PP 66 [] [.d (.fn 67)] 132 2 L.length (MsD.row L) (MsD.row (srtM L)) []:=
 zeA Tryz.sortMf ⟨_,Tryz.func66,by kernel_rfl,by kernel_rfl⟩ aggMs sizMs MsD L (fun x y=>cmpL x.IDs y.IDs) (swoL Mis.IDs) (fun i j hi hj h1 h2=>hd i j hi hj (zgX h1 h2)) 67 (fun x hx y hy=>zn3 x y (hl x hx) (hl y hy)) 132 hn
def misR (d:Day) (ids:List Int):List Rsn:=if (brnD d ids).To - (brnD d ids).From<=d.Long then (rsnR d.s (brnD d ids) (lstD d ids)).1 else []
def greB (d:Day) (ks:List Nat) (m:Nat):Bool:=fitK d ks m && !growK d ks m
def leaB (d:Day) (ks:List Nat) (m:Nat):Bool:=!fitK d ks m && partK d ks m
abbrev fitF (d:Day) (m:Nat):Fit:=⟨memb (sigL d.R) m,(celD d m).getD 0 default⟩
abbrev misF (d:Day) (m:Nat):Mis:=⟨memb (sigL d.R) m,misR d (memb (sigL d.R) m)⟩
def tabA {α:Type} (p:Nat->Bool) (f:Nat->α):Nat->List α
 | 0=>[]
 | m+1=>if m≠0/\p m=true then tabA p f m ++ [f m] else tabA p f m
theorem ze9 {α:Type} {p:Nat->Bool} {f:Nat->α} {m:Nat} (h0:1<=m) (h:p m=true):tabA p f (m+1)=tabA p f m ++ [f m]:=by rw[tabA,kH ⟨by omega,h⟩]
theorem zb7 {α:Type} {p:Nat->Bool} {f:Nat->α} {m:Nat} (h:p m=false):tabA p f (m+1)=tabA p f m:=by rw[tabA,kG fun hh=>by rw[h] at hh; cases hh.2]
theorem zfa {α:Type} (p:Nat->Bool) (f:Nat->α):∀ m,(tabA p f m).length<=m
 | 0=>jE _
 | m+1=>by
  have:=zfa p f m
  unfold tabA
  split
  ·rw[jR]; simp; omega
  omega
theorem zbY {α:Type} {p:Nat->Bool} {f:Nat->α}:∀ {m:Nat} {x:α},x∈tabA p f m -> ∃ k,0<k/\k<m/\p k=true/\x=f k
 | 0,x,h=>by cases h
 | m+1,x,h=>by
  unfold tabA at h
  split at h
  ·rename_i hm
   rcases kN.1 h with h | h
   ·obtain⟨k,h1,h2,h3⟩:=zbY h; exact⟨k,h1,by omega,h3⟩
   exact⟨m,by omega,by omega,hm.2,kI.1 h⟩
  obtain⟨k,h1,h2,h3⟩:=zbY h; exact⟨k,h1,by omega,h3⟩
theorem zci {α:Type} (p:Nat->Bool) (f:Nat->α):∀ m,tabA p f m=(tabA p id m).map f
 | 0=>rfl
 | m+1=>by
  unfold tabA
  split
  ·rw[zci p f m,jT]; rfl
  exact zci p f m
theorem zcM {p:Nat->Bool}:∀ m,(tabA p id m).Nodup
 | 0=>jaf
 | m+1=>by
  unfold tabA
  split
  ·refine jas.2 ⟨zcM m,by simp,fun a ha b hb=>?_⟩
   obtain⟨k,_,h2,_,h3⟩:=zbY ha
   simp at hb; subst hb; simp at h3; omega
  exact zcM m
theorem pushF {l:List Fit} {x:Fit} {g:Nat->Nat->D} (hg:∀ j,j<3->D.eqv (g 0 j) (x.at j)):D.eqv (.slc 3 (l.length+1) (appRow l.length (FtD.row l) g)) (.slc 3 (l ++ [x]).length (FtD.row (l ++ [x]))):=by
 refine⟨by simp,.inr ⟨rfl,fun i hi j hj=>?_⟩⟩
 show D.eqv (appRow l.length (FtD.row l) g i j) (((l ++ [x]).getD i default).at j)
 unfold appRow
 by_cases h:i<l.length
 ·rw[kH h,hZ,jJ h,<- hZ]
  exact dE _
 have e:i=l.length:=by omega
 subst e
 rw[kG h,kE,hZ,jK (jE _),kE]
 exact hg j hj
theorem zso {l:List Mis} {x:Mis} {g:Nat->Nat->D} (hg:∀ j,j<2->D.eqv (g 0 j) (x.at j)):D.eqv (.slc 2 (l.length+1) (appRow l.length (MsD.row l) g)) (.slc 2 (l ++ [x]).length (MsD.row (l ++ [x]))):=by
 refine⟨by simp,.inr ⟨rfl,fun i hi j hj=>?_⟩⟩
 show D.eqv (appRow l.length (MsD.row l) g i j) (((l ++ [x]).getD i default).at j)
 unfold appRow
 by_cases h:i<l.length
 ·rw[kH h,hZ,jJ h,<- hZ]
  exact dE _
 have e:i=l.length:=by omega
 subst e
 rw[kG h,kE,hZ,jK (jE _),kE]
 exact hg j hj
theorem zlp {α:Type} {l:List α} (h:l.Nodup) {i j:Nat} (hi:i<l.length) (hj:j<l.length) (e:l[i]=l[j]):i=j:=by
 have h:=kM.1 h
 rcases jbC i j with g | g | g
 ·exact absurd e (h i j hi hj g)
 ·exact g
 exact absurd e.symm (h j i hj hi g)
theorem zcv {ids:List Int} (hd:ids.Nodup) {m i:Nat} (hi:i<ids.length):ids.getD i 0∈memb ids m ↔ m.testBit i=true:=by
 unfold memb membA
 rw[kK]
 constructor
 ·rintro⟨j,hj,e⟩
  rw[kX,kJ] at hj
  rw[hZ,hZ,kF hj.1,kF hi] at e
  have:j=i:=zlp hd hj.1 hi e
  subst this; exact hj.2
 intro h
 exact⟨i,kX.2 ⟨kJ.2 hi,h⟩,rfl⟩
theorem znO {ids:List Int} (hd:ids.Nodup) {m k:Nat} (hm:m<2 ^ ids.length) (hk:k<2 ^ ids.length) (h:memb ids m=memb ids k):m=k:=by
 apply ja8
 intro i
 by_cases hi:i<ids.length
 ·rw[kR,<- zcv hd hi,<- zcv hd hi,h]
 have h2:2 ^ ids.length<=2 ^ i:=ja7 (by decide) (by omega)
 rw[ja2 (by omega),ja2 (by omega)]
theorem DayOk.nodR {d:Day} (h:DayOk d):(d.R.map Rpt.ID).Nodup:=by
 have:∀ i,i<=d.R.length->((d.R.take i).map Rpt.ID).Nodup:=by
  intro i
  induction i with
  | zero=>intro _; simp
  | succ i ih=>
  intro hi
  rw[zav (by omega) default,jT]
  refine jas.2 ⟨ih (by omega),by simp,fun a ha b hb=>?_⟩
  have:=h.tw i (by omega)
  rw[jay] at this
  obtain⟨x,hx,rfl⟩:=kK.1 ha
  have h1:=this x hx
  simp at hb h1
  rw[hb]; exact h1
 have:=this d.R.length (jE _)
 rwa [jZ] at this
theorem DayOk.nod {d:Day} (h:DayOk d):(sigL d.R).Nodup:=by
 unfold sigL
 refine (wD _ _).nodup_iff.2 ?_
 unfold sigK
 exact List.Nodup.sublist (List.Sublist.map _ (jbs ..)) h.nodR
theorem zij {α:Type} [Inhabited α] {d:Day} (h:DayOk d) (key:α->List Int) (p:Nat->Bool) (f:Nat->α) (hk:∀ m,key (f m)=memb (sigL d.R) m) {n:Nat} (hn:n<=2 ^ (sigL d.R).length) :
  ∀ i j,i<(tabA p f n).length->j<(tabA p f n).length->key ((tabA p f n).getD i default)=key ((tabA p f n).getD j default)->i=j:=by
 intro i j hi hj e
 have hl:(tabA p f n).length=(tabA p id n).length:=by rw[zci p f,kW]
 have g:∀ i,i<(tabA p f n).length -> ∃ hi:i<(tabA p id n).length,(tabA p f n).getD i default=f (tabA p id n)[i]:=fun i hi=>by
  have hi':i<(tabA p id n).length:=by rw[<- hl]; exact hi
  refine⟨hi',?_⟩
  rw[hZ,zci p f,jU,kF hi']; rfl
 obtain⟨hi',e1⟩:=g i hi
 obtain⟨hj',e2⟩:=g j hj
 rw[e1,e2,hk,hk] at e
 have lt:∀ i,∀ hi:i<(tabA p id n).length,(tabA p id n)[i]<2 ^ (sigL d.R).length:=fun i hi=>by
  obtain⟨k,_,h2,_,h3⟩:=zbY (kS hi)
  rw[h3]; simp; omega
 have:=znO h.nod (lt i hi') (lt j hj') e
 exact zlp (zcM n) hi' hj' this
def tabR (d:Day):List Fit × List Mis × Int:=
 if dayE d≠0 then ([],[],dayE d) else (srtF (tabA (greB d (ksD d)) (fitF d) (2 ^ (sigL d.R).length)),srtM (tabA (leaB d (ksD d)) (misF d) (2 ^ (sigL d.R).length)),0)
theorem zq1 (d:Day) (hn:d.R.length<=1000000):Spec PP 27 [d.v] [.agg [lFt (tabR d).1,lMs (tabR d).2.1],.d (.int .i64 (tabR d).2.2)]:=by
 refine zck [20] Tryz.func27 rfl (by kernel_rfl) rfl ?_
 refine cP (zcd d hn) rfl rfl ?_
 apply bY <;> intro h0
 ·have e:tabR d=([],[],dayE d):=by unfold tabR; rw[kH (by simpa using h0)]
  rw[e]
  exact⟨rtC (a:=2) rfl rfl rfl rfl rfl rfl ⟨rfl,rfl,trivial⟩,rtI rfl rfl,trivial⟩
 have h0:dayE d=0:=by simpa using h0
 have h:=za5 h0
 have hn:=h.n
 have h7:=sig7 h
 have e:tabR d=(srtF (tabA (greB d (ksD d)) (fitF d) (2 ^ (sigL d.R).length)),srtM (tabA (leaB d (ksD d)) (misF d) (2 ^ (sigL d.R).length)),0):=by unfold tabR; rw[kG (fun hh=>hh h0)]
 rw[e]
 refine cR (zpr h) rfl rfl ?_
 have hp:2 ^ (sigL d.R).length<=2 ^ 7:=ja7 (by decide) h7
 refine lOf (σ:=Nat) (fun m=>([(1,.box 1 0),(2,.box 2 0),(5,.box 5 0),(6,.box 6 0),(7,.d (I m))],[(1,.box (d.ds.map AV.d)),(2,.box (List.replicate 2 .any)),(5,.box ((d.ds ++ [lI (sigL d.R),cmap d (ksD d)]).map AV.d)),(6,.box [.own 52,.own 87]),
   (52,.row 130 3 (tabA (greB d (ksD d)) (fitF d) m).length (FtD.row (tabA (greB d (ksD d)) (fitF d) m))),(87,.row 132 2 (tabA (leaB d (ksD d)) (misF d) m).length (MsD.row (tabA (leaB d (ksD d)) (misF d) m)))]))
  (fun m=>1<=m/\m<=2 ^ (sigL d.R).length) (fun m=>2 ^ (sigL d.R).length - m) 1
  ⟨rfl,⟨obD d.ds rfl,zbK rfl rfl,obD (d.ds ++ [lI (sigL d.R),cmap d (ksD d)]) rfl,⟨⟨rfl,_,_,_,rfl⟩,⟨rfl,_,_,_,rfl⟩,trivial⟩,rfl,rfl,trivial⟩,wq rfl⟩ ⟨jE _,Nat.one_le_two_pow⟩ fun m hm=>?_
 obtain⟨hm,hm2⟩:=hm
 have es:=bShl h7
 have l1:=zfa (greB d (ksD d)) (fitF d) m
 have l2:=zfa (leaB d (ksD d)) (misF d) m
 have hi:(memb (sigL d.R) m).length<=1000000:=jM (zcx _ _ _) (by omega)
 refine⟨by omega,?_⟩
 apply bY <;> intro h1
 ·have h1:m<2 ^ (sigL d.R).length:=by
   have h1:(m:Int)<((2 ^ (sigL d.R).length:Nat):Int):=by rw[<- es]; exact dT h1
   omega
  have hms:2 ^ (sigL d.R).length - (m+1)<2 ^ (sigL d.R).length - m:=by omega
  refine cR (zgC (sigL d.R) m h7 (by omega)) rfl rfl ?_
  refine cP (zeQ d (ksD d) m) rfl rfl ?_
  apply bY <;> intro h2
  ·have h2:fitK d (ksD d) m=true:=h2
   have e2:leaB d (ksD d) m=false:=by unfold leaB; rw[h2]; rfl
   refine cP (zq0 d (ksD d) m h7 (by omega)) rfl rfl ?_
   repeat first | apply sT | apply sF
   apply bY <;> intro h3
   ·have h3:growK d (ksD d) m=false:=by simpa using h3
    have e1:greB d (ksD d) m=true:=by unfold greB; rw[h2,h3]; rfl
    have hf:(ksD d).contains m=true/\0<(celD d m).length:=by unfold fitK at h2; simpa using h2
    refine oN 14 ?_
    refine⟨⟨kInt,rfl⟩,lP (celD d m),?_,?_⟩
    ·have:=zpk d (ksD d) m
     rw[kH hf.1] at this
     exact this
    refine⟨⟨rfl,by omega,by omega⟩,?_⟩
    refine⟨⟨.inr rfl,by unfold maxLen; omega,by show ((tabA (greB d (ksD d)) (fitF d) m).length+1) * 40<=140737488355328; omega⟩,?_⟩
    refine⟨i6,?_⟩
    refine⟨m+1,⟨rfl,⟨obD d.ds rfl,zbK rfl rfl,obD (d.ds ++ [lI (sigL d.R),cmap d (ksD d)]) rfl,obX rfl,obR rfl ?_,obR rfl ?_,trivial⟩,wq rfl⟩,⟨by omega,h1⟩,hms⟩
    ·rw[ze9 hm e1]
     refine pushF fun j hj=>?_
     match j,hj with
     | 0,_=>exact dE _
     | 1,_=>exact dE _
     | 2,_=>exact dE _
    rw[zb7 e2]; exact dE _
   have h3:growK d (ksD d) m=true:=by simpa using h3
   have e1:greB d (ksD d) m=false:=by unfold greB; rw[h2,h3]; rfl
   refine cP (zeQ d (ksD d) m) rfl rfl ?_
   refine sNo (by rw[h2]; rfl) ?_
   repeat first | apply sT | apply sF
   refine⟨i6,?_⟩
   refine⟨m+1,⟨rfl,⟨obD d.ds rfl,zbK rfl rfl,obD (d.ds ++ [lI (sigL d.R),cmap d (ksD d)]) rfl,obX rfl,obR rfl ?_,obR rfl ?_,trivial⟩,wq rfl⟩,⟨by omega,h1⟩,hms⟩
   ·rw[zb7 e1]; exact dE _
   rw[zb7 e2]; exact dE _
  have h2:fitK d (ksD d) m=false:=h2
  have e1:greB d (ksD d) m=false:=by unfold greB; rw[h2]; rfl
  repeat first | apply sT | apply sF
  refine cP (zeQ d (ksD d) m) rfl rfl ?_
  refine sYe (by rw[h2]; rfl) ?_
  refine cP (zlP d (ksD d) m h7 (by omega)) rfl rfl ?_
  repeat first | apply sT | apply sF
  apply bY <;> intro h3
  ·have h3:partK d (ksD d) m=true:=h3
   have e2:leaB d (ksD d) m=true:=by unfold leaB; rw[h2,h3]; rfl
   refine cP (zlT d (memb (sigL d.R) m) (by omega) hi) rfl rfl ?_
   refine cP (zhJ d (brnD d (memb (sigL d.R) m)) (zh1 h _)) rfl rfl ?_
   apply bY <;> intro h4
   ·have h4:(brnD d (memb (sigL d.R) m)).To - (brnD d (memb (sigL d.R) m)).From<=d.Long:=by simpa using h4
    have er:misR d (memb (sigL d.R) m)=(rsnR d.s (brnD d (memb (sigL d.R) m)) (lstD d (memb (sigL d.R) m))).1:=by unfold misR; rw[kH h4]
    refine oN 12 ?_
    refine oRo (zlQ d (memb (sigL d.R) m) (by omega) hi) rfl rfl ?_
    refine oRo (zlH d.s (brnD d (memb (sigL d.R) m)) (lstD d (memb (sigL d.R) m))) rfl rfl ?_
    refine⟨⟨.inr rfl,by unfold maxLen; omega,by show ((tabA (leaB d (ksD d)) (misF d) m).length+1) * 48<=140737488355328; omega⟩,?_⟩
    refine⟨i6,?_⟩
    refine⟨m+1,⟨rfl,⟨obD d.ds rfl,zbK rfl rfl,obD (d.ds ++ [lI (sigL d.R),cmap d (ksD d)]) rfl,obX rfl,obR rfl ?_,obR rfl ?_,trivial⟩,wq rfl⟩,⟨by omega,h1⟩,hms⟩
    ·rw[zb7 e1]; exact dE _
    rw[ze9 hm e2]
    refine zso fun j hj=>?_
    match j,hj with
    | 0,_=>exact dE _
    | 1,_=>show D.eqv _ (lRs (misR d (memb (sigL d.R) m))); rw[er]; exact dE _
   have h4:¬ (brnD d (memb (sigL d.R) m)).To - (brnD d (memb (sigL d.R) m)).From<=d.Long:=by simpa using h4
   have er:misR d (memb (sigL d.R) m)=[]:=by unfold misR; rw[kG h4]
   refine⟨⟨.inr rfl,by unfold maxLen; omega,by show ((tabA (leaB d (ksD d)) (misF d) m).length+1) * 48<=140737488355328; omega⟩,?_⟩
   refine⟨i6,?_⟩
   refine⟨m+1,⟨rfl,⟨obD d.ds rfl,zbK rfl rfl,obD (d.ds ++ [lI (sigL d.R),cmap d (ksD d)]) rfl,obX rfl,obR rfl ?_,obR rfl ?_,trivial⟩,wq rfl⟩,⟨by omega,h1⟩,hms⟩
   ·rw[zb7 e1]; exact dE _
   rw[ze9 hm e2]
   refine zso fun j hj=>?_
   match j,hj with
   | 0,_=>exact dE _
   | 1,_=>show D.eqv _ (lRs (misR d (memb (sigL d.R) m))); rw[er]; rfl
  have h3:partK d (ksD d) m=false:=h3
  have e2:leaB d (ksD d) m=false:=by unfold leaB; rw[h3,kU]
  refine⟨i6,?_⟩
  refine⟨m+1,⟨rfl,⟨obD d.ds rfl,zbK rfl rfl,obD (d.ds ++ [lI (sigL d.R),cmap d (ksD d)]) rfl,obX rfl,obR rfl ?_,obR rfl ?_,trivial⟩,wq rfl⟩,⟨by omega,h1⟩,hms⟩
  ·rw[zb7 e1]; exact dE _
  rw[zb7 e2]; exact dE _
 have h1:m=2 ^ (sigL d.R).length:=by
  have h1:¬ (m:Int)<((2 ^ (sigL d.R).length:Nat):Int):=by rw[<- es]; exact dF h1
  omega
 subst h1
 have hl:∀ m,(memb (sigL d.R) m).length<=1000000:=fun m=>jM (zcx _ _ _) (by omega)
 refine CallSt.rwW rfl rfl (znp (tabA (greB d (ksD d)) (fitF d) (2 ^ (sigL d.R).length)) (by omega) (zij h Fit.IDs _ _ (fun _=>rfl) (jE _)) (fun x hx=>by
  obtain⟨k,_,_,_,rfl⟩:=zbY hx; exact hl k)) ⟨⟨[],.tmp 90,[.func 64],[],rfl,rfl,rfl,rfl,rfl,rfl,rfl⟩⟩ rfl ?_
 refine CallSt.rwW rfl rfl (zno (tabA (leaB d (ksD d)) (misF d) (2 ^ (sigL d.R).length)) (by omega) (zij h Mis.IDs _ _ (fun _=>rfl) (jE _)) (fun x hx=>by
  obtain⟨k,_,_,_,rfl⟩:=zbY hx; exact hl k)) ⟨⟨[],.tmp 93,[.func 67],[],rfl,rfl,rfl,rfl,rfl,rfl,rfl⟩⟩ rfl ?_
 refine kAt [(2,.box 2 0),(6,.box 6 0)] [(2,.box (List.replicate 2 .any)),(6,.box ([lFt (srtF (tabA (greB d (ksD d)) (fitF d) (2 ^ (sigL d.R).length))),lMs (srtM (tabA (leaB d (ksD d)) (misF d) (2 ^ (sigL d.R).length)))].map AV.d))]
  ⟨rfl,⟨zbK rfl rfl,⟨⟨rfl,_,_,_,_,rfl,⟨(qM _).symm,.inr ⟨rfl,fun i _ j _=>dE _⟩⟩⟩,⟨rfl,_,_,_,_,rfl,⟨(qM _).symm,.inr ⟨rfl,fun i _ j _=>dE _⟩⟩⟩,trivial⟩,trivial⟩,wq rfl⟩ ?_
 exact⟨rtC (a:=2) rfl rfl rfl rfl rfl rfl (zab _),rtI rfl rfl,trivial⟩
theorem zaE (n lo hi:Int):Spec PP 241 [N n,N lo,N hi] [B (within n lo hi)]:=by
 refine sA Tryz.func241 ?_
 apply bY <;> intro h1
 ·have h1:decide (lo<=n)=true:=h1
  refine sT ?_
  refine r1B rfl ?_
  unfold within; rw[h1]; rfl
 have h1:decide (lo<=n)=false:=h1
 refine sF ?_
 refine r1B rfl ?_
 unfold within; rw[h1]; rfl
theorem zhu (n:Int) (hn:-1000000000000<=n/\n<=1000000000000):Spec PP 201 [N n] [N (n % 3600)]:=by
 have h1:=wB n (show (0:Int)<3600 by decide)
 have h2:=wB (-n) (show (0:Int)<3600 by decide)
 rw[jbw] at h2
 have e:=Int.tmod_eq_emod (a:=n) (b:=3600)
 refine sA Tryz.func201 ?_
 refine⟨by decide,?_⟩
 apply bY <;> intro h3
 ·have h3:n.tmod 3600<0:=dT h3
  refine⟨i6,?_⟩
  refine r1I rfl ?_
  show n.tmod 3600+3600=n % 3600
  rw[Int.tmod_eq_emod] at h3 ⊢
  split at h3
  ·omega
  rename_i h4
  rw[kG h4]
  show n % 3600 - 3600+3600=n % 3600
  omega
 have h3:¬ n.tmod 3600<0:=dF h3
 refine r1I rfl ?_
 show n.tmod 3600=n % 3600
 rw[Int.tmod_eq_emod] at h3 ⊢
 split at h3
 ·rename_i h4
  rw[kH h4]; omega
 rename_i h4
 have:=jby n (show (0:Int)<3600 by decide)
 exact absurd h3 (by show ¬ ¬ (n % 3600 - 3600<0); omega)
theorem znu (p:Place):Spec PP 242 [p.v] [B (on p)]:=by
 refine sA Tryz.func242 ?_
 refine cP (zaE p.X 0 48) rfl rfl ?_
 refine cP (zaE p.Y 0 48) rfl rfl ?_
 apply bY <;> intro h1
 ·have h1:within p.X 0 48=true:=h1
  refine sT ?_
  refine r1B rfl ?_
  unfold on; rw[h1]; rfl
 have h1:within p.X 0 48=false:=h1
 refine sF ?_
 refine r1B rfl ?_
 unfold on; rw[h1]; rfl
theorem zch {n d:Int} (hd:0<d) (h1:-(3600 * d)<=n) (h2:n<0):n+3600 * d=n % (3600 * d):=by
 rw[<- jbz,Int.emod_eq_of_lt (by omega) (by omega)]
theorem zcg {n d:Int} (h1:0<=n) (h2:n<3600 * d):n=n % (3600 * d):=(Int.emod_eq_of_lt h1 h2).symm
theorem zmI {x y:Int} (h:x≠0 \/ y≠0):-(3600 * (bearP x y).2)<=(bearP x y).1/\(bearP x y).1<3600 * (bearP x y).2:=by
 unfold bearP
 repeat' split
 all_goals (dsimp only; omega)
theorem zkU (x y:Int) (h:x≠0 \/ y≠0) (hx:-48<=x/\x<=48) (hy:-48<=y/\y<=48):Spec PP 250 [N x,N y] [.agg [I ((bearP x y).1 % (3600 * (bearP x y).2)),I (bearP x y).2]]:=by
 have hr:=zmI h
 have hp:=(zeh h).2
 refine sA Tryz.func250 ?_
 refine⟨i6,⟨i6,?_⟩⟩
 apply bY <;> intro h1
 ·have h1:max y (-y)<=x:=dT h1
  have e:bearP x y=(450 * y,x):=by unfold bearP; rw[kH (by omega)]
  rw[e] at hr hp ⊢
  dsimp only at hr hp ⊢
  refine⟨i6,?_⟩
  apply bY <;> intro h2
  ·have h2:450 * y<0:=dT h2
   refine⟨i6,⟨i6,?_⟩⟩
   exact r1C rfl rfl rfl rfl rfl rfl (zbR (zch hp hr.1 h2) rfl)
  have h2:¬ 450 * y<0:=dF h2
  exact r1C rfl rfl rfl rfl rfl rfl (zbR (zcg (by omega) hr.2) rfl)
 have h1:¬ max y (-y)<=x:=dF h1
 apply bY <;> intro h2
 ·have h2:max x (-x)<=y:=dT h2
  have e:bearP x y=(900 * y - 450 * x,y):=by unfold bearP; rw[kG (by omega),kH (by omega)]
  rw[e] at hr hp ⊢
  dsimp only at hr hp ⊢
  refine⟨i6,⟨i6,⟨i6,?_⟩⟩⟩
  apply bY <;> intro h3
  ·have h3:900 * y - 450 * x<0:=dT h3
   refine⟨i6,⟨i6,?_⟩⟩
   exact r1C rfl rfl rfl rfl rfl rfl (zbR (zch hp hr.1 h3) rfl)
  have h3:¬ 900 * y - 450 * x<0:=dF h3
  exact r1C rfl rfl rfl rfl rfl rfl (zbR (zcg (by omega) hr.2) rfl)
 have h2:¬ max x (-x)<=y:=dF h2
 refine⟨i6,?_⟩
 apply bY <;> intro h3
 ·have h3:max y (-y) <= -x:=dT h3
  have ex:max x (-x) = -x:=by omega
  have e:bearP x y=(1800 * max x (-x) - 450 * y,max x (-x)):=by unfold bearP; rw[kG (by omega),kG (by omega),kH (by omega),ex]
  rw[e] at hr hp ⊢
  dsimp only at hr hp ⊢
  refine⟨i6,⟨i6,⟨i6,?_⟩⟩⟩
  apply bY <;> intro h4
  ·have h4:1800 * max x (-x) - 450 * y<0:=dT h4
   refine⟨i6,⟨i6,?_⟩⟩
   exact r1C rfl rfl rfl rfl rfl rfl (zbR (zch hp hr.1 h4) rfl)
  have h4:¬ 1800 * max x (-x) - 450 * y<0:=dF h4
  exact r1C rfl rfl rfl rfl rfl rfl (zbR (zcg (by omega) hr.2) rfl)
 have h3:¬ max y (-y) <= -x:=dF h3
 have ey:max y (-y) = -y:=by omega
 have e:bearP x y=(2700 * max y (-y)+450 * x,max y (-y)):=by unfold bearP; rw[kG (by omega),kG (by omega),kG (by omega),ey]
 rw[e] at hr hp ⊢
 dsimp only at hr hp ⊢
 refine⟨i6,⟨i6,⟨i6,?_⟩⟩⟩
 apply bY <;> intro h4
 ·have h4:2700 * max y (-y)+450 * x<0:=dT h4
  refine⟨i6,⟨i6,?_⟩⟩
  exact r1C rfl rfl rfl rfl rfl rfl (zbR (zch hp hr.1 h4) rfl)
 have h4:¬ 2700 * max y (-y)+450 * x<0:=dF h4
 exact r1C rfl rfl rfl rfl rfl rfl (zbR (zcg (by omega) hr.2) rfl)
def brgR (a b:Place):(Int × Int) × Bool:=if (on a && on b && !(a==b))=true then (bear a b,true) else ((0,0),false)
theorem zh2 {a b:Place} (h:(on a && on b && !(a==b))=false):brgR a b=((0,0),false):=by unfold brgR; rw[kG (by rw[h]; decide)]
theorem zf4 {a b:Place} (h1:on a=true) (h2:on b=true) (h3:a≠b):brgR a b=(bear a b,true):=by
 unfold brgR; rw[kH (by rw[h1,h2,jaq.2 h3]; rfl)]
theorem zeK (a b:Place):Spec PP 203 [a.v,b.v] [.agg [I (brgR a b).1.1,I (brgR a b).1.2],B (brgR a b).2]:=by
 refine sA Tryz.func203 ?_
 refine cP (znu a) rfl rfl ?_
 refine cP (znu b) rfl rfl ?_
 apply bY <;> intro h1
 ·have h1:on a=false:=by
   have:(!on a)=true:=h1
   simpa using this
  refine sT (sT ?_)
  rw[zh2 (by rw[h1]; rfl)]
  exact⟨rtC (a:=4) rfl rfl rfl rfl rfl rfl (zab _),rtB rfl rfl,trivial⟩
 have h1:on a=true:=by
  have:(!on a)=false:=h1
  simpa using this
 refine sF ?_
 apply bY <;> intro h2
 ·have h2:on b=false:=by
   have:(!on b)=true:=h2
   simpa using this
  refine sT ?_
  rw[zh2 (by rw[h2,kU]; rfl)]
  exact⟨rtC (a:=4) rfl rfl rfl rfl rfl rfl (zab _),rtB rfl rfl,trivial⟩
 have h2:on b=true:=by
  have:(!on b)=false:=h2
  simpa using this
 refine sF ?_
 apply bY <;> intro h3
 ·have h3:(a==b)=true:=by simpa using (eqPW a b).symm.trans h3
  rw[zh2 (by rw[h3,jaA,kU])]
  exact⟨rtC (a:=4) rfl rfl rfl rfl rfl rfl (zab _),rtB rfl rfl,trivial⟩
 have h3:a≠b:=by
  simpa using (eqPW a b).symm.trans h3
 obtain⟨a1,a2⟩:=zbe.1 h1
 obtain⟨b1,b2⟩:=zbe.1 h2
 refine⟨i6,⟨i6,?_⟩⟩
 refine cP (zkU (b.X - a.X) (b.Y - a.Y) (zfv h3) (by omega) (by omega)) rfl rfl ?_
 rw[zf4 h1 h2 h3]
 exact⟨rtC (a:=4) rfl rfl rfl rfl rfl rfl (zab _),rtB rfl rfl,trivial⟩
theorem zcR (w:Wdg):Spec PP 249 [w.v] [N (openW w)]:=by
 refine sA Tryz.func249 ?_
 refine cP (zaE w.F 0 3599) rfl rfl ?_
 refine cP (zaE w.T 0 3599) rfl rfl ?_
 have no:¬ (within w.F 0 3599=true/\within w.T 0 3599=true)->openW w = -1:=fun h=>by unfold openW; rw[kG h]
 apply bY <;> intro h1
 ·have h1:within w.F 0 3599=false:=by
   have:(!within w.F 0 3599)=true:=h1
   simpa using this
  refine sT ?_
  repeat first | apply sT | apply sF
  refine r1I rfl ?_
  rw[no fun h=>by rw[h.1] at h1; cases h1]
 have h1:within w.F 0 3599=true:=by
  have:(!within w.F 0 3599)=false:=h1
  simpa using this
 refine sF ?_
 apply bY <;> intro h2
 ·have h2:within w.T 0 3599=false:=by
   have:(!within w.T 0 3599)=true:=h2
   simpa using this
  refine r1I rfl ?_
  rw[no fun h=>by rw[h.2] at h2; cases h2]
 have h2:within w.T 0 3599=true:=by
  have:(!within w.T 0 3599)=false:=h2
  simpa using this
 have b1:=zaa.1 h1
 have b2:=zaa.1 h2
 refine⟨i6,?_⟩
 refine cP (zhu (w.T - w.F) (by omega)) rfl rfl ?_
 refine r1I rfl ?_
 unfold openW; rw[kH ⟨h1,h2⟩]
theorem znt (w:Wdg):Spec PP 202 [w.v] [B (validW w)]:=by
 refine sA Tryz.func202 ?_
 refine cP (zcR w) rfl rfl ?_
 refine cP (zaE (openW w) 0 900) rfl rfl ?_
 refine r1B rfl ?_
 unfold validW; rfl
theorem zkg {w:Wdg} (h:validW w=true):(0<=w.F/\w.F<=3599)/\0<=openW w/\openW w<=900:=by
 unfold validW at h
 have h1:=zaa.1 h
 refine⟨?_,h1⟩
 unfold openW at h1
 split at h1
 ·rename_i h2; exact zaa.1 h2.1
 omega
theorem zsj (w:Wdg) (b:Int × Int) (hw:validW w=true) (hb:(0<b.2/\b.2<=48)/\0<=b.1/\b.1<3600 * b.2):Spec PP 204 [w.v,.agg [I b.1,I b.2]] [B (decide ((b.1 - w.F * b.2) % (3600 * b.2)<=openW w * b.2))]:=by
 obtain⟨w1,w2⟩:=zkg hw
 have m1:=mulB (a:=w.F) (b:=b.2) (x:=3599) (y:=48) (by omega) (by omega)
 have m2:=mulB (a:=openW w) (b:=b.2) (x:=900) (y:=48) (by omega) (by omega)
 have n1:0<=w.F * b.2:=wG w1.1 (by omega)
 have n2:w.F * b.2<=3599 * b.2:=jV w1.2 (by omega)
 refine sA Tryz.func204 ?_
 refine⟨i6,⟨i6,?_⟩⟩
 apply bY <;> intro h1
 ·have h1:b.1 - w.F * b.2<0:=dT h1
  refine⟨i6,⟨i6,?_⟩⟩
  refine oN 8 ?_
  refine oP (zcR w) rfl rfl ?_
  refine⟨i6,?_⟩
  refine r1B rfl ?_
  rw[zch hb.1.1 (by omega) h1]
 have h1:¬ b.1 - w.F * b.2<0:=dF h1
 refine oN 8 ?_
 refine oP (zcR w) rfl rfl ?_
 refine⟨i6,?_⟩
 refine r1B rfl ?_
 rw[<- zcg (n:=b.1 - w.F * b.2) (by omega) (by omega)]
theorem zqi (w:Wdg) (a p:Place):Spec PP 126 [w.v,a.v,p.v] [B (liesW w a p)]:=by
 have el:liesW w a p=(validW w && (on a && on p) && !decide (a=p) && decide (((bear a p).1 - w.F * (bear a p).2) % (3600 * (bear a p).2)<=openW w * (bear a p).2)):=by unfold liesW; rfl
 refine sA Tryz.func126 ?_
 refine cP (znt w) rfl rfl ?_
 refine cP (zeK a p) rfl rfl ?_
 apply bY <;> intro h1
 ·have h1:validW w=true:=h1
  refine sT ?_
  apply bY <;> intro h2
  ·have h2:(brgR a p).2=true:=h2
   have h3:(on a && on p && !(a==p))=true:=by
    unfold brgR at h2
    split at h2
    ·assumption
    cases h2
   simp only[jP,jY,jaq] at h3
   obtain⟨⟨h4,h5⟩,h6⟩:=h3
   rw[zf4 h4 h5 h6]
   refine cP (zsj w (bear a p) h1 (zf7 h4 h5 h6)) rfl rfl ?_
   refine sT ?_
   refine r1B rfl ?_
   rw[el,h1,h4,h5,jH h6]; rfl
  have h2:(brgR a p).2=false:=h2
  have h3:(on a && on p && !(a==p))=false:=by
   unfold brgR at h2
   split at h2
   ·cases h2
   rename_i h; simpa using h
  refine sF ?_
  refine r1B rfl ?_
  rw[el,h1]
  have:(a==p)=decide (a=p):=by rw[kR]; simp
  rw[this] at h3
  rw[qI,h3]; rfl
 have h1:validW w=false:=h1
 refine sF (sF ?_)
 repeat first | apply sT | apply sF
 refine r1B rfl ?_
 rw[el,h1]; rfl
def fndC (c:Cirs) (id:Int):Cir × Bool:=if cirI c id<0 then (default,false) else (c.C.getD (cirI c id).toNat default,true)
theorem zhr (c:Cirs) (id:Int) (hn:c.C.length<=1000000):Spec PP 244 [c.v,N id] [(fndC c id).1.v,B (fndC c id).2]:=by
 refine sA Tryz.func244 ?_
 refine lOf (σ:=Nat) (fun i=>([(1,.d (I id)),(2,.box 2 0),(4,.box 4 0),(6,.d (I i))],[(2,.box ([lC c.C,lK c.K].map AV.d)),(4,.box ([I 0,I 0,I 0,I 0,I 0,I 0,I 0,I 0].map AV.d))])) (fun i=>i<=c.C.length /\ ∀ j,j<i->((c.C.getD j default).ID==id)=false) (fun i=>c.C.length - i) 0
  ⟨rfl,⟨obD [lC c.C,lK c.K] rfl,obD [I 0,I 0,I 0,I 0,I 0,I 0,I 0,I 0] rfl,trivial⟩,wq rfl⟩ z0L fun i hi=>?_
 obtain⟨hi,ha⟩:=hi
 apply bY <;> intro h1
 ·have h1:i<c.C.length:=by have:=dT h1; omega
  refine⟨⟨rfl,by omega,by omega⟩,?_⟩
  apply bY <;> intro h2
  ·have e:cirI c id=(i:Int):=zal (p:=fun t:Cir=>t.ID==id) default h1 h2 ha
   have e2:fndC c id=(c.C.getD i default,true):=by unfold fndC; rw[e,kG (by omega)]; rfl
   rw[e2]
   refine⟨⟨rfl,by omega,by omega⟩,?_⟩
   exact⟨rtC (a:=4) rfl rfl rfl rfl rfl rfl (zab _),rtB rfl rfl,trivial⟩
  refine⟨i6,?_⟩
  refine⟨i+1,⟨rfl,⟨obD [lC c.C,lK c.K] rfl,obD [I 0,I 0,I 0,I 0,I 0,I 0,I 0,I 0] rfl,trivial⟩,wq rfl⟩,⟨h1,fun j hj=>?_⟩,(msr (by omega))⟩
  by_cases e:j=i
  ·subst e; exact h2
  exact ha j (by omega)
 have h1:i=c.C.length:=by have:=dF h1; omega
 subst h1
 have e:cirI c id = -1:=zaq (p:=fun t:Cir=>t.ID==id) default ha
 have e2:fndC c id=(default,false):=by unfold fndC; rw[e]; rfl
 rw[e2]
 exact⟨rtC (a:=4) rfl rfl rfl rfl rfl rfl (zab _),rtB rfl rfl,trivial⟩
def spnB (s:Spn) (lo hi:Int):Bool:=decide (lo<=s.Lo) && decide (s.Lo<=s.Hi) && decide (s.Hi<=hi)
theorem zkS (s:Spn) (lo hi:Int):Spec PP 243 [s.v,N lo,N hi] [B (spnB s lo hi)]:=by
 refine sA Tryz.func243 ?_
 apply bY <;> intro h1
 ·have h1:decide (lo<=s.Lo)=true:=h1
  refine sT ?_
  apply bY <;> intro h2
  ·have h2:decide (s.Lo<=s.Hi)=true:=h2
   refine sT ?_
   refine r1B rfl ?_
   unfold spnB; rw[h1,h2]; rfl
  have h2:decide (s.Lo<=s.Hi)=false:=h2
  refine sF ?_
  refine r1B rfl ?_
  unfold spnB; rw[h1,h2]; rfl
 have h1:decide (lo<=s.Lo)=false:=h1
 refine sF (sF ?_)
 repeat first | apply sT | apply sF
 refine r1B rfl ?_
 unfold spnB; rw[h1]; rfl
theorem zdU {b:Bool} (h:(!b)=true):b=false:=by simpa using h
theorem zdV {b:Bool} (h:(!b)=false):b=true:=by simpa using h
theorem ztm (x:Cir) (h1:within x.ID 1 1099511627776=true) (h2:on x.At=true) (h3:spnB ⟨x.From,x.To⟩ 0 1048576=true) (h4:spnB ⟨x.Lo,x.Hi⟩ (-300) 300=true) (h5:within x.Drift 0 60=true):cirE x=0:=by
 unfold spnB at h3 h4
 simp only[jP,kA] at h3 h4
 unfold cirE
 rw[kG]
 simp only[h1,h2,h5,jav,jbb,jaa,jX,kA,jaA,jag,jao,qJ]
 omega
theorem zgY (x:Cir) (h:¬ (within x.ID 1 1099511627776=true/\on x.At=true/\spnB ⟨x.From,x.To⟩ 0 1048576=true/\spnB ⟨x.Lo,x.Hi⟩ (-300) 300=true/\within x.Drift 0 60=true)):cirE x=1:=by
 unfold cirE
 refine kH (jL fun h0=>h ?_)
 simp only[jX,jY,not_or,jah,kA,jav,jbb,jaa] at h0
 obtain⟨⟨⟨⟨⟨⟨⟨⟨a,b⟩,c⟩,d⟩,e⟩,f⟩,g⟩,i⟩,j⟩:=h0
 unfold spnB
 simp only[jP,kA]
 exact⟨a,b,by omega,by omega,j⟩
theorem zjH (x:Cir):Spec PP 193 [x.v] [.d (.int .i64 (cirE x))]:=by
 refine sA Tryz.func193 ?_
 refine cP (zaE x.ID 1 1099511627776) rfl rfl ?_
 refine cP (znu x.At) rfl rfl ?_
 refine cP (zkS ⟨x.From,x.To⟩ 0 1048576) rfl rfl ?_
 refine cP (zkS ⟨x.Lo,x.Hi⟩ (-300) 300) rfl rfl ?_
 refine cP (zaE x.Drift 0 60) rfl rfl ?_
 apply bY <;> intro h1
 ·have h1:=zdU h1
  repeat first | apply sT | apply sF
  refine r1I rfl ?_
  rw[zgY x fun h=>by rw[h.1] at h1; cases h1]
 have h1:=zdV h1
 repeat first | apply sT | apply sF
 apply bY <;> intro h2
 ·have h2:=zdU h2
  repeat first | apply sT | apply sF
  refine r1I rfl ?_
  rw[zgY x fun h=>by rw[h.2.1] at h2; cases h2]
 have h2:=zdV h2
 repeat first | apply sT | apply sF
 apply bY <;> intro h3
 ·have h3:=zdU h3
  repeat first | apply sT | apply sF
  refine r1I rfl ?_
  rw[zgY x fun h=>by rw[h.2.2.1] at h3; cases h3]
 have h3:=zdV h3
 repeat first | apply sT | apply sF
 apply bY <;> intro h4
 ·have h4:=zdU h4
  repeat first | apply sT | apply sF
  refine r1I rfl ?_
  rw[zgY x fun h=>by rw[h.2.2.2.1] at h4; cases h4]
 have h4:=zdV h4
 repeat first | apply sT | apply sF
 apply bY <;> intro h5
 ·have h5:=zdU h5
  refine r1I rfl ?_
  rw[zgY x fun h=>by rw[h.2.2.2.2] at h5; cases h5]
 have h5:=zdV h5
 refine r1I rfl ?_
 rw[ztm x h1 h2 h3 h4 h5]
theorem zjI (c:Cirs) (k:Chk) (hn:c.C.length<=1000000):Spec PP 194 [c.v,k.v] [.d (.int .i64 (chkE c k))]:=by
 have bad:¬ (within k.ID 1 1099511627776=true/\on k.Mark=true/\within k.Shown 0 3599=true/\within k.Slack 1 100=true)->chkE c k=1:=fun h=>by
  unfold chkE
  rw[kH]
  refine jL fun h0=>h ?_
  unfold chkB at h0
  simp only[jX,jY,not_or,jah,jav,jbb,jaa] at h0
  exact⟨h0.1.1.1,h0.1.1.2,h0.1.2,h0.2⟩
 refine sA Tryz.func194 ?_
 refine cP (zaE k.ID 1 1099511627776) rfl rfl ?_
 refine cP (znu k.Mark) rfl rfl ?_
 refine cP (zaE k.Shown 0 3599) rfl rfl ?_
 refine cP (zaE k.Slack 1 100) rfl rfl ?_
 apply bY <;> intro h1
 ·have h1:=zdU h1
  repeat first | apply sT | apply sF
  refine r1I rfl ?_
  rw[bad fun h=>by rw[h.1] at h1; cases h1]
 have h1:=zdV h1
 repeat first | apply sT | apply sF
 apply bY <;> intro h2
 ·have h2:=zdU h2
  repeat first | apply sT | apply sF
  refine r1I rfl ?_
  rw[bad fun h=>by rw[h.2.1] at h2; cases h2]
 have h2:=zdV h2
 repeat first | apply sT | apply sF
 apply bY <;> intro h3
 ·have h3:=zdU h3
  repeat first | apply sT | apply sF
  refine r1I rfl ?_
  rw[bad fun h=>by rw[h.2.2.1] at h3; cases h3]
 have h3:=zdV h3
 repeat first | apply sT | apply sF
 apply bY <;> intro h4
 ·have h4:=zdU h4
  refine r1I rfl ?_
  rw[bad fun h=>by rw[h.2.2.2] at h4; cases h4]
 have h4:=zdV h4
 have e0:chkE c k=if cirI c k.C<0 then 5 else if (decide (k.Mark=(chkO c k).At) || !within k.Tick (chkO c k).From (chkO c k).To)=true then 1 else 0:=by
  unfold chkE
  rw[kG]
  unfold chkB
  simp only[h1,h2,h3,h4,jav,jbb,jaa,jaA,jag]
  decide
 refine cP (zhr c k.C hn) rfl rfl ?_
 by_cases h5:cirI c k.C<0
 ·have e1:fndC c k.C=(default,false):=by unfold fndC; rw[kH h5]
  rw[e1]
  refine sT ?_
  refine r1I rfl ?_
  rw[e0,kH h5]
 have e1:fndC c k.C=(chkO c k,true):=by unfold fndC chkO; rw[kG h5]
 rw[e1,e0,kG h5]
 generalize chkO c k=x
 refine sF ?_
 apply bY <;> intro h6
 ·have h6:decide (k.Mark=x.At)=true:=(eqPW k.Mark x.At).symm.trans h6
  repeat first | apply sT | apply sF
  refine r1I rfl ?_
  rw[kH (by rw[h6]; rfl)]
 have h6:decide (k.Mark=x.At)=false:=(eqPW k.Mark x.At).symm.trans h6
 repeat first | apply sT | apply sF
 apply bY <;> intro h7
 ·have h7:k.Tick<x.From:=dT h7
  repeat first | apply sT | apply sF
  refine r1I rfl ?_
  rw[kH]
  rw[h6,jao,jY]
  unfold within
  rw[jH (show ¬ x.From<=k.Tick by omega)]; rfl
 have h7:¬ k.Tick<x.From:=dF h7
 repeat first | apply sT | apply sF
 apply bY <;> intro h8
 ·have h8:x.To<k.Tick:=dT h8
  refine r1I rfl ?_
  rw[kH]
  rw[h6,jao,jY]
  unfold within
  rw[jH (show ¬ k.Tick<=x.To by omega),kU]
 have h8:¬ x.To<k.Tick:=dF h8
 refine r1I rfl ?_
 rw[kG]
 rw[h6,jao,zaa.2 (show x.From<=k.Tick/\k.Tick<=x.To by omega)]
 decide
theorem zlY {α:Type} {p:α->Bool} {l:List α} {i:Nat} (d:α) (hi:i<l.length) (hp:p (l.getD i d)=true):idxL p l<=i:=by
 rcases idxL_cases p l d with⟨_,h2⟩ | ⟨j,h1,h2,_,h4⟩
 ·rw[h2 i hi] at hp; cases hp
 rw[h2]
 rcases jaB i j with h5 | h5
 ·rw[h4 i h5] at hp; cases hp
 omega
theorem zfn (c:Cirs):Spec PP 119 [c.v] [.d (.int .i64 (cirsE c))]:=by
 refine sA Tryz.func119 ?_
 apply bY <;> intro h1
 ·have h1:12<c.C.length:=by have:=dT h1; omega
  repeat first | apply sT | apply sF
  refine r1I rfl ?_
  unfold cirsE; rw[kH (.inl h1)]
 have h1:¬ 12<c.C.length:=by have:=dF h1; omega
 repeat first | apply sT | apply sF
 apply bY <;> intro h2
 ·have h2:60<c.K.length:=by have:=dT h2; omega
  refine r1I rfl ?_
  unfold cirsE; rw[kH (.inr h2)]
 have h2:¬ 60<c.K.length:=by have:=dF h2; omega
 have e0:cirsE c=if err1 (cir1E c) c.C.length≠0 then err1 (cir1E c) c.C.length else err1 (chk1E c) c.K.length:=by unfold cirsE; rw[kG (by omega)]
 refine lOf (σ:=Nat) (fun i=>([(1,.box 1 0),(3,.d (I i))],[(1,bxCs c)])) (fun i=>i<=c.C.length /\ ∀ j,j<i->cir1E c j=0) (fun i=>c.C.length - i) 0
  ⟨rfl,⟨obCs rfl,trivial⟩,wq rfl⟩ z0L fun i hi=>?_
 obtain⟨hi,ha⟩:=hi
 apply bY <;> intro h3
 ·have h3:i<c.C.length:=by have:=dT h3; omega
  have bad:cir1E c i≠0->cirsE c=cir1E c i:=fun h=>by
   have:=zas ha h h3
   rw[e0,kH (by rw[this]; exact h),this]
  refine⟨⟨rfl,by omega,by omega⟩,?_⟩
  refine cP (zjH (c.C.getD i default)) rfl rfl ?_
  apply bY <;> intro h4
  ·have h4:cirE (c.C.getD i default)≠0:=by simpa using h4
   refine r1I rfl ?_
   have e:cir1E c i=cirE (c.C.getD i default):=by unfold cir1E; rw[kH h4]
   rw[bad (by rw[e]; exact h4),e]
  have h4:cirE (c.C.getD i default)=0:=by simpa using h4
  refine lOf (σ:=Nat) (fun k=>([(1,.box 1 0),(3,.d (I i)),(5,.d (I k))],[(1,bxCs c)])) (fun k=>k<=i /\ ∀ j,j<k->((c.C.getD j default).ID==(c.C.getD i default).ID)=false) (fun k=>i - k) 0
   ⟨rfl,⟨obCs rfl,trivial⟩,wq rfl⟩ z0L fun k hk=>?_
  obtain⟨hk,hb⟩:=hk
  apply bY <;> intro h5
  ·have h5:k<i:=by have:=dT h5; omega
   refine oN 13 ?_
   refine⟨⟨rfl,by omega,by omega⟩,⟨⟨rfl,by omega,by omega⟩,?_⟩⟩
   apply bY <;> intro h6
   ·have h6:((c.C.getD k default).ID==(c.C.getD i default).ID)=true:=h6
    have hle:=zlY (p:=fun t:Cir=>t.ID==(c.C.getD i default).ID) default (show k<c.C.length by omega) h6
    have h7:cirI c (c.C.getD i default).ID<i:=by unfold cirI; omega
    refine r1I rfl ?_
    have e:cir1E c i=6:=by unfold cir1E; rw[kG (fun hh=>hh h4),kH h7]
    rw[bad (by rw[e]; decide),e]
   refine⟨i6,?_⟩
   refine⟨k+1,⟨rfl,⟨obCs rfl,trivial⟩,wq rfl⟩,⟨h5,fun j hj=>?_⟩,(msr (by omega))⟩
   by_cases q:j=k
   ·subst q; exact h6
   exact hb j (by omega)
  have h5:k=i:=by have:=dF h5; omega
  subst h5
  have h7:¬ cirI c (c.C.getD k default).ID<k:=by
   have:cirI c (c.C.getD k default).ID=(k:Int):=zal (p:=fun t:Cir=>t.ID==(c.C.getD k default).ID) default h3 (jaN _) hb
   omega
  have e:cir1E c k=0:=by unfold cir1E; rw[kG (fun hh=>hh h4),kG h7]
  refine⟨i6,?_⟩
  refine⟨k+1,⟨rfl,⟨obCs rfl,trivial⟩,wq rfl⟩,⟨h3,fun j hj=>?_⟩,(msr (by omega))⟩
  by_cases q:j=k
  ·subst q; exact e
  exact ha j (by omega)
 have h3:i=c.C.length:=by have:=dF h3; omega
 subst h3
 have e1:cirsE c=err1 (chk1E c) c.K.length:=by rw[e0,zaL ha]; rfl
 clear ha
 refine lOf (σ:=Nat) (fun i=>([(1,.box 1 0),(6,.d (I i))],[(1,bxCs c)])) (fun i=>i<=c.K.length /\ ∀ j,j<i->chk1E c j=0) (fun i=>c.K.length - i) 0
  ⟨rfl,⟨obCs rfl,trivial⟩,wq rfl⟩ z0L fun i hi=>?_
 obtain⟨hi,ha⟩:=hi
 apply bY <;> intro h3
 ·have h3:i<c.K.length:=by have:=dT h3; omega
  have bad:chk1E c i≠0->cirsE c=chk1E c i:=fun h=>by rw[e1,zas ha h h3]
  refine oN 8 ?_
  refine⟨⟨rfl,by omega,by omega⟩,?_⟩
  refine oP (zjI c (c.K.getD i default) (by omega)) rfl rfl ?_
  apply bY <;> intro h4
  ·have h4:chkE c (c.K.getD i default)≠0:=by simpa using h4
   refine r1I rfl ?_
   have e:chk1E c i=chkE c (c.K.getD i default):=by unfold chk1E; rw[kH h4]
   rw[bad (by rw[e]; exact h4),e]
  have h4:chkE c (c.K.getD i default)=0:=by simpa using h4
  refine lOf (σ:=Nat) (fun k=>([(1,.box 1 0),(6,.d (I i)),(8,.d (I k))],[(1,bxCs c)])) (fun k=>k<=i /\ ∀ j,j<k->((c.K.getD j default).ID==(c.K.getD i default).ID)=false) (fun k=>i - k) 0
   ⟨rfl,⟨obCs rfl,trivial⟩,wq rfl⟩ z0L fun k hk=>?_
  obtain⟨hk,hb⟩:=hk
  apply bY <;> intro h5
  ·have h5:k<i:=by have:=dT h5; omega
   refine oN 13 ?_
   refine⟨⟨rfl,by omega,by omega⟩,⟨⟨rfl,by omega,by omega⟩,?_⟩⟩
   apply bY <;> intro h6
   ·have h6:((c.K.getD k default).ID==(c.K.getD i default).ID)=true:=h6
    have hle:=zlY (p:=fun t:Chk=>t.ID==(c.K.getD i default).ID) default (show k<c.K.length by omega) h6
    have h7:chkI c (c.K.getD i default).ID<i:=by unfold chkI; omega
    refine r1I rfl ?_
    have e:chk1E c i=6:=by unfold chk1E; rw[kG (fun hh=>hh h4),kH h7]
    rw[bad (by rw[e]; decide),e]
   refine⟨i6,?_⟩
   refine⟨k+1,⟨rfl,⟨obCs rfl,trivial⟩,wq rfl⟩,⟨h5,fun j hj=>?_⟩,(msr (by omega))⟩
   by_cases q:j=k
   ·subst q; exact h6
   exact hb j (by omega)
  have h5:k=i:=by have:=dF h5; omega
  subst h5
  have h7:¬ chkI c (c.K.getD k default).ID<k:=by
   have:chkI c (c.K.getD k default).ID=(k:Int):=zal (p:=fun t:Chk=>t.ID==(c.K.getD k default).ID) default h3 (jaN _) hb
   omega
  have e:chk1E c k=0:=by unfold chk1E; rw[kG (fun hh=>hh h4),kG h7]
  refine⟨i6,?_⟩
  refine⟨k+1,⟨rfl,⟨obCs rfl,trivial⟩,wq rfl⟩,⟨h3,fun j hj=>?_⟩,(msr (by omega))⟩
  by_cases q:j=k
  ·subst q; exact e
  exact ha j (by omega)
 have h3:i=c.K.length:=by have:=dF h3; omega
 subst h3
 refine r1I rfl ?_
 rw[e1,zaL ha]
def canK (b:Int × Int) (s l z k:Int):Bool:=decide (-l * b.2<=b.1+(z - s+3600 * k) * b.2) && decide (b.1+(z - s+3600 * k) * b.2<=l * b.2)
def canB (b:Int × Int) (s l z:Int):Bool:=(List.range 5).any fun i=>canK b s l z ((i:Int) - 2)
theorem zsk (b:Int × Int) (s l z:Int) (hb:(0<b.2/\b.2<=48)/\0<=b.1/\b.1<3600 * b.2) (hs:0<=s/\s<=3599) (hl:1<=l/\l<=100) (hz:-300<=z/\z<=300):Spec PP 264 [N s,N l,.agg [I b.1,I b.2],N z] [B (canB b s l z)]:=by
 refine sA Tryz.func264 ?_
 refine lOf (σ:=Nat) (fun i=>([(0,.d (I s)),(1,.d (I l)),(3,.d (I z)),(6,.box 6 0),(9,.d (I ((i:Int) - 2)))],[(6,.box ([I b.1,I b.2].map AV.d))])) (fun i=>i<=5 /\ ∀ j:Nat,j<i->canK b s l z ((j:Int) - 2)=false) (fun i=>5 - i) 0
  ⟨rfl,⟨obD [I b.1,I b.2] rfl,trivial⟩,wq rfl⟩ z0L fun i hi=>?_
 obtain⟨hi,ha⟩:=hi
 apply bY <;> intro h1
 ·have h1:(i:Int) - 2<=2:=dT h1
  have m1:=mulB (a:=z - s+3600 * ((i:Int) - 2)) (b:=b.2) (x:=20000) (y:=48) (by omega) (by omega)
  have m2:=mulB (a:=l) (b:=b.2) (x:=100) (y:=48) (by omega) (by omega)
  have m3:-l * b.2 = -(l * b.2):=jbE l b.2
  have ok:canK b s l z ((i:Int) - 2)=true->canB b s l z=true:=fun h=>kL.2 ⟨i,kJ.2 (by omega),h⟩
  have next:canK b s l z ((i:Int) - 2)=false -> ∀ j:Nat,j<i+1->canK b s l z ((j:Int) - 2)=false:=fun h j hj=>by
   by_cases q:j=i
   ·subst q; exact h
   exact ha j (by omega)
  refine⟨i6,⟨i6,⟨i6,⟨i6,⟨i6,?_⟩⟩⟩⟩⟩
  refine⟨i6,⟨i6,?_⟩⟩
  apply bY <;> intro h2
  ·have h2:decide (-l * b.2<=b.1+(z - s+3600 * ((i:Int) - 2)) * b.2)=true:=h2
   refine⟨i6,?_⟩
   refine sT ?_
   apply bY <;> intro h3
   ·have h3:decide (b.1+(z - s+3600 * ((i:Int) - 2)) * b.2<=l * b.2)=true:=h3
    refine r1B rfl ?_
    rw[ok (by unfold canK; rw[h2,h3]; rfl)]
   have h3:decide (b.1+(z - s+3600 * ((i:Int) - 2)) * b.2<=l * b.2)=false:=h3
   refine⟨i6,?_⟩
   exact⟨i+1,⟨rfl,⟨obD [I b.1,I b.2] rfl,trivial⟩,avR _ rfl,avR _ rfl,avR _ rfl,avQ rfl,avI rfl (by omega),trivial⟩,⟨by omega,next (by unfold canK; rw[h3,kU])⟩,(msr (by omega))⟩
  have h2:decide (-l * b.2<=b.1+(z - s+3600 * ((i:Int) - 2)) * b.2)=false:=h2
  repeat first | apply sT | apply sF
  refine⟨i6,?_⟩
  exact⟨i+1,⟨rfl,⟨obD [I b.1,I b.2] rfl,trivial⟩,avR _ rfl,avR _ rfl,avR _ rfl,avQ rfl,avI rfl (by omega),trivial⟩,⟨by omega,next (by unfold canK; rw[h2]; rfl)⟩,(msr (by omega))⟩
 have h1:i=5:=by have:¬ (i:Int) - 2<=2:=dF h1; omega
 subst h1
 refine r1B rfl ?_
 symm
 unfold canB
 rw[jay]
 intro j hj
 rw[ha j (kJ.1 hj)]; decide
section
variable {b:Int × Int} {s l:Int} (hb:(0<b.2/\b.2<=48)/\0<=b.1/\b.1<3600 * b.2) (hs:0<=s/\s<=3599) (hl:1<=l/\l<=100)
include hb
theorem zox {z k:Int} (hz:-300<=z/\z<=300):canK b s l z k=true ↔ (aloT b (s - 3600 * k) l).Lo<=z/\z<=(aloT b (s - 3600 * k) l).Hi:=by
 have hd:=hb.1.1
 have e:(z - s+3600 * k) * b.2=z * b.2 - (s - 3600 * k) * b.2:=by rw[<- jaQ]; congr 1; omega
 have e1:(s - 3600 * k - l) * b.2=(s - 3600 * k) * b.2 - l * b.2:=jaQ ..
 have e2:(s - 3600 * k+l) * b.2=(s - 3600 * k) * b.2+l * b.2:=Int.add_mul ..
 have e3:-l * b.2 = -(l * b.2):=jbE l b.2
 have f1:-z <= -((s - 3600 * k - l) * b.2 - b.1) / b.2 ↔ -z * b.2 <= -((s - 3600 * k - l) * b.2 - b.1):=jaL hd
 have f2:z<=((s - 3600 * k+l) * b.2 - b.1) / b.2 ↔ z * b.2<=(s - 3600 * k+l) * b.2 - b.1:=jaL hd
 have e4:-z * b.2 = -(z * b.2):=jbE z b.2
 unfold canK aloT
 simp only[jP,kA]
 rw[e,e3]
 rw[e1,e4] at f1
 rw[e2] at f2
 rw[e1,e2]
 generalize z * b.2=Z at *
 generalize (s - 3600 * k) * b.2=S at *
 generalize l * b.2=L at *
 generalize hq1:-(S - L - b.1) / b.2=Q1 at *
 generalize hq2:(S+L - b.1) / b.2=Q2 at *
 omega
include hs hl
theorem zjk {z k:Int} (hz:-300<=z/\z<=300) (hk:k <= -2 \/ 2<=k):canK b s l z k=false:=by
 have hd:=hb.1.1
 refine qK.2 fun h=>?_
 unfold canK at h
 simp only[jP,kA] at h
 have e3:-l * b.2 = -(l * b.2):=jbE l b.2
 have m:=jV hl.2 (show 0<=b.2 by omega)
 rcases hk with hk | hk
 ·have m1:(z - s+3600 * k) * b.2 <= -6900 * b.2:=jV (by omega) (by omega)
  omega
 have m1:3301 * b.2<=(z - s+3600 * k) * b.2:=jV (by omega) (by omega)
 omega
theorem zow {z z' k k':Int} (hz:-300<=z/\z<=300) (hz':-300<=z'/\z'<=300) (h:canK b s l z k=true) (h':canK b s l z' k'=true):k=k':=by
 have hd:=hb.1.1
 unfold canK at h h'
 simp only[jP,kA] at h h'
 have e3:-l * b.2 = -(l * b.2):=jbE l b.2
 have m:=jV hl.2 (show 0<=b.2 by omega)
 have e:(z - s+3600 * k) * b.2 - (z' - s+3600 * k') * b.2=(z - z'+3600 * (k - k')) * b.2:=by rw[<- jaQ]; congr 1; omega
 rcases Int.lt_trichotomy k k' with h1 | h1 | h1
 ·have m1:(z - z'+3600 * (k - k')) * b.2 <= -3000 * b.2:=jV (by omega) (by omega)
  omega
 ·exact h1
 have m1:3000 * b.2<=(z - z'+3600 * (k - k')) * b.2:=jV (by omega) (by omega)
 omega
theorem zoy {z:Int} (hz:-300<=z/\z<=300):canB b s l z=true ↔ ∃ i:Nat,i<3/\canK b s l z (1 - i)=true:=by
 unfold canB
 rw[kL]
 constructor
 ·rintro⟨j,hj,h⟩
  have hj:=kJ.1 hj
  by_cases h4:j=4
  ·rw[zjk hb hs hl hz (by omega)] at h; cases h
  by_cases h0:j=0
  ·rw[zjk hb hs hl hz (by omega)] at h; cases h
  refine⟨3 - j,by omega,?_⟩
  rw[show (1:Int) - ((3 - j:Nat):Int)=(j:Int) - 2 by omega]; exact h
 rintro⟨i,hi,h⟩
 refine⟨3 - i,kJ.2 (by omega),?_⟩
 rw[show ((3 - i:Nat):Int) - 2=1 - (i:Int) by omega]; exact h
end
theorem zmK (b:Int × Int) (S l:Int):-300<=(aloT b S l).Lo/\(aloT b S l).Hi<=300:=by unfold aloT; dsimp only; omega
theorem aloR3 (f:Nat->Spn):(∃ i,i<3/\(f i).Lo<=(f i).Hi/\aloR f 0 3=f i) \/ ((∀ i,i<3 -> ¬ (f i).Lo<=(f i).Hi)/\aloR f 0 3=⟨1,0⟩):=by
 unfold aloR
 split
 ·rename_i h; exact .inl ⟨0,by omega,h,rfl⟩
 rename_i h0
 unfold aloR
 split
 ·rename_i h; exact .inl ⟨1,by omega,h,rfl⟩
 rename_i h1
 unfold aloR
 split
 ·rename_i h; exact .inl ⟨2,by omega,h,rfl⟩
 rename_i h2
 refine .inr ⟨fun i hi=>?_,rfl⟩
 match i,hi with
 | 0,_=>exact h0
 | 1,_=>exact h1
 | 2,_=>exact h2
theorem zrp {x:Cir} {k:Chk} (hb:(0<(bear x.At k.Mark).2/\(bear x.At k.Mark).2<=48)/\0<=(bear x.At k.Mark).1/\(bear x.At k.Mark).1<3600 * (bear x.At k.Mark).2) (hs:0<=k.Shown/\k.Shown<=3599) (hl:1<=k.Slack/\k.Slack<=100) {z:Int} (hz:-300<=z/\z<=300) :
  canB (bear x.At k.Mark) k.Shown k.Slack z=true ↔ (alo x k).Lo<=z/\z<=(alo x k).Hi:=by
 have hf:∀ i:Nat,aloF x k i=aloT (bear x.At k.Mark) (k.Shown - 3600 * (1 - (i:Int))) k.Slack:=fun i=>by
  unfold aloF; congr 1; omega
 have key:∀ i:Nat,∀ z:Int,-300<=z/\z<=300->(canK (bear x.At k.Mark) k.Shown k.Slack z (1 - i)=true ↔ (aloF x k i).Lo<=z/\z<=(aloF x k i).Hi):=fun i z hz=>by
  rw[hf i]; exact zox hb hz
 have rng:∀ i:Nat,-300<=(aloF x k i).Lo/\(aloF x k i).Hi<=300:=fun i=>by unfold aloF; exact zmK _ _ _
 rw[zoy hb hs hl hz]
 rcases aloR3 (aloF x k) with⟨i,hi,hn,e⟩ | ⟨hn,e⟩
 ·have e':alo x k=aloF x k i:=e
  rw[e']
  constructor
  ·rintro⟨j,hj,h⟩
   have hlo:=(key i (aloF x k i).Lo (by have:=rng i; omega)).2 ⟨ja0 _,hn⟩
   have:=zow hb hs hl hz (by have:=rng i; omega) h hlo
   obtain rfl:i=j:=by omega
   exact (key i z hz).1 h
  intro h
  exact⟨i,hi,(key i z hz).2 h⟩
 have e':alo x k=⟨1,0⟩:=e
 rw[e']
 constructor
 ·rintro⟨j,hj,h⟩
  have:=(key j z hz).1 h
  exact absurd (show (aloF x k j).Lo<=(aloF x k j).Hi by omega) (hn j hj)
 intro h
 have h1:(1:Int)<=z:=h.1
 have h2:z<=(0:Int):=h.2
 omega
theorem zoO (x:Cir) (k:Chk) (h:(alo x k).Lo<=(alo x k).Hi):-300<=(alo x k).Lo/\(alo x k).Hi<=300:=by
 rcases aloR3 (aloF x k) with⟨i,hi,hn,e⟩ | ⟨hn,e⟩
 ·have e':alo x k=aloF x k i:=e
  rw[e']; unfold aloF; exact zmK _ _ _
 have e':alo x k=⟨1,0⟩:=e
 rw[e'] at h; exact absurd h (by decide)
structure Lim where
  lo:Int
  hi:Int
  no:Bool
  deriving DecidableEq,Inhabited
abbrev Lim.ds (x:Lim):List D:=[I x.lo,I x.hi,.bool x.no]
def alnD (x:Cir) (k:Chk):Lim:=if (alo x k).Lo<=(alo x k).Hi then ⟨(alo x k).Lo,(alo x k).Hi,false⟩ else ⟨0,0,true⟩
def alnI (S:Spn) (i:Nat):Lim:=if S.Lo<=S.Hi/\S.Lo<=(i:Int) - 301 then ⟨S.Lo,min S.Hi ((i:Int) - 301),false⟩ else ⟨0,0,true⟩
theorem ztC {S:Spn} (h:S.Lo<=S.Hi -> -300<=S.Lo/\S.Hi<=300):alnI S 0=⟨0,0,true⟩:=by
 unfold alnI
 rw[kG]
 intro h1
 have:=h h1.1
 omega
theorem zoR {S:Spn} (h:S.Lo<=S.Hi -> -300<=S.Lo/\S.Hi<=300):alnI S 601=if S.Lo<=S.Hi then ⟨S.Lo,S.Hi,false⟩ else ⟨0,0,true⟩:=by
 unfold alnI
 by_cases h1:S.Lo<=S.Hi
 ·have:=h h1
  rw[kH ⟨h1,by omega⟩,kH h1]
  congr 1; omega
 rw[kG (fun hh=>h1 hh.1),kG h1]
theorem zrI {S:Spn} {i:Nat} (h:¬ (S.Lo<=(i:Int) - 300/\(i:Int) - 300<=S.Hi)):alnI S (i+1)=alnI S i:=by
 unfold alnI
 by_cases h1:S.Lo<=S.Hi
 ·by_cases h2:S.Lo<=(i:Int) - 301
  ·rw[kH ⟨h1,by omega⟩,kH ⟨h1,h2⟩]
   congr 1; omega
  rw[kG (by omega),kG (by omega)]
 rw[kG (fun hh=>h1 hh.1),kG (fun hh=>h1 hh.1)]
theorem zoQ {S:Spn} {i:Nat} (h:S.Lo<=(i:Int) - 300/\(i:Int) - 300<=S.Hi) (hn:(alnI S i).no=true):alnI S (i+1)=⟨(i:Int) - 300,(i:Int) - 300,false⟩:=by
 unfold alnI at hn ⊢
 split at hn
 ·cases hn
 rename_i h2
 rw[kH (by omega)]
 have e1:S.Lo=(i:Int) - 300:=by omega
 rw[e1]; congr 1; omega
theorem zoP {S:Spn} {i:Nat} (h:S.Lo<=(i:Int) - 300/\(i:Int) - 300<=S.Hi) (hn:(alnI S i).no=false):alnI S (i+1)=⟨(alnI S i).lo,(i:Int) - 300,false⟩:=by
 unfold alnI at hn ⊢
 split at hn
 ·rename_i h2
  rw[kH (by omega),kH h2]
  dsimp only
  congr 1; omega
 cases hn
theorem zns (c:Cirs) (k:Chk) (hk:ChkOk c k) (hx:on (chkO c k).At=true) (hn:c.C.length<=1000000):Spec PP 248 [c.v,k.v] [.agg (alnD (chkO c k) k).ds]:=by
 have e1:fndC c k.C=(chkO c k,true):=by unfold fndC chkO; rw[kG (by have:=hk.cc; omega)]
 have hne:(chkO c k).At≠k.Mark:=fun h=>hk.ne h.symm
 have hb:=zf7 hx hk.on hne
 have rng:=zoO (chkO c k) k
 have key:=fun z hz=>zrp (x:=chkO c k) (k:=k) hb hk.s hk.l (z:=z) hz
 have hkk:=hk
 refine sA Tryz.func248 ?_
 refine cP (zhr c k.C hn) rfl rfl ?_
 rw[e1]
 generalize chkO c k=x at *
 refine cP (zeK x.At k.Mark) rfl rfl ?_
 rw[zf4 hx hk.on hne]
 have ed:alnD x k=alnI (alo x k) 601:=by rw[zoR rng]; rfl
 rw[ed]
 generalize alo x k=S at *
 refine lOf (σ:=Nat) (fun i=>([(3,.box 3 0),(4,.box 4 0),(7,.box 7 0),(9,.box 9 0),(10,.d (I ((i:Int) - 300)))],[(3,.box (k.ds.map AV.d)),(4,.box ([I 0,I 0,.bool false].map AV.d)),(7,.box ([I (bear x.At k.Mark).1,I (bear x.At k.Mark).2].map AV.d)),(9,.box ((alnI S i).ds.map AV.d))])) (fun i=>i<=601) (fun i=>601 - i) 0
  ⟨rfl,⟨obD k.ds rfl,obD [I 0,I 0,.bool false] rfl,obD [I (bear x.At k.Mark).1,I (bear x.At k.Mark).2] rfl,obD (alnI S 0).ds (by rw[ztC rng]; rfl),trivial⟩,wq rfl⟩ (jF _) fun i hi=>?_
 apply bY <;> intro h1
 ·have h1:(i:Int) - 300<=300:=dT h1
  refine cP (zsk (bear x.At k.Mark) k.Shown k.Slack ((i:Int) - 300) hb hkk.s hkk.l (by omega)) rfl rfl ?_
  have ky:=key ((i:Int) - 300) (by omega)
  apply bY <;> intro h2
  ·have h2:canB (bear x.At k.Mark) k.Shown k.Slack ((i:Int) - 300)=true:=h2
   have h3:=ky.1 h2
   refine sT ?_
   apply bY <;> intro h4
   ·have h4:(alnI S i).no=true:=h4
    repeat first | refine sT ?_ | refine sYe h2 ?_
    refine⟨i6,?_⟩
    refine⟨i+1,⟨rfl,⟨obD k.ds rfl,obD [I 0,I 0,.bool false] rfl,obD [I (bear x.At k.Mark).1,I (bear x.At k.Mark).2] rfl,obD (alnI S (i+1)).ds (by rw[zoQ h3 h4]; rfl),trivial⟩,avQ rfl,avQ rfl,avQ rfl,avQ rfl,avI rfl (by omega),trivial⟩,(show i+1<=601 by omega),(msr (by omega))⟩
   have h4:(alnI S i).no=false:=h4
   repeat first | refine sT ?_ | refine sYe h2 ?_
   refine⟨i6,?_⟩
   refine⟨i+1,⟨rfl,⟨obD k.ds rfl,obD [I 0,I 0,.bool false] rfl,obD [I (bear x.At k.Mark).1,I (bear x.At k.Mark).2] rfl,obD (alnI S (i+1)).ds (by rw[zoP h3 h4]; show some (Ob.box ([I (alnI S i).lo,I ((i:Int) - 300),.bool (alnI S i).no].map AV.d))=_; rw[h4]),trivial⟩,avQ rfl,avQ rfl,avQ rfl,avQ rfl,avI rfl (by omega),trivial⟩,(show i+1<=601 by omega),(msr (by omega))⟩
  have h2:canB (bear x.At k.Mark) k.Shown k.Slack ((i:Int) - 300)=false:=h2
  have h3:¬ (S.Lo<=(i:Int) - 300/\(i:Int) - 300<=S.Hi):=fun h=>by rw[ky.2 h] at h2; cases h2
  repeat first | refine sF ?_ | refine sNo h2 ?_
  refine⟨i6,?_⟩
  refine⟨i+1,⟨rfl,⟨obD k.ds rfl,obD [I 0,I 0,.bool false] rfl,obD [I (bear x.At k.Mark).1,I (bear x.At k.Mark).2] rfl,obD (alnI S (i+1)).ds (by rw[zrI h3]; rfl),trivial⟩,avQ rfl,avQ rfl,avQ rfl,avQ rfl,avI rfl (by omega),trivial⟩,(show i+1<=601 by omega),(msr (by omega))⟩
 have h1:i=601:=by have:¬ (i:Int) - 300<=300:=dF h1; omega
 subst h1
 exact r1C rfl rfl rfl rfl rfl rfl (zab _)
theorem zo9 (x:Cir) (a b:Int) (hx:0<=x.Drift/\x.Drift<=60) (ha:0<=a/\a<=1048576) (hb:0<=b/\b<=1048576):Spec PP 247 [x.v,N a,N b] [N (drf x a b)]:=by
 have m1:=mulB (a:=x.Drift) (b:=max (a - b) (b - a)) (x:=60) (y:=1048576) (by omega) (by omega)
 have m0:=wG hx.1 (show 0<=max (a - b) (b - a) by omega)
 refine sA Tryz.func247 ?_
 have g1:inR .i64 (x.Drift * max (a - b) (b - a)):=i6
 have g2:inR .i64 (x.Drift * max (a - b) (b - a)+59):=i6
 have eq:(x.Drift * max (a - b) (b - a)+59).tdiv 60=drf x a b:=by
  unfold drf
  rw[ja6 (by omega)]
  omega
 have g3:inR .i64 ((x.Drift * max (a - b) (b - a)+59).tdiv 60):=by
  rw[ja6 (by omega)]
  exact i6
 refine⟨i6,⟨i6,⟨g1,⟨g2,⟨⟨by decide,g3⟩,?_⟩⟩⟩⟩⟩
 exact r1I rfl eq
structure Tg where
  N:Int
  T:Int
  lo:Int
  hi:Int
  no:Bool
  deriving DecidableEq,Inhabited
abbrev Tg.ds (x:Tg):List D:=[I x.N,I x.T,I x.lo,I x.hi,.bool x.no]
abbrev Tg.v (x:Tg):V1:=.agg x.ds
def Tg.at (x:Tg):Nat->D
 | 0=>I x.N
 | 1=>I x.T
 | 2=>I x.lo
 | 3=>I x.hi
 | _=>.bool x.no
abbrev lTg (l:List Tg):D:=.slc 5 l.length fun i=>(l.getD i default).at
abbrev rowTg (l:List Tg):Nat->Nat->D:=fun i=>(l.getD i default).at
theorem zsm {vs:List Tg} {p:Tg} {g:Nat->Nat->D} (hg:∀ j,j<5->D.eqv (g 0 j) (p.at j)):D.eqv (.slc 5 (vs.length+1) (appRow vs.length (rowTg vs) g)) (.slc 5 (vs ++ [p]).length (rowTg (vs ++ [p]))):=by
 refine⟨by simp,.inr ⟨rfl,fun i hi j hj=>?_⟩⟩
 show D.eqv (appRow vs.length (rowTg vs) g i j) (((vs ++ [p]).getD i default).at j)
 unfold appRow
 by_cases h:i<vs.length
 ·rw[kH h,hZ,jJ h,<- hZ]
  exact dE _
 have e:i=vs.length:=by omega
 subst e
 rw[kG h,kE,hZ,jK (jE _),kE]
 exact hg j hj
theorem eqv5 {f:Nat->D} {p:Tg} (h0:f 0=I p.N) (h1:f 1=I p.T) (h2:f 2=I p.lo) (h3:f 3=I p.hi) (h4:f 4 = .bool p.no):∀ j,j<5->D.eqv (f j) (p.at j)
 | 0,_=>by rw[h0]; exact⟨rfl,rfl⟩
 | 1,_=>by rw[h1]; exact⟨rfl,rfl⟩
 | 2,_=>by rw[h2]; exact⟨rfl,rfl⟩
 | 3,_=>by rw[h3]; exact⟨rfl,rfl⟩
 | 4,_=>by rw[h4]; exact rfl
def tg0 (x:Cir):Tg:=⟨0,x.From,x.Lo,x.Hi,false⟩
def tgK (x:Cir) (k:Chk):Tg:=⟨k.ID,k.Tick,(alnD x k).lo,(alnD x k).hi,(alnD x k).no⟩
def tgsR (c:Cirs) (x:Cir) (n:Nat):List Tg:=tg0 x :: (((c.K.take n).filter fun k=>k.C==x.ID).map (tgK x))
def tgsL (c:Cirs) (x:Cir):List Tg:=tgsR c x c.K.length
theorem zmZ {c:Cirs} {x:Cir} {i:Nat} (h:i<c.K.length) (hk:(c.K.getD i default).C=x.ID):tgsR c x (i+1)=tgsR c x i ++ [tgK x (c.K.getD i default)]:=by
 unfold tgsR
 have e:[c.K.getD i default].filter (fun k:Chk=>k.C==x.ID)=[c.K.getD i default]:=by rw[qU (by rw[hk]; exact jaN _)]; rfl
 rw[zav h default,kZ,jT,e]
 rfl
theorem zp0 {c:Cirs} {x:Cir} {i:Nat} (h:i<c.K.length) (hk:(c.K.getD i default).C≠x.ID):tgsR c x (i+1)=tgsR c x i:=by
 unfold tgsR
 have e:[c.K.getD i default].filter (fun k:Chk=>k.C==x.ID)=[]:=by rw[qV (by simpa using hk)]; rfl
 rw[zav h default,kZ,e,jaK]
theorem ze8 (c:Cirs) (x:Cir) (n:Nat):(tgsR c x n).length<=n+1:=by
 unfold tgsR
 have:=jac (fun k:Chk=>k.C==x.ID) (c.K.take n)
 have:=List.length_take_le n c.K
 simp; omega
theorem zrl {c:Cirs} {id:Int} (hid:¬ cirI c id<0) {k:Chk} (hk:k.C=(c.C.getD (cirI c id).toNat default).ID):chkO c k=c.C.getD (cirI c id).toNat default:=by
 unfold chkO
 rw[hk,zhV hid]
theorem zgq (c:Cirs) (id:Int) (h:CirsOk c) (hid:¬ cirI c id<0):Spec PP 199 [c.v,(c.C.getD (cirI c id).toNat default).v] [.d (lTg (tgsL c (c.C.getD (cirI c id).toNat default)))]:=by
 have hO:=fun k=>zrl hid (k:=k)
 have hX:=(h.cs _ (zaP hid).1).on
 generalize c.C.getD (cirI c id).toNat default=x at *
 have hm:=h.m
 have hn:=h.n
 refine sA Tryz.func199 ?_
 refine lOf (σ:=Nat) (fun i=>([(2,.box 2 0),(3,.box 3 0),(5,.own 13),(6,.d (I i))],[(2,bxCs c),(3,.box (x.ds.map AV.d)),(13,.row 317 5 (tgsR c x i).length (rowTg (tgsR c x i)))])) (fun i=>i<=c.K.length) (fun i=>c.K.length - i) 0
  ⟨rfl,⟨obCs rfl,obD x.ds rfl,obR rfl ⟨rfl,.inr ⟨rfl,fun i hi j hj=>?_⟩⟩,trivial⟩,wq rfl⟩ (jF _) fun i hi=>?_
 ·obtain rfl:i=0:=by omega
  exact eqv5 (p:=tg0 x) rfl rfl rfl rfl rfl j hj
 apply bY <;> intro h1
 ·have h1:i<c.K.length:=by have:=dT h1; omega
  refine oN 9 ?_
  refine⟨⟨rfl,by omega,by omega⟩,?_⟩
  apply bY <;> intro h2
  ·have h2:(c.K.getD i default).C=x.ID:=by simpa using h2
   have eO:=hO (c.K.getD i default) h2
   refine oN 24 ?_
   refine⟨⟨rfl,by omega,by omega⟩,⟨⟨rfl,by omega,by omega⟩,⟨⟨rfl,by omega,by omega⟩,?_⟩⟩⟩
   refine oP (zns c (c.K.getD i default) (h.ks i h1) (by rw[eO]; exact hX) (by omega)) rfl rfl ?_
   have hl:=ze8 c x i
   refine⟨⟨.inr rfl,by simp only[maxLen]; omega,by dsimp only; omega⟩,?_⟩
   refine⟨i6,?_⟩
   refine⟨i+1,⟨rfl,⟨obCs rfl,obD x.ds rfl,obR rfl ?_,trivial⟩,wq rfl⟩,h1,(msr (by omega))⟩
   rw[zmZ h1 h2]
   exact zsm (eqv5 (p:=tgK x (c.K.getD i default)) rfl rfl (by show I (alnD (chkO c (c.K.getD i default)) _).lo=_; rw[eO]; rfl) (by show I (alnD (chkO c (c.K.getD i default)) _).hi=_; rw[eO]; rfl) (by show D.bool (alnD (chkO c (c.K.getD i default)) _).no=_; rw[eO]; rfl))
  have h2:(c.K.getD i default).C≠x.ID:=by simpa using h2
  refine⟨i6,?_⟩
  refine⟨i+1,⟨rfl,⟨obCs rfl,obD x.ds rfl,obR rfl (by rw[zp0 h1 h2]; exact dE _),trivial⟩,wq rfl⟩,h1,(msr (by omega))⟩
 have h1:i=c.K.length:=by have:=dF h1; omega
 subst h1
 exact⟨⟨_,_,_,_,rfl,dE _⟩,trivial⟩
structure TgOk (t:Tg):Prop where
  lo:-300<=t.lo/\t.lo<=300
  hi:-300<=t.hi/\t.hi<=300
  t:0<=t.T/\t.T<=1048576
def agaB (x:Cir) (a b:Tg):Bool:=decide (b.hi+drf x a.T b.T<a.lo) || decide (a.hi+drf x a.T b.T<b.lo)
theorem zjJ (x:Cir) (a b:Tg) (hx:0<=x.Drift/\x.Drift<=60) (ha:TgOk a) (hb:TgOk b):Spec PP 245 [x.v,a.v,b.v] [B (agaB x a b)]:=by
 have db:=zje hx ha.t hb.t
 have a1:=ha.lo
 have a2:=ha.hi
 have b1:=hb.lo
 have b2:=hb.hi
 refine sA Tryz.func245 ?_
 refine cP (zo9 x a.T b.T hx ha.t hb.t) rfl rfl ?_
 refine⟨i6,?_⟩
 apply bY <;> intro h1
 ·have h1:decide (b.hi+drf x a.T b.T<a.lo)=true:=h1
  refine sT ?_
  refine r1B rfl ?_
  unfold agaB; rw[h1]; rfl
 have h1:decide (b.hi+drf x a.T b.T<a.lo)=false:=h1
 refine⟨i6,?_⟩
 refine sF ?_
 refine r1B rfl ?_
 unfold agaB; rw[h1]; rfl
def prAt (p:Int × Int):Nat->D
 | 0=>I p.1
 | _=>I p.2
abbrev lPr (l:List (Int × Int)):D:=.slc 2 l.length fun i=>prAt (l.getD i default)
def lsP (p q:Int × Int):Bool:=decide (p.1<q.1) || (p.1==q.1 && decide (p.2<q.2))
def leadN (q:Int × Int):List (Int × Int)->Nat
 | []=>0
 | a :: r=>if lsP a q=true then leadN q r+1 else 0
def putL (L:List (Int × Int)) (q:Int × Int):List (Int × Int):=L.take (leadN q L)++q :: L.drop (leadN q L)
theorem zfJ (q:Int × Int):∀ L:List (Int × Int),leadN q L<=L.length
 | []=>jE _
 | a :: r=>by
  unfold leadN
  split
  ·have:=zfJ q r; simp; omega
  simp
theorem zdx (q:Int × Int):∀ (L:List (Int × Int)) (i:Nat),i<=L.length->(∀ j,j<i->lsP (L.getD j default) q=true)->(i<L.length->lsP (L.getD i default) q=false)->leadN q L=i
 | [],i,h,_,_=>by simp at h; subst h; rfl
 | a :: r,0,_,_,h2=>by
  have:=h2 (by simp)
  unfold leadN
  rw[kG (by rw[show lsP a q=false from this]; decide)]
 | a :: r,i+1,h,h1,h2=>by
  have h0:=h1 0 (by omega)
  unfold leadN
  rw[kH (show lsP a q=true from h0),zdx q r i (by simpa using h) (fun j hj=>by simpa using h1 (j+1) (by omega)) (fun hi=>by simpa using h2 (by simpa using hi))]
theorem zfp (L:List (Int × Int)) (q:Int × Int):(putL L q).length=L.length+1:=by
 have:=zfJ q L
 unfold putL
 simp
 omega
theorem znz (L:List (Int × Int)) (q:Int × Int) (m:Nat):(putL L q).getD m default=if m<leadN q L then L.getD m default else if m=leadN q L then q else L.getD (m - 1) default:=by
 have hl:=zfJ q L
 unfold putL
 rw[hZ]
 by_cases h1:m<leadN q L
 ·rw[kH h1,jJ (by rw[jQ]; omega),jS,kH h1,<- hZ]
 rw[kG h1,jK (by rw[jQ]; omega),jQ]
 rw[show min (leadN q L) L.length=leadN q L by omega]
 by_cases h2:m=leadN q L
 ·rw[kH h2,h2,kE]; rfl
 rw[kG h2]
 obtain⟨d,hd⟩:∃ d,m - leadN q L=d+1:=⟨m - leadN q L - 1,by omega⟩
 rw[hd,qT,qS,show leadN q L+d=m - 1 by omega,<- hZ]
theorem zhx {L:List (Int × Int)} {q:Int × Int} {i:Nat} (hi:i<=L.length) (hat:leadN q L=i) {n n':Nat} {F f:Nat->Nat->D} (hn:n=i) (hn':n'=i) (hF:∀ a,a<i -> ∀ j,j<2->F a j=prAt (L.getD a default) j) (h:∀ j,j<2->f 0 j=prAt q j) :
  D.eqv (.slc 2 (n+1+(L.length - n')) (appRow (n+1) (appRow n F f) fun a=>prAt (L.getD (n'+a) default))) (lPr (putL L q)):=by
 subst hn
 subst hn'
 refine⟨by rw[zfp]; omega,.inr ⟨rfl,fun m hm j hj=>?_⟩⟩
 show D.eqv (appRow (n'+1) (appRow n' F f) (fun a=>prAt (L.getD (n'+a) default)) m j) (prAt ((putL L q).getD m default) j)
 rw[znz,hat]
 unfold appRow
 by_cases h1:m<n'
 ·rw[kH (by omega),kH h1,kH h1,hF m h1 j hj]; exact dE _
 by_cases h2:m=n'
 ·rw[kH (by omega),kG h1,kG h1,kH h2,h2,kE,h j hj]; exact dE _
 rw[kG (by omega),kG h1,kG h2]
 show D.eqv (prAt (L.getD (n'+(m - (n'+1))) default) j) _
 rw[show n'+(m - (n'+1))=m - 1 by omega]; exact dE _
theorem zk1 {f:Nat->D} {q:Int × Int} (h0:f 0=I q.1) (h1:f 1=I q.2):∀ j,j<2->f j=prAt q j
 | 0,_=>h0
 | 1,_=>h1
theorem zo8 (L:List (Int × Int)) (q:Int × Int) (hn:L.length<=100000):Spec PP 246 [.d (lPr L),.agg [I q.1,I q.2]] [.d (lPr (putL L q))]:=by
 refine sA Tryz.func246 ?_
 refine lOf (σ:=Nat) (fun i=>([(0,.d (lPr L)),(3,.box 3 0),(5,.d (I i))],[(3,.box ([I q.1,I q.2].map AV.d))])) (fun i=>i<=L.length /\ ∀ j,j<i->lsP (L.getD j default) q=true) (fun i=>L.length - i) 0
  ⟨rfl,⟨obD [I q.1,I q.2] rfl,trivial⟩,wq rfl⟩ z0L fun i hi=>?_
 obtain⟨hi,ha⟩:=hi
 have next:lsP (L.getD i default) q=true -> ∀ j,j<i+1->lsP (L.getD j default) q=true:=fun h j hj=>by
  by_cases e:j=i
  ·subst e; exact h
  exact ha j (by omega)
 refine oN 34 ?_
 apply bY <;> intro h1
 ·have h1:i<L.length:=by have:=dT h1; omega
  refine⟨⟨rfl,by omega,by omega⟩,⟨⟨by decide,by decide⟩,⟨⟨by decide,by decide⟩,?_⟩⟩⟩
  apply bY <;> intro h2
  ·have h2:decide ((L.getD i default).1<q.1)=true:=h2
   repeat first | apply sT | apply sF
   refine⟨i6,?_⟩
   exact⟨i+1,⟨rfl,⟨obD [I q.1,I q.2] rfl,trivial⟩,wq rfl⟩,⟨h1,next (by unfold lsP; rw[h2]; rfl)⟩,(msr (by omega))⟩
  have h2:decide ((L.getD i default).1<q.1)=false:=h2
  refine⟨⟨rfl,by omega,by omega⟩,⟨⟨by decide,by decide⟩,⟨⟨by decide,by decide⟩,?_⟩⟩⟩
  apply bY <;> intro h3
  ·have h3:((L.getD i default).1==q.1)=true:=h3
   refine⟨⟨rfl,by omega,by omega⟩,⟨⟨by decide,by decide⟩,⟨⟨by decide,by decide⟩,?_⟩⟩⟩
   repeat first | apply sT | apply sF
   apply bY <;> intro h4
   ·have h4:decide ((L.getD i default).2<q.2)=true:=h4
    refine⟨i6,?_⟩
    exact⟨i+1,⟨rfl,⟨obD [I q.1,I q.2] rfl,trivial⟩,wq rfl⟩,⟨h1,next (by unfold lsP; rw[h3,h4,qI,kY])⟩,(msr (by omega))⟩
   have h4:decide ((L.getD i default).2<q.2)=false:=h4
   have hat:leadN q L=i:=zdx q L i hi ha fun _=>by unfold lsP; rw[h2,h3,h4]; rfl
   refine Exists.intro [1001,1002,1003,1005,1006,1008,1009,1010,0,4,7,11,12] (And.intro (by kernel_rfl) (FzOb.fz [3] ?_))
   refine⟨rfl,⟨rfl,?_⟩⟩
   refine⟨rfl,⟨rfl,?_⟩⟩
   refine⟨rfl,⟨⟨.inr rfl,by omega,by omega⟩,⟨rfl,?_⟩⟩⟩
   refine⟨rfl,⟨rfl,?_⟩⟩
   refine⟨rfl,⟨rfl,?_⟩⟩
   refine⟨rfl,⟨rfl,?_⟩⟩
   refine⟨rfl,⟨rfl,?_⟩⟩
   refine⟨rfl,⟨⟨.inr rfl,by omega,by omega⟩,⟨rfl,?_⟩⟩⟩
   refine⟨⟨.inr rfl,by simp only[maxLen]; omega,by dsimp only; omega⟩,?_⟩
   refine⟨⟨.inr rfl,by simp only[maxLen]; omega,by dsimp only; omega⟩,?_⟩
   refine⟨⟨.inr rfl,by simp only[maxLen]; omega,by dsimp only; omega⟩,?_⟩
   refine⟨⟨_,_,_,_,rfl,?_⟩,trivial⟩
   exact zhx hi hat (qF i) rfl (fun a _ j _=>rfl) (zk1 rfl rfl)
  have h3:((L.getD i default).1==q.1)=false:=h3
  repeat first | apply sT | apply sF
  have hat:leadN q L=i:=zdx q L i hi ha fun _=>by unfold lsP; rw[h2,h3]; rfl
  refine Exists.intro [1001,1002,1003,1005,1006,1008,1009,1010,0,4,7,11,12] (And.intro (by kernel_rfl) (FzOb.fz [3] ?_))
  refine⟨rfl,⟨rfl,?_⟩⟩
  refine⟨rfl,⟨rfl,?_⟩⟩
  refine⟨rfl,⟨⟨.inr rfl,by omega,by omega⟩,⟨rfl,?_⟩⟩⟩
  refine⟨rfl,⟨rfl,?_⟩⟩
  refine⟨rfl,⟨rfl,?_⟩⟩
  refine⟨rfl,⟨rfl,?_⟩⟩
  refine⟨rfl,⟨rfl,?_⟩⟩
  refine⟨rfl,⟨⟨.inr rfl,by omega,by omega⟩,⟨rfl,?_⟩⟩⟩
  refine⟨⟨.inr rfl,by simp only[maxLen]; omega,by dsimp only; omega⟩,?_⟩
  refine⟨⟨.inr rfl,by simp only[maxLen]; omega,by dsimp only; omega⟩,?_⟩
  refine⟨⟨.inr rfl,by simp only[maxLen]; omega,by dsimp only; omega⟩,?_⟩
  refine⟨⟨_,_,_,_,rfl,?_⟩,trivial⟩
  exact zhx hi hat (qF i) rfl (fun a _ j _=>rfl) (zk1 rfl rfl)
 have h1:i=L.length:=by have:=dF h1; omega
 repeat first | apply sT | apply sF
 have hat:leadN q L=i:=zdx q L i hi ha fun h=>by omega
 refine Exists.intro [1001,1002,1003,1005,1006,1008,1009,1010,0,4,7,11,12] (And.intro (by kernel_rfl) (FzOb.fz [3] ?_))
 refine⟨rfl,⟨rfl,?_⟩⟩
 refine⟨rfl,⟨rfl,?_⟩⟩
 refine⟨rfl,⟨⟨.inr rfl,by omega,by omega⟩,⟨rfl,?_⟩⟩⟩
 refine⟨rfl,⟨rfl,?_⟩⟩
 refine⟨rfl,⟨rfl,?_⟩⟩
 refine⟨rfl,⟨rfl,?_⟩⟩
 refine⟨rfl,⟨rfl,?_⟩⟩
 refine⟨rfl,⟨⟨.inr rfl,by omega,by omega⟩,⟨rfl,?_⟩⟩⟩
 refine⟨⟨.inr rfl,by simp only[maxLen]; omega,by dsimp only; omega⟩,?_⟩
 refine⟨⟨.inr rfl,by simp only[maxLen]; omega,by dsimp only; omega⟩,?_⟩
 refine⟨⟨.inr rfl,by simp only[maxLen]; omega,by dsimp only; omega⟩,?_⟩
 refine⟨⟨_,_,_,_,rfl,?_⟩,trivial⟩
 exact zhx hi hat (qF i) rfl (fun a _ j _=>rfl) (zk1 rfl rfl)
def fireB (x:Cir) (l:List Tg) (i k:Nat):Bool:=
 (((i:Int)==(k:Int)) && (l.getD i default).no) || (decide ((l.getD i default).N<(l.getD k default).N) && !(l.getD i default).no && !(l.getD k default).no && agaB x (l.getD i default) (l.getD k default))
def outK (x:Cir) (l:List Tg) (i:Nat) (o:List (Int × Int)):Nat->List (Int × Int)
 | 0=>o
 | k+1=>if fireB x l i k=true then putL (outK x l i o k) ((l.getD i default).N,(l.getD k default).N) else outK x l i o k
def outI (x:Cir) (l:List Tg):Nat->List (Int × Int)
 | 0=>[]
 | i+1=>outK x l i (outI x l i) l.length
theorem zfA (x:Cir) (l:List Tg) (i:Nat) (o:List (Int × Int)):∀ k,(outK x l i o k).length<=o.length+k
 | 0=>jE _
 | k+1=>by
  have:=zfA x l i o k
  unfold outK
  split
  ·rw[zfp]; omega
  omega
theorem ziL (x:Cir) (l:List Tg):∀ i,(outI x l i).length<=i * l.length
 | 0=>by simp[outI]
 | i+1=>by
  have h1:=ziL x l i
  have h2:=zfA x l i (outI x l i) l.length
  unfold outI
  rw[qA,Nat.one_mul]
  omega
theorem zfz {x:Cir} {l:List Tg} {i k:Nat} {o:List (Int × Int)} (h:fireB x l i k=true):outK x l i o (k+1)=putL (outK x l i o k) ((l.getD i default).N,(l.getD k default).N):=by
 show (if _ then _ else _)=_; rw[kH h]
theorem zcT {x:Cir} {l:List Tg} {i k:Nat} {o:List (Int × Int)} (h:fireB x l i k=false):outK x l i o (k+1)=outK x l i o k:=by
 show (if _ then _ else _)=_; rw[kG (by rw[h]; decide)]
theorem zhs (c : Cirs) (id : Int) (h : CirsOk c) (hid : ¬ cirI c id < 0) (hl : ∀ t ∈ tgsL c (c.C.getD (cirI c id).toNat default), TgOk t) :
    Spec PP 197 [c.v, (c.C.getD (cirI c id).toNat default).v] [.d (lPr (outI (c.C.getD (cirI c id).toNat default) (tgsL c (c.C.getD (cirI c id).toNat default)) (tgsL c (c.C.getD (cirI c id).toNat default)).length))] := by
  have hT := zgq c id h hid
  have hx := (h.cs _ (zaP hid).1).d
  have hlen : (tgsL c (c.C.getD (cirI c id).toNat default)).length <= 61 := jM (ze8 c _ _) (by have := h.m; omega)
  generalize c.C.getD (cirI c id).toNat default = x at *
  generalize tgsL c x = l at *
  refine sA Tryz.func197 ?_
  refine cR hT rfl rfl ?_
  refine lOf (σ := Nat) (fun i => ([(3, .box 3 0), (5, .d (lTg l)), (6, .d (lPr (outI x l i))), (7, .d (I i))], [(3, .box (x.ds.map AV.d))])) (fun i => i <= l.length) (fun i => l.length - i) 0
    ⟨rfl, ⟨obD x.ds rfl, trivial⟩, avQ rfl, avR _ rfl, avOw rfl rfl rfl ⟨rfl, .inl rfl⟩, avR _ rfl, trivial⟩ (jF _) fun i hi => ?_
  apply bY <;> intro h0
  · have h0 : i < l.length := by have := dT h0; omega
    have oi := hl _ (gd1 h0 default)
    refine lOf (σ := Nat) (fun k => ([(3, .box 3 0), (5, .d (lTg l)), (6, .d (lPr (outK x l i (outI x l i) k))), (7, .d (I i)), (8, .d (I k))], [(3, .box (x.ds.map AV.d))])) (fun k => k <= l.length) (fun k => l.length - k) 0
      ⟨rfl, ⟨obD x.ds rfl, trivial⟩, wq rfl⟩ (jF _) fun k hk => ?_
    apply bY <;> intro h1
    · have h1 : k < l.length := by have := dT h1; omega
      have ok := hl _ (gd1 h1 default)
      have ol : (outK x l i (outI x l i) k).length <= 10000 := by
        have a1 := zfA x l i (outI x l i) k
        have a2 := ziL x l i
        have a3 : i * l.length <= 61 * 61 := Nat.mul_le_mul (by omega) hlen
        omega
      refine ⟨⟨rfl, by omega, by omega⟩, ?_⟩
      refine ⟨⟨rfl, by omega, by omega⟩, ?_⟩
      apply bY <;> intro h2
      · have h2 : ((i : Int) == (k : Int)) = true := h2
        obtain rfl : i = k := by have : (i : Int) = k := by simpa using h2
                                 omega
        repeat first | apply sT | apply sF
        apply bY <;> intro h3
        · have h3 : (l.getD i default).N < (l.getD i default).N := dT h3
          omega
        have h3 : decide ((l.getD i default).N < (l.getD i default).N) = false := h3
        repeat first | apply sT | apply sF
        apply bY <;> intro h4
        · have h4 : (l.getD i default).no = true := h4
          have hf : fireB x l i i = true := by unfold fireB; rw [h2, h4]; rfl
          repeat first | apply sT | apply sF
          refine cR (zo8 (outK x l i (outI x l i) i) ((l.getD i default).N, (l.getD i default).N) (by omega)) rfl rfl ?_
          refine ⟨i6, ?_⟩
          refine ⟨i + 1, ⟨rfl, ⟨obD x.ds rfl, trivial⟩, avQ rfl, avR _ rfl, avR _ (by rw [zfz hf]; rfl), wq rfl⟩, h1, (msr (by omega))⟩
        have h4 : (l.getD i default).no = false := h4
        have hf : fireB x l i i = false := by unfold fireB; rw [h3, h4, kU]; rfl
        repeat first | apply sT | apply sF
        refine ⟨i6, ?_⟩
        refine ⟨i + 1, ⟨rfl, ⟨obD x.ds rfl, trivial⟩, avQ rfl, avR _ rfl, avR _ (by rw [zcT hf]; rfl), wq rfl⟩, h1, (msr (by omega))⟩
      have h2 : ((i : Int) == (k : Int)) = false := h2
      repeat first | apply sT | apply sF
      apply bY <;> intro h3
      · have h3 : decide ((l.getD i default).N < (l.getD k default).N) = true := h3
        repeat first | apply sT | apply sF
        apply bY <;> intro h4
        · have h4 : (l.getD i default).no = false := zdU h4
          repeat first | apply sT | apply sF
          apply bY <;> intro h5
          · have h5 : (l.getD k default).no = false := zdU h5
            refine cP (zjJ x (l.getD i default) (l.getD k default) hx oi ok) rfl rfl ?_
            repeat first | apply sT | apply sF
            apply bY <;> intro h6
            · have h6 : agaB x (l.getD i default) (l.getD k default) = true := h6
              have hf : fireB x l i k = true := by unfold fireB; rw [h3, h4, h5, h6, jX]; exact .inr rfl
              refine cR (zo8 (outK x l i (outI x l i) k) ((l.getD i default).N, (l.getD k default).N) (by omega)) rfl rfl ?_
              refine ⟨i6, ?_⟩
              refine ⟨k + 1, ⟨rfl, ⟨obD x.ds rfl, trivial⟩, avQ rfl, avR _ rfl, avR _ (by rw [zfz hf]; rfl), wq rfl⟩, h1, (msr (by omega))⟩
            have h6 : agaB x (l.getD i default) (l.getD k default) = false := h6
            have hf : fireB x l i k = false := by unfold fireB; rw [h2, h6, kU]; rfl
            refine ⟨i6, ?_⟩
            refine ⟨k + 1, ⟨rfl, ⟨obD x.ds rfl, trivial⟩, avQ rfl, avR _ rfl, avR _ (by rw [zcT hf]; rfl), wq rfl⟩, h1, (msr (by omega))⟩
          have h5 : (l.getD k default).no = true := zdV h5
          have hf : fireB x l i k = false := by unfold fireB; rw [h2, h5]; simp
          repeat first | apply sT | apply sF
          refine ⟨i6, ?_⟩
          refine ⟨k + 1, ⟨rfl, ⟨obD x.ds rfl, trivial⟩, avQ rfl, avR _ rfl, avR _ (by rw [zcT hf]; rfl), wq rfl⟩, h1, (msr (by omega))⟩
        have h4 : (l.getD i default).no = true := zdV h4
        have hf : fireB x l i k = false := by unfold fireB; rw [h2, h4]; simp
        repeat first | apply sT | apply sF
        refine ⟨i6, ?_⟩
        refine ⟨k + 1, ⟨rfl, ⟨obD x.ds rfl, trivial⟩, avQ rfl, avR _ rfl, avR _ (by rw [zcT hf]; rfl), wq rfl⟩, h1, (msr (by omega))⟩
      have h3 : decide ((l.getD i default).N < (l.getD k default).N) = false := h3
      have hf : fireB x l i k = false := by unfold fireB; rw [h2, h3]; rfl
      repeat first | apply sT | apply sF
      refine ⟨i6, ?_⟩
      refine ⟨k + 1, ⟨rfl, ⟨obD x.ds rfl, trivial⟩, avQ rfl, avR _ rfl, avR _ (by rw [zcT hf]; rfl), wq rfl⟩, h1, (msr (by omega))⟩
    have h1 : k = l.length := by have := dF h1; omega
    subst h1
    refine ⟨i6, ?_⟩
    exact ⟨i + 1, ⟨rfl, ⟨obD x.ds rfl, trivial⟩, wq rfl⟩, h0, (msr (by omega))⟩
  have h0 : i = l.length := by have := dF h0; omega
  subst h0
  exact ⟨dE _, trivial⟩
def limS (x:Cir) (t:Int) (s:Spn) (g:Tg):Spn:=⟨max s.Lo (g.lo - drf x g.T t),min s.Hi (g.hi+drf x g.T t)⟩
def limF (x:Cir) (t:Int) (l:List Tg):Spn:=l.foldl (limS x t) ⟨-300,300⟩
theorem zkT (x:Cir) (l:List Tg) (t:Int) (hx:0<=x.Drift/\x.Drift<=60) (hl:∀ g∈l,TgOk g) (hn:l.length<=1000) (ht:0<=t/\t<=1048576):Spec PP 198 [x.v,.d (lTg l),N t] [(limF x t l).v]:=by
 refine sA Tryz.func198 ?_
 refine lOf (σ:=Nat) (fun i=>([(1,.d (lTg l)),(2,.d (I t)),(3,.box 3 0),(6,.box 6 0),(7,.box 7 0),(8,.d (I i))],[(3,.box (x.ds.map AV.d)),(6,.box ([I 0,I 0].map AV.d)),(7,.box ([I (limF x t (l.take i)).Lo,I (limF x t (l.take i)).Hi].map AV.d))])) (fun i=>i<=l.length) (fun i=>l.length - i) 0
  ⟨rfl,⟨obD x.ds rfl,obD [I 0,I 0] rfl,obD [I (-300),I 300] rfl,trivial⟩,wq rfl⟩ (jF _) fun i hi=>?_
 apply bY <;> intro h1
 ·have h1:i<l.length:=by have:=dT h1; omega
  have o:=hl _ (gd1 h1 default)
  have q1:=o.lo
  have q2:=o.hi
  have db:=zje hx o.t ht
  have eS:limF x t (l.take (i+1))=limS x t (limF x t (l.take i)) (l.getD i default):=by unfold limF; rw[zav h1 default,wA]; rfl
  refine oN 9 ?_
  refine⟨⟨rfl,by omega,by omega⟩,?_⟩
  refine oP (zo9 x (l.getD i default).T t hx o.t ht) rfl rfl ?_
  refine oN 14 ?_
  refine⟨⟨rfl,by omega,by omega⟩,?_⟩
  have z1:inR .i64 ((l.getD i default).lo - drf x (l.getD i default).T t):=i6
  have z2:inR .i64 ((l.getD i default).hi+drf x (l.getD i default).T t):=i6
  refine⟨z1,?_⟩
  refine oN 14 ?_
  refine⟨⟨rfl,by omega,by omega⟩,?_⟩
  refine⟨z2,?_⟩
  refine⟨i6,?_⟩
  refine⟨i+1,⟨rfl,⟨obD x.ds rfl,obD [I 0,I 0] rfl,obD [I (limF x t (l.take (i+1))).Lo,I (limF x t (l.take (i+1))).Hi] (by rw[eS]; rfl),trivial⟩,wq rfl⟩,h1,(msr (by omega))⟩
 have h1:i=l.length:=by have:=dF h1; omega
 subst h1
 rw[jZ]
 exact r1C rfl rfl rfl rfl rfl rfl (zab _)
end Go.Pg
